/- Walks: the laws' awake. -/
import Derived.Test.YtefhmlgepnlaoaaGreatAd
import Derived.Deep.RegionHeld3
set_option linter.unusedVariables false
set_option linter.unusedSimpArgs false
namespace Go.Proofs.YtefhmlgepnlaoaaGreat
open Go.RowKit

theorem BB.heap {w w' : World} (h : BB w w') {b : Nat} {o : Obj} (hb : w.heap[b]? = some o) : w'.heap[b]? = some o := (h.b.block b (Array.getElem?_eq_some_iff.1 hb).1).trans hb
theorem ri_pair {W : World} {b : Nat} {x y : Int} {t : TypeId} {fr : Nat × Nat} (h : W.heap[b]? = some (.cells #[.int .i64 x, .int .i64 y] t fr)) : RI W (some ⟨b, 0, none⟩) 2 [x, y] := by
  refine ⟨rfl, by omega, fun _ => ⟨b, 0, rfl, fun j hj => ?_⟩⟩
  rw [Nat.zero_add, cell_of_row W b j _ _ _ h]
  simp at hj
  rcases j with _ | _ | j
  · rfl
  · rfl
  · omega
theorem re_g0 {W : World} {b : Nat} {t : TypeId} {fr : Nat × Nat} (h : W.heap[b]? = some (.cells #[.int .i64 0, .int .i64 1, .int .i64 0, .int .i64 1] t fr)) : RE W (some ⟨b, 0, none⟩) 2 g0.E := by
  refine ⟨rfl, by omega, fun _ => ⟨b, 0, rfl, fun j hj => ?_⟩⟩
  rw [Nat.zero_add, cell_of_row W b j _ _ _ h]
  simp [edgeCells] at hj
  rcases j with _ | _ | _ | _ | j
  · rfl
  · rfl
  · rfl
  · rfl
  · omega
theorem rl_pair {W : World} {b b1 b2 : Nat} {xs ys : List Int} {t : TypeId} {fr : Nat × Nat} (h : W.heap[b]? = some (.cells #[.slice (some ⟨b1, 0, none⟩) 2 2, .slice (some ⟨b2, 0, none⟩) 2 2] t fr)) (h1 : RI W (some ⟨b1, 0, none⟩) 2 xs) (h2 : RI W (some ⟨b2, 0, none⟩) 2 ys) : RL W (some ⟨b, 0, none⟩) 2 [xs, ys] := by
  refine ⟨rfl, by omega, [.slice (some ⟨b1, 0, none⟩) 2 2, .slice (some ⟨b2, 0, none⟩) 2 2], rfl, fun _ => ⟨b, 0, rfl, fun j hj => ?_⟩, fun j hj => ?_⟩
  · rw [Nat.zero_add, cell_of_row W b j _ _ _ h]
    have hj2 : j < 2 := hj
    rcases j with _ | _ | j
    · rfl
    · rfl
    · omega
  · rcases j with _ | _ | j
    · exact ⟨some ⟨b1, 0, none⟩, 2, 2, rfl, Nat.le_refl _, h1⟩
    · exact ⟨some ⟨b2, 0, none⟩, 2, 2, rfl, Nat.le_refl _, h2⟩
    · exact absurd hj (by omega)
theorem ownW_mono {w : World} {base base' : Nat} {v : Value} {ws : List (Int × List Int)} (h : OwnW w base v ws) (hb : base' ≤ base) : OwnW w base' v ws := by
  obtain ⟨zs, h0, h1, h2⟩ := h.o
  refine ⟨zs, h0, ⟨h1.1, ?_⟩, fun z hz => ⟨(h2 z hz).1, (h2 z hz).2.1, (h2 z hz).2.2.1, fun ad ha hp => ⟨Nat.le_trans hb ((h2 z hz).2.2.2 ad ha hp).1, ((h2 z hz).2.2.2 ad ha hp).2⟩⟩⟩
  rcases h1.2 with h3 | ⟨g, cap, cur, h3, h4, h5⟩
  · exact .inl h3
  · exact .inr ⟨g, cap, cur, h3, Nat.le_trans hb h4, h5⟩
theorem equal_yes (xs : List Int) (A B : Option Addr) (n c m d : Nat) (w : World) (hA : RI w A n xs) (hB : RI w B m xs) :
    Calls Tryz.prog 16 #[.slice A n c, .slice B m d] w fun e w' => e = .returned (.bool true) ∧ BB w w' :=
  (equal4_any xs xs A B n c m d w hA hB).mono fun e w' h => ⟨h.1.trans (by simp), h.2⟩
theorem whole_yes (A : Option Addr) (c : Nat) (w : World) :
    Calls Tryz.prog 38 #[.agg #[.int .i64 2, .slice A 2 c]] w fun e w' => (∃ A1 c1 A2 c2, e = .returned (.agg #[.slice A1 2 c1, .slice A2 2 c2]) ∧ RI w' A1 2 p0.V ∧ RI w' A2 2 p0.E) ∧ BB w w' :=
  whole_g0 ▸ whole_any g0 2 rfl (by omega) (by decide) A c w
theorem walks_yes (A A1 A2 A3 : Option Addr) (c c1 c2 c3 : Nat) (w : World) (hA : RE w A 2 g0.E) (h1 : RI w A1 2 p0.V) (h2 : RI w A2 2 p0.E) (h3 : RL w A3 2 t0) :
    Calls Tryz.prog 19 #[.agg #[.int .i64 2, .slice A 2 c], .agg #[.slice A1 2 c1, .slice A2 2 c2], .slice A3 2 c3] w fun e w' => (∃ A4 c4, e = .returned (.tuple #[.slice A4 2 c4, .int .i64 0]) ∧ OwnW w' w.heap.size (.slice A4 2 c4) [(0, [0, 3]), (1, [1, 2])]) ∧ BB w w' := by
  refine (walks_law g0 p0 t0 A A1 A2 A3 2 c 2 c1 2 c2 2 c3 w hA h1 h2 h3 (by decide) (by decide)).mono fun e w' h => ?_
  obtain ⟨⟨u, he, hu⟩, hb⟩ := h
  rw [err_g0] at he
  rw [if_pos err_g0] at hu
  obtain ⟨us, k1, k2, k3⟩ := hu
  rw [us_g0 k1 k2] at k3
  obtain ⟨A4, c4, hv, _⟩ := k3.shape
  subst hv
  exact ⟨⟨A4, c4, he, k3⟩, ⟨hb⟩⟩
theorem sphere_yes (A A1 A2 A3 : Option Addr) (c c1 c2 c3 : Nat) (w : World) (hA : RE w A 2 g0.E) (h1 : RI w A1 2 p0.V) (h2 : RI w A2 2 p0.E) (h3 : RL w A3 2 t0) :
    Calls Tryz.prog 15 #[.agg #[.int .i64 2, .slice A 2 c], .agg #[.slice A1 2 c1, .slice A2 2 c2], .slice A3 2 c3] w fun e w' => e = .returned (.bool true) ∧ BB w w' := by
  refine (sphere_law g0 p0 t0 A A1 A2 A3 2 c 2 c1 2 c2 2 c3 w hA h1 h2 h3 (by decide) (by decide)).mono fun e w' h => ?_
  obtain ⟨⟨b, he, hu⟩, hb⟩ := h
  rw [if_pos err_g0] at hu
  obtain ⟨us, k1, k2, k3⟩ := hu
  rw [us_g0 k1 k2, genus_g0] at k3
  exact ⟨he.trans (by rw [k3]; rfl), ⟨hb⟩⟩
set_option maxRecDepth 100000 in
set_option maxHeartbeats 16000000 in
theorem awake_any (w : World) :
    Calls Tryz.prog 11 #[] w fun e w' => e = .returned (.bool true) ∧ BB w w' := by
  go_enter Tryz.func11, Tryz.ntmps11
  go_wp2
  have hE0 : ((w.alloc (.cells #[.int .i64 0, .int .i64 1, .int .i64 0, .int .i64 1] 70)).alloc (.cells #[.int .i64 2, .slice (some ⟨w.heap.size, 0, none⟩) 2 2] 24)).heap[w.heap.size]? = some (.cells #[.int .i64 0, .int .i64 1, .int .i64 0, .int .i64 1] 70) := (Below.heap_alloc _ _ _ (by simp)).trans (heap_alloc_new w _)
  have hG0 : ((w.alloc (.cells #[.int .i64 0, .int .i64 1, .int .i64 0, .int .i64 1] 70)).alloc (.cells #[.int .i64 2, .slice (some ⟨w.heap.size, 0, none⟩) 2 2] 24)).heap[w.heap.size + 1]? = some (.cells #[.int .i64 2, .slice (some ⟨w.heap.size, 0, none⟩) 2 2] 24) := alloc_two w _ _
  have hB0 : BB w ((w.alloc (.cells #[.int .i64 0, .int .i64 1, .int .i64 0, .int .i64 1] 70)).alloc (.cells #[.int .i64 2, .slice (some ⟨w.heap.size, 0, none⟩) 2 2] 24)) := (((BB.refl w).al _).al _)
  generalize ((w.alloc (.cells #[.int .i64 0, .int .i64 1, .int .i64 0, .int .i64 1] 70)).alloc (.cells #[.int .i64 2, .slice (some ⟨w.heap.size, 0, none⟩) 2 2] 24)) = wa at *
  have HE0 := Bx.mk hE0
  have HG0 := Bx.mk hG0
  have HB0 := Bx.mk hB0
  clear hE0 hG0 hB0
  refine Code.wp_mono (Q := fun e a W => match e with | .normal => ∃ (A : Option Addr) (c : Nat) (v8 v9 v10 v11 v12 v13 v14 v15 v16 v17 : Value), a = { tmps := #[.bool false, .pointer (some ⟨w.heap.size + 1, 0, none⟩), .slice A 2 c, .int .i64 0, .agg #[.int .i64 0, .int .i64 1], .agg #[.int .i64 0, .int .i64 1], .slice (some ⟨w.heap.size, 0, none⟩) 2 2, .agg #[.int .i64 2, .slice (some ⟨w.heap.size, 0, none⟩) 2 2], v8, v9, v10, v11, v12, v13, v14, v15, v16, v17, undef, undef, undef, undef, undef, undef, undef, undef, undef, undef, undef, undef, undef, undef, undef, undef, undef, undef, undef, undef, undef, undef, undef, undef, undef, undef, undef, undef, undef, undef, undef, undef], defers := [] } ∧ OwnW W wa.heap.size (.slice A 2 c) [(0, [0, 3]), (1, [1, 2])] ∧ BB wa W | _ => False) (fun e a W h => ?_) ?_
  rotate_left 1
  · have hGd : wa.drew.heap[w.heap.size + 1]? = some (.cells #[.int .i64 2, .slice (some ⟨w.heap.size, 0, none⟩) 2 2] 24) := HG0.out
    have hEd : wa.drew.heap[w.heap.size]? = some (.cells #[.int .i64 0, .int .i64 1, .int .i64 0, .int .i64 1] 70) := HE0.out
    have hBd : BB wa wa.drew := (BB.refl wa).drawn 1
    refine wp_region_held_drew (S := fun w' => w'.cell? ⟨w.heap.size + 1, 0, none⟩ = some (.int .i64 2) ∧ w'.cell? ⟨w.heap.size + 1, 1, none⟩ = some (.slice (some ⟨w.heap.size, 0, none⟩) 2 2)) rfl ⟨cell_of_row wa.drew (w.heap.size + 1) 0 _ _ _ hGd, cell_of_row wa.drew (w.heap.size + 1) 1 _ _ _ hGd⟩ (fun hS => ?_)
    generalize wa.drew = W0 at *
    have W0G := Bx.mk hGd
    have W0E := Bx.mk hEd
    have W0B := Bx.mk hBd
    clear hGd hEd hBd
    refine wpAnyH_take (i := 0) (v := ?_) rfl (by kernel_rfl) (by kernel_rfl) (by kernel_rfl) (fun _ _ _ h => h) (Or.inl ⟨by kernel_rfl, ?_⟩) (by assumption) ?_; rotate_left 1; (focus intro w' hSw; obtain ⟨hs0, hs1⟩ := hSw; go_simp; try with_reducible rfl); try simp only [Act.put, List.getElem_toArray, List.getElem_cons_succ, List.getElem_cons_zero, List.setIfInBounds_toArray, List.set_cons_zero, List.set_cons_succ]
    refine wpAnyH_take (i := 1) (v := ?_) rfl (by kernel_rfl) (by kernel_rfl) (by kernel_rfl) (fun _ _ _ h => h) (Or.inl ⟨by kernel_rfl, ?_⟩) (by assumption) ?_; rotate_left 1; (focus intro w' hSw; obtain ⟨hs0, hs1⟩ := hSw; go_simp; try with_reducible rfl); try simp only [Act.put, List.getElem_toArray, List.getElem_cons_succ, List.getElem_cons_zero, List.setIfInBounds_toArray, List.set_cons_zero, List.set_cons_succ]
    refine wpAnyH_ready (rs := [2, 3, 4]) (by kernel_rfl) (by simp) ?_
    refine AllReadyH.cons rfl (fun K' hK' => ?_) ?_
    · go_simp
      go_at_call 38
      refine (whole_yes (some ⟨w.heap.size, 0, none⟩) 2 W0).mono ?_
      rintro e W1 ⟨⟨A1, c1, A2, c2, rfl, W1V, W1R⟩, hbb⟩
      have W1E := Bx.mk (hbb.heap W0E.out)
      have W1G := Bx.mk (hbb.heap W0G.out)
      have W1B := Bx.mk (W0B.out.trans hbb)
      clear W0E W0G W0B
      replace W1V := Bx.mk W1V
      replace W1R := Bx.mk W1R
      clear hbb
      refine hK'.out _ _ ⟨cell_of_row W1 (w.heap.size + 1) 0 _ _ _ (W1G.out), cell_of_row W1 (w.heap.size + 1) 1 _ _ _ (W1G.out)⟩ (fun hS => ?_)
      try simp only [Act.put, List.getElem_toArray, List.getElem_cons_succ, List.getElem_cons_zero, List.setIfInBounds_toArray, List.set_cons_zero, List.set_cons_succ]
      refine wpAnyH_ready (rs := [3, 4]) (by kernel_rfl) (by simp) ?_
      refine AllReadyH.cons rfl (fun K' hK' => ?_) ?_
      · go_simp
        have hbb := (BB.refl W1).al (.cells #[.int .i64 0, .int .i64 2] 3)
        have hnew := heap_alloc_new W1 (.cells #[.int .i64 0, .int .i64 2] 3)
        generalize (W1.alloc (.cells #[.int .i64 0, .int .i64 2] 3)) = W2 at *
        have W2E := Bx.mk (hbb.heap W1E.out)
        have W2G := Bx.mk (hbb.heap W1G.out)
        have W2B := Bx.mk (W1B.out.trans hbb)
        have W2V := Bx.mk (hbb.ri W1V.out)
        have W2R := Bx.mk (hbb.ri W1R.out)
        clear W1E W1G W1B W1V W1R
        have W212 := Bx.mk hnew
        clear hbb hnew
        refine hK'.out _ _ ⟨cell_of_row W2 (w.heap.size + 1) 0 _ _ _ (W2G.out), cell_of_row W2 (w.heap.size + 1) 1 _ _ _ (W2G.out)⟩ (fun hS => ?_)
        try simp only [Act.put, List.getElem_toArray, List.getElem_cons_succ, List.getElem_cons_zero, List.setIfInBounds_toArray, List.set_cons_zero, List.set_cons_succ]
        refine wpAnyH_ready (rs := [4]) (by kernel_rfl) (by simp) ?_
        refine AllReadyH.cons rfl (fun K' hK' => ?_) ?_
        · go_simp
          have hbb := (BB.refl W2).al (.cells #[.int .i64 1, .int .i64 3] 3)
          have hnew := heap_alloc_new W2 (.cells #[.int .i64 1, .int .i64 3] 3)
          generalize (W2.alloc (.cells #[.int .i64 1, .int .i64 3] 3)) = W3 at *
          have W3E := Bx.mk (hbb.heap W2E.out)
          have W3G := Bx.mk (hbb.heap W2G.out)
          have W3B := Bx.mk (W2B.out.trans hbb)
          have W3V := Bx.mk (hbb.ri W2V.out)
          have W3R := Bx.mk (hbb.ri W2R.out)
          have W312 := Bx.mk (hbb.heap W212.out)
          clear W2E W2G W2B W2V W2R W212
          have W313 := Bx.mk hnew
          clear hbb hnew
          refine hK'.out _ _ ⟨cell_of_row W3 (w.heap.size + 1) 0 _ _ _ (W3G.out), cell_of_row W3 (w.heap.size + 1) 1 _ _ _ (W3G.out)⟩ (fun hS => ?_)
          try simp only [Act.put, List.getElem_toArray, List.getElem_cons_succ, List.getElem_cons_zero, List.setIfInBounds_toArray, List.set_cons_zero, List.set_cons_succ]
          refine wpAnyH_ready (rs := [5]) (by kernel_rfl) (by simp) ?_
          refine AllReadyH.cons rfl (fun K' hK' => ?_) ?_
          · go_simp
            have hbb := (BB.refl W3).al (.cells #[.slice (some ⟨W1.heap.size, 0, none⟩) 2 2, .slice (some ⟨W2.heap.size, 0, none⟩) 2 2] 25)
            have hnew := heap_alloc_new W3 (.cells #[.slice (some ⟨W1.heap.size, 0, none⟩) 2 2, .slice (some ⟨W2.heap.size, 0, none⟩) 2 2] 25)
            generalize (W3.alloc (.cells #[.slice (some ⟨W1.heap.size, 0, none⟩) 2 2, .slice (some ⟨W2.heap.size, 0, none⟩) 2 2] 25)) = W4 at *
            have W4E := Bx.mk (hbb.heap W3E.out)
            have W4G := Bx.mk (hbb.heap W3G.out)
            have W4B := Bx.mk (W3B.out.trans hbb)
            have W4V := Bx.mk (hbb.ri W3V.out)
            have W4R := Bx.mk (hbb.ri W3R.out)
            have W412 := Bx.mk (hbb.heap W312.out)
            have W413 := Bx.mk (hbb.heap W313.out)
            clear W3E W3G W3B W3V W3R W312 W313
            have W414 := Bx.mk hnew
            clear hbb hnew
            refine hK'.out _ _ ⟨cell_of_row W4 (w.heap.size + 1) 0 _ _ _ (W4G.out), cell_of_row W4 (w.heap.size + 1) 1 _ _ _ (W4G.out)⟩ (fun hS => ?_)
            try simp only [Act.put, List.getElem_toArray, List.getElem_cons_succ, List.getElem_cons_zero, List.setIfInBounds_toArray, List.set_cons_zero, List.set_cons_succ]
            refine wpAnyH_ready (rs := [6]) (by kernel_rfl) (by simp) ?_; refine AllReadyH.cons rfl (fun K' hK' => ?_) AllReadyH.nil
            go_simp
            go_at_call 19
            refine (walks_yes (some ⟨w.heap.size, 0, none⟩) A1 A2 (some ⟨W3.heap.size, 0, none⟩) 2 c1 c2 2 W4 (re_g0 W4E.out) W4V.out W4R.out (rl_pair W414.out (ri_pair W412.out) (ri_pair W413.out))).mono ?_
            rintro e W5 ⟨⟨A4, c4, rfl, hO⟩, hbb⟩
            have W4BZ := Bx.mk W4B.out.size
            have W5E := Bx.mk (hbb.heap W4E.out)
            have W5G := Bx.mk (hbb.heap W4G.out)
            have W5B := Bx.mk (W4B.out.trans hbb)
            clear W4E W4G W4B
            refine hK'.out _ _ ⟨cell_of_row W5 (w.heap.size + 1) 0 _ _ _ (W5G.out), cell_of_row W5 (w.heap.size + 1) 1 _ _ _ (W5G.out)⟩ (fun hS => ?_)
            try simp only [Act.put, List.getElem_toArray, List.getElem_cons_succ, List.getElem_cons_zero, List.setIfInBounds_toArray, List.set_cons_zero, List.set_cons_succ]
            have HOX := Bx.mk (ownW_mono hO W4BZ.out)
            clear hO hbb
            refine wpAnyH_take (i := 7) (v := ?_) rfl (by kernel_rfl) (by kernel_rfl) (by kernel_rfl) (fun _ _ _ h => h) (Or.inl ⟨by kernel_rfl, ?_⟩) (by assumption) ?_; rotate_left 1; (focus intro w' hSw; obtain ⟨hs0, hs1⟩ := hSw; go_simp; try with_reducible rfl); try simp only [Act.put, List.getElem_toArray, List.getElem_cons_succ, List.getElem_cons_zero, List.setIfInBounds_toArray, List.set_cons_zero, List.set_cons_succ]
            refine wpAnyH_take (i := 8) (v := ?_) rfl (by kernel_rfl) (by kernel_rfl) (by kernel_rfl) (fun _ _ _ h => h) (Or.inl ⟨by kernel_rfl, ?_⟩) (by assumption) ?_; rotate_left 1; (focus intro w' hSw; obtain ⟨hs0, hs1⟩ := hSw; go_simp; try with_reducible rfl); try simp only [Act.put, List.getElem_toArray, List.getElem_cons_succ, List.getElem_cons_zero, List.setIfInBounds_toArray, List.set_cons_zero, List.set_cons_succ]
            refine wpAnyH_take (i := 9) (v := ?_) rfl (by kernel_rfl) (by kernel_rfl) (by kernel_rfl) (fun _ _ _ h => h) (Or.inl ⟨by kernel_rfl, ?_⟩) (by assumption) ?_; rotate_left 1; (focus intro w' hSw; obtain ⟨hs0, hs1⟩ := hSw; go_simp; try with_reducible rfl); try simp only [Act.put, List.getElem_toArray, List.getElem_cons_succ, List.getElem_cons_zero, List.setIfInBounds_toArray, List.set_cons_zero, List.set_cons_succ]
            refine wpAnyH_ready (rs := [10]) (by kernel_rfl) (by simp) ?_; refine AllReadyH.cons rfl (fun K' hK' => ?_) AllReadyH.nil
            go_simp
            refine hK'.out _ _ ⟨cell_of_row W5 (w.heap.size + 1) 0 _ _ _ (W5G.out), cell_of_row W5 (w.heap.size + 1) 1 _ _ _ (W5G.out)⟩ (fun hS => ?_)
            try simp only [Act.put, List.getElem_toArray, List.getElem_cons_succ, List.getElem_cons_zero, List.setIfInBounds_toArray, List.set_cons_zero, List.set_cons_succ]
            refine wpAnyH_ready (rs := [11]) (by kernel_rfl) (by simp) ?_; refine AllReadyH.cons rfl (fun K' hK' => ?_) AllReadyH.nil
            go_simp
            refine hK'.out _ _ ⟨cell_of_row W5 (w.heap.size + 1) 0 _ _ _ (W5G.out), cell_of_row W5 (w.heap.size + 1) 1 _ _ _ (W5G.out)⟩ (fun hS => ?_)
            try simp only [Act.put, List.getElem_toArray, List.getElem_cons_succ, List.getElem_cons_zero, List.setIfInBounds_toArray, List.set_cons_zero, List.set_cons_succ]
            refine wpAnyH_done (by kernel_rfl) ?_ _
            exact ⟨A4, c4, _, _, _, _, _, _, _, _, _, _, rfl, HOX.out, W5B.out⟩
          exact AllReadyH.nil
        exact AllReadyH.nil
      refine AllReadyH.cons rfl (fun K' hK' => ?_) ?_
      · go_simp
        have hbb := (BB.refl W1).al (.cells #[.int .i64 1, .int .i64 3] 3)
        have hnew := heap_alloc_new W1 (.cells #[.int .i64 1, .int .i64 3] 3)
        generalize (W1.alloc (.cells #[.int .i64 1, .int .i64 3] 3)) = W6 at *
        have W6E := Bx.mk (hbb.heap W1E.out)
        have W6G := Bx.mk (hbb.heap W1G.out)
        have W6B := Bx.mk (W1B.out.trans hbb)
        have W6V := Bx.mk (hbb.ri W1V.out)
        have W6R := Bx.mk (hbb.ri W1R.out)
        clear W1E W1G W1B W1V W1R
        have W613 := Bx.mk hnew
        clear hbb hnew
        refine hK'.out _ _ ⟨cell_of_row W6 (w.heap.size + 1) 0 _ _ _ (W6G.out), cell_of_row W6 (w.heap.size + 1) 1 _ _ _ (W6G.out)⟩ (fun hS => ?_)
        try simp only [Act.put, List.getElem_toArray, List.getElem_cons_succ, List.getElem_cons_zero, List.setIfInBounds_toArray, List.set_cons_zero, List.set_cons_succ]
        refine wpAnyH_ready (rs := [3]) (by kernel_rfl) (by simp) ?_
        refine AllReadyH.cons rfl (fun K' hK' => ?_) ?_
        · go_simp
          have hbb := (BB.refl W6).al (.cells #[.int .i64 0, .int .i64 2] 3)
          have hnew := heap_alloc_new W6 (.cells #[.int .i64 0, .int .i64 2] 3)
          generalize (W6.alloc (.cells #[.int .i64 0, .int .i64 2] 3)) = W7 at *
          have W7E := Bx.mk (hbb.heap W6E.out)
          have W7G := Bx.mk (hbb.heap W6G.out)
          have W7B := Bx.mk (W6B.out.trans hbb)
          have W7V := Bx.mk (hbb.ri W6V.out)
          have W7R := Bx.mk (hbb.ri W6R.out)
          have W713 := Bx.mk (hbb.heap W613.out)
          clear W6E W6G W6B W6V W6R W613
          have W712 := Bx.mk hnew
          clear hbb hnew
          refine hK'.out _ _ ⟨cell_of_row W7 (w.heap.size + 1) 0 _ _ _ (W7G.out), cell_of_row W7 (w.heap.size + 1) 1 _ _ _ (W7G.out)⟩ (fun hS => ?_)
          try simp only [Act.put, List.getElem_toArray, List.getElem_cons_succ, List.getElem_cons_zero, List.setIfInBounds_toArray, List.set_cons_zero, List.set_cons_succ]
          refine wpAnyH_ready (rs := [5]) (by kernel_rfl) (by simp) ?_
          refine AllReadyH.cons rfl (fun K' hK' => ?_) ?_
          · go_simp
            have hbb := (BB.refl W7).al (.cells #[.slice (some ⟨W6.heap.size, 0, none⟩) 2 2, .slice (some ⟨W1.heap.size, 0, none⟩) 2 2] 25)
            have hnew := heap_alloc_new W7 (.cells #[.slice (some ⟨W6.heap.size, 0, none⟩) 2 2, .slice (some ⟨W1.heap.size, 0, none⟩) 2 2] 25)
            generalize (W7.alloc (.cells #[.slice (some ⟨W6.heap.size, 0, none⟩) 2 2, .slice (some ⟨W1.heap.size, 0, none⟩) 2 2] 25)) = W8 at *
            have W8E := Bx.mk (hbb.heap W7E.out)
            have W8G := Bx.mk (hbb.heap W7G.out)
            have W8B := Bx.mk (W7B.out.trans hbb)
            have W8V := Bx.mk (hbb.ri W7V.out)
            have W8R := Bx.mk (hbb.ri W7R.out)
            have W813 := Bx.mk (hbb.heap W713.out)
            have W812 := Bx.mk (hbb.heap W712.out)
            clear W7E W7G W7B W7V W7R W713 W712
            have W814 := Bx.mk hnew
            clear hbb hnew
            refine hK'.out _ _ ⟨cell_of_row W8 (w.heap.size + 1) 0 _ _ _ (W8G.out), cell_of_row W8 (w.heap.size + 1) 1 _ _ _ (W8G.out)⟩ (fun hS => ?_)
            try simp only [Act.put, List.getElem_toArray, List.getElem_cons_succ, List.getElem_cons_zero, List.setIfInBounds_toArray, List.set_cons_zero, List.set_cons_succ]
            refine wpAnyH_ready (rs := [6]) (by kernel_rfl) (by simp) ?_; refine AllReadyH.cons rfl (fun K' hK' => ?_) AllReadyH.nil
            go_simp
            go_at_call 19
            refine (walks_yes (some ⟨w.heap.size, 0, none⟩) A1 A2 (some ⟨W7.heap.size, 0, none⟩) 2 c1 c2 2 W8 (re_g0 W8E.out) W8V.out W8R.out (rl_pair W814.out (ri_pair W812.out) (ri_pair W813.out))).mono ?_
            rintro e W9 ⟨⟨A4, c4, rfl, hO⟩, hbb⟩
            have W8BZ := Bx.mk W8B.out.size
            have W9E := Bx.mk (hbb.heap W8E.out)
            have W9G := Bx.mk (hbb.heap W8G.out)
            have W9B := Bx.mk (W8B.out.trans hbb)
            clear W8E W8G W8B
            refine hK'.out _ _ ⟨cell_of_row W9 (w.heap.size + 1) 0 _ _ _ (W9G.out), cell_of_row W9 (w.heap.size + 1) 1 _ _ _ (W9G.out)⟩ (fun hS => ?_)
            try simp only [Act.put, List.getElem_toArray, List.getElem_cons_succ, List.getElem_cons_zero, List.setIfInBounds_toArray, List.set_cons_zero, List.set_cons_succ]
            have HOX := Bx.mk (ownW_mono hO W8BZ.out)
            clear hO hbb
            refine wpAnyH_take (i := 7) (v := ?_) rfl (by kernel_rfl) (by kernel_rfl) (by kernel_rfl) (fun _ _ _ h => h) (Or.inl ⟨by kernel_rfl, ?_⟩) (by assumption) ?_; rotate_left 1; (focus intro w' hSw; obtain ⟨hs0, hs1⟩ := hSw; go_simp; try with_reducible rfl); try simp only [Act.put, List.getElem_toArray, List.getElem_cons_succ, List.getElem_cons_zero, List.setIfInBounds_toArray, List.set_cons_zero, List.set_cons_succ]
            refine wpAnyH_take (i := 8) (v := ?_) rfl (by kernel_rfl) (by kernel_rfl) (by kernel_rfl) (fun _ _ _ h => h) (Or.inl ⟨by kernel_rfl, ?_⟩) (by assumption) ?_; rotate_left 1; (focus intro w' hSw; obtain ⟨hs0, hs1⟩ := hSw; go_simp; try with_reducible rfl); try simp only [Act.put, List.getElem_toArray, List.getElem_cons_succ, List.getElem_cons_zero, List.setIfInBounds_toArray, List.set_cons_zero, List.set_cons_succ]
            refine wpAnyH_take (i := 9) (v := ?_) rfl (by kernel_rfl) (by kernel_rfl) (by kernel_rfl) (fun _ _ _ h => h) (Or.inl ⟨by kernel_rfl, ?_⟩) (by assumption) ?_; rotate_left 1; (focus intro w' hSw; obtain ⟨hs0, hs1⟩ := hSw; go_simp; try with_reducible rfl); try simp only [Act.put, List.getElem_toArray, List.getElem_cons_succ, List.getElem_cons_zero, List.setIfInBounds_toArray, List.set_cons_zero, List.set_cons_succ]
            refine wpAnyH_ready (rs := [10]) (by kernel_rfl) (by simp) ?_; refine AllReadyH.cons rfl (fun K' hK' => ?_) AllReadyH.nil
            go_simp
            refine hK'.out _ _ ⟨cell_of_row W9 (w.heap.size + 1) 0 _ _ _ (W9G.out), cell_of_row W9 (w.heap.size + 1) 1 _ _ _ (W9G.out)⟩ (fun hS => ?_)
            try simp only [Act.put, List.getElem_toArray, List.getElem_cons_succ, List.getElem_cons_zero, List.setIfInBounds_toArray, List.set_cons_zero, List.set_cons_succ]
            refine wpAnyH_ready (rs := [11]) (by kernel_rfl) (by simp) ?_; refine AllReadyH.cons rfl (fun K' hK' => ?_) AllReadyH.nil
            go_simp
            refine hK'.out _ _ ⟨cell_of_row W9 (w.heap.size + 1) 0 _ _ _ (W9G.out), cell_of_row W9 (w.heap.size + 1) 1 _ _ _ (W9G.out)⟩ (fun hS => ?_)
            try simp only [Act.put, List.getElem_toArray, List.getElem_cons_succ, List.getElem_cons_zero, List.setIfInBounds_toArray, List.set_cons_zero, List.set_cons_succ]
            refine wpAnyH_done (by kernel_rfl) ?_ _
            exact ⟨A4, c4, _, _, _, _, _, _, _, _, _, _, rfl, HOX.out, W9B.out⟩
          exact AllReadyH.nil
        exact AllReadyH.nil
      exact AllReadyH.nil
    refine AllReadyH.cons rfl (fun K' hK' => ?_) ?_
    · go_simp
      have hbb := (BB.refl W0).al (.cells #[.int .i64 0, .int .i64 2] 3)
      have hnew := heap_alloc_new W0 (.cells #[.int .i64 0, .int .i64 2] 3)
      generalize (W0.alloc (.cells #[.int .i64 0, .int .i64 2] 3)) = W10 at *
      have W10E := Bx.mk (hbb.heap W0E.out)
      have W10G := Bx.mk (hbb.heap W0G.out)
      have W10B := Bx.mk (W0B.out.trans hbb)
      clear W0E W0G W0B
      have W1012 := Bx.mk hnew
      clear hbb hnew
      refine hK'.out _ _ ⟨cell_of_row W10 (w.heap.size + 1) 0 _ _ _ (W10G.out), cell_of_row W10 (w.heap.size + 1) 1 _ _ _ (W10G.out)⟩ (fun hS => ?_)
      try simp only [Act.put, List.getElem_toArray, List.getElem_cons_succ, List.getElem_cons_zero, List.setIfInBounds_toArray, List.set_cons_zero, List.set_cons_succ]
      refine wpAnyH_ready (rs := [2, 4]) (by kernel_rfl) (by simp) ?_
      refine AllReadyH.cons rfl (fun K' hK' => ?_) ?_
      · go_simp
        go_at_call 38
        refine (whole_yes (some ⟨w.heap.size, 0, none⟩) 2 W10).mono ?_
        rintro e W11 ⟨⟨A1, c1, A2, c2, rfl, W11V, W11R⟩, hbb⟩
        have W11E := Bx.mk (hbb.heap W10E.out)
        have W11G := Bx.mk (hbb.heap W10G.out)
        have W11B := Bx.mk (W10B.out.trans hbb)
        have W1112 := Bx.mk (hbb.heap W1012.out)
        clear W10E W10G W10B W1012
        replace W11V := Bx.mk W11V
        replace W11R := Bx.mk W11R
        clear hbb
        refine hK'.out _ _ ⟨cell_of_row W11 (w.heap.size + 1) 0 _ _ _ (W11G.out), cell_of_row W11 (w.heap.size + 1) 1 _ _ _ (W11G.out)⟩ (fun hS => ?_)
        try simp only [Act.put, List.getElem_toArray, List.getElem_cons_succ, List.getElem_cons_zero, List.setIfInBounds_toArray, List.set_cons_zero, List.set_cons_succ]
        refine wpAnyH_ready (rs := [4]) (by kernel_rfl) (by simp) ?_
        refine AllReadyH.cons rfl (fun K' hK' => ?_) ?_
        · go_simp
          have hbb := (BB.refl W11).al (.cells #[.int .i64 1, .int .i64 3] 3)
          have hnew := heap_alloc_new W11 (.cells #[.int .i64 1, .int .i64 3] 3)
          generalize (W11.alloc (.cells #[.int .i64 1, .int .i64 3] 3)) = W12 at *
          have W12E := Bx.mk (hbb.heap W11E.out)
          have W12G := Bx.mk (hbb.heap W11G.out)
          have W12B := Bx.mk (W11B.out.trans hbb)
          have W1212 := Bx.mk (hbb.heap W1112.out)
          have W12V := Bx.mk (hbb.ri W11V.out)
          have W12R := Bx.mk (hbb.ri W11R.out)
          clear W11E W11G W11B W1112 W11V W11R
          have W1213 := Bx.mk hnew
          clear hbb hnew
          refine hK'.out _ _ ⟨cell_of_row W12 (w.heap.size + 1) 0 _ _ _ (W12G.out), cell_of_row W12 (w.heap.size + 1) 1 _ _ _ (W12G.out)⟩ (fun hS => ?_)
          try simp only [Act.put, List.getElem_toArray, List.getElem_cons_succ, List.getElem_cons_zero, List.setIfInBounds_toArray, List.set_cons_zero, List.set_cons_succ]
          refine wpAnyH_ready (rs := [5]) (by kernel_rfl) (by simp) ?_
          refine AllReadyH.cons rfl (fun K' hK' => ?_) ?_
          · go_simp
            have hbb := (BB.refl W12).al (.cells #[.slice (some ⟨W0.heap.size, 0, none⟩) 2 2, .slice (some ⟨W11.heap.size, 0, none⟩) 2 2] 25)
            have hnew := heap_alloc_new W12 (.cells #[.slice (some ⟨W0.heap.size, 0, none⟩) 2 2, .slice (some ⟨W11.heap.size, 0, none⟩) 2 2] 25)
            generalize (W12.alloc (.cells #[.slice (some ⟨W0.heap.size, 0, none⟩) 2 2, .slice (some ⟨W11.heap.size, 0, none⟩) 2 2] 25)) = W13 at *
            have W13E := Bx.mk (hbb.heap W12E.out)
            have W13G := Bx.mk (hbb.heap W12G.out)
            have W13B := Bx.mk (W12B.out.trans hbb)
            have W1312 := Bx.mk (hbb.heap W1212.out)
            have W13V := Bx.mk (hbb.ri W12V.out)
            have W13R := Bx.mk (hbb.ri W12R.out)
            have W1313 := Bx.mk (hbb.heap W1213.out)
            clear W12E W12G W12B W1212 W12V W12R W1213
            have W1314 := Bx.mk hnew
            clear hbb hnew
            refine hK'.out _ _ ⟨cell_of_row W13 (w.heap.size + 1) 0 _ _ _ (W13G.out), cell_of_row W13 (w.heap.size + 1) 1 _ _ _ (W13G.out)⟩ (fun hS => ?_)
            try simp only [Act.put, List.getElem_toArray, List.getElem_cons_succ, List.getElem_cons_zero, List.setIfInBounds_toArray, List.set_cons_zero, List.set_cons_succ]
            refine wpAnyH_ready (rs := [6]) (by kernel_rfl) (by simp) ?_; refine AllReadyH.cons rfl (fun K' hK' => ?_) AllReadyH.nil
            go_simp
            go_at_call 19
            refine (walks_yes (some ⟨w.heap.size, 0, none⟩) A1 A2 (some ⟨W12.heap.size, 0, none⟩) 2 c1 c2 2 W13 (re_g0 W13E.out) W13V.out W13R.out (rl_pair W1314.out (ri_pair W1312.out) (ri_pair W1313.out))).mono ?_
            rintro e W14 ⟨⟨A4, c4, rfl, hO⟩, hbb⟩
            have W13BZ := Bx.mk W13B.out.size
            have W14E := Bx.mk (hbb.heap W13E.out)
            have W14G := Bx.mk (hbb.heap W13G.out)
            have W14B := Bx.mk (W13B.out.trans hbb)
            clear W13E W13G W13B
            refine hK'.out _ _ ⟨cell_of_row W14 (w.heap.size + 1) 0 _ _ _ (W14G.out), cell_of_row W14 (w.heap.size + 1) 1 _ _ _ (W14G.out)⟩ (fun hS => ?_)
            try simp only [Act.put, List.getElem_toArray, List.getElem_cons_succ, List.getElem_cons_zero, List.setIfInBounds_toArray, List.set_cons_zero, List.set_cons_succ]
            have HOX := Bx.mk (ownW_mono hO W13BZ.out)
            clear hO hbb
            refine wpAnyH_take (i := 7) (v := ?_) rfl (by kernel_rfl) (by kernel_rfl) (by kernel_rfl) (fun _ _ _ h => h) (Or.inl ⟨by kernel_rfl, ?_⟩) (by assumption) ?_; rotate_left 1; (focus intro w' hSw; obtain ⟨hs0, hs1⟩ := hSw; go_simp; try with_reducible rfl); try simp only [Act.put, List.getElem_toArray, List.getElem_cons_succ, List.getElem_cons_zero, List.setIfInBounds_toArray, List.set_cons_zero, List.set_cons_succ]
            refine wpAnyH_take (i := 8) (v := ?_) rfl (by kernel_rfl) (by kernel_rfl) (by kernel_rfl) (fun _ _ _ h => h) (Or.inl ⟨by kernel_rfl, ?_⟩) (by assumption) ?_; rotate_left 1; (focus intro w' hSw; obtain ⟨hs0, hs1⟩ := hSw; go_simp; try with_reducible rfl); try simp only [Act.put, List.getElem_toArray, List.getElem_cons_succ, List.getElem_cons_zero, List.setIfInBounds_toArray, List.set_cons_zero, List.set_cons_succ]
            refine wpAnyH_take (i := 9) (v := ?_) rfl (by kernel_rfl) (by kernel_rfl) (by kernel_rfl) (fun _ _ _ h => h) (Or.inl ⟨by kernel_rfl, ?_⟩) (by assumption) ?_; rotate_left 1; (focus intro w' hSw; obtain ⟨hs0, hs1⟩ := hSw; go_simp; try with_reducible rfl); try simp only [Act.put, List.getElem_toArray, List.getElem_cons_succ, List.getElem_cons_zero, List.setIfInBounds_toArray, List.set_cons_zero, List.set_cons_succ]
            refine wpAnyH_ready (rs := [10]) (by kernel_rfl) (by simp) ?_; refine AllReadyH.cons rfl (fun K' hK' => ?_) AllReadyH.nil
            go_simp
            refine hK'.out _ _ ⟨cell_of_row W14 (w.heap.size + 1) 0 _ _ _ (W14G.out), cell_of_row W14 (w.heap.size + 1) 1 _ _ _ (W14G.out)⟩ (fun hS => ?_)
            try simp only [Act.put, List.getElem_toArray, List.getElem_cons_succ, List.getElem_cons_zero, List.setIfInBounds_toArray, List.set_cons_zero, List.set_cons_succ]
            refine wpAnyH_ready (rs := [11]) (by kernel_rfl) (by simp) ?_; refine AllReadyH.cons rfl (fun K' hK' => ?_) AllReadyH.nil
            go_simp
            refine hK'.out _ _ ⟨cell_of_row W14 (w.heap.size + 1) 0 _ _ _ (W14G.out), cell_of_row W14 (w.heap.size + 1) 1 _ _ _ (W14G.out)⟩ (fun hS => ?_)
            try simp only [Act.put, List.getElem_toArray, List.getElem_cons_succ, List.getElem_cons_zero, List.setIfInBounds_toArray, List.set_cons_zero, List.set_cons_succ]
            refine wpAnyH_done (by kernel_rfl) ?_ _
            exact ⟨A4, c4, _, _, _, _, _, _, _, _, _, _, rfl, HOX.out, W14B.out⟩
          exact AllReadyH.nil
        exact AllReadyH.nil
      refine AllReadyH.cons rfl (fun K' hK' => ?_) ?_
      · go_simp
        have hbb := (BB.refl W10).al (.cells #[.int .i64 1, .int .i64 3] 3)
        have hnew := heap_alloc_new W10 (.cells #[.int .i64 1, .int .i64 3] 3)
        generalize (W10.alloc (.cells #[.int .i64 1, .int .i64 3] 3)) = W15 at *
        have W15E := Bx.mk (hbb.heap W10E.out)
        have W15G := Bx.mk (hbb.heap W10G.out)
        have W15B := Bx.mk (W10B.out.trans hbb)
        have W1512 := Bx.mk (hbb.heap W1012.out)
        clear W10E W10G W10B W1012
        have W1513 := Bx.mk hnew
        clear hbb hnew
        refine hK'.out _ _ ⟨cell_of_row W15 (w.heap.size + 1) 0 _ _ _ (W15G.out), cell_of_row W15 (w.heap.size + 1) 1 _ _ _ (W15G.out)⟩ (fun hS => ?_)
        try simp only [Act.put, List.getElem_toArray, List.getElem_cons_succ, List.getElem_cons_zero, List.setIfInBounds_toArray, List.set_cons_zero, List.set_cons_succ]
        refine wpAnyH_ready (rs := [2, 5]) (by kernel_rfl) (by simp) ?_
        refine AllReadyH.cons rfl (fun K' hK' => ?_) ?_
        · go_simp
          go_at_call 38
          refine (whole_yes (some ⟨w.heap.size, 0, none⟩) 2 W15).mono ?_
          rintro e W16 ⟨⟨A1, c1, A2, c2, rfl, W16V, W16R⟩, hbb⟩
          have W16E := Bx.mk (hbb.heap W15E.out)
          have W16G := Bx.mk (hbb.heap W15G.out)
          have W16B := Bx.mk (W15B.out.trans hbb)
          have W1612 := Bx.mk (hbb.heap W1512.out)
          have W1613 := Bx.mk (hbb.heap W1513.out)
          clear W15E W15G W15B W1512 W1513
          replace W16V := Bx.mk W16V
          replace W16R := Bx.mk W16R
          clear hbb
          refine hK'.out _ _ ⟨cell_of_row W16 (w.heap.size + 1) 0 _ _ _ (W16G.out), cell_of_row W16 (w.heap.size + 1) 1 _ _ _ (W16G.out)⟩ (fun hS => ?_)
          try simp only [Act.put, List.getElem_toArray, List.getElem_cons_succ, List.getElem_cons_zero, List.setIfInBounds_toArray, List.set_cons_zero, List.set_cons_succ]
          refine wpAnyH_ready (rs := [5]) (by kernel_rfl) (by simp) ?_
          refine AllReadyH.cons rfl (fun K' hK' => ?_) ?_
          · go_simp
            have hbb := (BB.refl W16).al (.cells #[.slice (some ⟨W0.heap.size, 0, none⟩) 2 2, .slice (some ⟨W10.heap.size, 0, none⟩) 2 2] 25)
            have hnew := heap_alloc_new W16 (.cells #[.slice (some ⟨W0.heap.size, 0, none⟩) 2 2, .slice (some ⟨W10.heap.size, 0, none⟩) 2 2] 25)
            generalize (W16.alloc (.cells #[.slice (some ⟨W0.heap.size, 0, none⟩) 2 2, .slice (some ⟨W10.heap.size, 0, none⟩) 2 2] 25)) = W17 at *
            have W17E := Bx.mk (hbb.heap W16E.out)
            have W17G := Bx.mk (hbb.heap W16G.out)
            have W17B := Bx.mk (W16B.out.trans hbb)
            have W1712 := Bx.mk (hbb.heap W1612.out)
            have W1713 := Bx.mk (hbb.heap W1613.out)
            have W17V := Bx.mk (hbb.ri W16V.out)
            have W17R := Bx.mk (hbb.ri W16R.out)
            clear W16E W16G W16B W1612 W1613 W16V W16R
            have W1714 := Bx.mk hnew
            clear hbb hnew
            refine hK'.out _ _ ⟨cell_of_row W17 (w.heap.size + 1) 0 _ _ _ (W17G.out), cell_of_row W17 (w.heap.size + 1) 1 _ _ _ (W17G.out)⟩ (fun hS => ?_)
            try simp only [Act.put, List.getElem_toArray, List.getElem_cons_succ, List.getElem_cons_zero, List.setIfInBounds_toArray, List.set_cons_zero, List.set_cons_succ]
            refine wpAnyH_ready (rs := [6]) (by kernel_rfl) (by simp) ?_; refine AllReadyH.cons rfl (fun K' hK' => ?_) AllReadyH.nil
            go_simp
            go_at_call 19
            refine (walks_yes (some ⟨w.heap.size, 0, none⟩) A1 A2 (some ⟨W16.heap.size, 0, none⟩) 2 c1 c2 2 W17 (re_g0 W17E.out) W17V.out W17R.out (rl_pair W1714.out (ri_pair W1712.out) (ri_pair W1713.out))).mono ?_
            rintro e W18 ⟨⟨A4, c4, rfl, hO⟩, hbb⟩
            have W17BZ := Bx.mk W17B.out.size
            have W18E := Bx.mk (hbb.heap W17E.out)
            have W18G := Bx.mk (hbb.heap W17G.out)
            have W18B := Bx.mk (W17B.out.trans hbb)
            clear W17E W17G W17B
            refine hK'.out _ _ ⟨cell_of_row W18 (w.heap.size + 1) 0 _ _ _ (W18G.out), cell_of_row W18 (w.heap.size + 1) 1 _ _ _ (W18G.out)⟩ (fun hS => ?_)
            try simp only [Act.put, List.getElem_toArray, List.getElem_cons_succ, List.getElem_cons_zero, List.setIfInBounds_toArray, List.set_cons_zero, List.set_cons_succ]
            have HOX := Bx.mk (ownW_mono hO W17BZ.out)
            clear hO hbb
            refine wpAnyH_take (i := 7) (v := ?_) rfl (by kernel_rfl) (by kernel_rfl) (by kernel_rfl) (fun _ _ _ h => h) (Or.inl ⟨by kernel_rfl, ?_⟩) (by assumption) ?_; rotate_left 1; (focus intro w' hSw; obtain ⟨hs0, hs1⟩ := hSw; go_simp; try with_reducible rfl); try simp only [Act.put, List.getElem_toArray, List.getElem_cons_succ, List.getElem_cons_zero, List.setIfInBounds_toArray, List.set_cons_zero, List.set_cons_succ]
            refine wpAnyH_take (i := 8) (v := ?_) rfl (by kernel_rfl) (by kernel_rfl) (by kernel_rfl) (fun _ _ _ h => h) (Or.inl ⟨by kernel_rfl, ?_⟩) (by assumption) ?_; rotate_left 1; (focus intro w' hSw; obtain ⟨hs0, hs1⟩ := hSw; go_simp; try with_reducible rfl); try simp only [Act.put, List.getElem_toArray, List.getElem_cons_succ, List.getElem_cons_zero, List.setIfInBounds_toArray, List.set_cons_zero, List.set_cons_succ]
            refine wpAnyH_take (i := 9) (v := ?_) rfl (by kernel_rfl) (by kernel_rfl) (by kernel_rfl) (fun _ _ _ h => h) (Or.inl ⟨by kernel_rfl, ?_⟩) (by assumption) ?_; rotate_left 1; (focus intro w' hSw; obtain ⟨hs0, hs1⟩ := hSw; go_simp; try with_reducible rfl); try simp only [Act.put, List.getElem_toArray, List.getElem_cons_succ, List.getElem_cons_zero, List.setIfInBounds_toArray, List.set_cons_zero, List.set_cons_succ]
            refine wpAnyH_ready (rs := [10]) (by kernel_rfl) (by simp) ?_; refine AllReadyH.cons rfl (fun K' hK' => ?_) AllReadyH.nil
            go_simp
            refine hK'.out _ _ ⟨cell_of_row W18 (w.heap.size + 1) 0 _ _ _ (W18G.out), cell_of_row W18 (w.heap.size + 1) 1 _ _ _ (W18G.out)⟩ (fun hS => ?_)
            try simp only [Act.put, List.getElem_toArray, List.getElem_cons_succ, List.getElem_cons_zero, List.setIfInBounds_toArray, List.set_cons_zero, List.set_cons_succ]
            refine wpAnyH_ready (rs := [11]) (by kernel_rfl) (by simp) ?_; refine AllReadyH.cons rfl (fun K' hK' => ?_) AllReadyH.nil
            go_simp
            refine hK'.out _ _ ⟨cell_of_row W18 (w.heap.size + 1) 0 _ _ _ (W18G.out), cell_of_row W18 (w.heap.size + 1) 1 _ _ _ (W18G.out)⟩ (fun hS => ?_)
            try simp only [Act.put, List.getElem_toArray, List.getElem_cons_succ, List.getElem_cons_zero, List.setIfInBounds_toArray, List.set_cons_zero, List.set_cons_succ]
            refine wpAnyH_done (by kernel_rfl) ?_ _
            exact ⟨A4, c4, _, _, _, _, _, _, _, _, _, _, rfl, HOX.out, W18B.out⟩
          exact AllReadyH.nil
        refine AllReadyH.cons rfl (fun K' hK' => ?_) ?_
        · go_simp
          have hbb := (BB.refl W15).al (.cells #[.slice (some ⟨W0.heap.size, 0, none⟩) 2 2, .slice (some ⟨W10.heap.size, 0, none⟩) 2 2] 25)
          have hnew := heap_alloc_new W15 (.cells #[.slice (some ⟨W0.heap.size, 0, none⟩) 2 2, .slice (some ⟨W10.heap.size, 0, none⟩) 2 2] 25)
          generalize (W15.alloc (.cells #[.slice (some ⟨W0.heap.size, 0, none⟩) 2 2, .slice (some ⟨W10.heap.size, 0, none⟩) 2 2] 25)) = W19 at *
          have W19E := Bx.mk (hbb.heap W15E.out)
          have W19G := Bx.mk (hbb.heap W15G.out)
          have W19B := Bx.mk (W15B.out.trans hbb)
          have W1912 := Bx.mk (hbb.heap W1512.out)
          have W1913 := Bx.mk (hbb.heap W1513.out)
          clear W15E W15G W15B W1512 W1513
          have W1914 := Bx.mk hnew
          clear hbb hnew
          refine hK'.out _ _ ⟨cell_of_row W19 (w.heap.size + 1) 0 _ _ _ (W19G.out), cell_of_row W19 (w.heap.size + 1) 1 _ _ _ (W19G.out)⟩ (fun hS => ?_)
          try simp only [Act.put, List.getElem_toArray, List.getElem_cons_succ, List.getElem_cons_zero, List.setIfInBounds_toArray, List.set_cons_zero, List.set_cons_succ]
          refine wpAnyH_ready (rs := [2]) (by kernel_rfl) (by simp) ?_
          refine AllReadyH.cons rfl (fun K' hK' => ?_) ?_
          · go_simp
            go_at_call 38
            refine (whole_yes (some ⟨w.heap.size, 0, none⟩) 2 W19).mono ?_
            rintro e W20 ⟨⟨A1, c1, A2, c2, rfl, W20V, W20R⟩, hbb⟩
            have W20E := Bx.mk (hbb.heap W19E.out)
            have W20G := Bx.mk (hbb.heap W19G.out)
            have W20B := Bx.mk (W19B.out.trans hbb)
            have W2012 := Bx.mk (hbb.heap W1912.out)
            have W2013 := Bx.mk (hbb.heap W1913.out)
            have W2014 := Bx.mk (hbb.heap W1914.out)
            clear W19E W19G W19B W1912 W1913 W1914
            replace W20V := Bx.mk W20V
            replace W20R := Bx.mk W20R
            clear hbb
            refine hK'.out _ _ ⟨cell_of_row W20 (w.heap.size + 1) 0 _ _ _ (W20G.out), cell_of_row W20 (w.heap.size + 1) 1 _ _ _ (W20G.out)⟩ (fun hS => ?_)
            try simp only [Act.put, List.getElem_toArray, List.getElem_cons_succ, List.getElem_cons_zero, List.setIfInBounds_toArray, List.set_cons_zero, List.set_cons_succ]
            refine wpAnyH_ready (rs := [6]) (by kernel_rfl) (by simp) ?_; refine AllReadyH.cons rfl (fun K' hK' => ?_) AllReadyH.nil
            go_simp
            go_at_call 19
            refine (walks_yes (some ⟨w.heap.size, 0, none⟩) A1 A2 (some ⟨W15.heap.size, 0, none⟩) 2 c1 c2 2 W20 (re_g0 W20E.out) W20V.out W20R.out (rl_pair W2014.out (ri_pair W2012.out) (ri_pair W2013.out))).mono ?_
            rintro e W21 ⟨⟨A4, c4, rfl, hO⟩, hbb⟩
            have W20BZ := Bx.mk W20B.out.size
            have W21E := Bx.mk (hbb.heap W20E.out)
            have W21G := Bx.mk (hbb.heap W20G.out)
            have W21B := Bx.mk (W20B.out.trans hbb)
            clear W20E W20G W20B
            refine hK'.out _ _ ⟨cell_of_row W21 (w.heap.size + 1) 0 _ _ _ (W21G.out), cell_of_row W21 (w.heap.size + 1) 1 _ _ _ (W21G.out)⟩ (fun hS => ?_)
            try simp only [Act.put, List.getElem_toArray, List.getElem_cons_succ, List.getElem_cons_zero, List.setIfInBounds_toArray, List.set_cons_zero, List.set_cons_succ]
            have HOX := Bx.mk (ownW_mono hO W20BZ.out)
            clear hO hbb
            refine wpAnyH_take (i := 7) (v := ?_) rfl (by kernel_rfl) (by kernel_rfl) (by kernel_rfl) (fun _ _ _ h => h) (Or.inl ⟨by kernel_rfl, ?_⟩) (by assumption) ?_; rotate_left 1; (focus intro w' hSw; obtain ⟨hs0, hs1⟩ := hSw; go_simp; try with_reducible rfl); try simp only [Act.put, List.getElem_toArray, List.getElem_cons_succ, List.getElem_cons_zero, List.setIfInBounds_toArray, List.set_cons_zero, List.set_cons_succ]
            refine wpAnyH_take (i := 8) (v := ?_) rfl (by kernel_rfl) (by kernel_rfl) (by kernel_rfl) (fun _ _ _ h => h) (Or.inl ⟨by kernel_rfl, ?_⟩) (by assumption) ?_; rotate_left 1; (focus intro w' hSw; obtain ⟨hs0, hs1⟩ := hSw; go_simp; try with_reducible rfl); try simp only [Act.put, List.getElem_toArray, List.getElem_cons_succ, List.getElem_cons_zero, List.setIfInBounds_toArray, List.set_cons_zero, List.set_cons_succ]
            refine wpAnyH_take (i := 9) (v := ?_) rfl (by kernel_rfl) (by kernel_rfl) (by kernel_rfl) (fun _ _ _ h => h) (Or.inl ⟨by kernel_rfl, ?_⟩) (by assumption) ?_; rotate_left 1; (focus intro w' hSw; obtain ⟨hs0, hs1⟩ := hSw; go_simp; try with_reducible rfl); try simp only [Act.put, List.getElem_toArray, List.getElem_cons_succ, List.getElem_cons_zero, List.setIfInBounds_toArray, List.set_cons_zero, List.set_cons_succ]
            refine wpAnyH_ready (rs := [10]) (by kernel_rfl) (by simp) ?_; refine AllReadyH.cons rfl (fun K' hK' => ?_) AllReadyH.nil
            go_simp
            refine hK'.out _ _ ⟨cell_of_row W21 (w.heap.size + 1) 0 _ _ _ (W21G.out), cell_of_row W21 (w.heap.size + 1) 1 _ _ _ (W21G.out)⟩ (fun hS => ?_)
            try simp only [Act.put, List.getElem_toArray, List.getElem_cons_succ, List.getElem_cons_zero, List.setIfInBounds_toArray, List.set_cons_zero, List.set_cons_succ]
            refine wpAnyH_ready (rs := [11]) (by kernel_rfl) (by simp) ?_; refine AllReadyH.cons rfl (fun K' hK' => ?_) AllReadyH.nil
            go_simp
            refine hK'.out _ _ ⟨cell_of_row W21 (w.heap.size + 1) 0 _ _ _ (W21G.out), cell_of_row W21 (w.heap.size + 1) 1 _ _ _ (W21G.out)⟩ (fun hS => ?_)
            try simp only [Act.put, List.getElem_toArray, List.getElem_cons_succ, List.getElem_cons_zero, List.setIfInBounds_toArray, List.set_cons_zero, List.set_cons_succ]
            refine wpAnyH_done (by kernel_rfl) ?_ _
            exact ⟨A4, c4, _, _, _, _, _, _, _, _, _, _, rfl, HOX.out, W21B.out⟩
          exact AllReadyH.nil
        exact AllReadyH.nil
      exact AllReadyH.nil
    refine AllReadyH.cons rfl (fun K' hK' => ?_) ?_
    · go_simp
      have hbb := (BB.refl W0).al (.cells #[.int .i64 1, .int .i64 3] 3)
      have hnew := heap_alloc_new W0 (.cells #[.int .i64 1, .int .i64 3] 3)
      generalize (W0.alloc (.cells #[.int .i64 1, .int .i64 3] 3)) = W22 at *
      have W22E := Bx.mk (hbb.heap W0E.out)
      have W22G := Bx.mk (hbb.heap W0G.out)
      have W22B := Bx.mk (W0B.out.trans hbb)
      clear W0E W0G W0B
      have W2213 := Bx.mk hnew
      clear hbb hnew
      refine hK'.out _ _ ⟨cell_of_row W22 (w.heap.size + 1) 0 _ _ _ (W22G.out), cell_of_row W22 (w.heap.size + 1) 1 _ _ _ (W22G.out)⟩ (fun hS => ?_)
      try simp only [Act.put, List.getElem_toArray, List.getElem_cons_succ, List.getElem_cons_zero, List.setIfInBounds_toArray, List.set_cons_zero, List.set_cons_succ]
      refine wpAnyH_ready (rs := [2, 3]) (by kernel_rfl) (by simp) ?_
      refine AllReadyH.cons rfl (fun K' hK' => ?_) ?_
      · go_simp
        go_at_call 38
        refine (whole_yes (some ⟨w.heap.size, 0, none⟩) 2 W22).mono ?_
        rintro e W23 ⟨⟨A1, c1, A2, c2, rfl, W23V, W23R⟩, hbb⟩
        have W23E := Bx.mk (hbb.heap W22E.out)
        have W23G := Bx.mk (hbb.heap W22G.out)
        have W23B := Bx.mk (W22B.out.trans hbb)
        have W2313 := Bx.mk (hbb.heap W2213.out)
        clear W22E W22G W22B W2213
        replace W23V := Bx.mk W23V
        replace W23R := Bx.mk W23R
        clear hbb
        refine hK'.out _ _ ⟨cell_of_row W23 (w.heap.size + 1) 0 _ _ _ (W23G.out), cell_of_row W23 (w.heap.size + 1) 1 _ _ _ (W23G.out)⟩ (fun hS => ?_)
        try simp only [Act.put, List.getElem_toArray, List.getElem_cons_succ, List.getElem_cons_zero, List.setIfInBounds_toArray, List.set_cons_zero, List.set_cons_succ]
        refine wpAnyH_ready (rs := [3]) (by kernel_rfl) (by simp) ?_
        refine AllReadyH.cons rfl (fun K' hK' => ?_) ?_
        · go_simp
          have hbb := (BB.refl W23).al (.cells #[.int .i64 0, .int .i64 2] 3)
          have hnew := heap_alloc_new W23 (.cells #[.int .i64 0, .int .i64 2] 3)
          generalize (W23.alloc (.cells #[.int .i64 0, .int .i64 2] 3)) = W24 at *
          have W24E := Bx.mk (hbb.heap W23E.out)
          have W24G := Bx.mk (hbb.heap W23G.out)
          have W24B := Bx.mk (W23B.out.trans hbb)
          have W2413 := Bx.mk (hbb.heap W2313.out)
          have W24V := Bx.mk (hbb.ri W23V.out)
          have W24R := Bx.mk (hbb.ri W23R.out)
          clear W23E W23G W23B W2313 W23V W23R
          have W2412 := Bx.mk hnew
          clear hbb hnew
          refine hK'.out _ _ ⟨cell_of_row W24 (w.heap.size + 1) 0 _ _ _ (W24G.out), cell_of_row W24 (w.heap.size + 1) 1 _ _ _ (W24G.out)⟩ (fun hS => ?_)
          try simp only [Act.put, List.getElem_toArray, List.getElem_cons_succ, List.getElem_cons_zero, List.setIfInBounds_toArray, List.set_cons_zero, List.set_cons_succ]
          refine wpAnyH_ready (rs := [5]) (by kernel_rfl) (by simp) ?_
          refine AllReadyH.cons rfl (fun K' hK' => ?_) ?_
          · go_simp
            have hbb := (BB.refl W24).al (.cells #[.slice (some ⟨W23.heap.size, 0, none⟩) 2 2, .slice (some ⟨W0.heap.size, 0, none⟩) 2 2] 25)
            have hnew := heap_alloc_new W24 (.cells #[.slice (some ⟨W23.heap.size, 0, none⟩) 2 2, .slice (some ⟨W0.heap.size, 0, none⟩) 2 2] 25)
            generalize (W24.alloc (.cells #[.slice (some ⟨W23.heap.size, 0, none⟩) 2 2, .slice (some ⟨W0.heap.size, 0, none⟩) 2 2] 25)) = W25 at *
            have W25E := Bx.mk (hbb.heap W24E.out)
            have W25G := Bx.mk (hbb.heap W24G.out)
            have W25B := Bx.mk (W24B.out.trans hbb)
            have W2513 := Bx.mk (hbb.heap W2413.out)
            have W25V := Bx.mk (hbb.ri W24V.out)
            have W25R := Bx.mk (hbb.ri W24R.out)
            have W2512 := Bx.mk (hbb.heap W2412.out)
            clear W24E W24G W24B W2413 W24V W24R W2412
            have W2514 := Bx.mk hnew
            clear hbb hnew
            refine hK'.out _ _ ⟨cell_of_row W25 (w.heap.size + 1) 0 _ _ _ (W25G.out), cell_of_row W25 (w.heap.size + 1) 1 _ _ _ (W25G.out)⟩ (fun hS => ?_)
            try simp only [Act.put, List.getElem_toArray, List.getElem_cons_succ, List.getElem_cons_zero, List.setIfInBounds_toArray, List.set_cons_zero, List.set_cons_succ]
            refine wpAnyH_ready (rs := [6]) (by kernel_rfl) (by simp) ?_; refine AllReadyH.cons rfl (fun K' hK' => ?_) AllReadyH.nil
            go_simp
            go_at_call 19
            refine (walks_yes (some ⟨w.heap.size, 0, none⟩) A1 A2 (some ⟨W24.heap.size, 0, none⟩) 2 c1 c2 2 W25 (re_g0 W25E.out) W25V.out W25R.out (rl_pair W2514.out (ri_pair W2512.out) (ri_pair W2513.out))).mono ?_
            rintro e W26 ⟨⟨A4, c4, rfl, hO⟩, hbb⟩
            have W25BZ := Bx.mk W25B.out.size
            have W26E := Bx.mk (hbb.heap W25E.out)
            have W26G := Bx.mk (hbb.heap W25G.out)
            have W26B := Bx.mk (W25B.out.trans hbb)
            clear W25E W25G W25B
            refine hK'.out _ _ ⟨cell_of_row W26 (w.heap.size + 1) 0 _ _ _ (W26G.out), cell_of_row W26 (w.heap.size + 1) 1 _ _ _ (W26G.out)⟩ (fun hS => ?_)
            try simp only [Act.put, List.getElem_toArray, List.getElem_cons_succ, List.getElem_cons_zero, List.setIfInBounds_toArray, List.set_cons_zero, List.set_cons_succ]
            have HOX := Bx.mk (ownW_mono hO W25BZ.out)
            clear hO hbb
            refine wpAnyH_take (i := 7) (v := ?_) rfl (by kernel_rfl) (by kernel_rfl) (by kernel_rfl) (fun _ _ _ h => h) (Or.inl ⟨by kernel_rfl, ?_⟩) (by assumption) ?_; rotate_left 1; (focus intro w' hSw; obtain ⟨hs0, hs1⟩ := hSw; go_simp; try with_reducible rfl); try simp only [Act.put, List.getElem_toArray, List.getElem_cons_succ, List.getElem_cons_zero, List.setIfInBounds_toArray, List.set_cons_zero, List.set_cons_succ]
            refine wpAnyH_take (i := 8) (v := ?_) rfl (by kernel_rfl) (by kernel_rfl) (by kernel_rfl) (fun _ _ _ h => h) (Or.inl ⟨by kernel_rfl, ?_⟩) (by assumption) ?_; rotate_left 1; (focus intro w' hSw; obtain ⟨hs0, hs1⟩ := hSw; go_simp; try with_reducible rfl); try simp only [Act.put, List.getElem_toArray, List.getElem_cons_succ, List.getElem_cons_zero, List.setIfInBounds_toArray, List.set_cons_zero, List.set_cons_succ]
            refine wpAnyH_take (i := 9) (v := ?_) rfl (by kernel_rfl) (by kernel_rfl) (by kernel_rfl) (fun _ _ _ h => h) (Or.inl ⟨by kernel_rfl, ?_⟩) (by assumption) ?_; rotate_left 1; (focus intro w' hSw; obtain ⟨hs0, hs1⟩ := hSw; go_simp; try with_reducible rfl); try simp only [Act.put, List.getElem_toArray, List.getElem_cons_succ, List.getElem_cons_zero, List.setIfInBounds_toArray, List.set_cons_zero, List.set_cons_succ]
            refine wpAnyH_ready (rs := [10]) (by kernel_rfl) (by simp) ?_; refine AllReadyH.cons rfl (fun K' hK' => ?_) AllReadyH.nil
            go_simp
            refine hK'.out _ _ ⟨cell_of_row W26 (w.heap.size + 1) 0 _ _ _ (W26G.out), cell_of_row W26 (w.heap.size + 1) 1 _ _ _ (W26G.out)⟩ (fun hS => ?_)
            try simp only [Act.put, List.getElem_toArray, List.getElem_cons_succ, List.getElem_cons_zero, List.setIfInBounds_toArray, List.set_cons_zero, List.set_cons_succ]
            refine wpAnyH_ready (rs := [11]) (by kernel_rfl) (by simp) ?_; refine AllReadyH.cons rfl (fun K' hK' => ?_) AllReadyH.nil
            go_simp
            refine hK'.out _ _ ⟨cell_of_row W26 (w.heap.size + 1) 0 _ _ _ (W26G.out), cell_of_row W26 (w.heap.size + 1) 1 _ _ _ (W26G.out)⟩ (fun hS => ?_)
            try simp only [Act.put, List.getElem_toArray, List.getElem_cons_succ, List.getElem_cons_zero, List.setIfInBounds_toArray, List.set_cons_zero, List.set_cons_succ]
            refine wpAnyH_done (by kernel_rfl) ?_ _
            exact ⟨A4, c4, _, _, _, _, _, _, _, _, _, _, rfl, HOX.out, W26B.out⟩
          exact AllReadyH.nil
        exact AllReadyH.nil
      refine AllReadyH.cons rfl (fun K' hK' => ?_) ?_
      · go_simp
        have hbb := (BB.refl W22).al (.cells #[.int .i64 0, .int .i64 2] 3)
        have hnew := heap_alloc_new W22 (.cells #[.int .i64 0, .int .i64 2] 3)
        generalize (W22.alloc (.cells #[.int .i64 0, .int .i64 2] 3)) = W27 at *
        have W27E := Bx.mk (hbb.heap W22E.out)
        have W27G := Bx.mk (hbb.heap W22G.out)
        have W27B := Bx.mk (W22B.out.trans hbb)
        have W2713 := Bx.mk (hbb.heap W2213.out)
        clear W22E W22G W22B W2213
        have W2712 := Bx.mk hnew
        clear hbb hnew
        refine hK'.out _ _ ⟨cell_of_row W27 (w.heap.size + 1) 0 _ _ _ (W27G.out), cell_of_row W27 (w.heap.size + 1) 1 _ _ _ (W27G.out)⟩ (fun hS => ?_)
        try simp only [Act.put, List.getElem_toArray, List.getElem_cons_succ, List.getElem_cons_zero, List.setIfInBounds_toArray, List.set_cons_zero, List.set_cons_succ]
        refine wpAnyH_ready (rs := [2, 5]) (by kernel_rfl) (by simp) ?_
        refine AllReadyH.cons rfl (fun K' hK' => ?_) ?_
        · go_simp
          go_at_call 38
          refine (whole_yes (some ⟨w.heap.size, 0, none⟩) 2 W27).mono ?_
          rintro e W28 ⟨⟨A1, c1, A2, c2, rfl, W28V, W28R⟩, hbb⟩
          have W28E := Bx.mk (hbb.heap W27E.out)
          have W28G := Bx.mk (hbb.heap W27G.out)
          have W28B := Bx.mk (W27B.out.trans hbb)
          have W2813 := Bx.mk (hbb.heap W2713.out)
          have W2812 := Bx.mk (hbb.heap W2712.out)
          clear W27E W27G W27B W2713 W2712
          replace W28V := Bx.mk W28V
          replace W28R := Bx.mk W28R
          clear hbb
          refine hK'.out _ _ ⟨cell_of_row W28 (w.heap.size + 1) 0 _ _ _ (W28G.out), cell_of_row W28 (w.heap.size + 1) 1 _ _ _ (W28G.out)⟩ (fun hS => ?_)
          try simp only [Act.put, List.getElem_toArray, List.getElem_cons_succ, List.getElem_cons_zero, List.setIfInBounds_toArray, List.set_cons_zero, List.set_cons_succ]
          refine wpAnyH_ready (rs := [5]) (by kernel_rfl) (by simp) ?_
          refine AllReadyH.cons rfl (fun K' hK' => ?_) ?_
          · go_simp
            have hbb := (BB.refl W28).al (.cells #[.slice (some ⟨W22.heap.size, 0, none⟩) 2 2, .slice (some ⟨W0.heap.size, 0, none⟩) 2 2] 25)
            have hnew := heap_alloc_new W28 (.cells #[.slice (some ⟨W22.heap.size, 0, none⟩) 2 2, .slice (some ⟨W0.heap.size, 0, none⟩) 2 2] 25)
            generalize (W28.alloc (.cells #[.slice (some ⟨W22.heap.size, 0, none⟩) 2 2, .slice (some ⟨W0.heap.size, 0, none⟩) 2 2] 25)) = W29 at *
            have W29E := Bx.mk (hbb.heap W28E.out)
            have W29G := Bx.mk (hbb.heap W28G.out)
            have W29B := Bx.mk (W28B.out.trans hbb)
            have W2913 := Bx.mk (hbb.heap W2813.out)
            have W2912 := Bx.mk (hbb.heap W2812.out)
            have W29V := Bx.mk (hbb.ri W28V.out)
            have W29R := Bx.mk (hbb.ri W28R.out)
            clear W28E W28G W28B W2813 W2812 W28V W28R
            have W2914 := Bx.mk hnew
            clear hbb hnew
            refine hK'.out _ _ ⟨cell_of_row W29 (w.heap.size + 1) 0 _ _ _ (W29G.out), cell_of_row W29 (w.heap.size + 1) 1 _ _ _ (W29G.out)⟩ (fun hS => ?_)
            try simp only [Act.put, List.getElem_toArray, List.getElem_cons_succ, List.getElem_cons_zero, List.setIfInBounds_toArray, List.set_cons_zero, List.set_cons_succ]
            refine wpAnyH_ready (rs := [6]) (by kernel_rfl) (by simp) ?_; refine AllReadyH.cons rfl (fun K' hK' => ?_) AllReadyH.nil
            go_simp
            go_at_call 19
            refine (walks_yes (some ⟨w.heap.size, 0, none⟩) A1 A2 (some ⟨W28.heap.size, 0, none⟩) 2 c1 c2 2 W29 (re_g0 W29E.out) W29V.out W29R.out (rl_pair W2914.out (ri_pair W2912.out) (ri_pair W2913.out))).mono ?_
            rintro e W30 ⟨⟨A4, c4, rfl, hO⟩, hbb⟩
            have W29BZ := Bx.mk W29B.out.size
            have W30E := Bx.mk (hbb.heap W29E.out)
            have W30G := Bx.mk (hbb.heap W29G.out)
            have W30B := Bx.mk (W29B.out.trans hbb)
            clear W29E W29G W29B
            refine hK'.out _ _ ⟨cell_of_row W30 (w.heap.size + 1) 0 _ _ _ (W30G.out), cell_of_row W30 (w.heap.size + 1) 1 _ _ _ (W30G.out)⟩ (fun hS => ?_)
            try simp only [Act.put, List.getElem_toArray, List.getElem_cons_succ, List.getElem_cons_zero, List.setIfInBounds_toArray, List.set_cons_zero, List.set_cons_succ]
            have HOX := Bx.mk (ownW_mono hO W29BZ.out)
            clear hO hbb
            refine wpAnyH_take (i := 7) (v := ?_) rfl (by kernel_rfl) (by kernel_rfl) (by kernel_rfl) (fun _ _ _ h => h) (Or.inl ⟨by kernel_rfl, ?_⟩) (by assumption) ?_; rotate_left 1; (focus intro w' hSw; obtain ⟨hs0, hs1⟩ := hSw; go_simp; try with_reducible rfl); try simp only [Act.put, List.getElem_toArray, List.getElem_cons_succ, List.getElem_cons_zero, List.setIfInBounds_toArray, List.set_cons_zero, List.set_cons_succ]
            refine wpAnyH_take (i := 8) (v := ?_) rfl (by kernel_rfl) (by kernel_rfl) (by kernel_rfl) (fun _ _ _ h => h) (Or.inl ⟨by kernel_rfl, ?_⟩) (by assumption) ?_; rotate_left 1; (focus intro w' hSw; obtain ⟨hs0, hs1⟩ := hSw; go_simp; try with_reducible rfl); try simp only [Act.put, List.getElem_toArray, List.getElem_cons_succ, List.getElem_cons_zero, List.setIfInBounds_toArray, List.set_cons_zero, List.set_cons_succ]
            refine wpAnyH_take (i := 9) (v := ?_) rfl (by kernel_rfl) (by kernel_rfl) (by kernel_rfl) (fun _ _ _ h => h) (Or.inl ⟨by kernel_rfl, ?_⟩) (by assumption) ?_; rotate_left 1; (focus intro w' hSw; obtain ⟨hs0, hs1⟩ := hSw; go_simp; try with_reducible rfl); try simp only [Act.put, List.getElem_toArray, List.getElem_cons_succ, List.getElem_cons_zero, List.setIfInBounds_toArray, List.set_cons_zero, List.set_cons_succ]
            refine wpAnyH_ready (rs := [10]) (by kernel_rfl) (by simp) ?_; refine AllReadyH.cons rfl (fun K' hK' => ?_) AllReadyH.nil
            go_simp
            refine hK'.out _ _ ⟨cell_of_row W30 (w.heap.size + 1) 0 _ _ _ (W30G.out), cell_of_row W30 (w.heap.size + 1) 1 _ _ _ (W30G.out)⟩ (fun hS => ?_)
            try simp only [Act.put, List.getElem_toArray, List.getElem_cons_succ, List.getElem_cons_zero, List.setIfInBounds_toArray, List.set_cons_zero, List.set_cons_succ]
            refine wpAnyH_ready (rs := [11]) (by kernel_rfl) (by simp) ?_; refine AllReadyH.cons rfl (fun K' hK' => ?_) AllReadyH.nil
            go_simp
            refine hK'.out _ _ ⟨cell_of_row W30 (w.heap.size + 1) 0 _ _ _ (W30G.out), cell_of_row W30 (w.heap.size + 1) 1 _ _ _ (W30G.out)⟩ (fun hS => ?_)
            try simp only [Act.put, List.getElem_toArray, List.getElem_cons_succ, List.getElem_cons_zero, List.setIfInBounds_toArray, List.set_cons_zero, List.set_cons_succ]
            refine wpAnyH_done (by kernel_rfl) ?_ _
            exact ⟨A4, c4, _, _, _, _, _, _, _, _, _, _, rfl, HOX.out, W30B.out⟩
          exact AllReadyH.nil
        refine AllReadyH.cons rfl (fun K' hK' => ?_) ?_
        · go_simp
          have hbb := (BB.refl W27).al (.cells #[.slice (some ⟨W22.heap.size, 0, none⟩) 2 2, .slice (some ⟨W0.heap.size, 0, none⟩) 2 2] 25)
          have hnew := heap_alloc_new W27 (.cells #[.slice (some ⟨W22.heap.size, 0, none⟩) 2 2, .slice (some ⟨W0.heap.size, 0, none⟩) 2 2] 25)
          generalize (W27.alloc (.cells #[.slice (some ⟨W22.heap.size, 0, none⟩) 2 2, .slice (some ⟨W0.heap.size, 0, none⟩) 2 2] 25)) = W31 at *
          have W31E := Bx.mk (hbb.heap W27E.out)
          have W31G := Bx.mk (hbb.heap W27G.out)
          have W31B := Bx.mk (W27B.out.trans hbb)
          have W3113 := Bx.mk (hbb.heap W2713.out)
          have W3112 := Bx.mk (hbb.heap W2712.out)
          clear W27E W27G W27B W2713 W2712
          have W3114 := Bx.mk hnew
          clear hbb hnew
          refine hK'.out _ _ ⟨cell_of_row W31 (w.heap.size + 1) 0 _ _ _ (W31G.out), cell_of_row W31 (w.heap.size + 1) 1 _ _ _ (W31G.out)⟩ (fun hS => ?_)
          try simp only [Act.put, List.getElem_toArray, List.getElem_cons_succ, List.getElem_cons_zero, List.setIfInBounds_toArray, List.set_cons_zero, List.set_cons_succ]
          refine wpAnyH_ready (rs := [2]) (by kernel_rfl) (by simp) ?_
          refine AllReadyH.cons rfl (fun K' hK' => ?_) ?_
          · go_simp
            go_at_call 38
            refine (whole_yes (some ⟨w.heap.size, 0, none⟩) 2 W31).mono ?_
            rintro e W32 ⟨⟨A1, c1, A2, c2, rfl, W32V, W32R⟩, hbb⟩
            have W32E := Bx.mk (hbb.heap W31E.out)
            have W32G := Bx.mk (hbb.heap W31G.out)
            have W32B := Bx.mk (W31B.out.trans hbb)
            have W3213 := Bx.mk (hbb.heap W3113.out)
            have W3212 := Bx.mk (hbb.heap W3112.out)
            have W3214 := Bx.mk (hbb.heap W3114.out)
            clear W31E W31G W31B W3113 W3112 W3114
            replace W32V := Bx.mk W32V
            replace W32R := Bx.mk W32R
            clear hbb
            refine hK'.out _ _ ⟨cell_of_row W32 (w.heap.size + 1) 0 _ _ _ (W32G.out), cell_of_row W32 (w.heap.size + 1) 1 _ _ _ (W32G.out)⟩ (fun hS => ?_)
            try simp only [Act.put, List.getElem_toArray, List.getElem_cons_succ, List.getElem_cons_zero, List.setIfInBounds_toArray, List.set_cons_zero, List.set_cons_succ]
            refine wpAnyH_ready (rs := [6]) (by kernel_rfl) (by simp) ?_; refine AllReadyH.cons rfl (fun K' hK' => ?_) AllReadyH.nil
            go_simp
            go_at_call 19
            refine (walks_yes (some ⟨w.heap.size, 0, none⟩) A1 A2 (some ⟨W27.heap.size, 0, none⟩) 2 c1 c2 2 W32 (re_g0 W32E.out) W32V.out W32R.out (rl_pair W3214.out (ri_pair W3212.out) (ri_pair W3213.out))).mono ?_
            rintro e W33 ⟨⟨A4, c4, rfl, hO⟩, hbb⟩
            have W32BZ := Bx.mk W32B.out.size
            have W33E := Bx.mk (hbb.heap W32E.out)
            have W33G := Bx.mk (hbb.heap W32G.out)
            have W33B := Bx.mk (W32B.out.trans hbb)
            clear W32E W32G W32B
            refine hK'.out _ _ ⟨cell_of_row W33 (w.heap.size + 1) 0 _ _ _ (W33G.out), cell_of_row W33 (w.heap.size + 1) 1 _ _ _ (W33G.out)⟩ (fun hS => ?_)
            try simp only [Act.put, List.getElem_toArray, List.getElem_cons_succ, List.getElem_cons_zero, List.setIfInBounds_toArray, List.set_cons_zero, List.set_cons_succ]
            have HOX := Bx.mk (ownW_mono hO W32BZ.out)
            clear hO hbb
            refine wpAnyH_take (i := 7) (v := ?_) rfl (by kernel_rfl) (by kernel_rfl) (by kernel_rfl) (fun _ _ _ h => h) (Or.inl ⟨by kernel_rfl, ?_⟩) (by assumption) ?_; rotate_left 1; (focus intro w' hSw; obtain ⟨hs0, hs1⟩ := hSw; go_simp; try with_reducible rfl); try simp only [Act.put, List.getElem_toArray, List.getElem_cons_succ, List.getElem_cons_zero, List.setIfInBounds_toArray, List.set_cons_zero, List.set_cons_succ]
            refine wpAnyH_take (i := 8) (v := ?_) rfl (by kernel_rfl) (by kernel_rfl) (by kernel_rfl) (fun _ _ _ h => h) (Or.inl ⟨by kernel_rfl, ?_⟩) (by assumption) ?_; rotate_left 1; (focus intro w' hSw; obtain ⟨hs0, hs1⟩ := hSw; go_simp; try with_reducible rfl); try simp only [Act.put, List.getElem_toArray, List.getElem_cons_succ, List.getElem_cons_zero, List.setIfInBounds_toArray, List.set_cons_zero, List.set_cons_succ]
            refine wpAnyH_take (i := 9) (v := ?_) rfl (by kernel_rfl) (by kernel_rfl) (by kernel_rfl) (fun _ _ _ h => h) (Or.inl ⟨by kernel_rfl, ?_⟩) (by assumption) ?_; rotate_left 1; (focus intro w' hSw; obtain ⟨hs0, hs1⟩ := hSw; go_simp; try with_reducible rfl); try simp only [Act.put, List.getElem_toArray, List.getElem_cons_succ, List.getElem_cons_zero, List.setIfInBounds_toArray, List.set_cons_zero, List.set_cons_succ]
            refine wpAnyH_ready (rs := [10]) (by kernel_rfl) (by simp) ?_; refine AllReadyH.cons rfl (fun K' hK' => ?_) AllReadyH.nil
            go_simp
            refine hK'.out _ _ ⟨cell_of_row W33 (w.heap.size + 1) 0 _ _ _ (W33G.out), cell_of_row W33 (w.heap.size + 1) 1 _ _ _ (W33G.out)⟩ (fun hS => ?_)
            try simp only [Act.put, List.getElem_toArray, List.getElem_cons_succ, List.getElem_cons_zero, List.setIfInBounds_toArray, List.set_cons_zero, List.set_cons_succ]
            refine wpAnyH_ready (rs := [11]) (by kernel_rfl) (by simp) ?_; refine AllReadyH.cons rfl (fun K' hK' => ?_) AllReadyH.nil
            go_simp
            refine hK'.out _ _ ⟨cell_of_row W33 (w.heap.size + 1) 0 _ _ _ (W33G.out), cell_of_row W33 (w.heap.size + 1) 1 _ _ _ (W33G.out)⟩ (fun hS => ?_)
            try simp only [Act.put, List.getElem_toArray, List.getElem_cons_succ, List.getElem_cons_zero, List.setIfInBounds_toArray, List.set_cons_zero, List.set_cons_succ]
            refine wpAnyH_done (by kernel_rfl) ?_ _
            exact ⟨A4, c4, _, _, _, _, _, _, _, _, _, _, rfl, HOX.out, W33B.out⟩
          exact AllReadyH.nil
        exact AllReadyH.nil
      exact AllReadyH.nil
    exact AllReadyH.nil
  · cases e with
    | normal =>
      obtain ⟨A, c, v8, v9, v10, v11, v12, v13, v14, v15, v16, v17, rfl, hO, hB⟩ := h
      obtain ⟨g9, cap9, ⟨k0, a0, m0, d0⟩, hv9, -, hgb, hk0, hk1, hw0, hm0, hr0, -⟩ := hO.get (j := 0) (by decide)
      obtain ⟨g9', cap9', ⟨k0', a1, m1, d1⟩, hv9', -, -, hl0, hl1, hw1, hm1, hr1, -⟩ := hO.get (j := 1) (by decide)
      dsimp only at hk0 hk1 hw0 hm0 hr0 hl0 hl1 hw1 hm1 hr1
      cases hv9
      cases hv9'
      have hr0 : RI W a0 m0 [0, 3] := hr0
      have hr1 : RI W a1 m1 [1, 2] := hr1
      have hd0 := hr0.len
      have hd1 := hr1.len
      simp only [List.length_cons, List.length_nil] at hd0 hd1
      subst hd0
      subst hd1
      have hEd : W.drew.heap[w.heap.size]? = some (.cells #[.int .i64 0, .int .i64 1, .int .i64 0, .int .i64 1] 70) := hB.heap HE0.out
      have hGd : W.drew.heap[w.heap.size + 1]? = some (.cells #[.int .i64 2, .slice (some ⟨w.heap.size, 0, none⟩) 2 2] 24) := hB.heap HG0.out
      have hDd : BB W W.drew := (BB.refl W).drawn 1
      have hBd : BB wa W.drew := hB.trans hDd
      have hq0 : W.drew.cell? ⟨g9, 1, none⟩ = some (.slice a0 2 d0) := hk1
      have hq1 : W.drew.cell? ⟨g9, 3, none⟩ = some (.slice a1 2 d1) := hl1
      have hr0d := hDd.ri hr0
      have hr1d := hDd.ri hr1
      clear hk0 hk1 hl0 hl1 hw0 hw1 hO hr0 hr1 hB
      go_wp2
      refine Code.wp_mono (Q := fun e a W => match e with | .normal => a.tmps.getD 0 undef = .bool true ∧ a.defers = [] ∧ BB wa W | _ => False) (fun e a W h => ?_) ?_
      rotate_left 1
      · refine wp_region_held_drew (S := fun w' => w'.cell? ⟨w.heap.size + 1, 0, none⟩ = some (.int .i64 2) ∧ w'.cell? ⟨w.heap.size + 1, 1, none⟩ = some (.slice (some ⟨w.heap.size, 0, none⟩) 2 2) ∧ w'.cell? ⟨g9, 1, none⟩ = some (.slice a0 2 d0) ∧ w'.cell? ⟨g9, 3, none⟩ = some (.slice a1 2 d1)) rfl ⟨cell_of_row W.drew (w.heap.size + 1) 0 _ _ _ hGd, cell_of_row W.drew (w.heap.size + 1) 1 _ _ _ hGd, hq0, hq1⟩ (fun hS => ?_)
        generalize W.drew = X0 at *
        have X0G := Bx.mk hGd
        have X0E := Bx.mk hEd
        have X0B := Bx.mk hBd
        have X0p := Bx.mk hq0
        have X0q := Bx.mk hq1
        have X0x := Bx.mk hr0d
        have X0y := Bx.mk hr1d
        clear hGd hEd hBd hDd hq0 hq1 hr0d hr1d
        refine wpAnyH_take (i := 0) (v := ?_) rfl (by kernel_rfl) (by kernel_rfl) (by kernel_rfl) (fun _ _ _ h => h) (Or.inl ⟨by kernel_rfl, ?_⟩) (by assumption) ?_; rotate_left 1; (focus intro w' hSw; obtain ⟨hs0, hs1, hs2, hs3⟩ := hSw; go_simp; try with_reducible rfl); try simp only [Act.put, List.getElem_toArray, List.getElem_cons_succ, List.getElem_cons_zero, List.setIfInBounds_toArray, List.set_cons_zero, List.set_cons_succ]
        refine wpAnyH_take (i := 1) (v := ?_) rfl (by kernel_rfl) (by kernel_rfl) (by kernel_rfl) (fun _ _ _ h => h) (Or.inl ⟨by kernel_rfl, ?_⟩) (by assumption) ?_; rotate_left 1; (focus intro w' hSw; obtain ⟨hs0, hs1, hs2, hs3⟩ := hSw; go_simp; try with_reducible rfl); try simp only [Act.put, List.getElem_toArray, List.getElem_cons_succ, List.getElem_cons_zero, List.setIfInBounds_toArray, List.set_cons_zero, List.set_cons_succ]
        refine wpAnyH_take (i := 2) (v := ?_) rfl (by kernel_rfl) (by kernel_rfl) (by kernel_rfl) (fun _ _ _ h => h) (Or.inl ⟨by kernel_rfl, ?_⟩) (by assumption) ?_; rotate_left 1; (focus intro w' hSw; obtain ⟨hs0, hs1, hs2, hs3⟩ := hSw; go_simp; try with_reducible rfl); try simp only [Act.put, List.getElem_toArray, List.getElem_cons_succ, List.getElem_cons_zero, List.setIfInBounds_toArray, List.set_cons_zero, List.set_cons_succ]
        refine wpAnyH_take (i := 3) (v := ?_) rfl (by kernel_rfl) (by kernel_rfl) (by kernel_rfl) (fun _ _ _ h => h) (Or.inl ⟨by kernel_rfl, ?_⟩) (by assumption) ?_; rotate_left 1; (focus intro w' hSw; obtain ⟨hs0, hs1, hs2, hs3⟩ := hSw; go_simp; try with_reducible rfl); try simp only [Act.put, List.getElem_toArray, List.getElem_cons_succ, List.getElem_cons_zero, List.setIfInBounds_toArray, List.set_cons_zero, List.set_cons_succ]
        refine wpAnyH_take (i := 4) (v := ?_) rfl (by kernel_rfl) (by kernel_rfl) (by kernel_rfl) (fun _ _ _ h => h) (Or.inl ⟨by kernel_rfl, ?_⟩) (by assumption) ?_; rotate_left 1; (focus intro w' hSw; obtain ⟨hs0, hs1, hs2, hs3⟩ := hSw; go_simp; try with_reducible rfl); try simp only [Act.put, List.getElem_toArray, List.getElem_cons_succ, List.getElem_cons_zero, List.setIfInBounds_toArray, List.set_cons_zero, List.set_cons_succ]
        refine wpAnyH_take (i := 5) (v := ?_) rfl (by kernel_rfl) (by kernel_rfl) (by kernel_rfl) (fun _ _ _ h => h) (Or.inl ⟨by kernel_rfl, ?_⟩) (by assumption) ?_; rotate_left 1; (focus intro w' hSw; obtain ⟨hs0, hs1, hs2, hs3⟩ := hSw; go_simp; try with_reducible rfl); try simp only [Act.put, List.getElem_toArray, List.getElem_cons_succ, List.getElem_cons_zero, List.setIfInBounds_toArray, List.set_cons_zero, List.set_cons_succ]
        refine wpAnyH_take (i := 6) (v := ?_) rfl (by kernel_rfl) (by kernel_rfl) (by kernel_rfl) (fun _ _ _ h => h) (Or.inl ⟨by kernel_rfl, ?_⟩) (by assumption) ?_; rotate_left 1; (focus intro w' hSw; obtain ⟨hs0, hs1, hs2, hs3⟩ := hSw; go_simp; try with_reducible rfl); try simp only [Act.put, List.getElem_toArray, List.getElem_cons_succ, List.getElem_cons_zero, List.setIfInBounds_toArray, List.set_cons_zero, List.set_cons_succ]
        refine wpAnyH_take (i := 7) (v := ?_) rfl (by kernel_rfl) (by kernel_rfl) (by kernel_rfl) (fun _ _ _ h => h) (Or.inl ⟨by kernel_rfl, ?_⟩) (by assumption) ?_; rotate_left 1; (focus intro w' hSw; obtain ⟨hs0, hs1, hs2, hs3⟩ := hSw; go_simp; try with_reducible rfl); try simp only [Act.put, List.getElem_toArray, List.getElem_cons_succ, List.getElem_cons_zero, List.setIfInBounds_toArray, List.set_cons_zero, List.set_cons_succ]
        refine wpAnyH_take (i := 8) (v := ?_) rfl (by kernel_rfl) (by kernel_rfl) (by kernel_rfl) (fun _ _ _ h => h) (Or.inl ⟨by kernel_rfl, ?_⟩) (by assumption) ?_; rotate_left 1; (focus intro w' hSw; obtain ⟨hs0, hs1, hs2, hs3⟩ := hSw; go_simp; try with_reducible rfl); try simp only [Act.put, List.getElem_toArray, List.getElem_cons_succ, List.getElem_cons_zero, List.setIfInBounds_toArray, List.set_cons_zero, List.set_cons_succ]
        refine wpAnyH_take (i := 9) (v := ?_) rfl (by kernel_rfl) (by kernel_rfl) (by kernel_rfl) (fun _ _ _ h => h) (Or.inl ⟨by kernel_rfl, ?_⟩) (by assumption) ?_; rotate_left 1; (focus intro w' hSw; obtain ⟨hs0, hs1, hs2, hs3⟩ := hSw; go_simp; try with_reducible rfl); try simp only [Act.put, List.getElem_toArray, List.getElem_cons_succ, List.getElem_cons_zero, List.setIfInBounds_toArray, List.set_cons_zero, List.set_cons_succ]
        refine wpAnyH_take (i := 10) (v := ?_) rfl (by kernel_rfl) (by kernel_rfl) (by kernel_rfl) (fun _ _ _ h => h) (Or.inl ⟨by kernel_rfl, ?_⟩) (by assumption) ?_; rotate_left 1; (focus intro w' hSw; obtain ⟨hs0, hs1, hs2, hs3⟩ := hSw; go_simp; try with_reducible rfl); try simp only [Act.put, List.getElem_toArray, List.getElem_cons_succ, List.getElem_cons_zero, List.setIfInBounds_toArray, List.set_cons_zero, List.set_cons_succ]
        refine wpAnyH_take (i := 11) (v := ?_) rfl (by kernel_rfl) (by kernel_rfl) (by kernel_rfl) (fun _ _ _ h => h) (Or.inl ⟨by kernel_rfl, ?_⟩) (by assumption) ?_; rotate_left 1; (focus intro w' hSw; obtain ⟨hs0, hs1, hs2, hs3⟩ := hSw; go_simp; try with_reducible rfl); try simp only [Act.put, List.getElem_toArray, List.getElem_cons_succ, List.getElem_cons_zero, List.setIfInBounds_toArray, List.set_cons_zero, List.set_cons_succ]
        refine wpAnyH_ready (rs := [12]) (by kernel_rfl) (by simp) ?_; refine AllReadyH.cons rfl (fun K' hK' => ?_) AllReadyH.nil
        go_simp
        have hbb := (BB.refl X0).al (.cells #[.int .i64 0, .int .i64 3] 3)
        have hnew := heap_alloc_new X0 (.cells #[.int .i64 0, .int .i64 3] 3)
        generalize (X0.alloc (.cells #[.int .i64 0, .int .i64 3] 3)) = W34 at *
        have W34p := Bx.mk (hbb.cell X0p.out)
        have W34q := Bx.mk (hbb.cell X0q.out)
        clear X0p X0q
        have W34E := Bx.mk (hbb.heap X0E.out)
        have W34G := Bx.mk (hbb.heap X0G.out)
        have W34B := Bx.mk (X0B.out.trans hbb)
        have W34x := Bx.mk (hbb.ri X0x.out)
        have W34y := Bx.mk (hbb.ri X0y.out)
        clear X0E X0G X0B X0x X0y
        have W34e := Bx.mk hnew
        clear hbb hnew
        refine hK'.out _ _ ⟨cell_of_row W34 (w.heap.size + 1) 0 _ _ _ W34G.out, cell_of_row W34 (w.heap.size + 1) 1 _ _ _ W34G.out, W34p.out, W34q.out⟩ (fun hS => ?_)
        try simp only [Act.put, List.getElem_toArray, List.getElem_cons_succ, List.getElem_cons_zero, List.setIfInBounds_toArray, List.set_cons_zero, List.set_cons_succ]
        refine wpAnyH_ready (rs := [13]) (by kernel_rfl) (by simp) ?_; refine AllReadyH.cons rfl (fun K' hK' => ?_) AllReadyH.nil
        go_simp
        go_at_call 16
        refine (equal_yes [0, 3] a0 (some ⟨X0.heap.size, 0, none⟩) 2 d0 2 2 W34 W34x.out (ri_pair W34e.out)).mono ?_
        rintro e W35 ⟨rfl, hbb⟩
        have W35p := Bx.mk (hbb.cell W34p.out)
        have W35q := Bx.mk (hbb.cell W34q.out)
        clear W34p W34q
        have W35E := Bx.mk (hbb.heap W34E.out)
        have W35G := Bx.mk (hbb.heap W34G.out)
        have W35B := Bx.mk (W34B.out.trans hbb)
        have W35x := Bx.mk (hbb.ri W34x.out)
        have W35y := Bx.mk (hbb.ri W34y.out)
        have W35e := Bx.mk (hbb.heap W34e.out)
        clear W34E W34G W34B W34x W34y W34e
        clear hbb
        refine hK'.out _ _ ⟨cell_of_row W35 (w.heap.size + 1) 0 _ _ _ W35G.out, cell_of_row W35 (w.heap.size + 1) 1 _ _ _ W35G.out, W35p.out, W35q.out⟩ (fun hS => ?_)
        try simp only [Act.put, List.getElem_toArray, List.getElem_cons_succ, List.getElem_cons_zero, List.setIfInBounds_toArray, List.set_cons_zero, List.set_cons_succ]
        refine wpAnyH_take (i := 14) (v := ?_) rfl (by kernel_rfl) (by kernel_rfl) (by kernel_rfl) (fun _ _ _ h => h) (Or.inl ⟨by kernel_rfl, ?_⟩) (by assumption) ?_; rotate_left 1; (focus intro w' hSw; obtain ⟨hs0, hs1, hs2, hs3⟩ := hSw; go_simp; try with_reducible rfl); try simp only [Act.put, List.getElem_toArray, List.getElem_cons_succ, List.getElem_cons_zero, List.setIfInBounds_toArray, List.set_cons_zero, List.set_cons_succ]
        refine wpAnyH_take (i := 15) (v := ?_) rfl (by kernel_rfl) (by kernel_rfl) (by kernel_rfl) (fun _ _ _ h => h) (Or.inl ⟨by kernel_rfl, ?_⟩) (by assumption) ?_; rotate_left 1; (focus intro w' hSw; obtain ⟨hs0, hs1, hs2, hs3⟩ := hSw; go_simp; try with_reducible rfl); try simp only [Act.put, List.getElem_toArray, List.getElem_cons_succ, List.getElem_cons_zero, List.setIfInBounds_toArray, List.set_cons_zero, List.set_cons_succ]
        refine wpAnyH_take (i := 16) (v := ?_) rfl (by kernel_rfl) (by kernel_rfl) (by kernel_rfl) (fun _ _ _ h => h) (Or.inl ⟨by kernel_rfl, ?_⟩) (by assumption) ?_; rotate_left 1; (focus intro w' hSw; obtain ⟨hs0, hs1, hs2, hs3⟩ := hSw; go_simp; try with_reducible rfl); try simp only [Act.put, List.getElem_toArray, List.getElem_cons_succ, List.getElem_cons_zero, List.setIfInBounds_toArray, List.set_cons_zero, List.set_cons_succ]
        refine wpAnyH_take (i := 17) (v := ?_) rfl (by kernel_rfl) (by kernel_rfl) (by kernel_rfl) (fun _ _ _ h => h) (Or.inl ⟨by kernel_rfl, ?_⟩) (by assumption) ?_; rotate_left 1; (focus intro w' hSw; obtain ⟨hs0, hs1, hs2, hs3⟩ := hSw; go_simp; try with_reducible rfl); try simp only [Act.put, List.getElem_toArray, List.getElem_cons_succ, List.getElem_cons_zero, List.setIfInBounds_toArray, List.set_cons_zero, List.set_cons_succ]
        refine wpAnyH_take (i := 18) (v := ?_) rfl (by kernel_rfl) (by kernel_rfl) (by kernel_rfl) (fun _ _ _ h => h) (Or.inl ⟨by kernel_rfl, ?_⟩) (by assumption) ?_; rotate_left 1; (focus intro w' hSw; obtain ⟨hs0, hs1, hs2, hs3⟩ := hSw; go_simp; try with_reducible rfl); try simp only [Act.put, List.getElem_toArray, List.getElem_cons_succ, List.getElem_cons_zero, List.setIfInBounds_toArray, List.set_cons_zero, List.set_cons_succ]
        refine wpAnyH_take (i := 19) (v := ?_) rfl (by kernel_rfl) (by kernel_rfl) (by kernel_rfl) (fun _ _ _ h => h) (Or.inl ⟨by kernel_rfl, ?_⟩) (by assumption) ?_; rotate_left 1; (focus intro w' hSw; obtain ⟨hs0, hs1, hs2, hs3⟩ := hSw; go_simp; try with_reducible rfl); try simp only [Act.put, List.getElem_toArray, List.getElem_cons_succ, List.getElem_cons_zero, List.setIfInBounds_toArray, List.set_cons_zero, List.set_cons_succ]
        refine wpAnyH_ready (rs := [20]) (by kernel_rfl) (by simp) ?_; refine AllReadyH.cons rfl (fun K' hK' => ?_) AllReadyH.nil
        go_simp
        have hbb := (BB.refl W35).al (.cells #[.int .i64 1, .int .i64 2] 3)
        have hnew := heap_alloc_new W35 (.cells #[.int .i64 1, .int .i64 2] 3)
        generalize (W35.alloc (.cells #[.int .i64 1, .int .i64 2] 3)) = W36 at *
        have W36p := Bx.mk (hbb.cell W35p.out)
        have W36q := Bx.mk (hbb.cell W35q.out)
        clear W35p W35q
        have W36E := Bx.mk (hbb.heap W35E.out)
        have W36G := Bx.mk (hbb.heap W35G.out)
        have W36B := Bx.mk (W35B.out.trans hbb)
        have W36x := Bx.mk (hbb.ri W35x.out)
        have W36y := Bx.mk (hbb.ri W35y.out)
        have W36e := Bx.mk (hbb.heap W35e.out)
        clear W35E W35G W35B W35x W35y W35e
        have W36h := Bx.mk hnew
        clear hbb hnew
        refine hK'.out _ _ ⟨cell_of_row W36 (w.heap.size + 1) 0 _ _ _ W36G.out, cell_of_row W36 (w.heap.size + 1) 1 _ _ _ W36G.out, W36p.out, W36q.out⟩ (fun hS => ?_)
        try simp only [Act.put, List.getElem_toArray, List.getElem_cons_succ, List.getElem_cons_zero, List.setIfInBounds_toArray, List.set_cons_zero, List.set_cons_succ]
        refine wpAnyH_ready (rs := [21]) (by kernel_rfl) (by simp) ?_; refine AllReadyH.cons rfl (fun K' hK' => ?_) AllReadyH.nil
        go_simp
        go_at_call 16
        refine (equal_yes [1, 2] a1 (some ⟨W35.heap.size, 0, none⟩) 2 d1 2 2 W36 W36y.out (ri_pair W36h.out)).mono ?_
        rintro e W37 ⟨rfl, hbb⟩
        have W37p := Bx.mk (hbb.cell W36p.out)
        have W37q := Bx.mk (hbb.cell W36q.out)
        clear W36p W36q
        have W37E := Bx.mk (hbb.heap W36E.out)
        have W37G := Bx.mk (hbb.heap W36G.out)
        have W37B := Bx.mk (W36B.out.trans hbb)
        have W37x := Bx.mk (hbb.ri W36x.out)
        have W37y := Bx.mk (hbb.ri W36y.out)
        have W37e := Bx.mk (hbb.heap W36e.out)
        have W37h := Bx.mk (hbb.heap W36h.out)
        clear W36E W36G W36B W36x W36y W36e W36h
        clear hbb
        refine hK'.out _ _ ⟨cell_of_row W37 (w.heap.size + 1) 0 _ _ _ W37G.out, cell_of_row W37 (w.heap.size + 1) 1 _ _ _ W37G.out, W37p.out, W37q.out⟩ (fun hS => ?_)
        try simp only [Act.put, List.getElem_toArray, List.getElem_cons_succ, List.getElem_cons_zero, List.setIfInBounds_toArray, List.set_cons_zero, List.set_cons_succ]
        refine wpAnyH_take (i := 22) (v := ?_) rfl (by kernel_rfl) (by kernel_rfl) (by kernel_rfl) (fun _ _ _ h => h) (Or.inl ⟨by kernel_rfl, ?_⟩) (by assumption) ?_; rotate_left 1; (focus intro w' hSw; obtain ⟨hs0, hs1, hs2, hs3⟩ := hSw; go_simp; try with_reducible rfl); try simp only [Act.put, List.getElem_toArray, List.getElem_cons_succ, List.getElem_cons_zero, List.setIfInBounds_toArray, List.set_cons_zero, List.set_cons_succ]
        refine wpAnyH_take (i := 23) (v := ?_) rfl (by kernel_rfl) (by kernel_rfl) (by kernel_rfl) (fun _ _ _ h => h) (Or.inl ⟨by kernel_rfl, ?_⟩) (by assumption) ?_; rotate_left 1; (focus intro w' hSw; obtain ⟨hs0, hs1, hs2, hs3⟩ := hSw; go_simp; try with_reducible rfl); try simp only [Act.put, List.getElem_toArray, List.getElem_cons_succ, List.getElem_cons_zero, List.setIfInBounds_toArray, List.set_cons_zero, List.set_cons_succ]
        refine wpAnyH_take (i := 24) (v := ?_) rfl (by kernel_rfl) (by kernel_rfl) (by kernel_rfl) (fun _ _ _ h => h) (Or.inl ⟨by kernel_rfl, ?_⟩) (by assumption) ?_; rotate_left 1; (focus intro w' hSw; obtain ⟨hs0, hs1, hs2, hs3⟩ := hSw; go_simp; try with_reducible rfl); try simp only [Act.put, List.getElem_toArray, List.getElem_cons_succ, List.getElem_cons_zero, List.setIfInBounds_toArray, List.set_cons_zero, List.set_cons_succ]
        refine wpAnyH_take (i := 25) (v := ?_) rfl (by kernel_rfl) (by kernel_rfl) (by kernel_rfl) (fun _ _ _ h => h) (Or.inl ⟨by kernel_rfl, ?_⟩) (by assumption) ?_; rotate_left 1; (focus intro w' hSw; obtain ⟨hs0, hs1, hs2, hs3⟩ := hSw; go_simp; try with_reducible rfl); try simp only [Act.put, List.getElem_toArray, List.getElem_cons_succ, List.getElem_cons_zero, List.setIfInBounds_toArray, List.set_cons_zero, List.set_cons_succ]
        refine wpAnyH_ready (rs := [26, 27, 28]) (by kernel_rfl) (by simp) ?_
        refine AllReadyH.cons rfl (fun K' hK' => ?_) ?_
        · go_simp
          go_at_call 38
          refine (whole_yes (some ⟨w.heap.size, 0, none⟩) 2 W37).mono ?_
          rintro e W38 ⟨⟨A1, c1, A2, c2, rfl, W38V, W38R⟩, hbb⟩
          have W38p := Bx.mk (hbb.cell W37p.out)
          have W38q := Bx.mk (hbb.cell W37q.out)
          clear W37p W37q
          have W38E := Bx.mk (hbb.heap W37E.out)
          have W38G := Bx.mk (hbb.heap W37G.out)
          have W38B := Bx.mk (W37B.out.trans hbb)
          clear W37E W37G W37B
          replace W38V := Bx.mk W38V
          replace W38R := Bx.mk W38R
          clear hbb
          refine hK'.out _ _ ⟨cell_of_row W38 (w.heap.size + 1) 0 _ _ _ W38G.out, cell_of_row W38 (w.heap.size + 1) 1 _ _ _ W38G.out, W38p.out, W38q.out⟩ (fun hS => ?_)
          try simp only [Act.put, List.getElem_toArray, List.getElem_cons_succ, List.getElem_cons_zero, List.setIfInBounds_toArray, List.set_cons_zero, List.set_cons_succ]
          refine wpAnyH_ready (rs := [27, 28]) (by kernel_rfl) (by simp) ?_
          refine AllReadyH.cons rfl (fun K' hK' => ?_) ?_
          · go_simp
            have hbb := (BB.refl W38).al (.cells #[.int .i64 0, .int .i64 2] 3)
            have hnew := heap_alloc_new W38 (.cells #[.int .i64 0, .int .i64 2] 3)
            generalize (W38.alloc (.cells #[.int .i64 0, .int .i64 2] 3)) = W39 at *
            have W39p := Bx.mk (hbb.cell W38p.out)
            have W39q := Bx.mk (hbb.cell W38q.out)
            clear W38p W38q
            have W39E := Bx.mk (hbb.heap W38E.out)
            have W39G := Bx.mk (hbb.heap W38G.out)
            have W39B := Bx.mk (W38B.out.trans hbb)
            have W39V := Bx.mk (hbb.ri W38V.out)
            have W39R := Bx.mk (hbb.ri W38R.out)
            clear W38E W38G W38B W38V W38R
            have W3912 := Bx.mk hnew
            clear hbb hnew
            refine hK'.out _ _ ⟨cell_of_row W39 (w.heap.size + 1) 0 _ _ _ W39G.out, cell_of_row W39 (w.heap.size + 1) 1 _ _ _ W39G.out, W39p.out, W39q.out⟩ (fun hS => ?_)
            try simp only [Act.put, List.getElem_toArray, List.getElem_cons_succ, List.getElem_cons_zero, List.setIfInBounds_toArray, List.set_cons_zero, List.set_cons_succ]
            refine wpAnyH_ready (rs := [28]) (by kernel_rfl) (by simp) ?_
            refine AllReadyH.cons rfl (fun K' hK' => ?_) ?_
            · go_simp
              have hbb := (BB.refl W39).al (.cells #[.int .i64 1, .int .i64 3] 3)
              have hnew := heap_alloc_new W39 (.cells #[.int .i64 1, .int .i64 3] 3)
              generalize (W39.alloc (.cells #[.int .i64 1, .int .i64 3] 3)) = W40 at *
              have W40p := Bx.mk (hbb.cell W39p.out)
              have W40q := Bx.mk (hbb.cell W39q.out)
              clear W39p W39q
              have W40E := Bx.mk (hbb.heap W39E.out)
              have W40G := Bx.mk (hbb.heap W39G.out)
              have W40B := Bx.mk (W39B.out.trans hbb)
              have W40V := Bx.mk (hbb.ri W39V.out)
              have W40R := Bx.mk (hbb.ri W39R.out)
              have W4012 := Bx.mk (hbb.heap W3912.out)
              clear W39E W39G W39B W39V W39R W3912
              have W4013 := Bx.mk hnew
              clear hbb hnew
              refine hK'.out _ _ ⟨cell_of_row W40 (w.heap.size + 1) 0 _ _ _ W40G.out, cell_of_row W40 (w.heap.size + 1) 1 _ _ _ W40G.out, W40p.out, W40q.out⟩ (fun hS => ?_)
              try simp only [Act.put, List.getElem_toArray, List.getElem_cons_succ, List.getElem_cons_zero, List.setIfInBounds_toArray, List.set_cons_zero, List.set_cons_succ]
              refine wpAnyH_ready (rs := [29]) (by kernel_rfl) (by simp) ?_
              refine AllReadyH.cons rfl (fun K' hK' => ?_) ?_
              · go_simp
                have hbb := (BB.refl W40).al (.cells #[.slice (some ⟨W38.heap.size, 0, none⟩) 2 2, .slice (some ⟨W39.heap.size, 0, none⟩) 2 2] 25)
                have hnew := heap_alloc_new W40 (.cells #[.slice (some ⟨W38.heap.size, 0, none⟩) 2 2, .slice (some ⟨W39.heap.size, 0, none⟩) 2 2] 25)
                generalize (W40.alloc (.cells #[.slice (some ⟨W38.heap.size, 0, none⟩) 2 2, .slice (some ⟨W39.heap.size, 0, none⟩) 2 2] 25)) = W41 at *
                have W41p := Bx.mk (hbb.cell W40p.out)
                have W41q := Bx.mk (hbb.cell W40q.out)
                clear W40p W40q
                have W41E := Bx.mk (hbb.heap W40E.out)
                have W41G := Bx.mk (hbb.heap W40G.out)
                have W41B := Bx.mk (W40B.out.trans hbb)
                have W41V := Bx.mk (hbb.ri W40V.out)
                have W41R := Bx.mk (hbb.ri W40R.out)
                have W4112 := Bx.mk (hbb.heap W4012.out)
                have W4113 := Bx.mk (hbb.heap W4013.out)
                clear W40E W40G W40B W40V W40R W4012 W4013
                have W4114 := Bx.mk hnew
                clear hbb hnew
                refine hK'.out _ _ ⟨cell_of_row W41 (w.heap.size + 1) 0 _ _ _ W41G.out, cell_of_row W41 (w.heap.size + 1) 1 _ _ _ W41G.out, W41p.out, W41q.out⟩ (fun hS => ?_)
                try simp only [Act.put, List.getElem_toArray, List.getElem_cons_succ, List.getElem_cons_zero, List.setIfInBounds_toArray, List.set_cons_zero, List.set_cons_succ]
                refine wpAnyH_ready (rs := [30]) (by kernel_rfl) (by simp) ?_; refine AllReadyH.cons rfl (fun K' hK' => ?_) AllReadyH.nil
                go_simp
                go_at_call 15
                refine (sphere_yes (some ⟨w.heap.size, 0, none⟩) A1 A2 (some ⟨W40.heap.size, 0, none⟩) 2 c1 c2 2 W41 (re_g0 W41E.out) W41V.out W41R.out (rl_pair W4114.out (ri_pair W4112.out) (ri_pair W4113.out))).mono ?_
                rintro e W42 ⟨rfl, hbb⟩
                have W42p := Bx.mk (hbb.cell W41p.out)
                have W42q := Bx.mk (hbb.cell W41q.out)
                clear W41p W41q
                have W42E := Bx.mk (hbb.heap W41E.out)
                have W42G := Bx.mk (hbb.heap W41G.out)
                have W42B := Bx.mk (W41B.out.trans hbb)
                clear W41E W41G W41B
                refine hK'.out _ _ ⟨cell_of_row W42 (w.heap.size + 1) 0 _ _ _ W42G.out, cell_of_row W42 (w.heap.size + 1) 1 _ _ _ W42G.out, W42p.out, W42q.out⟩ (fun hS => ?_)
                try simp only [Act.put, List.getElem_toArray, List.getElem_cons_succ, List.getElem_cons_zero, List.setIfInBounds_toArray, List.set_cons_zero, List.set_cons_succ]
                refine wpAnyH_take (i := 31) (v := ?_) rfl (by kernel_rfl) (by kernel_rfl) (by kernel_rfl) (fun _ _ _ h => h) (Or.inl ⟨by kernel_rfl, ?_⟩) (by assumption) ?_; rotate_left 1; (focus intro w' hSw; obtain ⟨hs0, hs1, hs2, hs3⟩ := hSw; go_simp; try with_reducible rfl); try simp only [Act.put, List.getElem_toArray, List.getElem_cons_succ, List.getElem_cons_zero, List.setIfInBounds_toArray, List.set_cons_zero, List.set_cons_succ]
                refine wpAnyH_ready (rs := [32]) (by kernel_rfl) (by simp) ?_; refine AllReadyH.cons rfl (fun K' hK' => ?_) AllReadyH.nil
                go_simp
                refine hK'.out _ _ ⟨cell_of_row W42 (w.heap.size + 1) 0 _ _ _ W42G.out, cell_of_row W42 (w.heap.size + 1) 1 _ _ _ W42G.out, W42p.out, W42q.out⟩ (fun hS => ?_)
                try simp only [Act.put, List.getElem_toArray, List.getElem_cons_succ, List.getElem_cons_zero, List.setIfInBounds_toArray, List.set_cons_zero, List.set_cons_succ]
                refine wpAnyH_done (by kernel_rfl) ?_ _
                exact ⟨rfl, rfl, W42B.out⟩
              exact AllReadyH.nil
            exact AllReadyH.nil
          refine AllReadyH.cons rfl (fun K' hK' => ?_) ?_
          · go_simp
            have hbb := (BB.refl W38).al (.cells #[.int .i64 1, .int .i64 3] 3)
            have hnew := heap_alloc_new W38 (.cells #[.int .i64 1, .int .i64 3] 3)
            generalize (W38.alloc (.cells #[.int .i64 1, .int .i64 3] 3)) = W43 at *
            have W43p := Bx.mk (hbb.cell W38p.out)
            have W43q := Bx.mk (hbb.cell W38q.out)
            clear W38p W38q
            have W43E := Bx.mk (hbb.heap W38E.out)
            have W43G := Bx.mk (hbb.heap W38G.out)
            have W43B := Bx.mk (W38B.out.trans hbb)
            have W43V := Bx.mk (hbb.ri W38V.out)
            have W43R := Bx.mk (hbb.ri W38R.out)
            clear W38E W38G W38B W38V W38R
            have W4313 := Bx.mk hnew
            clear hbb hnew
            refine hK'.out _ _ ⟨cell_of_row W43 (w.heap.size + 1) 0 _ _ _ W43G.out, cell_of_row W43 (w.heap.size + 1) 1 _ _ _ W43G.out, W43p.out, W43q.out⟩ (fun hS => ?_)
            try simp only [Act.put, List.getElem_toArray, List.getElem_cons_succ, List.getElem_cons_zero, List.setIfInBounds_toArray, List.set_cons_zero, List.set_cons_succ]
            refine wpAnyH_ready (rs := [27]) (by kernel_rfl) (by simp) ?_
            refine AllReadyH.cons rfl (fun K' hK' => ?_) ?_
            · go_simp
              have hbb := (BB.refl W43).al (.cells #[.int .i64 0, .int .i64 2] 3)
              have hnew := heap_alloc_new W43 (.cells #[.int .i64 0, .int .i64 2] 3)
              generalize (W43.alloc (.cells #[.int .i64 0, .int .i64 2] 3)) = W44 at *
              have W44p := Bx.mk (hbb.cell W43p.out)
              have W44q := Bx.mk (hbb.cell W43q.out)
              clear W43p W43q
              have W44E := Bx.mk (hbb.heap W43E.out)
              have W44G := Bx.mk (hbb.heap W43G.out)
              have W44B := Bx.mk (W43B.out.trans hbb)
              have W44V := Bx.mk (hbb.ri W43V.out)
              have W44R := Bx.mk (hbb.ri W43R.out)
              have W4413 := Bx.mk (hbb.heap W4313.out)
              clear W43E W43G W43B W43V W43R W4313
              have W4412 := Bx.mk hnew
              clear hbb hnew
              refine hK'.out _ _ ⟨cell_of_row W44 (w.heap.size + 1) 0 _ _ _ W44G.out, cell_of_row W44 (w.heap.size + 1) 1 _ _ _ W44G.out, W44p.out, W44q.out⟩ (fun hS => ?_)
              try simp only [Act.put, List.getElem_toArray, List.getElem_cons_succ, List.getElem_cons_zero, List.setIfInBounds_toArray, List.set_cons_zero, List.set_cons_succ]
              refine wpAnyH_ready (rs := [29]) (by kernel_rfl) (by simp) ?_
              refine AllReadyH.cons rfl (fun K' hK' => ?_) ?_
              · go_simp
                have hbb := (BB.refl W44).al (.cells #[.slice (some ⟨W43.heap.size, 0, none⟩) 2 2, .slice (some ⟨W38.heap.size, 0, none⟩) 2 2] 25)
                have hnew := heap_alloc_new W44 (.cells #[.slice (some ⟨W43.heap.size, 0, none⟩) 2 2, .slice (some ⟨W38.heap.size, 0, none⟩) 2 2] 25)
                generalize (W44.alloc (.cells #[.slice (some ⟨W43.heap.size, 0, none⟩) 2 2, .slice (some ⟨W38.heap.size, 0, none⟩) 2 2] 25)) = W45 at *
                have W45p := Bx.mk (hbb.cell W44p.out)
                have W45q := Bx.mk (hbb.cell W44q.out)
                clear W44p W44q
                have W45E := Bx.mk (hbb.heap W44E.out)
                have W45G := Bx.mk (hbb.heap W44G.out)
                have W45B := Bx.mk (W44B.out.trans hbb)
                have W45V := Bx.mk (hbb.ri W44V.out)
                have W45R := Bx.mk (hbb.ri W44R.out)
                have W4513 := Bx.mk (hbb.heap W4413.out)
                have W4512 := Bx.mk (hbb.heap W4412.out)
                clear W44E W44G W44B W44V W44R W4413 W4412
                have W4514 := Bx.mk hnew
                clear hbb hnew
                refine hK'.out _ _ ⟨cell_of_row W45 (w.heap.size + 1) 0 _ _ _ W45G.out, cell_of_row W45 (w.heap.size + 1) 1 _ _ _ W45G.out, W45p.out, W45q.out⟩ (fun hS => ?_)
                try simp only [Act.put, List.getElem_toArray, List.getElem_cons_succ, List.getElem_cons_zero, List.setIfInBounds_toArray, List.set_cons_zero, List.set_cons_succ]
                refine wpAnyH_ready (rs := [30]) (by kernel_rfl) (by simp) ?_; refine AllReadyH.cons rfl (fun K' hK' => ?_) AllReadyH.nil
                go_simp
                go_at_call 15
                refine (sphere_yes (some ⟨w.heap.size, 0, none⟩) A1 A2 (some ⟨W44.heap.size, 0, none⟩) 2 c1 c2 2 W45 (re_g0 W45E.out) W45V.out W45R.out (rl_pair W4514.out (ri_pair W4512.out) (ri_pair W4513.out))).mono ?_
                rintro e W46 ⟨rfl, hbb⟩
                have W46p := Bx.mk (hbb.cell W45p.out)
                have W46q := Bx.mk (hbb.cell W45q.out)
                clear W45p W45q
                have W46E := Bx.mk (hbb.heap W45E.out)
                have W46G := Bx.mk (hbb.heap W45G.out)
                have W46B := Bx.mk (W45B.out.trans hbb)
                clear W45E W45G W45B
                refine hK'.out _ _ ⟨cell_of_row W46 (w.heap.size + 1) 0 _ _ _ W46G.out, cell_of_row W46 (w.heap.size + 1) 1 _ _ _ W46G.out, W46p.out, W46q.out⟩ (fun hS => ?_)
                try simp only [Act.put, List.getElem_toArray, List.getElem_cons_succ, List.getElem_cons_zero, List.setIfInBounds_toArray, List.set_cons_zero, List.set_cons_succ]
                refine wpAnyH_take (i := 31) (v := ?_) rfl (by kernel_rfl) (by kernel_rfl) (by kernel_rfl) (fun _ _ _ h => h) (Or.inl ⟨by kernel_rfl, ?_⟩) (by assumption) ?_; rotate_left 1; (focus intro w' hSw; obtain ⟨hs0, hs1, hs2, hs3⟩ := hSw; go_simp; try with_reducible rfl); try simp only [Act.put, List.getElem_toArray, List.getElem_cons_succ, List.getElem_cons_zero, List.setIfInBounds_toArray, List.set_cons_zero, List.set_cons_succ]
                refine wpAnyH_ready (rs := [32]) (by kernel_rfl) (by simp) ?_; refine AllReadyH.cons rfl (fun K' hK' => ?_) AllReadyH.nil
                go_simp
                refine hK'.out _ _ ⟨cell_of_row W46 (w.heap.size + 1) 0 _ _ _ W46G.out, cell_of_row W46 (w.heap.size + 1) 1 _ _ _ W46G.out, W46p.out, W46q.out⟩ (fun hS => ?_)
                try simp only [Act.put, List.getElem_toArray, List.getElem_cons_succ, List.getElem_cons_zero, List.setIfInBounds_toArray, List.set_cons_zero, List.set_cons_succ]
                refine wpAnyH_done (by kernel_rfl) ?_ _
                exact ⟨rfl, rfl, W46B.out⟩
              exact AllReadyH.nil
            exact AllReadyH.nil
          exact AllReadyH.nil
        refine AllReadyH.cons rfl (fun K' hK' => ?_) ?_
        · go_simp
          have hbb := (BB.refl W37).al (.cells #[.int .i64 0, .int .i64 2] 3)
          have hnew := heap_alloc_new W37 (.cells #[.int .i64 0, .int .i64 2] 3)
          generalize (W37.alloc (.cells #[.int .i64 0, .int .i64 2] 3)) = W47 at *
          have W47p := Bx.mk (hbb.cell W37p.out)
          have W47q := Bx.mk (hbb.cell W37q.out)
          clear W37p W37q
          have W47E := Bx.mk (hbb.heap W37E.out)
          have W47G := Bx.mk (hbb.heap W37G.out)
          have W47B := Bx.mk (W37B.out.trans hbb)
          clear W37E W37G W37B
          have W4712 := Bx.mk hnew
          clear hbb hnew
          refine hK'.out _ _ ⟨cell_of_row W47 (w.heap.size + 1) 0 _ _ _ W47G.out, cell_of_row W47 (w.heap.size + 1) 1 _ _ _ W47G.out, W47p.out, W47q.out⟩ (fun hS => ?_)
          try simp only [Act.put, List.getElem_toArray, List.getElem_cons_succ, List.getElem_cons_zero, List.setIfInBounds_toArray, List.set_cons_zero, List.set_cons_succ]
          refine wpAnyH_ready (rs := [26, 28]) (by kernel_rfl) (by simp) ?_
          refine AllReadyH.cons rfl (fun K' hK' => ?_) ?_
          · go_simp
            go_at_call 38
            refine (whole_yes (some ⟨w.heap.size, 0, none⟩) 2 W47).mono ?_
            rintro e W48 ⟨⟨A1, c1, A2, c2, rfl, W48V, W48R⟩, hbb⟩
            have W48p := Bx.mk (hbb.cell W47p.out)
            have W48q := Bx.mk (hbb.cell W47q.out)
            clear W47p W47q
            have W48E := Bx.mk (hbb.heap W47E.out)
            have W48G := Bx.mk (hbb.heap W47G.out)
            have W48B := Bx.mk (W47B.out.trans hbb)
            have W4812 := Bx.mk (hbb.heap W4712.out)
            clear W47E W47G W47B W4712
            replace W48V := Bx.mk W48V
            replace W48R := Bx.mk W48R
            clear hbb
            refine hK'.out _ _ ⟨cell_of_row W48 (w.heap.size + 1) 0 _ _ _ W48G.out, cell_of_row W48 (w.heap.size + 1) 1 _ _ _ W48G.out, W48p.out, W48q.out⟩ (fun hS => ?_)
            try simp only [Act.put, List.getElem_toArray, List.getElem_cons_succ, List.getElem_cons_zero, List.setIfInBounds_toArray, List.set_cons_zero, List.set_cons_succ]
            refine wpAnyH_ready (rs := [28]) (by kernel_rfl) (by simp) ?_
            refine AllReadyH.cons rfl (fun K' hK' => ?_) ?_
            · go_simp
              have hbb := (BB.refl W48).al (.cells #[.int .i64 1, .int .i64 3] 3)
              have hnew := heap_alloc_new W48 (.cells #[.int .i64 1, .int .i64 3] 3)
              generalize (W48.alloc (.cells #[.int .i64 1, .int .i64 3] 3)) = W49 at *
              have W49p := Bx.mk (hbb.cell W48p.out)
              have W49q := Bx.mk (hbb.cell W48q.out)
              clear W48p W48q
              have W49E := Bx.mk (hbb.heap W48E.out)
              have W49G := Bx.mk (hbb.heap W48G.out)
              have W49B := Bx.mk (W48B.out.trans hbb)
              have W4912 := Bx.mk (hbb.heap W4812.out)
              have W49V := Bx.mk (hbb.ri W48V.out)
              have W49R := Bx.mk (hbb.ri W48R.out)
              clear W48E W48G W48B W4812 W48V W48R
              have W4913 := Bx.mk hnew
              clear hbb hnew
              refine hK'.out _ _ ⟨cell_of_row W49 (w.heap.size + 1) 0 _ _ _ W49G.out, cell_of_row W49 (w.heap.size + 1) 1 _ _ _ W49G.out, W49p.out, W49q.out⟩ (fun hS => ?_)
              try simp only [Act.put, List.getElem_toArray, List.getElem_cons_succ, List.getElem_cons_zero, List.setIfInBounds_toArray, List.set_cons_zero, List.set_cons_succ]
              refine wpAnyH_ready (rs := [29]) (by kernel_rfl) (by simp) ?_
              refine AllReadyH.cons rfl (fun K' hK' => ?_) ?_
              · go_simp
                have hbb := (BB.refl W49).al (.cells #[.slice (some ⟨W37.heap.size, 0, none⟩) 2 2, .slice (some ⟨W48.heap.size, 0, none⟩) 2 2] 25)
                have hnew := heap_alloc_new W49 (.cells #[.slice (some ⟨W37.heap.size, 0, none⟩) 2 2, .slice (some ⟨W48.heap.size, 0, none⟩) 2 2] 25)
                generalize (W49.alloc (.cells #[.slice (some ⟨W37.heap.size, 0, none⟩) 2 2, .slice (some ⟨W48.heap.size, 0, none⟩) 2 2] 25)) = W50 at *
                have W50p := Bx.mk (hbb.cell W49p.out)
                have W50q := Bx.mk (hbb.cell W49q.out)
                clear W49p W49q
                have W50E := Bx.mk (hbb.heap W49E.out)
                have W50G := Bx.mk (hbb.heap W49G.out)
                have W50B := Bx.mk (W49B.out.trans hbb)
                have W5012 := Bx.mk (hbb.heap W4912.out)
                have W50V := Bx.mk (hbb.ri W49V.out)
                have W50R := Bx.mk (hbb.ri W49R.out)
                have W5013 := Bx.mk (hbb.heap W4913.out)
                clear W49E W49G W49B W4912 W49V W49R W4913
                have W5014 := Bx.mk hnew
                clear hbb hnew
                refine hK'.out _ _ ⟨cell_of_row W50 (w.heap.size + 1) 0 _ _ _ W50G.out, cell_of_row W50 (w.heap.size + 1) 1 _ _ _ W50G.out, W50p.out, W50q.out⟩ (fun hS => ?_)
                try simp only [Act.put, List.getElem_toArray, List.getElem_cons_succ, List.getElem_cons_zero, List.setIfInBounds_toArray, List.set_cons_zero, List.set_cons_succ]
                refine wpAnyH_ready (rs := [30]) (by kernel_rfl) (by simp) ?_; refine AllReadyH.cons rfl (fun K' hK' => ?_) AllReadyH.nil
                go_simp
                go_at_call 15
                refine (sphere_yes (some ⟨w.heap.size, 0, none⟩) A1 A2 (some ⟨W49.heap.size, 0, none⟩) 2 c1 c2 2 W50 (re_g0 W50E.out) W50V.out W50R.out (rl_pair W5014.out (ri_pair W5012.out) (ri_pair W5013.out))).mono ?_
                rintro e W51 ⟨rfl, hbb⟩
                have W51p := Bx.mk (hbb.cell W50p.out)
                have W51q := Bx.mk (hbb.cell W50q.out)
                clear W50p W50q
                have W51E := Bx.mk (hbb.heap W50E.out)
                have W51G := Bx.mk (hbb.heap W50G.out)
                have W51B := Bx.mk (W50B.out.trans hbb)
                clear W50E W50G W50B
                refine hK'.out _ _ ⟨cell_of_row W51 (w.heap.size + 1) 0 _ _ _ W51G.out, cell_of_row W51 (w.heap.size + 1) 1 _ _ _ W51G.out, W51p.out, W51q.out⟩ (fun hS => ?_)
                try simp only [Act.put, List.getElem_toArray, List.getElem_cons_succ, List.getElem_cons_zero, List.setIfInBounds_toArray, List.set_cons_zero, List.set_cons_succ]
                refine wpAnyH_take (i := 31) (v := ?_) rfl (by kernel_rfl) (by kernel_rfl) (by kernel_rfl) (fun _ _ _ h => h) (Or.inl ⟨by kernel_rfl, ?_⟩) (by assumption) ?_; rotate_left 1; (focus intro w' hSw; obtain ⟨hs0, hs1, hs2, hs3⟩ := hSw; go_simp; try with_reducible rfl); try simp only [Act.put, List.getElem_toArray, List.getElem_cons_succ, List.getElem_cons_zero, List.setIfInBounds_toArray, List.set_cons_zero, List.set_cons_succ]
                refine wpAnyH_ready (rs := [32]) (by kernel_rfl) (by simp) ?_; refine AllReadyH.cons rfl (fun K' hK' => ?_) AllReadyH.nil
                go_simp
                refine hK'.out _ _ ⟨cell_of_row W51 (w.heap.size + 1) 0 _ _ _ W51G.out, cell_of_row W51 (w.heap.size + 1) 1 _ _ _ W51G.out, W51p.out, W51q.out⟩ (fun hS => ?_)
                try simp only [Act.put, List.getElem_toArray, List.getElem_cons_succ, List.getElem_cons_zero, List.setIfInBounds_toArray, List.set_cons_zero, List.set_cons_succ]
                refine wpAnyH_done (by kernel_rfl) ?_ _
                exact ⟨rfl, rfl, W51B.out⟩
              exact AllReadyH.nil
            exact AllReadyH.nil
          refine AllReadyH.cons rfl (fun K' hK' => ?_) ?_
          · go_simp
            have hbb := (BB.refl W47).al (.cells #[.int .i64 1, .int .i64 3] 3)
            have hnew := heap_alloc_new W47 (.cells #[.int .i64 1, .int .i64 3] 3)
            generalize (W47.alloc (.cells #[.int .i64 1, .int .i64 3] 3)) = W52 at *
            have W52p := Bx.mk (hbb.cell W47p.out)
            have W52q := Bx.mk (hbb.cell W47q.out)
            clear W47p W47q
            have W52E := Bx.mk (hbb.heap W47E.out)
            have W52G := Bx.mk (hbb.heap W47G.out)
            have W52B := Bx.mk (W47B.out.trans hbb)
            have W5212 := Bx.mk (hbb.heap W4712.out)
            clear W47E W47G W47B W4712
            have W5213 := Bx.mk hnew
            clear hbb hnew
            refine hK'.out _ _ ⟨cell_of_row W52 (w.heap.size + 1) 0 _ _ _ W52G.out, cell_of_row W52 (w.heap.size + 1) 1 _ _ _ W52G.out, W52p.out, W52q.out⟩ (fun hS => ?_)
            try simp only [Act.put, List.getElem_toArray, List.getElem_cons_succ, List.getElem_cons_zero, List.setIfInBounds_toArray, List.set_cons_zero, List.set_cons_succ]
            refine wpAnyH_ready (rs := [26, 29]) (by kernel_rfl) (by simp) ?_
            refine AllReadyH.cons rfl (fun K' hK' => ?_) ?_
            · go_simp
              go_at_call 38
              refine (whole_yes (some ⟨w.heap.size, 0, none⟩) 2 W52).mono ?_
              rintro e W53 ⟨⟨A1, c1, A2, c2, rfl, W53V, W53R⟩, hbb⟩
              have W53p := Bx.mk (hbb.cell W52p.out)
              have W53q := Bx.mk (hbb.cell W52q.out)
              clear W52p W52q
              have W53E := Bx.mk (hbb.heap W52E.out)
              have W53G := Bx.mk (hbb.heap W52G.out)
              have W53B := Bx.mk (W52B.out.trans hbb)
              have W5312 := Bx.mk (hbb.heap W5212.out)
              have W5313 := Bx.mk (hbb.heap W5213.out)
              clear W52E W52G W52B W5212 W5213
              replace W53V := Bx.mk W53V
              replace W53R := Bx.mk W53R
              clear hbb
              refine hK'.out _ _ ⟨cell_of_row W53 (w.heap.size + 1) 0 _ _ _ W53G.out, cell_of_row W53 (w.heap.size + 1) 1 _ _ _ W53G.out, W53p.out, W53q.out⟩ (fun hS => ?_)
              try simp only [Act.put, List.getElem_toArray, List.getElem_cons_succ, List.getElem_cons_zero, List.setIfInBounds_toArray, List.set_cons_zero, List.set_cons_succ]
              refine wpAnyH_ready (rs := [29]) (by kernel_rfl) (by simp) ?_
              refine AllReadyH.cons rfl (fun K' hK' => ?_) ?_
              · go_simp
                have hbb := (BB.refl W53).al (.cells #[.slice (some ⟨W37.heap.size, 0, none⟩) 2 2, .slice (some ⟨W47.heap.size, 0, none⟩) 2 2] 25)
                have hnew := heap_alloc_new W53 (.cells #[.slice (some ⟨W37.heap.size, 0, none⟩) 2 2, .slice (some ⟨W47.heap.size, 0, none⟩) 2 2] 25)
                generalize (W53.alloc (.cells #[.slice (some ⟨W37.heap.size, 0, none⟩) 2 2, .slice (some ⟨W47.heap.size, 0, none⟩) 2 2] 25)) = W54 at *
                have W54p := Bx.mk (hbb.cell W53p.out)
                have W54q := Bx.mk (hbb.cell W53q.out)
                clear W53p W53q
                have W54E := Bx.mk (hbb.heap W53E.out)
                have W54G := Bx.mk (hbb.heap W53G.out)
                have W54B := Bx.mk (W53B.out.trans hbb)
                have W5412 := Bx.mk (hbb.heap W5312.out)
                have W5413 := Bx.mk (hbb.heap W5313.out)
                have W54V := Bx.mk (hbb.ri W53V.out)
                have W54R := Bx.mk (hbb.ri W53R.out)
                clear W53E W53G W53B W5312 W5313 W53V W53R
                have W5414 := Bx.mk hnew
                clear hbb hnew
                refine hK'.out _ _ ⟨cell_of_row W54 (w.heap.size + 1) 0 _ _ _ W54G.out, cell_of_row W54 (w.heap.size + 1) 1 _ _ _ W54G.out, W54p.out, W54q.out⟩ (fun hS => ?_)
                try simp only [Act.put, List.getElem_toArray, List.getElem_cons_succ, List.getElem_cons_zero, List.setIfInBounds_toArray, List.set_cons_zero, List.set_cons_succ]
                refine wpAnyH_ready (rs := [30]) (by kernel_rfl) (by simp) ?_; refine AllReadyH.cons rfl (fun K' hK' => ?_) AllReadyH.nil
                go_simp
                go_at_call 15
                refine (sphere_yes (some ⟨w.heap.size, 0, none⟩) A1 A2 (some ⟨W53.heap.size, 0, none⟩) 2 c1 c2 2 W54 (re_g0 W54E.out) W54V.out W54R.out (rl_pair W5414.out (ri_pair W5412.out) (ri_pair W5413.out))).mono ?_
                rintro e W55 ⟨rfl, hbb⟩
                have W55p := Bx.mk (hbb.cell W54p.out)
                have W55q := Bx.mk (hbb.cell W54q.out)
                clear W54p W54q
                have W55E := Bx.mk (hbb.heap W54E.out)
                have W55G := Bx.mk (hbb.heap W54G.out)
                have W55B := Bx.mk (W54B.out.trans hbb)
                clear W54E W54G W54B
                refine hK'.out _ _ ⟨cell_of_row W55 (w.heap.size + 1) 0 _ _ _ W55G.out, cell_of_row W55 (w.heap.size + 1) 1 _ _ _ W55G.out, W55p.out, W55q.out⟩ (fun hS => ?_)
                try simp only [Act.put, List.getElem_toArray, List.getElem_cons_succ, List.getElem_cons_zero, List.setIfInBounds_toArray, List.set_cons_zero, List.set_cons_succ]
                refine wpAnyH_take (i := 31) (v := ?_) rfl (by kernel_rfl) (by kernel_rfl) (by kernel_rfl) (fun _ _ _ h => h) (Or.inl ⟨by kernel_rfl, ?_⟩) (by assumption) ?_; rotate_left 1; (focus intro w' hSw; obtain ⟨hs0, hs1, hs2, hs3⟩ := hSw; go_simp; try with_reducible rfl); try simp only [Act.put, List.getElem_toArray, List.getElem_cons_succ, List.getElem_cons_zero, List.setIfInBounds_toArray, List.set_cons_zero, List.set_cons_succ]
                refine wpAnyH_ready (rs := [32]) (by kernel_rfl) (by simp) ?_; refine AllReadyH.cons rfl (fun K' hK' => ?_) AllReadyH.nil
                go_simp
                refine hK'.out _ _ ⟨cell_of_row W55 (w.heap.size + 1) 0 _ _ _ W55G.out, cell_of_row W55 (w.heap.size + 1) 1 _ _ _ W55G.out, W55p.out, W55q.out⟩ (fun hS => ?_)
                try simp only [Act.put, List.getElem_toArray, List.getElem_cons_succ, List.getElem_cons_zero, List.setIfInBounds_toArray, List.set_cons_zero, List.set_cons_succ]
                refine wpAnyH_done (by kernel_rfl) ?_ _
                exact ⟨rfl, rfl, W55B.out⟩
              exact AllReadyH.nil
            refine AllReadyH.cons rfl (fun K' hK' => ?_) ?_
            · go_simp
              have hbb := (BB.refl W52).al (.cells #[.slice (some ⟨W37.heap.size, 0, none⟩) 2 2, .slice (some ⟨W47.heap.size, 0, none⟩) 2 2] 25)
              have hnew := heap_alloc_new W52 (.cells #[.slice (some ⟨W37.heap.size, 0, none⟩) 2 2, .slice (some ⟨W47.heap.size, 0, none⟩) 2 2] 25)
              generalize (W52.alloc (.cells #[.slice (some ⟨W37.heap.size, 0, none⟩) 2 2, .slice (some ⟨W47.heap.size, 0, none⟩) 2 2] 25)) = W56 at *
              have W56p := Bx.mk (hbb.cell W52p.out)
              have W56q := Bx.mk (hbb.cell W52q.out)
              clear W52p W52q
              have W56E := Bx.mk (hbb.heap W52E.out)
              have W56G := Bx.mk (hbb.heap W52G.out)
              have W56B := Bx.mk (W52B.out.trans hbb)
              have W5612 := Bx.mk (hbb.heap W5212.out)
              have W5613 := Bx.mk (hbb.heap W5213.out)
              clear W52E W52G W52B W5212 W5213
              have W5614 := Bx.mk hnew
              clear hbb hnew
              refine hK'.out _ _ ⟨cell_of_row W56 (w.heap.size + 1) 0 _ _ _ W56G.out, cell_of_row W56 (w.heap.size + 1) 1 _ _ _ W56G.out, W56p.out, W56q.out⟩ (fun hS => ?_)
              try simp only [Act.put, List.getElem_toArray, List.getElem_cons_succ, List.getElem_cons_zero, List.setIfInBounds_toArray, List.set_cons_zero, List.set_cons_succ]
              refine wpAnyH_ready (rs := [26]) (by kernel_rfl) (by simp) ?_
              refine AllReadyH.cons rfl (fun K' hK' => ?_) ?_
              · go_simp
                go_at_call 38
                refine (whole_yes (some ⟨w.heap.size, 0, none⟩) 2 W56).mono ?_
                rintro e W57 ⟨⟨A1, c1, A2, c2, rfl, W57V, W57R⟩, hbb⟩
                have W57p := Bx.mk (hbb.cell W56p.out)
                have W57q := Bx.mk (hbb.cell W56q.out)
                clear W56p W56q
                have W57E := Bx.mk (hbb.heap W56E.out)
                have W57G := Bx.mk (hbb.heap W56G.out)
                have W57B := Bx.mk (W56B.out.trans hbb)
                have W5712 := Bx.mk (hbb.heap W5612.out)
                have W5713 := Bx.mk (hbb.heap W5613.out)
                have W5714 := Bx.mk (hbb.heap W5614.out)
                clear W56E W56G W56B W5612 W5613 W5614
                replace W57V := Bx.mk W57V
                replace W57R := Bx.mk W57R
                clear hbb
                refine hK'.out _ _ ⟨cell_of_row W57 (w.heap.size + 1) 0 _ _ _ W57G.out, cell_of_row W57 (w.heap.size + 1) 1 _ _ _ W57G.out, W57p.out, W57q.out⟩ (fun hS => ?_)
                try simp only [Act.put, List.getElem_toArray, List.getElem_cons_succ, List.getElem_cons_zero, List.setIfInBounds_toArray, List.set_cons_zero, List.set_cons_succ]
                refine wpAnyH_ready (rs := [30]) (by kernel_rfl) (by simp) ?_; refine AllReadyH.cons rfl (fun K' hK' => ?_) AllReadyH.nil
                go_simp
                go_at_call 15
                refine (sphere_yes (some ⟨w.heap.size, 0, none⟩) A1 A2 (some ⟨W52.heap.size, 0, none⟩) 2 c1 c2 2 W57 (re_g0 W57E.out) W57V.out W57R.out (rl_pair W5714.out (ri_pair W5712.out) (ri_pair W5713.out))).mono ?_
                rintro e W58 ⟨rfl, hbb⟩
                have W58p := Bx.mk (hbb.cell W57p.out)
                have W58q := Bx.mk (hbb.cell W57q.out)
                clear W57p W57q
                have W58E := Bx.mk (hbb.heap W57E.out)
                have W58G := Bx.mk (hbb.heap W57G.out)
                have W58B := Bx.mk (W57B.out.trans hbb)
                clear W57E W57G W57B
                refine hK'.out _ _ ⟨cell_of_row W58 (w.heap.size + 1) 0 _ _ _ W58G.out, cell_of_row W58 (w.heap.size + 1) 1 _ _ _ W58G.out, W58p.out, W58q.out⟩ (fun hS => ?_)
                try simp only [Act.put, List.getElem_toArray, List.getElem_cons_succ, List.getElem_cons_zero, List.setIfInBounds_toArray, List.set_cons_zero, List.set_cons_succ]
                refine wpAnyH_take (i := 31) (v := ?_) rfl (by kernel_rfl) (by kernel_rfl) (by kernel_rfl) (fun _ _ _ h => h) (Or.inl ⟨by kernel_rfl, ?_⟩) (by assumption) ?_; rotate_left 1; (focus intro w' hSw; obtain ⟨hs0, hs1, hs2, hs3⟩ := hSw; go_simp; try with_reducible rfl); try simp only [Act.put, List.getElem_toArray, List.getElem_cons_succ, List.getElem_cons_zero, List.setIfInBounds_toArray, List.set_cons_zero, List.set_cons_succ]
                refine wpAnyH_ready (rs := [32]) (by kernel_rfl) (by simp) ?_; refine AllReadyH.cons rfl (fun K' hK' => ?_) AllReadyH.nil
                go_simp
                refine hK'.out _ _ ⟨cell_of_row W58 (w.heap.size + 1) 0 _ _ _ W58G.out, cell_of_row W58 (w.heap.size + 1) 1 _ _ _ W58G.out, W58p.out, W58q.out⟩ (fun hS => ?_)
                try simp only [Act.put, List.getElem_toArray, List.getElem_cons_succ, List.getElem_cons_zero, List.setIfInBounds_toArray, List.set_cons_zero, List.set_cons_succ]
                refine wpAnyH_done (by kernel_rfl) ?_ _
                exact ⟨rfl, rfl, W58B.out⟩
              exact AllReadyH.nil
            exact AllReadyH.nil
          exact AllReadyH.nil
        refine AllReadyH.cons rfl (fun K' hK' => ?_) ?_
        · go_simp
          have hbb := (BB.refl W37).al (.cells #[.int .i64 1, .int .i64 3] 3)
          have hnew := heap_alloc_new W37 (.cells #[.int .i64 1, .int .i64 3] 3)
          generalize (W37.alloc (.cells #[.int .i64 1, .int .i64 3] 3)) = W59 at *
          have W59p := Bx.mk (hbb.cell W37p.out)
          have W59q := Bx.mk (hbb.cell W37q.out)
          clear W37p W37q
          have W59E := Bx.mk (hbb.heap W37E.out)
          have W59G := Bx.mk (hbb.heap W37G.out)
          have W59B := Bx.mk (W37B.out.trans hbb)
          clear W37E W37G W37B
          have W5913 := Bx.mk hnew
          clear hbb hnew
          refine hK'.out _ _ ⟨cell_of_row W59 (w.heap.size + 1) 0 _ _ _ W59G.out, cell_of_row W59 (w.heap.size + 1) 1 _ _ _ W59G.out, W59p.out, W59q.out⟩ (fun hS => ?_)
          try simp only [Act.put, List.getElem_toArray, List.getElem_cons_succ, List.getElem_cons_zero, List.setIfInBounds_toArray, List.set_cons_zero, List.set_cons_succ]
          refine wpAnyH_ready (rs := [26, 27]) (by kernel_rfl) (by simp) ?_
          refine AllReadyH.cons rfl (fun K' hK' => ?_) ?_
          · go_simp
            go_at_call 38
            refine (whole_yes (some ⟨w.heap.size, 0, none⟩) 2 W59).mono ?_
            rintro e W60 ⟨⟨A1, c1, A2, c2, rfl, W60V, W60R⟩, hbb⟩
            have W60p := Bx.mk (hbb.cell W59p.out)
            have W60q := Bx.mk (hbb.cell W59q.out)
            clear W59p W59q
            have W60E := Bx.mk (hbb.heap W59E.out)
            have W60G := Bx.mk (hbb.heap W59G.out)
            have W60B := Bx.mk (W59B.out.trans hbb)
            have W6013 := Bx.mk (hbb.heap W5913.out)
            clear W59E W59G W59B W5913
            replace W60V := Bx.mk W60V
            replace W60R := Bx.mk W60R
            clear hbb
            refine hK'.out _ _ ⟨cell_of_row W60 (w.heap.size + 1) 0 _ _ _ W60G.out, cell_of_row W60 (w.heap.size + 1) 1 _ _ _ W60G.out, W60p.out, W60q.out⟩ (fun hS => ?_)
            try simp only [Act.put, List.getElem_toArray, List.getElem_cons_succ, List.getElem_cons_zero, List.setIfInBounds_toArray, List.set_cons_zero, List.set_cons_succ]
            refine wpAnyH_ready (rs := [27]) (by kernel_rfl) (by simp) ?_
            refine AllReadyH.cons rfl (fun K' hK' => ?_) ?_
            · go_simp
              have hbb := (BB.refl W60).al (.cells #[.int .i64 0, .int .i64 2] 3)
              have hnew := heap_alloc_new W60 (.cells #[.int .i64 0, .int .i64 2] 3)
              generalize (W60.alloc (.cells #[.int .i64 0, .int .i64 2] 3)) = W61 at *
              have W61p := Bx.mk (hbb.cell W60p.out)
              have W61q := Bx.mk (hbb.cell W60q.out)
              clear W60p W60q
              have W61E := Bx.mk (hbb.heap W60E.out)
              have W61G := Bx.mk (hbb.heap W60G.out)
              have W61B := Bx.mk (W60B.out.trans hbb)
              have W6113 := Bx.mk (hbb.heap W6013.out)
              have W61V := Bx.mk (hbb.ri W60V.out)
              have W61R := Bx.mk (hbb.ri W60R.out)
              clear W60E W60G W60B W6013 W60V W60R
              have W6112 := Bx.mk hnew
              clear hbb hnew
              refine hK'.out _ _ ⟨cell_of_row W61 (w.heap.size + 1) 0 _ _ _ W61G.out, cell_of_row W61 (w.heap.size + 1) 1 _ _ _ W61G.out, W61p.out, W61q.out⟩ (fun hS => ?_)
              try simp only [Act.put, List.getElem_toArray, List.getElem_cons_succ, List.getElem_cons_zero, List.setIfInBounds_toArray, List.set_cons_zero, List.set_cons_succ]
              refine wpAnyH_ready (rs := [29]) (by kernel_rfl) (by simp) ?_
              refine AllReadyH.cons rfl (fun K' hK' => ?_) ?_
              · go_simp
                have hbb := (BB.refl W61).al (.cells #[.slice (some ⟨W60.heap.size, 0, none⟩) 2 2, .slice (some ⟨W37.heap.size, 0, none⟩) 2 2] 25)
                have hnew := heap_alloc_new W61 (.cells #[.slice (some ⟨W60.heap.size, 0, none⟩) 2 2, .slice (some ⟨W37.heap.size, 0, none⟩) 2 2] 25)
                generalize (W61.alloc (.cells #[.slice (some ⟨W60.heap.size, 0, none⟩) 2 2, .slice (some ⟨W37.heap.size, 0, none⟩) 2 2] 25)) = W62 at *
                have W62p := Bx.mk (hbb.cell W61p.out)
                have W62q := Bx.mk (hbb.cell W61q.out)
                clear W61p W61q
                have W62E := Bx.mk (hbb.heap W61E.out)
                have W62G := Bx.mk (hbb.heap W61G.out)
                have W62B := Bx.mk (W61B.out.trans hbb)
                have W6213 := Bx.mk (hbb.heap W6113.out)
                have W62V := Bx.mk (hbb.ri W61V.out)
                have W62R := Bx.mk (hbb.ri W61R.out)
                have W6212 := Bx.mk (hbb.heap W6112.out)
                clear W61E W61G W61B W6113 W61V W61R W6112
                have W6214 := Bx.mk hnew
                clear hbb hnew
                refine hK'.out _ _ ⟨cell_of_row W62 (w.heap.size + 1) 0 _ _ _ W62G.out, cell_of_row W62 (w.heap.size + 1) 1 _ _ _ W62G.out, W62p.out, W62q.out⟩ (fun hS => ?_)
                try simp only [Act.put, List.getElem_toArray, List.getElem_cons_succ, List.getElem_cons_zero, List.setIfInBounds_toArray, List.set_cons_zero, List.set_cons_succ]
                refine wpAnyH_ready (rs := [30]) (by kernel_rfl) (by simp) ?_; refine AllReadyH.cons rfl (fun K' hK' => ?_) AllReadyH.nil
                go_simp
                go_at_call 15
                refine (sphere_yes (some ⟨w.heap.size, 0, none⟩) A1 A2 (some ⟨W61.heap.size, 0, none⟩) 2 c1 c2 2 W62 (re_g0 W62E.out) W62V.out W62R.out (rl_pair W6214.out (ri_pair W6212.out) (ri_pair W6213.out))).mono ?_
                rintro e W63 ⟨rfl, hbb⟩
                have W63p := Bx.mk (hbb.cell W62p.out)
                have W63q := Bx.mk (hbb.cell W62q.out)
                clear W62p W62q
                have W63E := Bx.mk (hbb.heap W62E.out)
                have W63G := Bx.mk (hbb.heap W62G.out)
                have W63B := Bx.mk (W62B.out.trans hbb)
                clear W62E W62G W62B
                refine hK'.out _ _ ⟨cell_of_row W63 (w.heap.size + 1) 0 _ _ _ W63G.out, cell_of_row W63 (w.heap.size + 1) 1 _ _ _ W63G.out, W63p.out, W63q.out⟩ (fun hS => ?_)
                try simp only [Act.put, List.getElem_toArray, List.getElem_cons_succ, List.getElem_cons_zero, List.setIfInBounds_toArray, List.set_cons_zero, List.set_cons_succ]
                refine wpAnyH_take (i := 31) (v := ?_) rfl (by kernel_rfl) (by kernel_rfl) (by kernel_rfl) (fun _ _ _ h => h) (Or.inl ⟨by kernel_rfl, ?_⟩) (by assumption) ?_; rotate_left 1; (focus intro w' hSw; obtain ⟨hs0, hs1, hs2, hs3⟩ := hSw; go_simp; try with_reducible rfl); try simp only [Act.put, List.getElem_toArray, List.getElem_cons_succ, List.getElem_cons_zero, List.setIfInBounds_toArray, List.set_cons_zero, List.set_cons_succ]
                refine wpAnyH_ready (rs := [32]) (by kernel_rfl) (by simp) ?_; refine AllReadyH.cons rfl (fun K' hK' => ?_) AllReadyH.nil
                go_simp
                refine hK'.out _ _ ⟨cell_of_row W63 (w.heap.size + 1) 0 _ _ _ W63G.out, cell_of_row W63 (w.heap.size + 1) 1 _ _ _ W63G.out, W63p.out, W63q.out⟩ (fun hS => ?_)
                try simp only [Act.put, List.getElem_toArray, List.getElem_cons_succ, List.getElem_cons_zero, List.setIfInBounds_toArray, List.set_cons_zero, List.set_cons_succ]
                refine wpAnyH_done (by kernel_rfl) ?_ _
                exact ⟨rfl, rfl, W63B.out⟩
              exact AllReadyH.nil
            exact AllReadyH.nil
          refine AllReadyH.cons rfl (fun K' hK' => ?_) ?_
          · go_simp
            have hbb := (BB.refl W59).al (.cells #[.int .i64 0, .int .i64 2] 3)
            have hnew := heap_alloc_new W59 (.cells #[.int .i64 0, .int .i64 2] 3)
            generalize (W59.alloc (.cells #[.int .i64 0, .int .i64 2] 3)) = W64 at *
            have W64p := Bx.mk (hbb.cell W59p.out)
            have W64q := Bx.mk (hbb.cell W59q.out)
            clear W59p W59q
            have W64E := Bx.mk (hbb.heap W59E.out)
            have W64G := Bx.mk (hbb.heap W59G.out)
            have W64B := Bx.mk (W59B.out.trans hbb)
            have W6413 := Bx.mk (hbb.heap W5913.out)
            clear W59E W59G W59B W5913
            have W6412 := Bx.mk hnew
            clear hbb hnew
            refine hK'.out _ _ ⟨cell_of_row W64 (w.heap.size + 1) 0 _ _ _ W64G.out, cell_of_row W64 (w.heap.size + 1) 1 _ _ _ W64G.out, W64p.out, W64q.out⟩ (fun hS => ?_)
            try simp only [Act.put, List.getElem_toArray, List.getElem_cons_succ, List.getElem_cons_zero, List.setIfInBounds_toArray, List.set_cons_zero, List.set_cons_succ]
            refine wpAnyH_ready (rs := [26, 29]) (by kernel_rfl) (by simp) ?_
            refine AllReadyH.cons rfl (fun K' hK' => ?_) ?_
            · go_simp
              go_at_call 38
              refine (whole_yes (some ⟨w.heap.size, 0, none⟩) 2 W64).mono ?_
              rintro e W65 ⟨⟨A1, c1, A2, c2, rfl, W65V, W65R⟩, hbb⟩
              have W65p := Bx.mk (hbb.cell W64p.out)
              have W65q := Bx.mk (hbb.cell W64q.out)
              clear W64p W64q
              have W65E := Bx.mk (hbb.heap W64E.out)
              have W65G := Bx.mk (hbb.heap W64G.out)
              have W65B := Bx.mk (W64B.out.trans hbb)
              have W6513 := Bx.mk (hbb.heap W6413.out)
              have W6512 := Bx.mk (hbb.heap W6412.out)
              clear W64E W64G W64B W6413 W6412
              replace W65V := Bx.mk W65V
              replace W65R := Bx.mk W65R
              clear hbb
              refine hK'.out _ _ ⟨cell_of_row W65 (w.heap.size + 1) 0 _ _ _ W65G.out, cell_of_row W65 (w.heap.size + 1) 1 _ _ _ W65G.out, W65p.out, W65q.out⟩ (fun hS => ?_)
              try simp only [Act.put, List.getElem_toArray, List.getElem_cons_succ, List.getElem_cons_zero, List.setIfInBounds_toArray, List.set_cons_zero, List.set_cons_succ]
              refine wpAnyH_ready (rs := [29]) (by kernel_rfl) (by simp) ?_
              refine AllReadyH.cons rfl (fun K' hK' => ?_) ?_
              · go_simp
                have hbb := (BB.refl W65).al (.cells #[.slice (some ⟨W59.heap.size, 0, none⟩) 2 2, .slice (some ⟨W37.heap.size, 0, none⟩) 2 2] 25)
                have hnew := heap_alloc_new W65 (.cells #[.slice (some ⟨W59.heap.size, 0, none⟩) 2 2, .slice (some ⟨W37.heap.size, 0, none⟩) 2 2] 25)
                generalize (W65.alloc (.cells #[.slice (some ⟨W59.heap.size, 0, none⟩) 2 2, .slice (some ⟨W37.heap.size, 0, none⟩) 2 2] 25)) = W66 at *
                have W66p := Bx.mk (hbb.cell W65p.out)
                have W66q := Bx.mk (hbb.cell W65q.out)
                clear W65p W65q
                have W66E := Bx.mk (hbb.heap W65E.out)
                have W66G := Bx.mk (hbb.heap W65G.out)
                have W66B := Bx.mk (W65B.out.trans hbb)
                have W6613 := Bx.mk (hbb.heap W6513.out)
                have W6612 := Bx.mk (hbb.heap W6512.out)
                have W66V := Bx.mk (hbb.ri W65V.out)
                have W66R := Bx.mk (hbb.ri W65R.out)
                clear W65E W65G W65B W6513 W6512 W65V W65R
                have W6614 := Bx.mk hnew
                clear hbb hnew
                refine hK'.out _ _ ⟨cell_of_row W66 (w.heap.size + 1) 0 _ _ _ W66G.out, cell_of_row W66 (w.heap.size + 1) 1 _ _ _ W66G.out, W66p.out, W66q.out⟩ (fun hS => ?_)
                try simp only [Act.put, List.getElem_toArray, List.getElem_cons_succ, List.getElem_cons_zero, List.setIfInBounds_toArray, List.set_cons_zero, List.set_cons_succ]
                refine wpAnyH_ready (rs := [30]) (by kernel_rfl) (by simp) ?_; refine AllReadyH.cons rfl (fun K' hK' => ?_) AllReadyH.nil
                go_simp
                go_at_call 15
                refine (sphere_yes (some ⟨w.heap.size, 0, none⟩) A1 A2 (some ⟨W65.heap.size, 0, none⟩) 2 c1 c2 2 W66 (re_g0 W66E.out) W66V.out W66R.out (rl_pair W6614.out (ri_pair W6612.out) (ri_pair W6613.out))).mono ?_
                rintro e W67 ⟨rfl, hbb⟩
                have W67p := Bx.mk (hbb.cell W66p.out)
                have W67q := Bx.mk (hbb.cell W66q.out)
                clear W66p W66q
                have W67E := Bx.mk (hbb.heap W66E.out)
                have W67G := Bx.mk (hbb.heap W66G.out)
                have W67B := Bx.mk (W66B.out.trans hbb)
                clear W66E W66G W66B
                refine hK'.out _ _ ⟨cell_of_row W67 (w.heap.size + 1) 0 _ _ _ W67G.out, cell_of_row W67 (w.heap.size + 1) 1 _ _ _ W67G.out, W67p.out, W67q.out⟩ (fun hS => ?_)
                try simp only [Act.put, List.getElem_toArray, List.getElem_cons_succ, List.getElem_cons_zero, List.setIfInBounds_toArray, List.set_cons_zero, List.set_cons_succ]
                refine wpAnyH_take (i := 31) (v := ?_) rfl (by kernel_rfl) (by kernel_rfl) (by kernel_rfl) (fun _ _ _ h => h) (Or.inl ⟨by kernel_rfl, ?_⟩) (by assumption) ?_; rotate_left 1; (focus intro w' hSw; obtain ⟨hs0, hs1, hs2, hs3⟩ := hSw; go_simp; try with_reducible rfl); try simp only [Act.put, List.getElem_toArray, List.getElem_cons_succ, List.getElem_cons_zero, List.setIfInBounds_toArray, List.set_cons_zero, List.set_cons_succ]
                refine wpAnyH_ready (rs := [32]) (by kernel_rfl) (by simp) ?_; refine AllReadyH.cons rfl (fun K' hK' => ?_) AllReadyH.nil
                go_simp
                refine hK'.out _ _ ⟨cell_of_row W67 (w.heap.size + 1) 0 _ _ _ W67G.out, cell_of_row W67 (w.heap.size + 1) 1 _ _ _ W67G.out, W67p.out, W67q.out⟩ (fun hS => ?_)
                try simp only [Act.put, List.getElem_toArray, List.getElem_cons_succ, List.getElem_cons_zero, List.setIfInBounds_toArray, List.set_cons_zero, List.set_cons_succ]
                refine wpAnyH_done (by kernel_rfl) ?_ _
                exact ⟨rfl, rfl, W67B.out⟩
              exact AllReadyH.nil
            refine AllReadyH.cons rfl (fun K' hK' => ?_) ?_
            · go_simp
              have hbb := (BB.refl W64).al (.cells #[.slice (some ⟨W59.heap.size, 0, none⟩) 2 2, .slice (some ⟨W37.heap.size, 0, none⟩) 2 2] 25)
              have hnew := heap_alloc_new W64 (.cells #[.slice (some ⟨W59.heap.size, 0, none⟩) 2 2, .slice (some ⟨W37.heap.size, 0, none⟩) 2 2] 25)
              generalize (W64.alloc (.cells #[.slice (some ⟨W59.heap.size, 0, none⟩) 2 2, .slice (some ⟨W37.heap.size, 0, none⟩) 2 2] 25)) = W68 at *
              have W68p := Bx.mk (hbb.cell W64p.out)
              have W68q := Bx.mk (hbb.cell W64q.out)
              clear W64p W64q
              have W68E := Bx.mk (hbb.heap W64E.out)
              have W68G := Bx.mk (hbb.heap W64G.out)
              have W68B := Bx.mk (W64B.out.trans hbb)
              have W6813 := Bx.mk (hbb.heap W6413.out)
              have W6812 := Bx.mk (hbb.heap W6412.out)
              clear W64E W64G W64B W6413 W6412
              have W6814 := Bx.mk hnew
              clear hbb hnew
              refine hK'.out _ _ ⟨cell_of_row W68 (w.heap.size + 1) 0 _ _ _ W68G.out, cell_of_row W68 (w.heap.size + 1) 1 _ _ _ W68G.out, W68p.out, W68q.out⟩ (fun hS => ?_)
              try simp only [Act.put, List.getElem_toArray, List.getElem_cons_succ, List.getElem_cons_zero, List.setIfInBounds_toArray, List.set_cons_zero, List.set_cons_succ]
              refine wpAnyH_ready (rs := [26]) (by kernel_rfl) (by simp) ?_
              refine AllReadyH.cons rfl (fun K' hK' => ?_) ?_
              · go_simp
                go_at_call 38
                refine (whole_yes (some ⟨w.heap.size, 0, none⟩) 2 W68).mono ?_
                rintro e W69 ⟨⟨A1, c1, A2, c2, rfl, W69V, W69R⟩, hbb⟩
                have W69p := Bx.mk (hbb.cell W68p.out)
                have W69q := Bx.mk (hbb.cell W68q.out)
                clear W68p W68q
                have W69E := Bx.mk (hbb.heap W68E.out)
                have W69G := Bx.mk (hbb.heap W68G.out)
                have W69B := Bx.mk (W68B.out.trans hbb)
                have W6913 := Bx.mk (hbb.heap W6813.out)
                have W6912 := Bx.mk (hbb.heap W6812.out)
                have W6914 := Bx.mk (hbb.heap W6814.out)
                clear W68E W68G W68B W6813 W6812 W6814
                replace W69V := Bx.mk W69V
                replace W69R := Bx.mk W69R
                clear hbb
                refine hK'.out _ _ ⟨cell_of_row W69 (w.heap.size + 1) 0 _ _ _ W69G.out, cell_of_row W69 (w.heap.size + 1) 1 _ _ _ W69G.out, W69p.out, W69q.out⟩ (fun hS => ?_)
                try simp only [Act.put, List.getElem_toArray, List.getElem_cons_succ, List.getElem_cons_zero, List.setIfInBounds_toArray, List.set_cons_zero, List.set_cons_succ]
                refine wpAnyH_ready (rs := [30]) (by kernel_rfl) (by simp) ?_; refine AllReadyH.cons rfl (fun K' hK' => ?_) AllReadyH.nil
                go_simp
                go_at_call 15
                refine (sphere_yes (some ⟨w.heap.size, 0, none⟩) A1 A2 (some ⟨W64.heap.size, 0, none⟩) 2 c1 c2 2 W69 (re_g0 W69E.out) W69V.out W69R.out (rl_pair W6914.out (ri_pair W6912.out) (ri_pair W6913.out))).mono ?_
                rintro e W70 ⟨rfl, hbb⟩
                have W70p := Bx.mk (hbb.cell W69p.out)
                have W70q := Bx.mk (hbb.cell W69q.out)
                clear W69p W69q
                have W70E := Bx.mk (hbb.heap W69E.out)
                have W70G := Bx.mk (hbb.heap W69G.out)
                have W70B := Bx.mk (W69B.out.trans hbb)
                clear W69E W69G W69B
                refine hK'.out _ _ ⟨cell_of_row W70 (w.heap.size + 1) 0 _ _ _ W70G.out, cell_of_row W70 (w.heap.size + 1) 1 _ _ _ W70G.out, W70p.out, W70q.out⟩ (fun hS => ?_)
                try simp only [Act.put, List.getElem_toArray, List.getElem_cons_succ, List.getElem_cons_zero, List.setIfInBounds_toArray, List.set_cons_zero, List.set_cons_succ]
                refine wpAnyH_take (i := 31) (v := ?_) rfl (by kernel_rfl) (by kernel_rfl) (by kernel_rfl) (fun _ _ _ h => h) (Or.inl ⟨by kernel_rfl, ?_⟩) (by assumption) ?_; rotate_left 1; (focus intro w' hSw; obtain ⟨hs0, hs1, hs2, hs3⟩ := hSw; go_simp; try with_reducible rfl); try simp only [Act.put, List.getElem_toArray, List.getElem_cons_succ, List.getElem_cons_zero, List.setIfInBounds_toArray, List.set_cons_zero, List.set_cons_succ]
                refine wpAnyH_ready (rs := [32]) (by kernel_rfl) (by simp) ?_; refine AllReadyH.cons rfl (fun K' hK' => ?_) AllReadyH.nil
                go_simp
                refine hK'.out _ _ ⟨cell_of_row W70 (w.heap.size + 1) 0 _ _ _ W70G.out, cell_of_row W70 (w.heap.size + 1) 1 _ _ _ W70G.out, W70p.out, W70q.out⟩ (fun hS => ?_)
                try simp only [Act.put, List.getElem_toArray, List.getElem_cons_succ, List.getElem_cons_zero, List.setIfInBounds_toArray, List.set_cons_zero, List.set_cons_succ]
                refine wpAnyH_done (by kernel_rfl) ?_ _
                exact ⟨rfl, rfl, W70B.out⟩
              exact AllReadyH.nil
            exact AllReadyH.nil
          exact AllReadyH.nil
        exact AllReadyH.nil
      · cases e with
        | normal =>
          obtain ⟨h1, h2, h3⟩ := h
          obtain ⟨tmps, defers⟩ := a
          dsimp only at h1 h2
          subst h2
          go_wp2
          try simp only [Exit.inBlock, Exit.then]
          refine bodyPost_ret (results_tmp rfl _ _ _) rfl ?_
          exact ⟨by rw [← h1], HB0.out.trans h3⟩
        | _ => exact h.elim
    | _ => exact h.elim
end Go.Proofs.YtefhmlgepnlaoaaGreat
