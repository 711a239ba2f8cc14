/- Walks: sets in memory: Add of a new thing. -/
import Derived.Test.YtefhmlgepnlaoaaGreatSb
import Derived.Test.YtefhmlgepnlaoaaGreatSi
import Derived.Test.YtefhmlgepnlaoaaGreatOu
set_option linter.unusedVariables false
set_option linter.unusedSimpArgs false
namespace Go.Proofs.YtefhmlgepnlaoaaGreat
open Go.RowKit

theorem ri_one {W : World} {b : Nat} {x : Int} {t : TypeId} {fr : Nat × Nat} (h : W.heap[b]? = some (.cells #[.int .i64 x] t fr)) : RI W (some ⟨b, 0, none⟩) 1 [x] := by
  refine ⟨rfl, by omega, fun _ => ⟨b, 0, rfl, fun j hj => ?_⟩⟩
  simp at hj
  subst hj
  rw [Nat.zero_add, cell_of_row W b 0 _ _ _ h]
  rfl
def addRep (n : Nat) (rep : Nat → Nat) : Nat → Nat := fun i => if i = n then n else rep i
theorem gi_app_lt {xs ys : List Int} {i : Nat} (h : i < xs.length) : gi (xs ++ ys) i = gi xs i := by
  unfold gi
  rw [List.getD_eq_getElem?_getD, List.getD_eq_getElem?_getD, List.getElem?_append_left h]
theorem gi_app_len (xs : List Int) (y : Int) : gi (xs ++ [y]) xs.length = y := by
  unfold gi
  rw [List.getD_eq_getElem?_getD]
  simp
theorem UpOk.add {up : List Int} {rep : Nat → Nat} {n : Nat} (h : UpOk up rep) (hn : up.length = n) : UpOk (up ++ [(n : Int)]) (addRep n rep) := by
  intro i hi
  rw [List.length_append, List.length_singleton] at hi
  by_cases hin : i = n
  · subst hin
    have : gi (up ++ [(i : Int)]) i = i := by rw [← hn]; exact gi_app_len _ _
    rw [this, if_pos rfl]
    refine ⟨by omega, by omega, ?_⟩
    unfold addRep
    rw [if_pos rfl]
  · have hlt : i < up.length := by omega
    rw [gi_app_lt hlt]
    obtain ⟨h1, h2, h3⟩ := h i hlt
    refine ⟨h1, h2, ?_⟩
    have e1 : addRep n rep i = rep i := if_neg hin
    have e2 : addRep n rep (gi up i).toNat = rep (gi up i).toNat := if_neg (by omega)
    rw [e1, e2]
    exact h3
theorem idxFrom_app (x y : Int) : ∀ (xs : List Int) (k : Nat), idxFrom k (xs ++ [y]) x = if x ∈ xs then idxFrom k xs x else if x = y then ((k + xs.length : Nat) : Int) else -1 := by
  intro xs
  induction xs with
  | nil => intro k; simp [idxFrom]
  | cons z zs ih =>
    intro k
    rw [List.cons_append]
    unfold idxFrom
    rw [ih]
    by_cases hz : x = z
    · simp [hz]
    · simp only [hz, if_false, List.mem_cons, false_or]
      split
      · rfl
      · split
        · rw [List.length_cons]; omega
        · rfl
theorem posL_app {all : List Int} {x : Int} (hx : x ∉ all) (y : Int) : posL (all ++ [x]) y = if y = x then some (.int .i64 (all.length : Nat)) else posL all y := by
  unfold posL idx
  rw [idxFrom_app]
  by_cases hy : y = x
  · subst hy
    simp [hx]
  · by_cases hm : y ∈ all
    · simp [hm, hy]
    · simp [hm, hy]
theorem alloc_two (w : World) (o o' : Obj) : ((w.alloc o).alloc o').heap[w.heap.size + 1]? = some o' := by
  have := heap_alloc_new (w.alloc o) o'
  simpa using this
theorem OwnI.shape' {w : World} {base : Nat} {v : Value} {xs : List Int} (h : OwnI w base v xs) : ∃ A n c, v = .slice A n c := by
  rcases h.o.2 with ⟨rfl, _⟩ | ⟨g, cap, cur, rfl, _⟩
  · exact ⟨_, _, _, rfl⟩
  · exact ⟨_, _, _, rfl⟩
/-- What Add's last stores leave. -/
theorem add_end {base : Nat} {all up : List Int} {rep : Nat → Nat} {x : Int} {w w6 w7 w8 : World} {R M : Nat} {va vu va' vu' : Value} {m : List (Int × Value)}
    (h2 : w.heap[R]? = some (.cells #[.map (some M), va, vu] 142 (0, 0))) (h3 : base ≤ R) (h4 : base ≤ M) (h5 : MapAt w M m) (h6 : ∀ x, m.lookup x = posL all x) (h7 : OwnI w base va all) (h8 : OwnI w base vu up)
    (h11 : up.length = all.length) (h12 : UpOk up rep) (h13 : all.Nodup) (hx : x ∉ all) (hl : all.length + 1 < 1048576)
    (hw : Step (fun k => some k = va.ownBlock ∨ some k = vu.ownBlock) w w6) (hR6 : w6.heap[R]? = some (.cells #[.map (some M), va, vu] 142 (0, 0))) (hM6 : MapAt w6 M m)
    (hva : OwnI w6 base va' (all ++ [x])) (hvu : OwnI w6 base vu' (up ++ [(all.length : Int)])) (hne : ∀ k, va'.ownBlock = some k → vu'.ownBlock ≠ some k) (hna : va'.ownBlock ≠ some R) (hnu : vu'.ownBlock ≠ some R)
    (hs7 : Step (fun k => k = M) w6 w7) (hs8 : Step (fun k => k = M) w7 w8) (hM8 : MapAt w8 M (m ++ [(x, .int .i64 (all.length : Int))])) :
    (∃ U', SetsAt ((w8.setCell ⟨R, 1, none⟩ va').setCell ⟨R, 2, none⟩ vu') base (.pointer (some ⟨R, 0, none⟩)) (all ++ [x]) (addRep all.length rep) U') ∧ Below base w ((w8.setCell ⟨R, 1, none⟩ va').setCell ⟨R, 2, none⟩ vu') := by
  have hRM : R ≠ M := by
    rintro rfl
    obtain ⟨es, c, hb, _⟩ := h5.h
    rw [h2] at hb
    cases hb
  have hb : base ≤ w.heap.size := by have := (Array.getElem?_eq_some_iff.1 h2).1; omega
  have hMc : ∀ {W : World} {v : Value} {xs : List Int}, OwnI W base v xs → MapAt W M m → v.ownBlock ≠ some M := fun {W v xs} ho hm e => by
    obtain ⟨cs, fr, hc⟩ := ho.cells M e
    obtain ⟨es, c, hb, _⟩ := hm.h
    rw [hb] at hc
    cases hc
  have h68 : Step (fun k => k = M) w6 w8 := hs7.trans hs8
  have hset : Step (fun k => k = R) w8 ((w8.setCell ⟨R, 1, none⟩ va').setCell ⟨R, 2, none⟩ vu') :=
    (Step.setCell (F := fun k => k = R) w8 (p := ⟨R, 1, none⟩) rfl _).trans (Step.setCell (F := fun k => k = R) _ (p := ⟨R, 2, none⟩) rfl _)
  have hR8 := h68.heap hR6 hRM
  have hR9 := heap_setCell_own w8 R 1 va' hR8
  have hR10 := heap_setCell_own _ R 2 vu' hR9
  have hown : ∀ {v : Value} {xs : List Int}, OwnI w6 base v xs → v.ownBlock ≠ some R → OwnI ((w8.setCell ⟨R, 1, none⟩ va').setCell ⟨R, 2, none⟩ vu') base v xs := fun {v xs} ho hn =>
    (ho.step h68 fun k hk e => hMc ho hM6 (by rw [hk, e])).step hset fun k hk e => hn (by rw [hk, e])
  refine ⟨⟨vu'.ownBlock, R, M, va', vu', m ++ [(x, .int .i64 (all.length : Int))], up ++ [(all.length : Int)], rfl, ?_, h3, h4, hM8.step hset (Ne.symm hRM), fun y => ?_, hown hva hna, hown hvu hnu, rfl, hne, by simp [h11], h12.add h11, ?_, by simpa using hl⟩, ?_⟩
  · simpa using hR10
  · rw [posL_app hx, List.lookup_append, h6 y]
    by_cases hy : y = x
    · subst hy
      rw [if_pos rfl]
      unfold posL
      rw [if_neg hx]
      simp [List.lookup]
    · rw [if_neg hy]
      have : List.lookup y [(x, Value.int .i64 (all.length : Int))] = none := by
        have hb : (y == x) = false := by simp [hy]
        simp only [List.lookup, hb]
      rw [this]
      cases posL all y <;> rfl
  · exact List.nodup_append.2 ⟨h13, (by simp), fun a ha b hb => by simp at hb; subst hb; intro e; exact hx (e ▸ ha)⟩
  · have s1 := hw.below hb fun k hk e => by
      rcases e with e | e
      · have := (h7.lt k e.symm).1; omega
      · have := (h8.lt k e.symm).1; omega
    have s2 := h68.below (B := base) (Nat.le_trans hb s1.size) fun k hk e => by omega
    have s3 := hset.below (B := base) (Nat.le_trans (Nat.le_trans hb s1.size) s2.size) fun k hk e => by omega
    exact (s1.trans s2).trans s3
set_option maxHeartbeats 16000000 in
theorem add_new (base : Nat) (v : Value) (all : List Int) (rep : Nat → Nat) (U : Option Nat) (x : Int) (hx : x ∉ all) (hl : all.length + 1 < 1048576) (w : World) (hS : SetsAt w base v all rep U) :
    Calls Tryz.prog 112 #[v, .int .i64 x] w fun e w' => e = .returned (.bool true) ∧ (∃ U', SetsAt w' base v (all ++ [x]) (addRep all.length rep) U') ∧ Below base w w' := by
  obtain ⟨R, M, va, vu, m, up, rfl, h2, h3, h4, h5, h6, h7, h8, h9, h10, h11, h12, h13, h14⟩ := hS.h
  have hlx : m.lookup x = none := by rw [h6 x]; unfold posL; rw [if_neg hx]
  have hx2 : (List.lookup x m).isSome = false := by rw [hlx]; rfl
  have hx1 : (List.lookup x m).getD (.int .i64 0) = .int .i64 0 := by rw [hlx]; rfl
  have hr0 := cell_of_row w R 0 _ _ _ h2
  have hr1 := cell_of_row w R 1 _ _ _ h2
  have hr2 := cell_of_row w R 2 _ _ _ h2
  simp only [List.getElem?_toArray, List.getElem?_cons_succ, List.getElem?_cons_zero] at hr0 hr1 hr2
  have hRM : R ≠ M := by
    rintro rfl
    obtain ⟨es, c, hb, _⟩ := h5.h
    rw [h2] at hb
    cases hb
  have hcR := (Array.getElem?_eq_some_iff.1 h2).1
  have hnU : ∀ k, vu.ownBlock = some k → k ≠ R ∧ k ≠ M := fun k hk => by
    obtain ⟨cs, fr, hc⟩ := h8.cells k hk
    refine ⟨fun e => ?_, fun e => ?_⟩
    · rw [e, h2] at hc; cases hc
    · obtain ⟨es, c, hb, _⟩ := h5.h
      rw [e, hb] at hc; cases hc
  have hnA : ∀ k, va.ownBlock = some k → k ≠ R ∧ k ≠ M := fun k hk => by
    obtain ⟨cs, fr, hc⟩ := h7.cells k hk
    refine ⟨fun e => ?_, fun e => ?_⟩
    · rw [e, h2] at hc; cases hc
    · obtain ⟨es, c, hb, _⟩ := h5.h
      rw [e, hb] at hc; cases hc
  obtain ⟨A1, c1, rfl, -, -, -⟩ := h7.read (by omega)
  obtain ⟨A2, c2, hu2, -, -, -⟩ := h8.read (by omega)
  rw [h11] at hu2
  subst hu2
  have HLX := Bx.mk hlx
  have H2 := Bx.mk h2
  have H5 := Bx.mk h5
  have H7 := Bx.mk h7
  have H8 := Bx.mk h8
  have HNU := Bx.mk hnU
  have HNA := Bx.mk hnA
  have HCR := Bx.mk hcR
  have HB : Bx (base ≤ w.heap.size) := ⟨by omega⟩
  have HRM : Bx (¬ R = M) := ⟨hRM⟩
  have HL1 : Bx (all.length + [x].length < 1099511627776) := ⟨by simp; omega⟩
  have HL2 : Bx (up.length + [(all.length : Int)].length < 1099511627776) := ⟨by rw [h11]; simp; omega⟩
  have HEND := Bx.mk (fun (w6 w7 w8 : World) (va' vu' : Value) => add_end (w6 := w6) (w7 := w7) (w8 := w8) (va' := va') (vu' := vu') h2 h3 h4 h5 h6 h7 h8 h11 h12 h13 hx hl)
  have H25 : Bx (¬ some R = (Value.slice A1 all.length c1).ownBlock) := ⟨fun e => (hnA R e.symm).1 rfl⟩
  have H85 : Bx (∀ k, (Value.slice A2 all.length c2).ownBlock = some k → ¬ some k = (Value.slice A1 all.length c1).ownBlock) := ⟨fun k hk e => h10 k e.symm hk⟩
  have H26 : Bx (¬ (some R = (Value.slice A1 all.length c1).ownBlock ∨ some R = (Value.slice A2 all.length c2).ownBlock)) := ⟨fun e => e.elim (fun e => (hnA R e.symm).1 rfl) (fun e => (hnU R e.symm).1 rfl)⟩
  have H56 : Bx (¬ (some M = (Value.slice A1 all.length c1).ownBlock ∨ some M = (Value.slice A2 all.length c2).ownBlock)) := ⟨fun e => e.elim (fun e => (hnA M e.symm).2 rfl) (fun e => (hnU M e.symm).2 rfl)⟩
  clear hlx h6 h9 h2 hS h10 h11 hRM hnU hnA h7 h8 h3 h4 h12 h13 h14 hcR
  go_enter Tryz.func112, Tryz.ntmps112
  go_wp2_with (at_lookup; refine arm_lookup_ok h5 (.int .i64 0) Tryz.underlying100 Tryz.underlying3 (zero_int _) rfl rfl rfl rfl ?_)
  have hS0 : w.drew.cell? ⟨R, 0, none⟩ = some (.map (some M)) ∧ w.drew.cell? ⟨R, 1, none⟩ = some (.slice A1 all.length c1) ∧ w.drew.cell? ⟨R, 2, none⟩ = some (.slice A2 all.length c2) := ⟨hr0, hr1, hr2⟩
  refine wp_region_U (k := 22) (S := fun w' => w'.cell? ⟨R, 0, none⟩ = some (.map (some M)) ∧ w'.cell? ⟨R, 1, none⟩ = some (.slice A1 all.length c1) ∧ w'.cell? ⟨R, 2, none⟩ = some (.slice A2 all.length c2)) rfl ?_
  refine wpAnyU_pure (i := 0) (v := ?_) rfl rfl (by kernel_rfl) (by kernel_rfl) (by kernel_rfl) (fun _ _ _ h => h) (Or.inl ⟨by rfl, ?_⟩) (by assumption) ?_; rotate_left 1; (focus intro w'; go_simp; try with_reducible rfl); try simp only [Act.put, List.setIfInBounds_toArray, List.set_cons_zero, List.set_cons_succ]
  refine wpAnyU_pure (i := 1) (v := ?_) rfl rfl (by kernel_rfl) (by kernel_rfl) (by kernel_rfl) (fun _ _ _ h => h) (Or.inl ⟨by rfl, ?_⟩) (by assumption) ?_; rotate_left 1; (focus intro w'; go_simp; try with_reducible rfl); try simp only [Act.put, List.setIfInBounds_toArray, List.set_cons_zero, List.set_cons_succ]
  refine wpAnyU_pure (i := 2) (v := ?_) rfl rfl (by kernel_rfl) (by kernel_rfl) (by kernel_rfl) (fun _ _ _ h => h) (Or.inl ⟨by rfl, ?_⟩) (by assumption) ?_; rotate_left 1; (focus intro w'; go_simp; try with_reducible rfl); try simp only [Act.put, List.setIfInBounds_toArray, List.set_cons_zero, List.set_cons_succ]
  refine wpAnyU_take (i := 3) (v := ?_) rfl rfl (by kernel_rfl) (by kernel_rfl) (by kernel_rfl) (by kernel_rfl) (by kernel_rfl) (fun _ _ _ h => h) (Or.inl ⟨by rfl, ?_⟩) (by assumption) ?_; rotate_left 1; (focus intro w' hSw; obtain ⟨hs0, hs1, hs2⟩ := hSw; go_simp; try with_reducible rfl); try simp only [Act.put, List.setIfInBounds_toArray, List.set_cons_zero, List.set_cons_succ]
  refine wpAnyU_pure (i := 4) (v := ?_) rfl rfl (by kernel_rfl) (by kernel_rfl) (by kernel_rfl) (fun _ _ _ h => h) (Or.inl ⟨by rfl, ?_⟩) (by assumption) ?_; rotate_left 1; (focus intro w'; go_simp; try with_reducible rfl); try simp only [Act.put, List.setIfInBounds_toArray, List.set_cons_zero, List.set_cons_succ]
  refine wpAnyU_pure (i := 5) (v := ?_) rfl rfl (by kernel_rfl) (by kernel_rfl) (by kernel_rfl) (fun _ _ _ h => h) (Or.inl ⟨by rfl, ?_⟩) (by assumption) ?_; rotate_left 1; (focus intro w'; go_simp; try with_reducible rfl); try simp only [Act.put, List.setIfInBounds_toArray, List.set_cons_zero, List.set_cons_succ]
  refine wpAnyU_pure (i := 6) (v := ?_) rfl rfl (by kernel_rfl) (by kernel_rfl) (by kernel_rfl) (fun _ _ _ h => h) (Or.inl ⟨by rfl, ?_⟩) (by assumption) ?_; rotate_left 1; (focus intro w'; go_simp; try with_reducible rfl); try simp only [Act.put, List.setIfInBounds_toArray, List.set_cons_zero, List.set_cons_succ]
  refine wpAnyU_pure (i := 7) (v := ?_) rfl rfl (by kernel_rfl) (by kernel_rfl) (by kernel_rfl) (fun _ _ _ h => h) (Or.inl ⟨by rfl, ?_⟩) (by assumption) ?_; rotate_left 1; (focus intro w'; go_simp; try with_reducible rfl); try simp only [Act.put, List.setIfInBounds_toArray, List.set_cons_zero, List.set_cons_succ]
  refine wpAnyU_pure (i := 8) (v := ?_) rfl rfl (by kernel_rfl) (by kernel_rfl) (by kernel_rfl) (fun _ _ _ h => h) (Or.inl ⟨by rfl, ?_⟩) (by assumption) ?_; rotate_left 1; (focus intro w'; go_simp; try with_reducible rfl); try simp only [Act.put, List.setIfInBounds_toArray, List.set_cons_zero, List.set_cons_succ]
  refine wpAnyU_pure (i := 9) (v := ?_) rfl rfl (by kernel_rfl) (by kernel_rfl) (by kernel_rfl) (fun _ _ _ h => h) (Or.inl ⟨by rfl, ?_⟩) (by assumption) ?_; rotate_left 1; (focus intro w'; go_simp; try with_reducible rfl); try simp only [Act.put, List.setIfInBounds_toArray, List.set_cons_zero, List.set_cons_succ]
  refine wpAnyU_pure (i := 10) (v := ?_) rfl rfl (by kernel_rfl) (by kernel_rfl) (by kernel_rfl) (fun _ _ _ h => h) (Or.inl ⟨by rfl, ?_⟩) (by assumption) ?_; rotate_left 1; (focus intro w'; go_simp; try with_reducible rfl); try simp only [Act.put, List.setIfInBounds_toArray, List.set_cons_zero, List.set_cons_succ]
  refine wpAnyU_take (i := 11) (v := ?_) rfl rfl (by kernel_rfl) (by kernel_rfl) (by kernel_rfl) (by kernel_rfl) (by kernel_rfl) (fun _ _ _ h => h) (Or.inl ⟨by rfl, ?_⟩) (by assumption) ?_; rotate_left 1; (focus intro w' hSw; obtain ⟨hs0, hs1, hs2⟩ := hSw; go_simp; try with_reducible rfl); try simp only [Act.put, List.setIfInBounds_toArray, List.set_cons_zero, List.set_cons_succ]
  refine wpAnyU_pure (i := 12) (v := ?_) rfl rfl (by kernel_rfl) (by kernel_rfl) (by kernel_rfl) (fun _ _ _ h => h) (Or.inl ⟨by rfl, ?_⟩) (by assumption) ?_; rotate_left 1; (focus intro w'; go_simp; try with_reducible rfl); try simp only [Act.put, List.setIfInBounds_toArray, List.set_cons_zero, List.set_cons_succ]
  refine wpAnyU_pure (i := 15) (v := ?_) rfl rfl (by kernel_rfl) (by kernel_rfl) (by kernel_rfl) (fun _ _ _ h => h) (Or.inl ⟨by rfl, ?_⟩) (by assumption) ?_; rotate_left 1; (focus intro w'; go_simp; try with_reducible rfl); try simp only [Act.put, List.setIfInBounds_toArray, List.set_cons_zero, List.set_cons_succ]
  refine wpAnyU_pure (i := 16) (v := ?_) rfl rfl (by kernel_rfl) (by kernel_rfl) (by kernel_rfl) (fun _ _ _ h => h) (Or.inl ⟨by rfl, ?_⟩) (by assumption) ?_; rotate_left 1; (focus intro w'; go_simp; try with_reducible rfl); try simp only [Act.put, List.setIfInBounds_toArray, List.set_cons_zero, List.set_cons_succ]
  refine wpAnyU_pure (i := 17) (v := ?_) rfl rfl (by kernel_rfl) (by kernel_rfl) (by kernel_rfl) (fun _ _ _ h => h) (Or.inl ⟨by rfl, ?_⟩) (by assumption) ?_; rotate_left 1; (focus intro w'; go_simp; try with_reducible rfl); try simp only [Act.put, List.setIfInBounds_toArray, List.set_cons_zero, List.set_cons_succ]
  refine wpAnyU_take (i := 18) (v := ?_) rfl rfl (by kernel_rfl) (by kernel_rfl) (by kernel_rfl) (by kernel_rfl) (by kernel_rfl) (fun _ _ _ h => h) (Or.inl ⟨by rfl, ?_⟩) (by assumption) ?_; rotate_left 1; (focus intro w' hSw; obtain ⟨hs0, hs1, hs2⟩ := hSw; go_simp; try with_reducible rfl); try simp only [Act.put, List.setIfInBounds_toArray, List.set_cons_zero, List.set_cons_succ]
  refine wpAnyU_pure (i := 19) (v := ?_) rfl rfl (by kernel_rfl) (by kernel_rfl) (by kernel_rfl) (fun _ _ _ h => h) (Or.inl ⟨by rfl, ?_⟩) (by assumption) ?_; rotate_left 1; (focus intro w'; go_simp; try with_reducible rfl); try simp only [Act.put, List.setIfInBounds_toArray, List.set_cons_zero, List.set_cons_succ]
  clear hx1 hx2 h5
  skip
  refine wpAnyU_two (i := 13) (j := 20) (by kernel_rfl) ?_ ?_
  · have hb1 : BB w ((w.alloc (.cells #[.int .i64 x] 3)).drew) := ((BB.refl w).al (.cells #[.int .i64 x] 3)).drawn 1
    refine StepU.mk rfl (fun K' hK' => ?_)
    go_simp
    refine hK'.out _ _ ⟨hb1.cell hr0, hb1.cell hr1, hb1.cell hr2⟩ ?_
    try simp only [Act.put, List.setIfInBounds_toArray, List.set_cons_zero, List.set_cons_succ]
    refine wpAnyU_two (i := 14) (j := 20) (by kernel_rfl) ?_ ?_
    · have hRX : RI ((w.alloc (.cells #[.int .i64 x] 3)).drew) (some ⟨w.heap.size, 0, none⟩) 1 [x] := ri_one (heap_alloc_new w (.cells #[.int .i64 x] 3))
      refine StepU.mk rfl (fun K' hK' => ?_)
      (with_reducible refine step_app_row base all (.slice A1 all.length c1) (H7.out.below hb1.b) [x] (some ⟨w.heap.size, 0, none⟩) 1 1 hRX rfl rfl rfl rfl (Nat.le_trans HB.out hb1.size) HL1.out ?_)
      intro v5 w5 ho5 hs5 hb5
      have hW5 := (step_of_bb hb1).then hs5 (fun _ _ h => h)
      have hR5 := hW5.heap H2.out H25.out
      have hB5 := hb5
      refine hK'.out _ _ ⟨cell_of_row w5 R 0 _ _ _ hR5, cell_of_row w5 R 1 _ _ _ hR5, cell_of_row w5 R 2 _ _ _ hR5⟩ ?_
      try simp only [Act.put, List.setIfInBounds_toArray, List.set_cons_zero, List.set_cons_succ]
      refine wpAnyU_one (i := 20) (by kernel_rfl) (StepU.mk rfl (fun K' hK' => ?_))
      go_simp
      have hb5a := (BB.refl w5).al (.cells #[.int .i64 (all.length : Int)] 3)
      have hN5 : RI (w5.alloc (.cells #[.int .i64 (all.length : Int)] 3)) (some ⟨w5.heap.size, 0, none⟩) 1 [(all.length : Int)] := ri_one (heap_alloc_new w5 (.cells #[.int .i64 (all.length : Int)] 3))
      refine hK'.out _ _ ⟨hb5a.cell (cell_of_row w5 R 0 _ _ _ hR5), hb5a.cell (cell_of_row w5 R 1 _ _ _ hR5), hb5a.cell (cell_of_row w5 R 2 _ _ _ hR5)⟩ ?_
      try simp only [Act.put, List.setIfInBounds_toArray, List.set_cons_zero, List.set_cons_succ]
      refine wpAnyU_one (i := 21) (by kernel_rfl) (StepU.mk rfl (fun K' hK' => ?_))
      (with_reducible refine step_app_row base up (.slice A2 all.length c2) ((H8.out.step hW5 H85.out).alloc (.cells #[.int .i64 (all.length : Int)] 3)) [(all.length : Int)] _ 1 1 hN5 rfl rfl rfl rfl (Nat.le_trans (Nat.le_trans HB.out hW5.size) hb5a.size) HL2.out ?_)
      intro v6 w6 ho6 hs6 hb6
      have hX6 := (hW5.trans (Step.alloc _ w5 (.cells #[.int .i64 (all.length : Int)] 3))).mono (fun k _ h => (show some k = (Value.slice A1 all.length c1).ownBlock ∨ some k = (Value.slice A2 all.length c2).ownBlock from .inl h))
      have hW6 := hX6.then hs6 (fun k _ h => (show some k = (Value.slice A1 all.length c1).ownBlock ∨ some k = (Value.slice A2 all.length c2).ownBlock from .inr h))
      have hR6 := hW6.heap H2.out H26.out
      have hM6 := H5.out.step hW6 H56.out
      refine hK'.out _ _ ⟨cell_of_row w6 R 0 _ _ _ hR6, cell_of_row w6 R 1 _ _ _ hR6, cell_of_row w6 R 2 _ _ _ hR6⟩ ?_
      try simp only [Act.put, List.setIfInBounds_toArray, List.set_cons_zero, List.set_cons_succ]
      have hn5 : v5.ownBlock ≠ some R ∧ ∀ k, v5.ownBlock = some k → (Value.slice A2 all.length c2).ownBlock ≠ some k := by
        rcases hb5 with e | ⟨b, e, hb⟩
        · rw [e]; exact ⟨fun h => (HNA.out R h).1 rfl, fun k hk h => H85.out k h hk.symm⟩
        · rw [e]; refine ⟨fun h => ?_, fun k hk h => ?_⟩
          · cases h; have := HCR.out; (try simp at hb); omega
          · cases hk; have := (H8.out.lt _ h).2; (try simp at hb); omega
      have ho56 : OwnI w6 base v5 (all ++ [x]) := ((ho5.alloc _)).step hs6 fun k hk e => hn5.2 k hk e.symm
      have hn6 : v6.ownBlock ≠ some R ∧ ∀ k, v5.ownBlock = some k → v6.ownBlock ≠ some k := by
        rcases hb6 with e | ⟨b, e, hb⟩
        · rw [e]; exact ⟨fun h => (HNU.out R h).1 rfl, hn5.2⟩
        · rw [e]; refine ⟨fun h => ?_, fun k hk h => ?_⟩
          · cases h; have := (Array.getElem?_eq_some_iff.1 hR5).1; (try simp at hb); omega
          · cases h; have := (ho5.lt _ hk).2; (try simp at hb); omega
      obtain ⟨s6, w7, w8, hm7, hm8, hM8, hs7, hs8⟩ := run_entry hM6 100 3 3 Tryz.underlying100 Tryz.underlying3 (.int .i64 0) (zero_int _) x HLX.out (.int .i64 (all.length : Int))
      obtain ⟨A3, n3, c3, hv3⟩ := ho5.shape'
      obtain ⟨A4, n4, c4, hv4⟩ := ho6.shape'
      subst hv3 hv4
      have HFIN := Bx.mk (HEND.out w6 w7 w8 _ _ hW6 hR6 hM6 ho56 ho6 hn6.2 hn5.1 hn6.1 hs7 hs8 hM8)
      have hR8 := (hs7.trans hs8).heap hR6 HRM.out
      have hc81 : w8.cell? ⟨R, 1, none⟩ = some (.slice A1 all.length c1) := cell_of_row w8 R 1 _ _ _ hR8
      have hf81 := frozen_of_row w8 R 1 hR8
      have hR9 := heap_setCell_own w8 R 1 (.slice A3 n3 c3) hR8
      have hc92 : (w8.setCell ⟨R, 1, none⟩ (.slice A3 n3 c3)).cell? ⟨R, 2, none⟩ = some (.slice A2 all.length c2) := cell_of_row _ R 2 _ _ _ hR9
      have hf92 := frozen_of_row _ R 2 hR9
      clear hW6 hX6 hR6 hM6 hR8 hR9 hR5 hn5 hn6 ho56 ho5 ho6 hs5 hs6 hs7 hs8 hM8 hB5 hb5 hb6 hW5
      refine wpAnyU_one (i := 22) (by kernel_rfl) (StepU.last rfl (by kernel_rfl) (fun K' hK' => ?_))
      go_simp
      refine hK'.out _ _ ?_
      try simp only [Act.put, List.setIfInBounds_toArray, List.set_cons_zero, List.set_cons_succ]
      refine wpAny_one (i := 23) (by kernel_rfl) rfl (fun K' hK' => ?_)
      go_simp
      refine hK'.out _ _ ?_
      try simp only [Act.put, List.setIfInBounds_toArray, List.set_cons_zero, List.set_cons_succ]
      refine wpAny_one (i := 24) (by kernel_rfl) rfl (fun K' hK' => ?_)
      go_simp
      refine hK'.out _ _ ?_
      try simp only [Act.put, List.setIfInBounds_toArray, List.set_cons_zero, List.set_cons_succ]
      refine wpAny_one (i := 25) (by kernel_rfl) rfl (fun K' hK' => ?_)
      go_simp
      refine hK'.out _ _ ?_
      try simp only [Act.put, List.setIfInBounds_toArray, List.set_cons_zero, List.set_cons_succ]
      refine wpAny_one (i := 26) (by kernel_rfl) rfl (fun K' hK' => ?_)
      go_simp
      refine hK'.out _ _ ?_
      try simp only [Act.put, List.setIfInBounds_toArray, List.set_cons_zero, List.set_cons_succ]
      refine wpAny_one (i := 27) (by kernel_rfl) rfl (fun K' hK' => ?_)
      go_simp
      refine hK'.out _ _ ?_
      try simp only [Act.put, List.setIfInBounds_toArray, List.set_cons_zero, List.set_cons_succ]
      refine wpAny_one (i := 28) (by kernel_rfl) rfl (fun K' hK' => ?_)
      go_simp
      refine hK'.out _ _ ?_
      try simp only [Act.put, List.setIfInBounds_toArray, List.set_cons_zero, List.set_cons_succ]
      refine wpAny_one (i := 29) (by kernel_rfl) rfl (fun K' hK' => ?_)
      go_simp
      refine hK'.out _ _ ?_
      try simp only [Act.put, List.setIfInBounds_toArray, List.set_cons_zero, List.set_cons_succ]
      refine wpAny_one (i := 30) (by kernel_rfl) rfl (fun K' hK' => ?_)
      go_simp
      refine hK'.out _ _ ?_
      try simp only [Act.put, List.setIfInBounds_toArray, List.set_cons_zero, List.set_cons_succ]
      refine wpAny_done (by kernel_rfl) ?_ _
      go_wp2
      go_ret
      exact ⟨rfl, HFIN.out⟩
    · have hb2 : BB w (((w.alloc (.cells #[.int .i64 x] 3)).alloc (.cells #[.int .i64 (all.length : Int)] 3)).drew) := (((BB.refl w).al (.cells #[.int .i64 x] 3)).al (.cells #[.int .i64 (all.length : Int)] 3)).drawn 1
      refine StepU.mk rfl (fun K' hK' => ?_)
      go_simp
      refine hK'.out _ _ ⟨hb2.cell hr0, hb2.cell hr1, hb2.cell hr2⟩ ?_
      try simp only [Act.put, List.setIfInBounds_toArray, List.set_cons_zero, List.set_cons_succ]
      have hRX : RI (((w.alloc (.cells #[.int .i64 x] 3)).alloc (.cells #[.int .i64 (all.length : Int)] 3)).drew) (some ⟨w.heap.size, 0, none⟩) 1 [x] := ri_one ((Below.heap_alloc _ _ _ (by simp)).trans (heap_alloc_new w (.cells #[.int .i64 x] 3)))
      refine wpAnyU_one (i := 14) (by kernel_rfl) ?_; refine StepU.mk rfl (fun K' hK' => ?_)
      (with_reducible refine step_app_row base all (.slice A1 all.length c1) (H7.out.below hb2.b) [x] (some ⟨w.heap.size, 0, none⟩) 1 1 hRX rfl rfl rfl rfl (Nat.le_trans HB.out hb2.size) HL1.out ?_)
      intro v5 w5 ho5 hs5 hb5
      have hW5 := (step_of_bb hb2).then hs5 (fun _ _ h => h)
      have hR5 := hW5.heap H2.out H25.out
      have hB5 := hb5
      refine hK'.out _ _ ⟨cell_of_row w5 R 0 _ _ _ hR5, cell_of_row w5 R 1 _ _ _ hR5, cell_of_row w5 R 2 _ _ _ hR5⟩ ?_
      try simp only [Act.put, List.setIfInBounds_toArray, List.set_cons_zero, List.set_cons_succ]
      have hN : RI (((w.alloc (.cells #[.int .i64 x] 3)).alloc (.cells #[.int .i64 (all.length : Int)] 3)).drew) (some ⟨w.heap.size + 1, 0, none⟩) 1 [(all.length : Int)] := ri_one (alloc_two w _ _)
      have hN5 := hN.step hs5 (fun a ha _ e => by cases ha; have := (H7.out.lt _ e.symm).2; dsimp only at this; omega)
      refine wpAnyU_one (i := 21) (by kernel_rfl) (StepU.mk rfl (fun K' hK' => ?_))
      (with_reducible refine step_app_row base up (.slice A2 all.length c2) (H8.out.step hW5 H85.out) [(all.length : Int)] _ 1 1 hN5 rfl rfl rfl rfl (Nat.le_trans HB.out hW5.size) HL2.out ?_)
      intro v6 w6 ho6 hs6 hb6
      have hX6 := hW5.mono (fun k _ h => (show some k = (Value.slice A1 all.length c1).ownBlock ∨ some k = (Value.slice A2 all.length c2).ownBlock from .inl h))
      have hW6 := hX6.then hs6 (fun k _ h => (show some k = (Value.slice A1 all.length c1).ownBlock ∨ some k = (Value.slice A2 all.length c2).ownBlock from .inr h))
      have hR6 := hW6.heap H2.out H26.out
      have hM6 := H5.out.step hW6 H56.out
      refine hK'.out _ _ ⟨cell_of_row w6 R 0 _ _ _ hR6, cell_of_row w6 R 1 _ _ _ hR6, cell_of_row w6 R 2 _ _ _ hR6⟩ ?_
      try simp only [Act.put, List.setIfInBounds_toArray, List.set_cons_zero, List.set_cons_succ]
      have hn5 : v5.ownBlock ≠ some R ∧ ∀ k, v5.ownBlock = some k → (Value.slice A2 all.length c2).ownBlock ≠ some k := by
        rcases hb5 with e | ⟨b, e, hb⟩
        · rw [e]; exact ⟨fun h => (HNA.out R h).1 rfl, fun k hk h => H85.out k h hk.symm⟩
        · rw [e]; refine ⟨fun h => ?_, fun k hk h => ?_⟩
          · cases h; have := HCR.out; (try simp at hb); omega
          · cases hk; have := (H8.out.lt _ h).2; (try simp at hb); omega
      have ho56 : OwnI w6 base v5 (all ++ [x]) := (ho5).step hs6 fun k hk e => hn5.2 k hk e.symm
      have hn6 : v6.ownBlock ≠ some R ∧ ∀ k, v5.ownBlock = some k → v6.ownBlock ≠ some k := by
        rcases hb6 with e | ⟨b, e, hb⟩
        · rw [e]; exact ⟨fun h => (HNU.out R h).1 rfl, hn5.2⟩
        · rw [e]; refine ⟨fun h => ?_, fun k hk h => ?_⟩
          · cases h; have := (Array.getElem?_eq_some_iff.1 hR5).1; (try simp at hb); omega
          · cases h; have := (ho5.lt _ hk).2; (try simp at hb); omega
      obtain ⟨s6, w7, w8, hm7, hm8, hM8, hs7, hs8⟩ := run_entry hM6 100 3 3 Tryz.underlying100 Tryz.underlying3 (.int .i64 0) (zero_int _) x HLX.out (.int .i64 (all.length : Int))
      obtain ⟨A3, n3, c3, hv3⟩ := ho5.shape'
      obtain ⟨A4, n4, c4, hv4⟩ := ho6.shape'
      subst hv3 hv4
      have HFIN := Bx.mk (HEND.out w6 w7 w8 _ _ hW6 hR6 hM6 ho56 ho6 hn6.2 hn5.1 hn6.1 hs7 hs8 hM8)
      have hR8 := (hs7.trans hs8).heap hR6 HRM.out
      have hc81 : w8.cell? ⟨R, 1, none⟩ = some (.slice A1 all.length c1) := cell_of_row w8 R 1 _ _ _ hR8
      have hf81 := frozen_of_row w8 R 1 hR8
      have hR9 := heap_setCell_own w8 R 1 (.slice A3 n3 c3) hR8
      have hc92 : (w8.setCell ⟨R, 1, none⟩ (.slice A3 n3 c3)).cell? ⟨R, 2, none⟩ = some (.slice A2 all.length c2) := cell_of_row _ R 2 _ _ _ hR9
      have hf92 := frozen_of_row _ R 2 hR9
      clear hW6 hX6 hR6 hM6 hR8 hR9 hR5 hn5 hn6 ho56 ho5 ho6 hs5 hs6 hs7 hs8 hM8 hB5 hb5 hb6 hW5
      refine wpAnyU_one (i := 22) (by kernel_rfl) (StepU.last rfl (by kernel_rfl) (fun K' hK' => ?_))
      go_simp
      refine hK'.out _ _ ?_
      try simp only [Act.put, List.setIfInBounds_toArray, List.set_cons_zero, List.set_cons_succ]
      refine wpAny_one (i := 23) (by kernel_rfl) rfl (fun K' hK' => ?_)
      go_simp
      refine hK'.out _ _ ?_
      try simp only [Act.put, List.setIfInBounds_toArray, List.set_cons_zero, List.set_cons_succ]
      refine wpAny_one (i := 24) (by kernel_rfl) rfl (fun K' hK' => ?_)
      go_simp
      refine hK'.out _ _ ?_
      try simp only [Act.put, List.setIfInBounds_toArray, List.set_cons_zero, List.set_cons_succ]
      refine wpAny_one (i := 25) (by kernel_rfl) rfl (fun K' hK' => ?_)
      go_simp
      refine hK'.out _ _ ?_
      try simp only [Act.put, List.setIfInBounds_toArray, List.set_cons_zero, List.set_cons_succ]
      refine wpAny_one (i := 26) (by kernel_rfl) rfl (fun K' hK' => ?_)
      go_simp
      refine hK'.out _ _ ?_
      try simp only [Act.put, List.setIfInBounds_toArray, List.set_cons_zero, List.set_cons_succ]
      refine wpAny_one (i := 27) (by kernel_rfl) rfl (fun K' hK' => ?_)
      go_simp
      refine hK'.out _ _ ?_
      try simp only [Act.put, List.setIfInBounds_toArray, List.set_cons_zero, List.set_cons_succ]
      refine wpAny_one (i := 28) (by kernel_rfl) rfl (fun K' hK' => ?_)
      go_simp
      refine hK'.out _ _ ?_
      try simp only [Act.put, List.setIfInBounds_toArray, List.set_cons_zero, List.set_cons_succ]
      refine wpAny_one (i := 29) (by kernel_rfl) rfl (fun K' hK' => ?_)
      go_simp
      refine hK'.out _ _ ?_
      try simp only [Act.put, List.setIfInBounds_toArray, List.set_cons_zero, List.set_cons_succ]
      refine wpAny_one (i := 30) (by kernel_rfl) rfl (fun K' hK' => ?_)
      go_simp
      refine hK'.out _ _ ?_
      try simp only [Act.put, List.setIfInBounds_toArray, List.set_cons_zero, List.set_cons_succ]
      refine wpAny_done (by kernel_rfl) ?_ _
      go_wp2
      go_ret
      exact ⟨rfl, HFIN.out⟩
  · have hb4 : BB w ((w.alloc (.cells #[.int .i64 (all.length : Int)] 3)).drew) := ((BB.refl w).al (.cells #[.int .i64 (all.length : Int)] 3)).drawn 1
    refine StepU.mk rfl (fun K' hK' => ?_)
    go_simp
    refine hK'.out _ _ ⟨hb4.cell hr0, hb4.cell hr1, hb4.cell hr2⟩ ?_
    try simp only [Act.put, List.setIfInBounds_toArray, List.set_cons_zero, List.set_cons_succ]
    have hb3 : BB w (((w.alloc (.cells #[.int .i64 (all.length : Int)] 3)).alloc (.cells #[.int .i64 x] 3)).drew) := (((BB.refl w).al (.cells #[.int .i64 (all.length : Int)] 3)).al (.cells #[.int .i64 x] 3)).drawn 1
    refine wpAnyU_one (i := 13) (by kernel_rfl) (StepU.mk rfl (fun K' hK' => ?_))
    go_simp
    refine hK'.out _ _ ⟨hb3.cell hr0, hb3.cell hr1, hb3.cell hr2⟩ ?_
    try simp only [Act.put, List.setIfInBounds_toArray, List.set_cons_zero, List.set_cons_succ]
    have hRX : RI (((w.alloc (.cells #[.int .i64 (all.length : Int)] 3)).alloc (.cells #[.int .i64 x] 3)).drew) (some ⟨w.heap.size + 1, 0, none⟩) 1 [x] := ri_one (alloc_two w _ _)
    refine wpAnyU_one (i := 14) (by kernel_rfl) ?_; refine StepU.mk rfl (fun K' hK' => ?_)
    (with_reducible refine step_app_row base all (.slice A1 all.length c1) (H7.out.below hb3.b) [x] (some ⟨w.heap.size + 1, 0, none⟩) 1 1 hRX rfl rfl rfl rfl (Nat.le_trans HB.out hb3.size) HL1.out ?_)
    intro v5 w5 ho5 hs5 hb5
    have hW5 := (step_of_bb hb3).then hs5 (fun _ _ h => h)
    have hR5 := hW5.heap H2.out H25.out
    have hB5 := hb5
    refine hK'.out _ _ ⟨cell_of_row w5 R 0 _ _ _ hR5, cell_of_row w5 R 1 _ _ _ hR5, cell_of_row w5 R 2 _ _ _ hR5⟩ ?_
    try simp only [Act.put, List.setIfInBounds_toArray, List.set_cons_zero, List.set_cons_succ]
    have hN : RI (((w.alloc (.cells #[.int .i64 (all.length : Int)] 3)).alloc (.cells #[.int .i64 x] 3)).drew) (some ⟨w.heap.size, 0, none⟩) 1 [(all.length : Int)] := ri_one ((Below.heap_alloc _ _ _ (by simp)).trans (heap_alloc_new w (.cells #[.int .i64 (all.length : Int)] 3)))
    have hN5 := hN.step hs5 (fun a ha _ e => by cases ha; have := (H7.out.lt _ e.symm).2; dsimp only at this; omega)
    refine wpAnyU_one (i := 21) (by kernel_rfl) (StepU.mk rfl (fun K' hK' => ?_))
    (with_reducible refine step_app_row base up (.slice A2 all.length c2) (H8.out.step hW5 H85.out) [(all.length : Int)] _ 1 1 hN5 rfl rfl rfl rfl (Nat.le_trans HB.out hW5.size) HL2.out ?_)
    intro v6 w6 ho6 hs6 hb6
    have hX6 := hW5.mono (fun k _ h => (show some k = (Value.slice A1 all.length c1).ownBlock ∨ some k = (Value.slice A2 all.length c2).ownBlock from .inl h))
    have hW6 := hX6.then hs6 (fun k _ h => (show some k = (Value.slice A1 all.length c1).ownBlock ∨ some k = (Value.slice A2 all.length c2).ownBlock from .inr h))
    have hR6 := hW6.heap H2.out H26.out
    have hM6 := H5.out.step hW6 H56.out
    refine hK'.out _ _ ⟨cell_of_row w6 R 0 _ _ _ hR6, cell_of_row w6 R 1 _ _ _ hR6, cell_of_row w6 R 2 _ _ _ hR6⟩ ?_
    try simp only [Act.put, List.setIfInBounds_toArray, List.set_cons_zero, List.set_cons_succ]
    have hn5 : v5.ownBlock ≠ some R ∧ ∀ k, v5.ownBlock = some k → (Value.slice A2 all.length c2).ownBlock ≠ some k := by
      rcases hb5 with e | ⟨b, e, hb⟩
      · rw [e]; exact ⟨fun h => (HNA.out R h).1 rfl, fun k hk h => H85.out k h hk.symm⟩
      · rw [e]; refine ⟨fun h => ?_, fun k hk h => ?_⟩
        · cases h; have := HCR.out; (try simp at hb); omega
        · cases hk; have := (H8.out.lt _ h).2; (try simp at hb); omega
    have ho56 : OwnI w6 base v5 (all ++ [x]) := (ho5).step hs6 fun k hk e => hn5.2 k hk e.symm
    have hn6 : v6.ownBlock ≠ some R ∧ ∀ k, v5.ownBlock = some k → v6.ownBlock ≠ some k := by
      rcases hb6 with e | ⟨b, e, hb⟩
      · rw [e]; exact ⟨fun h => (HNU.out R h).1 rfl, hn5.2⟩
      · rw [e]; refine ⟨fun h => ?_, fun k hk h => ?_⟩
        · cases h; have := (Array.getElem?_eq_some_iff.1 hR5).1; (try simp at hb); omega
        · cases h; have := (ho5.lt _ hk).2; (try simp at hb); omega
    obtain ⟨s6, w7, w8, hm7, hm8, hM8, hs7, hs8⟩ := run_entry hM6 100 3 3 Tryz.underlying100 Tryz.underlying3 (.int .i64 0) (zero_int _) x HLX.out (.int .i64 (all.length : Int))
    obtain ⟨A3, n3, c3, hv3⟩ := ho5.shape'
    obtain ⟨A4, n4, c4, hv4⟩ := ho6.shape'
    subst hv3 hv4
    have HFIN := Bx.mk (HEND.out w6 w7 w8 _ _ hW6 hR6 hM6 ho56 ho6 hn6.2 hn5.1 hn6.1 hs7 hs8 hM8)
    have hR8 := (hs7.trans hs8).heap hR6 HRM.out
    have hc81 : w8.cell? ⟨R, 1, none⟩ = some (.slice A1 all.length c1) := cell_of_row w8 R 1 _ _ _ hR8
    have hf81 := frozen_of_row w8 R 1 hR8
    have hR9 := heap_setCell_own w8 R 1 (.slice A3 n3 c3) hR8
    have hc92 : (w8.setCell ⟨R, 1, none⟩ (.slice A3 n3 c3)).cell? ⟨R, 2, none⟩ = some (.slice A2 all.length c2) := cell_of_row _ R 2 _ _ _ hR9
    have hf92 := frozen_of_row _ R 2 hR9
    clear hW6 hX6 hR6 hM6 hR8 hR9 hR5 hn5 hn6 ho56 ho5 ho6 hs5 hs6 hs7 hs8 hM8 hB5 hb5 hb6 hW5
    refine wpAnyU_one (i := 22) (by kernel_rfl) (StepU.last rfl (by kernel_rfl) (fun K' hK' => ?_))
    go_simp
    refine hK'.out _ _ ?_
    try simp only [Act.put, List.setIfInBounds_toArray, List.set_cons_zero, List.set_cons_succ]
    refine wpAny_one (i := 23) (by kernel_rfl) rfl (fun K' hK' => ?_)
    go_simp
    refine hK'.out _ _ ?_
    try simp only [Act.put, List.setIfInBounds_toArray, List.set_cons_zero, List.set_cons_succ]
    refine wpAny_one (i := 24) (by kernel_rfl) rfl (fun K' hK' => ?_)
    go_simp
    refine hK'.out _ _ ?_
    try simp only [Act.put, List.setIfInBounds_toArray, List.set_cons_zero, List.set_cons_succ]
    refine wpAny_one (i := 25) (by kernel_rfl) rfl (fun K' hK' => ?_)
    go_simp
    refine hK'.out _ _ ?_
    try simp only [Act.put, List.setIfInBounds_toArray, List.set_cons_zero, List.set_cons_succ]
    refine wpAny_one (i := 26) (by kernel_rfl) rfl (fun K' hK' => ?_)
    go_simp
    refine hK'.out _ _ ?_
    try simp only [Act.put, List.setIfInBounds_toArray, List.set_cons_zero, List.set_cons_succ]
    refine wpAny_one (i := 27) (by kernel_rfl) rfl (fun K' hK' => ?_)
    go_simp
    refine hK'.out _ _ ?_
    try simp only [Act.put, List.setIfInBounds_toArray, List.set_cons_zero, List.set_cons_succ]
    refine wpAny_one (i := 28) (by kernel_rfl) rfl (fun K' hK' => ?_)
    go_simp
    refine hK'.out _ _ ?_
    try simp only [Act.put, List.setIfInBounds_toArray, List.set_cons_zero, List.set_cons_succ]
    refine wpAny_one (i := 29) (by kernel_rfl) rfl (fun K' hK' => ?_)
    go_simp
    refine hK'.out _ _ ?_
    try simp only [Act.put, List.setIfInBounds_toArray, List.set_cons_zero, List.set_cons_succ]
    refine wpAny_one (i := 30) (by kernel_rfl) rfl (fun K' hK' => ?_)
    go_simp
    refine hK'.out _ _ ?_
    try simp only [Act.put, List.setIfInBounds_toArray, List.set_cons_zero, List.set_cons_succ]
    refine wpAny_done (by kernel_rfl) ?_ _
    go_wp2
    go_ret
    exact ⟨rfl, HFIN.out⟩
end Go.Proofs.YtefhmlgepnlaoaaGreat
