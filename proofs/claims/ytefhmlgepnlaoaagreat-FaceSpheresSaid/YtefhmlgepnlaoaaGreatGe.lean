/- Walks: face.Genus. -/
import Derived.Test.YtefhmlgepnlaoaaGreatPb
import Derived.Test.YtefhmlgepnlaoaaGreatSr
import Derived.Test.YtefhmlgepnlaoaaGreatGd
set_option linter.unusedVariables false
set_option linter.unusedSimpArgs false
namespace Go.Proofs.YtefhmlgepnlaoaaGreat
open Go.RowKit

/-! Groups rise. -/
theorem groupsTo_rise {all : List Int} (hall : all.Pairwise (· < ·)) (rep : Nat → Nat) : ∀ k, k ≤ all.length → ∀ l ∈ (groupsTo all rep k).2, l.Pairwise (· < ·) ∧ ∀ x ∈ l, ∀ j, k ≤ j → j < all.length → x < gi all j := by
  have hlt : ∀ i j, i < j → j < all.length → gi all i < gi all j := fun i j hij hj => by
    rw [gi_eq (by omega), gi_eq hj]
    exact List.pairwise_iff_getElem.1 hall i j (by omega) hj hij
  intro k
  induction k with
  | zero => intro _ l hl; cases hl
  | succ k ih =>
    intro hk l hl
    have ih := ih (by omega)
    have hg := (groupsTo_ok all rep k).1
    unfold groupsTo addG at hl
    split at hl
    · rename_i hm
      dsimp only at hl
      rcases List.mem_or_eq_of_mem_set hl with hl | rfl
      · exact ⟨(ih l hl).1, fun x hx j hj hj2 => (ih l hl).2 x hx j (by omega) hj2⟩
      · have hp := posN_lt hm
        have hmem : (groupsTo all rep k).2.getD (posN (groupsTo all rep k).1 ((rep k : Nat) : Int)) [] ∈ (groupsTo all rep k).2 := by
          rw [List.getD_eq_getElem?_getD, List.getElem?_eq_getElem (by omega), Option.getD_some]
          exact List.getElem_mem _
        obtain ⟨i1, i2⟩ := ih _ hmem
        refine ⟨List.pairwise_append.2 ⟨i1, by simp, fun x hx y hy => ?_⟩, fun x hx j hj hj2 => ?_⟩
        · rw [List.mem_singleton] at hy; subst hy; exact i2 x hx k (Nat.le_refl _) (by omega)
        · rcases List.mem_append.1 hx with hx | hx
          · exact i2 x hx j (by omega) hj2
          · rw [List.mem_singleton] at hx; subst hx; exact hlt k j (by omega) hj2
    · dsimp only at hl
      rcases List.mem_append.1 hl with hl | hl
      · exact ⟨(ih l hl).1, fun x hx j hj hj2 => (ih l hl).2 x hx j (by omega) hj2⟩
      · rw [List.mem_singleton] at hl
        subst hl
        exact ⟨by simp, fun x hx j hj hj2 => by rw [List.mem_singleton] at hx; subst hx; exact hlt k j (by omega) hj2⟩
/-- Of each piece: its vertices rise, and are of the part. -/
theorem pieces_ok {g : Gr} {p : Pt} (h0 : g.rightPart p = 0) : (piecesF g p).length ≤ p.V.length ∧ ∀ x ∈ piecesF g p, x.1.Pairwise (· < ·) ∧ x.1.length ≤ p.V.length ∧ x.2.length ≤ p.E.length := by
  have hV := (risesF_sound _ _ _ (Gr.rightPart_ok h0).2.1).1
  unfold piecesF
  refine ⟨by rw [List.length_map]; exact (groupsTo_ok _ _ _).2.2.1, fun x hx => ?_⟩
  obtain ⟨l, hl, rfl⟩ := List.mem_map.1 hx
  exact ⟨(groupsTo_rise hV _ _ (Nat.le_refl _) l hl).1, (groupsTo_ok _ _ _).2.2.2 l hl, List.length_filter_le ..⟩
/-- A walk's corner. -/
def cornerF (g : Gr) (u : Int × List Int) : Int := gi (g.corners u) 0
def facesF (g : Gr) (us : List (Int × List Int)) (V : List Int) : Nat := (us.filter fun u => decide (cornerF g u ∈ V)).length
def genusOf (g : Gr) (us : List (Int × List Int)) (x : List Int × List Int) : Int := Int.tdiv (2 - x.1.length + x.2.length - facesF g us x.1) 2
def genusF (g : Gr) (p : Pt) (us : List (Int × List Int)) : List Int := (piecesF g p).map (genusOf g us)
theorem facesF_take {g : Gr} {us : List (Int × List Int)} {V : List Int} {k : Nat} (hk : k < us.length) : facesF g (us.take (k + 1)) V = facesF g (us.take k) V + if decide (cornerF g us[k] ∈ V) = true then 1 else 0 := by
  unfold facesF
  rw [List.take_succ_eq_append_getElem hk, List.filter_append, List.length_append]
  congr 1
  cases h : decide (cornerF g us[k] ∈ V) <;> simp [List.filter, h]
theorem facesF_le (g : Gr) (us : List (Int × List Int)) (V : List Int) : facesF g us V ≤ us.length := List.length_filter_le ..
theorem len_flat {α : Type} {u : α × List Int} : ∀ {us : List (α × List Int)}, u ∈ us → u.2.length ≤ (us.flatMap Prod.snd).length := by
  intro us
  induction us with
  | nil => intro h; cases h
  | cons x us ih =>
    intro h
    rw [List.flatMap_cons, List.length_append]
    rcases List.mem_cons.1 h with rfl | h
    · omega
    · have := ih h; omega
/-- Each walk has a corner. -/
theorem corner_ok {g : Gr} {p : Pt} {tn : List (List Int)} (h0 : g.rotaErr p tn = 0) {us : List (Int × List Int)} (hw : WalksOk p us) {u : Int × List Int} (hu : u ∈ us) :
    0 < (g.corners u).length ∧ (g.corners u).length ≤ 2049 ∧ -1048576 ≤ u.1 ∧ u.1 < 1048576 ∧ (∀ d ∈ u.2, d < 1048576) ∧ u.2.length < 1048576 := by
  have ht := turns_of h0
  have hsub : ∀ d ∈ u.2, d ∈ dartsAll p.E := fun d hd => hw.perm.mem_iff.1 (List.mem_flatMap.2 ⟨u, hu, hd⟩)
  have hlen : u.2.length ≤ (dartsAll p.E).length := by
    rw [← hw.perm.length_eq]
    exact len_flat hu
  have h2 := ht.len
  have hE := edges_ok (rotaErr_part h0).1
  have hr := Gr.rightPart_ok (rotaErr_part h0).1
  have hgr := Gr.right_ok hr.1
  rcases hc : u.2 with _ | ⟨d, ds⟩
  · obtain ⟨v, hv, hk⟩ := hw.lone u hu hc
    have hv2 := (risesF_sound _ _ _ hr.2.1).2 v hv
    have : g.corners u = [-1 - u.1] := by unfold Gr.corners; rw [if_pos ⟨by omega, by omega, by rw [hc]; rfl⟩]
    rw [this]
    refine ⟨by simp, by simp, by omega, by omega, fun d hd => (by cases hd), by simp⟩
  · have hne : u.2 ≠ [] := by rw [hc]; simp
    obtain ⟨k1, k2⟩ := hw.head u hu hne
    have hall : ∀ d ∈ u.2, (g.endsF d).2.2 = true := fun d hd => by
      obtain ⟨e, he, hd⟩ := mem_dartsAll'.1 (hsub d hd)
      have := hE e he
      unfold Gr.endsF
      rw [if_neg (by rw [hr.1]; omega)]
      split <;> rfl
    have hcr : g.corners u = u.2.map fun d => (g.endsF d).1 := by
      unfold Gr.corners
      rw [if_neg (by rw [hc]; simp), tails_ok g u.2 hall]
      rfl
    have h0d := ht.pos _ (hsub _ (gi_mem (xs := u.2) (i := 0) (by rw [hc]; simp)))
    rw [k1] at h0d
    rw [← hc, hcr, List.length_map]
    refine ⟨by rw [hc]; simp, by omega, by omega, by omega, fun d hd => by have := ht.pos d (hsub d hd); omega, by omega⟩
def GenusLaw (g : Gr) (p : Pt) (tn : List (List Int)) (w : World) (e : Ending) (w' : World) : Prop :=
  (∃ u, e = .returned (.tuple #[u, .int .i64 (g.rotaErr p tn)]) ∧ (if g.rotaErr p tn = 0 then ∃ us, us.Perm (wF p tn) ∧ WalksOk p us ∧ OwnI w' w.heap.size u (genusF g p us) else u = .slice none 0 0)) ∧ Below w.heap.size w w'
set_option maxHeartbeats 4000000 in
theorem genus_law (g : Gr) (p : Pt) (tn : List (List Int)) (A A1 A2 A3 : Option Addr) (n c n1 c1 n2 c2 n3 c3 : Nat) (w : World) (hA : RE w A n g.E) (h1 : RI w A1 n1 p.V) (h2 : RI w A2 n2 p.E) (h3 : RL w A3 n3 tn) (hs3 : tn.length < 1099511627776) (hs : ∀ l ∈ tn, l.length < 1099511627776) :
    Calls Tryz.prog 13 #[.agg #[.int .i64 g.N, .slice A n c], .agg #[.slice A1 n1 c1, .slice A2 n2 c2], .slice A3 n3 c3] w fun e w' => GenusLaw g p tn w e w' := by
  have HA := Bx.mk hA
  have H1 := Bx.mk h1
  have H2 := Bx.mk h2
  have H3 := Bx.mk h3
  have HS := Bx.mk hs
  clear hA h1 h2 h3 hs
  have BA := Bx.mk (((BB.refl w).al (.cells #[.int .i64 g.N, .slice A n c] 24)).al (.cells #[.slice A1 n1 c1, .slice A2 n2 c2] 27))
  by_cases h0 : g.rotaErr p tn = 0
  case neg =>
    have h0b : (g.rotaErr p tn != 0) = true := by simp [h0]
    have H0 := Bx.mk h0
    clear h0
    go_enter Tryz.func13, Tryz.ntmps13
    go_wp2_with (go_at_call 19; (with_reducible refine (walks_law g p tn A A1 A2 A3 n c n1 c1 n2 c2 n3 c3 _ (BA.out.re HA.out) (BA.out.ri H1.out) (BA.out.ri H2.out) (BA.out.rl H3.out) hs3 HS.out).mono ?_); rintro e w1 ⟨⟨u1, rfl, hu1⟩, hb1⟩; rw [if_neg H0.out] at hu1; subst hu1)
    go_ret2
    exact ⟨⟨.slice none 0 0, rfl, by rw [if_neg H0.out]⟩, (BA.out.call hb1).b⟩
  case pos =>
    have h0b : (g.rotaErr p tn != 0) = false := by simp [h0]
    have H0 := Bx.mk h0
    have hp0 := (rotaErr_part h0).1
    have HP0 := Bx.mk hp0
    have HPK := Bx.mk (pieces_ok hp0)
    obtain ⟨ps, hps⟩ : ∃ ps, Bx (piecesF g p = ps) := ⟨_, ⟨rfl⟩⟩
    rw [hps.out] at HPK
    have hvl := (verts_len h0).1
    have hel := (verts_len h0).2
    have hdl : (dartsAll p.E).length ≤ 2048 := by rw [dartsAll_len]; omega
    clear h0 hp0
    go_enter Tryz.func13, Tryz.ntmps13
    go_wp2_with (first
      | (go_at_call 19; (with_reducible refine (walks_law g p tn A A1 A2 A3 n c n1 c1 n2 c2 n3 c3 _ (BA.out.re HA.out) (BA.out.ri H1.out) (BA.out.ri H2.out) (BA.out.rl H3.out) hs3 HS.out).mono ?_); rintro e w1 ⟨⟨u1, rfl, hu1⟩, hb1⟩; rw [if_pos H0.out] at hu1; obtain ⟨us, hpu, hwk, hOW⟩ := hu1; obtain ⟨A4, c4, hv4, hc4⟩ := hOW.shape; subst hv4; have HC := BB.mk hb1; have HW1 := BA.out.call hb1; have hG1 := HC.cell (box_cell1 w #[.int .i64 g.N, .slice A n c] 24 (0, 0) (.cells #[.slice A1 n1 c1, .slice A2 n2 c2] 27) 0); have hG2 := HC.cell (box_cell1 w #[.int .i64 g.N, .slice A n c] 24 (0, 0) (.cells #[.slice A1 n1 c1, .slice A2 n2 c2] 27) 1); have hP1 := HC.cell (box_cell2 w #[.slice A1 n1 c1, .slice A2 n2 c2] 27 (0, 0) (.cells #[.int .i64 g.N, .slice A n c] 24) 0); have hP2 := HC.cell (box_cell2 w #[.slice A1 n1 c1, .slice A2 n2 c2] 27 (0, 0) (.cells #[.int .i64 g.N, .slice A n c] 24) 1); have hz1 := HC.pos2; clear hb1)
      | (go_at_call 40; (with_reducible refine (pieces_any g p A A1 A2 n c n1 c1 n2 c2 _ (HW1.re HA.out) (HW1.ri H1.out) (HW1.ri H2.out)).mono ?_); rintro e w2 ⟨⟨u2, rfl, hu2⟩, hb2⟩; rw [if_pos HP0.out, hps.out] at hu2; obtain ⟨A5, c5, hv5, hc5⟩ := hu2.shape; subst hv5; have HB2 := BB.mk hb2; have hG12 := HB2.cell hG1; have hG22 := HB2.cell hG2; clear hb2)
      | fail)
    have hz2 := HB2.size
    have hOW2 := hOW.below HB2.b
    have hpl : ps.length ≤ 1024 := by have := HPK.out.1; omega
    have hul : us.length ≤ 3072 := by have := hwk.few; omega
    have HWK := Bx.mk (fun u hu => corner_ok H0.out hwk (u := u) hu)
    have HWK2 := Bx.mk hwk
    have HW2 := Bx.mk (HW1.trans HB2)
    have HG := Bx.mk (And.intro hG12 hG22)
    have HZ := Bx.mk hz2
    have HPU := Bx.mk hpu
    clear hOW hwk hpu HC HW1 HB2 hG1 hG2 hP1 hP2 hz1 hG12 hG22 hz2
    go_loopw [36, 12] (fun iv xv wr => ∃ (k : Nat) (A6 : Option Addr) (c6 : Nat), k ≤ ps.length ∧ iv = .int .i64 k ∧ xv = .slice A6 k c6 ∧ OwnI wr w2.heap.size (.slice A6 k c6) ((ps.take k).map (genusOf g us)) ∧ BB w2 wr) (fun iv _ _ => ps.length - (intOf iv).toNat)
    case atStart => exact ⟨0, none, 0, Nat.zero_le _, rfl, rfl, OwnI.nil _ _, BB.refl _⟩
    case round =>
      obtain ⟨k, A6, c6, hk, rfl, rfl, HO, HB⟩ := hrel
      by_cases hlt : k < ps.length
      · obtain ⟨g5, cap5, ⟨⟨aV, mV, cV⟩, ⟨aE, mE, cE⟩⟩, hv5, -, -, hq1, hq2, ⟨hmV, hrV, -⟩, ⟨hmE, hrE, -⟩⟩ := (hu2.below HB.b).get hlt
        dsimp only at hq1 hq2 hmV hrV hmE hrE
        cases hv5
        have hlV := hrV.len
        have hlE := hrE.len
        subst hlV
        subst hlE
        obtain ⟨hxr, hxV, hxE⟩ := HPK.out.2 _ (List.getElem_mem hlt)
        have HTK : Bx ((ps.take (k + 1)).map (genusOf g us) = (ps.take k).map (genusOf g us) ++ [genusOf g us ps[k]]) := ⟨by rw [List.take_succ_eq_append_getElem hlt, List.map_append]; rfl⟩
        generalize ps[k] = x at *
        have HXR := Bx.mk hxr
        have HRV := Bx.mk hrV
        have HO1 := Bx.mk HO
        have HB1 := Bx.mk HB
        obtain ⟨nV, hnV⟩ : ∃ nV : Nat, Bx (x.1.length = nV) := ⟨_, ⟨rfl⟩⟩
        obtain ⟨nE, hnE⟩ : ∃ nE : Nat, Bx (x.2.length = nE) := ⟨_, ⟨rfl⟩⟩
        rw [hnV.out] at hq1 hmV hrV hxV HRV
        rw [hnE.out] at hq2 hmE hrE hxE
        clear hxr hrV hrE HO HB
        go_wp2
        rename World => wo
        go_loopw [42, 15] (fun jv fv wi => ∃ j f : Nat, j ≤ us.length ∧ jv = .int .i64 j ∧ fv = .int .i64 f ∧ Bx (facesF g (us.take j) x.1 = f) ∧ BB (wo.alloc (.cells #[.slice aV nV cV, .slice aE nE cE] 27)) wi) (fun jv _ _ => us.length - (intOf jv).toNat)
        case atStart => exact ⟨0, 0, Nat.zero_le _, rfl, rfl, ⟨rfl⟩, BB.refl _⟩
        case round =>
          rename World => wi
          obtain ⟨j, f, hj, rfl, rfl, HF, HBi⟩ := hrel
          have hfl : f ≤ 3072 := by have := facesF_le g (us.take j) x.1; rw [HF.out, List.length_take] at this; omega
          have HBx := HB1.out.al (.cells #[.slice aV nV cV, .slice aE nE cE] 27)
          have hx0 := HBi.cell (box_cell wo #[.slice aV nV cV, .slice aE nE cE] 27 (0, 0) 0)
          have hx1 := HBi.cell (box_cell wo #[.slice aV nV cV, .slice aE nE cE] 27 (0, 0) 1)
          have HB2i := HBx.trans HBi
          by_cases hjt : j < us.length
          · obtain ⟨g6, cap6, ⟨kq, aq, mq, cq⟩, hv6, -, -, hk1, hk2, hwk1, hmq, hrq, -⟩ := (hOW2.below HB2i.b).get hjt
            dsimp only at hk1 hk2 hwk1 hmq hrq
            cases hv6
            obtain ⟨q1, q2, q3, q4, q5, q6⟩ := HWK.out _ (List.getElem_mem hjt)
            have HFT := Bx.mk (facesF_take (g := g) (V := x.1) hjt)
            generalize us[j] = u at *
            obtain ⟨key, ds⟩ := u
            dsimp only at hwk1 hrq q3 q4 q5 q6
            have hq := hrq.len
            subst hq
            rw [hwk1] at hk1
            clear hwk1
            have hbC : BB wi (wi.alloc (.cells #[.int .i64 key, .slice aq ds.length cq] 45)).drew := ((BB.refl wi).al (.cells #[.int .i64 key, .slice aq ds.length cq] 45)).drawn 1
            have hd0 := hbC.cell hx0
            have hd1 := hbC.cell (HB2i.cell HG.out.1)
            have hd2 := hbC.cell (HB2i.cell HG.out.2)
            have hd3 : (wi.alloc (.cells #[.int .i64 key, .slice aq ds.length cq] 45)).drew.cell? ⟨wi.heap.size, 0, none⟩ = some (.int .i64 key) := box_cell wi #[.int .i64 key, .slice aq ds.length cq] 45 (0, 0) 0
            have hd4 : (wi.alloc (.cells #[.int .i64 key, .slice aq ds.length cq] 45)).drew.cell? ⟨wi.heap.size, 1, none⟩ = some (.slice aq ds.length cq) := box_cell wi #[.int .i64 key, .slice aq ds.length cq] 45 (0, 0) 1
            have HREC := Bx.mk (hbC.re ((HW2.out.trans HB2i).re HA.out))
            have HRQC := Bx.mk (hbC.ri hrq)
            have HRVC := Bx.mk (hbC.ri ((((BB.refl wo).al (.cells #[.slice aV nV cV, .slice aE nE cE] 27)).trans HBi).ri HRV.out))
            obtain ⟨b, hb⟩ : ∃ b, Bx (decide (gi (g.corners (key, ds)) 0 ∈ x.1) = b) := ⟨_, ⟨rfl⟩⟩
            have HFT : Bx (facesF g (us.take (j + 1)) x.1 = facesF g (us.take j) x.1 + if decide (gi (g.corners (key, ds)) 0 ∈ x.1) = true then 1 else 0) := HFT
            clear hrq hx0 hx1 HBx HB2i
            cases b with
            | false =>
              go_wp2
              refine wp_region_held_drew (S := fun w' => w'.cell? ⟨wo.heap.size, 0, none⟩ = some (.slice aV nV cV) ∧ w'.cell? ⟨w.heap.size, 0, none⟩ = some (.int .i64 g.N) ∧ w'.cell? ⟨w.heap.size, 1, none⟩ = some (.slice A n c) ∧ w'.cell? ⟨wi.heap.size, 0, none⟩ = some (.int .i64 key) ∧ w'.cell? ⟨wi.heap.size, 1, none⟩ = some (.slice aq ds.length cq)) rfl ⟨hd0, hd1, hd2, hd3, hd4⟩ (fun hS => ?_)
              refine wpAnyH_take (i := 0) (v := ?_) rfl (by kernel_rfl) (by kernel_rfl) (by kernel_rfl) (fun _ _ _ h => h) (Or.inl ⟨by kernel_rfl, ?_⟩) (by assumption) ?_; rotate_left 1; (focus intro w' hSw; obtain ⟨hs0, hs1, hs2, hs3, hs4⟩ := hSw; go_simp; try with_reducible rfl); try simp only [Act.put, List.getElem_toArray, List.getElem_cons_succ, List.getElem_cons_zero, List.setIfInBounds_toArray, List.set_cons_zero, List.set_cons_succ]
              refine wpAnyH_take (i := 1) (v := ?_) rfl (by kernel_rfl) (by kernel_rfl) (by kernel_rfl) (fun _ _ _ h => h) (Or.inl ⟨by kernel_rfl, ?_⟩) (by assumption) ?_; rotate_left 1; (focus intro w' hSw; obtain ⟨hs0, hs1, hs2, hs3, hs4⟩ := hSw; go_simp; try with_reducible rfl); try simp only [Act.put, List.getElem_toArray, List.getElem_cons_succ, List.getElem_cons_zero, List.setIfInBounds_toArray, List.set_cons_zero, List.set_cons_succ]
              refine wpAnyH_take (i := 2) (v := ?_) rfl (by kernel_rfl) (by kernel_rfl) (by kernel_rfl) (fun _ _ _ h => h) (Or.inl ⟨by kernel_rfl, ?_⟩) (by assumption) ?_; rotate_left 1; (focus intro w' hSw; obtain ⟨hs0, hs1, hs2, hs3, hs4⟩ := hSw; go_simp; try with_reducible rfl); try simp only [Act.put, List.getElem_toArray, List.getElem_cons_succ, List.getElem_cons_zero, List.setIfInBounds_toArray, List.set_cons_zero, List.set_cons_succ]
              refine wpAnyH_take (i := 3) (v := ?_) rfl (by kernel_rfl) (by kernel_rfl) (by kernel_rfl) (fun _ _ _ h => h) (Or.inl ⟨by kernel_rfl, ?_⟩) (by assumption) ?_; rotate_left 1; (focus intro w' hSw; obtain ⟨hs0, hs1, hs2, hs3, hs4⟩ := hSw; go_simp; try with_reducible rfl); try simp only [Act.put, List.getElem_toArray, List.getElem_cons_succ, List.getElem_cons_zero, List.setIfInBounds_toArray, List.set_cons_zero, List.set_cons_succ]
              refine wpAnyH_ready (rs := [4]) (by kernel_rfl) (by simp) ?_; refine AllReadyH.cons rfl (fun K' hK' => ?_) AllReadyH.nil
              go_simp
              go_at_call 42
              (with_reducible refine (corners_any g (key, ds) q3 q4 q5 q6 A aq n c ds.length cq _ HREC.out HRQC.out).mono ?_)
              rintro e w7 ⟨⟨u7, rfl, hO7⟩, hb7⟩
              obtain ⟨A7, c7, hv7, hc7, hr7, -⟩ := hO7.read (by omega)
              subst hv7
              obtain ⟨b7, o7, rfl, hcl7⟩ := hr7.at q1
              have hc70 := hcl7 0 q1
              rw [Nat.add_zero] at hc70
              have HB7 := BB.mk hb7
              have hS7 := And.intro (HB7.cell hd0) (And.intro (HB7.cell hd1) (And.intro (HB7.cell hd2) (And.intro (HB7.cell hd3) (HB7.cell hd4))))
              have HRV7 := HB7.ri HRVC.out
              clear hcl7 hr7 hO7
              refine hK'.out _ _ hS7 (fun hS => ?_)
              try simp only [Act.put, List.getElem_toArray, List.getElem_cons_succ, List.getElem_cons_zero, List.setIfInBounds_toArray, List.set_cons_zero, List.set_cons_succ]
              refine wpAnyH_take (i := 5) (v := ?_) rfl (by kernel_rfl) (by kernel_rfl) (by kernel_rfl) (fun _ _ _ h => h) (Or.inl ⟨by kernel_rfl, ?_⟩) (by assumption) ?_; rotate_left 1; (focus intro w' hSw; obtain ⟨hs0, hs1, hs2, hs3, hs4⟩ := hSw; go_simp; try with_reducible rfl); try simp only [Act.put, List.getElem_toArray, List.getElem_cons_succ, List.getElem_cons_zero, List.setIfInBounds_toArray, List.set_cons_zero, List.set_cons_succ]
              refine wpAnyH_ready (rs := [6]) (by kernel_rfl) (by simp) ?_; refine AllReadyH.cons rfl (fun K' hK' => ?_) AllReadyH.nil
              go_simp
              refine hK'.out _ _ hS7 (fun hS => ?_)
              try simp only [Act.put, List.getElem_toArray, List.getElem_cons_succ, List.getElem_cons_zero, List.setIfInBounds_toArray, List.set_cons_zero, List.set_cons_succ]
              refine wpAnyH_ready (rs := [7]) (by kernel_rfl) (by simp) ?_; refine AllReadyH.cons rfl (fun K' hK' => ?_) AllReadyH.nil
              go_simp
              go_at_call 41
              (with_reducible refine (has_any x.1 (gi (g.corners (key, ds)) 0) aV nV cV _ HRV7 HXR.out).mono ?_)
              rintro e w8 ⟨rfl, rfl⟩
              rw [hb.out]
              refine hK'.out _ _ hS7 (fun hS => ?_)
              try simp only [Act.put, List.getElem_toArray, List.getElem_cons_succ, List.getElem_cons_zero, List.setIfInBounds_toArray, List.set_cons_zero, List.set_cons_succ]
              refine wpAnyH_done (by kernel_rfl) ?_ _
              all_goals
                go_wp2
                go_roundw
                case rel => exact ⟨j + 1, _, hjt, by go_num, rfl, ⟨by rw [HFT.out, HF.out, hb.out]; rfl⟩, (HBi.trans hbC).call hb7⟩
                case measure => simp [intOf]; omega
            | true =>
              go_wp2
              refine wp_region_held_drew (S := fun w' => w'.cell? ⟨wo.heap.size, 0, none⟩ = some (.slice aV nV cV) ∧ w'.cell? ⟨w.heap.size, 0, none⟩ = some (.int .i64 g.N) ∧ w'.cell? ⟨w.heap.size, 1, none⟩ = some (.slice A n c) ∧ w'.cell? ⟨wi.heap.size, 0, none⟩ = some (.int .i64 key) ∧ w'.cell? ⟨wi.heap.size, 1, none⟩ = some (.slice aq ds.length cq)) rfl ⟨hd0, hd1, hd2, hd3, hd4⟩ (fun hS => ?_)
              refine wpAnyH_take (i := 0) (v := ?_) rfl (by kernel_rfl) (by kernel_rfl) (by kernel_rfl) (fun _ _ _ h => h) (Or.inl ⟨by kernel_rfl, ?_⟩) (by assumption) ?_; rotate_left 1; (focus intro w' hSw; obtain ⟨hs0, hs1, hs2, hs3, hs4⟩ := hSw; go_simp; try with_reducible rfl); try simp only [Act.put, List.getElem_toArray, List.getElem_cons_succ, List.getElem_cons_zero, List.setIfInBounds_toArray, List.set_cons_zero, List.set_cons_succ]
              refine wpAnyH_take (i := 1) (v := ?_) rfl (by kernel_rfl) (by kernel_rfl) (by kernel_rfl) (fun _ _ _ h => h) (Or.inl ⟨by kernel_rfl, ?_⟩) (by assumption) ?_; rotate_left 1; (focus intro w' hSw; obtain ⟨hs0, hs1, hs2, hs3, hs4⟩ := hSw; go_simp; try with_reducible rfl); try simp only [Act.put, List.getElem_toArray, List.getElem_cons_succ, List.getElem_cons_zero, List.setIfInBounds_toArray, List.set_cons_zero, List.set_cons_succ]
              refine wpAnyH_take (i := 2) (v := ?_) rfl (by kernel_rfl) (by kernel_rfl) (by kernel_rfl) (fun _ _ _ h => h) (Or.inl ⟨by kernel_rfl, ?_⟩) (by assumption) ?_; rotate_left 1; (focus intro w' hSw; obtain ⟨hs0, hs1, hs2, hs3, hs4⟩ := hSw; go_simp; try with_reducible rfl); try simp only [Act.put, List.getElem_toArray, List.getElem_cons_succ, List.getElem_cons_zero, List.setIfInBounds_toArray, List.set_cons_zero, List.set_cons_succ]
              refine wpAnyH_take (i := 3) (v := ?_) rfl (by kernel_rfl) (by kernel_rfl) (by kernel_rfl) (fun _ _ _ h => h) (Or.inl ⟨by kernel_rfl, ?_⟩) (by assumption) ?_; rotate_left 1; (focus intro w' hSw; obtain ⟨hs0, hs1, hs2, hs3, hs4⟩ := hSw; go_simp; try with_reducible rfl); try simp only [Act.put, List.getElem_toArray, List.getElem_cons_succ, List.getElem_cons_zero, List.setIfInBounds_toArray, List.set_cons_zero, List.set_cons_succ]
              refine wpAnyH_ready (rs := [4]) (by kernel_rfl) (by simp) ?_; refine AllReadyH.cons rfl (fun K' hK' => ?_) AllReadyH.nil
              go_simp
              go_at_call 42
              (with_reducible refine (corners_any g (key, ds) q3 q4 q5 q6 A aq n c ds.length cq _ HREC.out HRQC.out).mono ?_)
              rintro e w7 ⟨⟨u7, rfl, hO7⟩, hb7⟩
              obtain ⟨A7, c7, hv7, hc7, hr7, -⟩ := hO7.read (by omega)
              subst hv7
              obtain ⟨b7, o7, rfl, hcl7⟩ := hr7.at q1
              have hc70 := hcl7 0 q1
              rw [Nat.add_zero] at hc70
              have HB7 := BB.mk hb7
              have hS7 := And.intro (HB7.cell hd0) (And.intro (HB7.cell hd1) (And.intro (HB7.cell hd2) (And.intro (HB7.cell hd3) (HB7.cell hd4))))
              have HRV7 := HB7.ri HRVC.out
              clear hcl7 hr7 hO7
              refine hK'.out _ _ hS7 (fun hS => ?_)
              try simp only [Act.put, List.getElem_toArray, List.getElem_cons_succ, List.getElem_cons_zero, List.setIfInBounds_toArray, List.set_cons_zero, List.set_cons_succ]
              refine wpAnyH_take (i := 5) (v := ?_) rfl (by kernel_rfl) (by kernel_rfl) (by kernel_rfl) (fun _ _ _ h => h) (Or.inl ⟨by kernel_rfl, ?_⟩) (by assumption) ?_; rotate_left 1; (focus intro w' hSw; obtain ⟨hs0, hs1, hs2, hs3, hs4⟩ := hSw; go_simp; try with_reducible rfl); try simp only [Act.put, List.getElem_toArray, List.getElem_cons_succ, List.getElem_cons_zero, List.setIfInBounds_toArray, List.set_cons_zero, List.set_cons_succ]
              refine wpAnyH_ready (rs := [6]) (by kernel_rfl) (by simp) ?_; refine AllReadyH.cons rfl (fun K' hK' => ?_) AllReadyH.nil
              go_simp
              refine hK'.out _ _ hS7 (fun hS => ?_)
              try simp only [Act.put, List.getElem_toArray, List.getElem_cons_succ, List.getElem_cons_zero, List.setIfInBounds_toArray, List.set_cons_zero, List.set_cons_succ]
              refine wpAnyH_ready (rs := [7]) (by kernel_rfl) (by simp) ?_; refine AllReadyH.cons rfl (fun K' hK' => ?_) AllReadyH.nil
              go_simp
              go_at_call 41
              (with_reducible refine (has_any x.1 (gi (g.corners (key, ds)) 0) aV nV cV _ HRV7 HXR.out).mono ?_)
              rintro e w8 ⟨rfl, rfl⟩
              rw [hb.out]
              refine hK'.out _ _ hS7 (fun hS => ?_)
              try simp only [Act.put, List.getElem_toArray, List.getElem_cons_succ, List.getElem_cons_zero, List.setIfInBounds_toArray, List.set_cons_zero, List.set_cons_succ]
              refine wpAnyH_done (by kernel_rfl) ?_ _
              all_goals
                go_wp2
                go_roundw
                case rel => exact ⟨j + 1, _, hjt, by go_num, by go_num, ⟨by rw [HFT.out, HF.out, hb.out]; rfl⟩, (HBi.trans hbC).call hb7⟩
                case measure => simp [intOf]; omega
          · have hjj : j = us.length := by omega
            subst hjj
            rw [List.take_length] at HF
            have hnV2 : nV ≤ 1024 := by omega
            have hnE2 : nE ≤ 1024 := by omega
            obtain ⟨q, hq⟩ : ∃ q, Int.tdiv (2 - (nV : Int) + nE - f) 2 = q := ⟨_, rfl⟩
            have hq1 : -9000 < q ∧ q < 9000 := by
              rw [← hq]
              rcases Int.le_total 0 (2 - (nV : Int) + nE - f) with h | h
              · rw [Int.tdiv_eq_ediv_of_nonneg h]; omega
              · have e : Int.tdiv (2 - (nV : Int) + nE - f) 2 = -Int.tdiv (-(2 - (nV : Int) + nE - f)) 2 := by rw [Int.neg_tdiv, Int.neg_neg]
                rw [e, Int.tdiv_eq_ediv_of_nonneg (by omega)]; omega
            obtain ⟨hq2, hq3⟩ := hq1
            have HGO : Bx (genusOf g us x = q) := ⟨by unfold genusOf; rw [hnV.out, hnE.out, HF.out]; exact hq⟩
            have HOi := HO1.out.below ((((BB.refl wo).al (.cells #[.slice aV nV cV, .slice aE nE cE] 27)).trans HBi)).b
            have hzi := HB2i.size
            have hkl : ((ps.take k).map (genusOf g us)).length < 1099511627776 := by rw [List.length_map, List.length_take]; omega
            have HKL := Bx.mk hkl
            clear hkl
            go_wp2_with (at_builtin; refine app_int w2.heap.size ((ps.take k).map (genusOf g us)) (.slice A6 k c6) HOi q rfl rfl rfl rfl hzi HKL.out ?_; intro v8 w8 ho8 hs8 hb8)
            go_roundw
            case rel =>
              have hlen : ((ps.take k).map (genusOf g us) ++ [q]).length = k + 1 := by rw [List.length_append, List.length_map, List.length_take]; simp; omega
              obtain ⟨A8, c8, hv8, -, -, -⟩ := ho8.read (by omega)
              rw [hlen] at hv8
              subst hv8
              exact ⟨k + 1, A8, c8, hlt, by go_num, rfl, by rw [HTK.out, HGO.out]; exact ho8, HB2i.own HOi (Nat.le_refl _) hs8⟩
            case measure => simp [intOf]; omega
      · go_wp2
        go_ret2
        have hkk : k = ps.length := by omega
        subst hkk
        rw [List.take_length] at HO
        refine ⟨⟨_, ret_pair_i H0.out.symm, ?_⟩, (HW2.out.trans HB).b⟩
        rw [if_pos H0.out]
        refine ⟨us, HPU.out, HWK2.out, ?_⟩
        unfold genusF
        rw [hps.out]
        exact HO.mono HW2.out.size
end Go.Proofs.YtefhmlgepnlaoaaGreat
