/- Walks: sets in memory: top, Same. -/
import Derived.Test.YtefhmlgepnlaoaaGreatLa
import Derived.Test.YtefhmlgepnlaoaaGreatRb
set_option linter.unusedVariables false
set_option linter.unusedSimpArgs false
namespace Go.Proofs.YtefhmlgepnlaoaaGreat
open Go.RowKit

/-- Each place's group ends at rep. -/
def UpOk (up : List Int) (rep : Nat → Nat) : Prop := ∀ i, i < up.length → 0 ≤ gi up i ∧ gi up i ≤ i ∧ rep i = if gi up i = i then i else rep (gi up i).toNat
theorem gi_set (xs : List Int) (i j : Nat) (y : Int) (h : i < xs.length) : gi (xs.set i y) j = if j = i then y else gi xs j := by
  unfold gi
  rw [List.getD_eq_getElem?_getD, List.getD_eq_getElem?_getD, List.getElem?_set]
  by_cases hj : i = j
  · subst hj
    simp [h]
  · simp [hj, Ne.symm hj]
theorem UpOk.le {up : List Int} {rep : Nat → Nat} (h : UpOk up rep) : ∀ i, i < up.length → rep i ≤ i := by
  intro i
  induction i using Nat.strongRecOn with
  | ind i ih =>
    intro hi
    obtain ⟨h1, h2, h3⟩ := h i hi
    rw [h3]
    split
    · exact Nat.le_refl _
    · have := ih (gi up i).toNat (by omega) (by omega)
      omega
theorem UpOk.rep_rep {up : List Int} {rep : Nat → Nat} (h : UpOk up rep) : ∀ i, i < up.length → rep (rep i) = rep i := by
  intro i
  induction i using Nat.strongRecOn with
  | ind i ih =>
    intro hi
    obtain ⟨h1, h2, h3⟩ := h i hi
    by_cases he : gi up i = i
    · have h4 : rep i = i := by rw [h3, if_pos he]
      rw [h4, h4]
    · have h4 : rep i = rep (gi up i).toNat := by rw [h3, if_neg he]
      rw [h4]
      exact ih _ (by omega) (by omega)
/-- A place may be shortened. -/
theorem UpOk.short {up : List Int} {rep : Nat → Nat} (h : UpOk up rep) {i : Nat} (hi : i < up.length) (hne : gi up i ≠ i) : UpOk (up.set i (gi up (gi up i).toNat)) rep := by
  intro j hj
  rw [List.length_set] at hj
  rw [gi_set _ _ _ _ hi]
  obtain ⟨h1, h2, h3⟩ := h i hi
  by_cases hji : j = i
  · subst hji
    obtain ⟨k1, k2, k3⟩ := h (gi up j).toNat (by omega)
    rw [if_pos rfl, if_neg (by omega)]
    refine ⟨k1, by omega, ?_⟩
    rw [h3, if_neg hne, k3]
    split
    · rename_i he
      rw [he, Int.toNat_natCast, k3, if_pos he]
    · rfl
  · rw [if_neg hji]
    exact h j hj
def joinRep (rep : Nat → Nat) (i k : Nat) : Nat → Nat := fun j => if rep j = max (rep i) (rep k) then min (rep i) (rep k) else rep j
theorem UpOk.join {up : List Int} {rep : Nat → Nat} (h : UpOk up rep) {i k : Nat} (hi : i < up.length) (hk : k < up.length) : UpOk (up.set (max (rep i) (rep k)) ((min (rep i) (rep k) : Nat) : Int)) (joinRep rep i k) := by
  have li := h.le i hi
  have lk := h.le k hk
  have ri := h.rep_rep i hi
  have rk := h.rep_rep k hk
  have hm : max (rep i) (rep k) < up.length := by omega
  have fix : ∀ j, j < up.length → rep j = j → gi up j = j := by
    intro j hj hr
    obtain ⟨h1, h2, h3⟩ := h j hj
    refine Decidable.byContradiction fun hne => ?_
    rw [if_neg hne] at h3
    have := h.le (gi up j).toNat (by omega)
    omega
  intro j hj
  rw [List.length_set] at hj
  rw [gi_set _ _ _ _ hm]
  obtain ⟨h1, h2, h3⟩ := h j hj
  have rm : rep (max (rep i) (rep k)) = max (rep i) (rep k) := by
    rcases Nat.le_total (rep i) (rep k) with hle | hle
    · rw [Nat.max_eq_right hle]; exact rk
    · rw [Nat.max_eq_left hle]; exact ri
  have rn : rep (min (rep i) (rep k)) = min (rep i) (rep k) := by
    rcases Nat.le_total (rep i) (rep k) with hle | hle
    · rw [Nat.min_eq_left hle]; exact ri
    · rw [Nat.min_eq_right hle]; exact rk
  by_cases hjm : j = max (rep i) (rep k)
  · rw [if_pos hjm]
    refine ⟨by omega, by omega, ?_⟩
    unfold joinRep
    rw [hjm, if_pos rm]
    by_cases he : ((min (rep i) (rep k) : Nat) : Int) = ((max (rep i) (rep k) : Nat) : Int)
    · rw [if_pos he]; omega
    · rw [if_neg he, Int.toNat_natCast, rn]
      split <;> rfl
  · rw [if_neg hjm]
    refine ⟨h1, h2, ?_⟩
    unfold joinRep
    by_cases he : gi up j = j
    · rw [if_pos he]
      have : rep j = j := by rw [h3, if_pos he]
      rw [this, if_neg hjm]
    · rw [if_neg he]
      have : rep j = rep (gi up j).toNat := by rw [h3, if_neg he]
      rw [this]

theorem OwnI.cells {w : World} {base : Nat} {v : Value} {xs : List Int} (h : OwnI w base v xs) : ∀ k, v.ownBlock = some k → ∃ cs fr, w.heap[k]? = some (.cells cs 3 fr) := by
  intro k hk
  rcases h.o.2 with ⟨rfl, _⟩ | ⟨g, cap, cur, rfl, hb, hg, hr⟩
  · cases hk
  · cases hk
    exact ⟨_, _, hg⟩
/-- A store into a row of the call's own. -/
theorem OwnI.put {w : World} {base : Nat} {v : Value} {xs : List Int} (h : OwnI w base v xs) {i : Nat} (hi : i < xs.length) :
    ∃ g cap, v = .slice (some ⟨g, 0, none⟩) xs.length cap ∧ xs.length ≤ cap ∧ cap ≤ 9223372036854775807 ∧ base ≤ g ∧ g < w.heap.size ∧ (∀ j, j < xs.length → w.cell? ⟨g, j, none⟩ = some (.int .i64 (gi xs j))) ∧ w.frozen? ⟨g, i, none⟩ = false ∧ ∀ y, OwnI (w.setCell ⟨g, i, none⟩ (.int .i64 y)) base v (xs.set i y) := by
  rcases h.o.2 with ⟨_, hn⟩ | ⟨g, cap, cur, rfl, hb, hg, hc, hm, hs, ht⟩
  · omega
  · refine ⟨g, cap, rfl, hc, by simpa [maxLen] using hm, hb, (Array.getElem?_eq_some_iff.1 hg).1, fun j hj => ?_, frozen_of_row w g i hg, fun y => ⟨by rw [List.length_map, List.length_set]; simp, .inr ⟨g, cap, cur.setIfInBounds i (.int .i64 y), by rw [List.length_set], hb, heap_setCell_own w g i _ hg, by rw [List.length_set]; exact hc, hm, by simpa using hs, ?_⟩⟩⟩
    · rw [cell_of_row w g j cur _ _ hg]
      have := congrArg (fun l => l[j]?) ht
      simp only [Nat.mul_one, List.getElem?_take_of_lt hj, List.getElem?_map, Array.getElem?_toList] at this
      rw [this, gi_eq hj, List.getElem?_eq_getElem hj]
      rfl
    · rw [List.length_set, List.map_set]
      rw [← ht]
      apply List.ext_getElem?
      intro j
      simp only [Nat.mul_one, Array.toList_setIfInBounds, List.getElem?_take, List.getElem?_set, List.length_take]
      by_cases hj : j < xs.length
      · simp only [hj, if_true]
        by_cases hij : i = j
        · subst hij
          have : i < cur.size := by omega
          simp [this, hj]
          omega
        · simp [hij]
      · simp only [hj, if_false]
        by_cases hij : i = j
        · omega
        · simp [hij]

/-- Where a thing stands. -/
def posL (all : List Int) (x : Int) : Option Value := if x ∈ all then some (.int .i64 (idx all x)) else none
/-- Sets in memory: its things, all; the groups, rep; the block U of the row of places. -/
structure SetsAt (w : World) (base : Nat) (v : Value) (all : List Int) (rep : Nat → Nat) (U : Option Nat) : Prop where
  h : ∃ R M va vu m up, v = .pointer (some ⟨R, 0, none⟩) ∧ w.heap[R]? = some (.cells #[.map (some M), va, vu] 142 (0, 0)) ∧ base ≤ R ∧ base ≤ M ∧
    MapAt w M m ∧ (∀ x, m.lookup x = posL all x) ∧ OwnI w base va all ∧ OwnI w base vu up ∧ vu.ownBlock = U ∧ (∀ k, va.ownBlock = some k → vu.ownBlock ≠ some k) ∧ up.length = all.length ∧ UpOk up rep ∧ all.Nodup ∧ all.length < 1048576

/-- What turns no block of the sets but U leaves it. -/
theorem SetsAt.step {w w' : World} {base : Nat} {v : Value} {all : List Int} {rep : Nat → Nat} {U : Option Nat} {F : Nat → Prop} (h : SetsAt w base v all rep U) (hs : Step F w w') (hf : ∀ k, base ≤ k → k < w.heap.size → ¬ F k) : SetsAt w' base v all rep U := by
  obtain ⟨R, M, va, vu, m, up, h1, h2, h3, h4, h5, h6, h7, h8, h9, h10, h11, h12, h13, h14⟩ := h.h
  have hlt := (Array.getElem?_eq_some_iff.1 h2).1
  exact ⟨R, M, va, vu, m, up, h1, hs.heap h2 (hf R h3 hlt), h3, h4, h5.step hs (hf M h4 h5.lt), h6, h7.step hs fun k hk => hf k (h7.lt k hk).1 (h7.lt k hk).2, h8.step hs fun k hk => hf k (h8.lt k hk).1 (h8.lt k hk).2, h9, h10, h11, h12, h13, h14⟩
theorem SetsAt.below {w w' : World} {base : Nat} {v : Value} {all : List Int} {rep : Nat → Nat} {U : Option Nat} (h : SetsAt w base v all rep U) (hb : Below w.heap.size w w') : SetsAt w' base v all rep U :=
  h.step (Step.of_below hb) fun k _ hk hF => by omega

set_option maxHeartbeats 1000000 in
theorem top_any (base : Nat) (v : Value) (all : List Int) (rep : Nat → Nat) (U : Option Nat) (i : Nat) (hi : i < all.length) (w : World) (hS : SetsAt w base v all rep U) :
    Calls Tryz.prog 119 #[v, .int .i64 i] w fun e w' => e = .returned (.int .i64 (rep i)) ∧ SetsAt w' base v all rep U ∧ Step (fun k => some k = U) w w' := by
  obtain ⟨R, M, va, vu, m, up, rfl, h2, h3, h4, h5, h6, h7, h8, h9, h10, h11, h12, h13, h14⟩ := hS.h
  obtain ⟨g, cap, rfl, hc1, hc2, hg1, hg2, -, -, -⟩ := h8.put (i := i) (by omega)
  rw [h11] at h2 h8 h9
  have hgU : U = some g := by rw [← h9]; rfl
  subst hgU
  have H10 := Bx.mk h10
  have H11 := Bx.mk h11
  have H2 := Bx.mk h2
  have H6 := Bx.mk h6
  have H13 := Bx.mk h13
  have hRg : R ≠ g := by
    rintro rfl
    obtain ⟨cs, fr, hc⟩ := h8.cells _ rfl
    rw [h2] at hc
    cases hc
  have hMg : M ≠ g := by
    rintro rfl
    obtain ⟨cs, fr, hc⟩ := h8.cells _ rfl
    obtain ⟨es, c, hb, _⟩ := h5.h
    rw [hb] at hc
    cases hc
  clear hS h10 h13 h6
  go_enter Tryz.func119, Tryz.ntmps119
  go_wp2
  go_loopw [1] (fun iv wr => ∃ (j : Nat) (up' : List Int), j < all.length ∧ iv = .int .i64 j ∧ Bx (rep j = rep i) ∧ Bx (up'.length = all.length) ∧ UpOk up' rep ∧ OwnI wr base (.slice (some ⟨g, 0, none⟩) all.length cap) up' ∧ Step (fun k => k = g) w wr) (fun iv _ => (intOf iv).toNat)
  case atStart => exact ⟨i, up, hi, rfl, ⟨rfl⟩, ⟨h11⟩, h12, h8, Step.refl _ _⟩
  case round =>
    obtain ⟨j, up', hj, rfl, hrj, hul, hU, HO, HS⟩ := hrel
    obtain ⟨g', cap', hv', hc1', hc2', hg1', hg2', hcl, hfz, hput⟩ := HO.put (i := j) (by rw [hul.out]; exact hj)
    rw [hul.out] at hv'
    cases hv'
    have hRr := HS.heap H2.out hRg
    have hcU := cell_of_row wr R 2 _ _ _ hRr
    simp only [List.getElem?_toArray, List.getElem?_cons_succ, List.getElem?_cons_zero] at hcU
    have hcU2 := Bx.mk hcU
    obtain ⟨hU1, hU2, hU3⟩ := hU j (by rw [hul.out]; exact hj)
    have hcjx := hcl j (by rw [hul.out]; exact hj)
    by_cases he : gi up' j = j
    · rw [he] at hcjx
      rw [if_pos he] at hU3
      have hrr : Bx (rep i = j) := ⟨by rw [← hrj.out, hU3]⟩
      have hjj : ((j : Int) != (j : Int)) = false := by simp
      clear hcl he hU3
      go_wp2
      go_ret
      refine ⟨by rw [hrr.out]; rfl, ⟨R, M, va, _, m, up', rfl, hRr, h3, h4, h5.step HS hMg, H6.out, h7.step HS fun k hk e => H10.out k hk (by rw [e]; rfl), HO, rfl, fun k hk e => H10.out k hk e, hul.out, hU, H13.out, h14⟩, HS.mono fun k _ e => by rw [e]⟩
    · obtain ⟨k, hk⟩ : ∃ k : Nat, gi up' j = k := ⟨(gi up' j).toNat, by omega⟩
      have hkj : k < j := by omega
      rw [if_neg he] at hU3
      have hsh := hU.short (i := j) (by rw [hul.out]; exact hj) he
      rw [hk] at hcjx hU3 hsh
      rw [Int.toNat_natCast] at hU3 hsh
      have hckx := hcl k (by rw [hul.out]; omega)
      have HSH := Bx.mk hsh
      obtain ⟨hK1, hK2, hK3⟩ := hU k (by rw [hul.out]; omega)
      have hput2 := Bx.mk (hput (gi up' k))
      obtain ⟨k2, hk2⟩ : ∃ k2 : Nat, gi up' k = k2 := ⟨(gi up' k).toNat, by omega⟩
      have hrk : Bx (rep k2 = rep i) := ⟨by
        rw [← hrj.out, hU3, hK3]
        split
        · rename_i e; rw [hk2] at e; have : k2 = k := by omega
          rw [this, hK3, if_pos (by rw [hk2, this])]
        · rw [hk2, Int.toNat_natCast]⟩
      have hk2j : k2 < j := by omega
      rw [hk2] at hckx hput2
      rw [hk2] at HSH
      have hjj : ((k : Int) != (j : Int)) = true := by simp; omega
      have hss : Step (fun k => k = g) wr (wr.setCell ⟨g, j, none⟩ (.int .i64 (k2 : Int))) := Step.setCell (F := fun k => k = g) wr (p := ⟨g, j, none⟩) rfl _
      have hcU3 : (wr.setCell ⟨g, j, none⟩ (.int .i64 (k2 : Int))).drew.cell? ⟨R, 2, none⟩ = some (.slice (some ⟨g, 0, none⟩) all.length cap) := hss.cell hcU hRg
      clear hcl he hU3 hK3 hk hk2 hU1 hU2 hK1 hK2
      go_wp2
      go_region
      go_wp2
      go_roundw
      case rel =>
        exact ⟨k2, up'.set j k2, by omega, rfl, hrk, ⟨by rw [List.length_set]; exact hul.out⟩, HSH.out, hput2.out.drawn 1, (HS.trans hss).trans (Step.drew _ _)⟩
      case measure => simp [intOf]; omega
end Go.Proofs.YtefhmlgepnlaoaaGreat
