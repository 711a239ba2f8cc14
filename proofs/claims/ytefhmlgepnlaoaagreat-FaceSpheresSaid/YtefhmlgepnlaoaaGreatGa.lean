/- Walks: cmp.Less, slices.BinarySearch; graph's inside, Right, rises, Has, RightPart. -/
import Derived.Test.YtefhmlgepnlaoaaGreatProg
import Derived.Test.YtefhmlgepnlaoaaGreatWa
import Derived.Test.YtefhmlgepnlaoaaGreatMa
set_option linter.unusedVariables false
set_option linter.unusedSimpArgs false
namespace Go.Proofs.YtefhmlgepnlaoaaGreat
open Go.RowKit

theorem cisNaN_any (x : Int) (w : World) : Calls Tryz.prog 105 #[.int .i64 x] w fun e w' => e = .returned (.bool false) ∧ w = w' := by
  go_enter Tryz.func105, Tryz.ntmps105
  go_wp2
  go_ret
  simp
theorem sisNaN_any (x : Int) (w : World) : Calls Tryz.prog 124 #[.int .i64 x] w fun e w' => e = .returned (.bool false) ∧ w = w' := by
  go_enter Tryz.func124, Tryz.ntmps124
  go_wp2
  go_ret
  simp
theorem less_any (x y : Int) (w : World) : Calls Tryz.prog 123 #[.int .i64 x, .int .i64 y] w fun e w' => e = .returned (.bool (decide (x < y))) ∧ w = w' := by
  go_enter Tryz.func123, Tryz.ntmps123
  go_wp2_with (go_at_call 105; refine (cisNaN_any _ _).mono ?_; rintro e w' ⟨rfl, rfl⟩)
  go_ret
  simp

theorem rises_any (xs : List Int) (limit : Int) (A : Option Addr) (n c : Nat) (w : World) (hA : RI w A n xs) :
    Calls Tryz.prog 118 #[.slice A n c, .int .i64 limit] w fun e w' => e = .returned (.bool (risesF limit (-1) xs)) ∧ w = w' := by
  have hcell := fun h0 => hA.at h0
  obtain ⟨rfl, hn, -⟩ := hA
  go_enter Tryz.func118, Tryz.ntmps118
  go_wp2
  go_loop [5, 7, 10] (fun last _ i => ∃ (k : Nat) (y : Int), k ≤ xs.length ∧ i = .int .i64 k ∧ last = .int .i64 y ∧ risesF limit y (xs.drop k) = risesF limit (-1) xs) (fun _ _ i => xs.length - (intOf i).toNat)
  case atStart => exact ⟨0, -1, Nat.zero_le _, rfl, rfl, rfl⟩
  case round =>
    obtain ⟨k, y, hk, rfl, rfl, hr⟩ := hrel
    have HR := Bx.mk hr
    clear hr
    by_cases hlt : k < xs.length
    · obtain ⟨b, off, rfl, hc⟩ := hcell (by omega)
      have hc0 := hc k hlt
      have hd := Bx.mk (risesF_drop (limit := limit) (y := y) hlt)
      clear hc hcell
      go_wp2
      · have h1 : gi xs k ≤ y ∨ limit ≤ gi xs k := by assumption
        go_ret
        exact ⟨ret_bool (by rw [← HR.out, hd.out, if_pos h1]), rfl⟩
      · have h1 : y < gi xs k ∧ gi xs k < limit := by assumption
        go_round
        case rel => exact ⟨k + 1, _, by omega, by go_num, rfl, by rw [← HR.out, hd.out, if_neg (by omega)]⟩
        case measure => simp [intOf]; omega
      · have h1 : gi xs k ≤ y := by assumption
        go_ret
        exact ⟨ret_bool (by rw [← HR.out, hd.out, if_pos (Or.inl h1)]), rfl⟩
    · go_wp2
      go_ret
      exact ⟨ret_bool (by rw [← HR.out, List.drop_of_length_le (by omega)]; rfl), rfl⟩

theorem bsearch_any (xs : List Int) (x : Int) (A : Option Addr) (n c : Nat) (w : World) (hA : RI w A n xs) (hs : xs.Pairwise (· < ·)) :
    Calls Tryz.prog 90 #[.slice A n c, .int .i64 x] w fun e w' => (∃ p : Int, e = .returned (.tuple #[.int .i64 p, .bool (decide (x ∈ xs))])) ∧ w = w' := by
  have hcell := fun h0 => hA.at h0
  have hlt : ∀ i j : Nat, i < j → ∀ hj : j < xs.length, ∀ hi : i < xs.length, xs[i] < xs[j] := fun i j hij hj hi => List.pairwise_iff_getElem.1 hs i j hi hj hij
  have HS := Bx.mk hlt
  clear hlt hs
  obtain ⟨rfl, hn, -⟩ := hA
  go_enter Tryz.func90, Tryz.ntmps90
  go_wp2
  go_loop [7, 8, 9] (fun iv jv _ => ∃ i j : Nat, i ≤ j ∧ j ≤ xs.length ∧ iv = .int .i64 i ∧ jv = .int .i64 j ∧ Bx (∀ m (h : m < xs.length), m < i → xs[m] < x) ∧ Bx (∀ m (h : m < xs.length), j ≤ m → x ≤ xs[m])) (fun iv jv _ => (intOf jv).toNat - (intOf iv).toNat)
  case atStart => exact ⟨0, xs.length, Nat.zero_le _, Nat.le_refl _, rfl, rfl, ⟨fun m _ h => by omega⟩, ⟨fun m h1 h2 => by omega⟩⟩
  case round =>
    obtain ⟨i, j, hij, hj, rfl, rfl, h1, h2⟩ := hrel
    by_cases hlt : i < j
    · obtain ⟨b, off, rfl, hc⟩ := hcell (by omega)
      have hc0 := hc ((i + j) / 2) (by omega)
      clear hc hcell
      go_wp2_with (go_at_call 123; refine (less_any _ _ _).mono ?_; rintro e w' ⟨rfl, rfl⟩)
      · have h3 : gi xs ((i + j) / 2) < x := by assumption
        go_round
        case rel => exact ⟨(i + j) / 2 + 1, j, by omega, hj, by go_num, rfl, ⟨fun m h h4 => by
          rcases Nat.lt_or_eq_of_le (Nat.le_of_lt_succ h4) with h5 | h5
          · have := HS.out m _ h5 (by omega) h
            rw [gi_eq (by omega)] at h3
            omega
          · subst h5
            rwa [gi_eq (by omega)] at h3⟩, h2⟩
        case measure => simp [intOf]; omega
      · have h3 : x ≤ gi xs ((i + j) / 2) := by assumption
        go_round
        case rel => exact ⟨i, (i + j) / 2, by omega, by omega, rfl, by go_num, h1, ⟨fun m h h4 => by
          rw [gi_eq (by omega)] at h3
          rcases Nat.lt_or_eq_of_le h4 with h5 | h5
          · have := HS.out _ m h5 h (by omega)
            omega
          · subst h5
            exact h3⟩⟩
        case measure => simp [intOf]; omega
    · have hij' : i = j := by omega
      subst hij'
      by_cases hl : i < xs.length
      · obtain ⟨b, off, rfl, hc⟩ := hcell (by omega)
        have hc0 := hc i hl
        clear hc hcell
        have h3 := h2.out i hl (Nat.le_refl _)
        have H1 := h1.out
        rw [← gi_eq hl] at h3
        by_cases he : gi xs i = x
        all_goals
          go_wp2_with (go_at_call 124; refine (sisNaN_any _ _).mono ?_; rintro e w' ⟨rfl, rfl⟩)
          go_ret2
          refine ⟨⟨_, ret_pair_b ?_⟩, rfl⟩
        · have : x ∈ xs := he ▸ gi_mem hl
          simp [this]
        · have : x ∉ xs := fun hm => by
            obtain ⟨m, hm1, hm2⟩ := List.mem_iff_getElem.1 hm
            rcases Nat.lt_trichotomy m i with h4 | h4 | h4
            · have := H1 m hm1 h4; omega
            · subst h4; rw [gi_eq hm1] at he; exact he hm2
            · have := HS.out i m h4 hm1 hl
              rw [gi_eq hl] at h3; omega
          simp [this, he]
      · have H1 := h1.out
        go_wp2
        go_ret2
        refine ⟨⟨_, ret_pair_b ?_⟩, rfl⟩
        have : x ∉ xs := fun hm => by
          obtain ⟨m, hm1, hm2⟩ := List.mem_iff_getElem.1 hm
          have := H1 m hm1 (by omega)
          omega
        simp [this]

theorem has_any (xs : List Int) (x : Int) (A : Option Addr) (n c : Nat) (w : World) (hA : RI w A n xs) (hs : xs.Pairwise (· < ·)) :
    Calls Tryz.prog 41 #[.slice A n c, .int .i64 x] w fun e w' => e = .returned (.bool (decide (x ∈ xs))) ∧ w = w' := by
  have hc := bsearch_any xs x A n c w hA hs
  clear hs hA
  go_enter Tryz.func41, Tryz.ntmps41
  go_wp2_with (go_at_call 90; refine hc.mono ?_; rintro e w' ⟨⟨p, rfl⟩, rfl⟩)
  go_ret
  exact ⟨rfl, rfl⟩

theorem inside_any (g : Gr) (v : Int) (s : Value) (w : World) :
    Calls Tryz.prog 157 #[.agg #[.int .i64 g.N, s], .int .i64 v] w fun e w' => e = .returned (.bool (g.inside v)) ∧ Below w.heap.size w w' := by
  by_cases h : 0 ≤ v
  all_goals
    go_enter Tryz.func157, Tryz.ntmps157
    go_wp2
    go_ret
    refine ⟨ret_bool ?_, below_alloc (Nat.le_refl _) _⟩
    first | (simp [Gr.inside, h]; done) | (simp [Gr.inside]; omega)

theorem right_any (g : Gr) (A : Option Addr) (n c : Nat) (w : World) (hA : RE w A n g.E) :
    Calls Tryz.prog 117 #[.agg #[.int .i64 g.N, .slice A n c]] w fun e w' => e = .returned (.int .i64 g.right) ∧ Below w.heap.size w w' := by
  have hlen := hA.len
  have hle := hA.le
  subst hlen
  have HA := Bx.mk hA
  clear hA
  by_cases h1 : g.N < 0
  · have hr : Bx (g.right = 3) := ⟨by unfold Gr.right; rw [if_pos h1]⟩
    go_enter Tryz.func117, Tryz.ntmps117
    go_wp2
    go_ret
    exact ⟨ret_int hr.out.symm, below_alloc (Nat.le_refl _) _⟩
  · by_cases h2 : 1024 < g.N ∨ 1024 - g.N < (g.E.length : Int)
    · have hr : Bx (g.right = 2) := ⟨by unfold Gr.right; rw [if_neg h1, if_pos h2]⟩
      by_cases h3 : 1024 < g.N
      all_goals
        go_enter Tryz.func117, Tryz.ntmps117
        go_wp2
        go_ret
        exact ⟨ret_int hr.out.symm, below_alloc (Nat.le_refl _) _⟩
    · have hr : Bx (g.right = if g.endsOk g.E then 0 else 3) := ⟨by unfold Gr.right; rw [if_neg h1, if_neg h2]⟩
      have h3 : ¬ 1024 < g.N := by omega
      have h4 : ¬ 1024 - g.N < (g.E.length : Int) := by omega
      clear h2
      go_enter Tryz.func117, Tryz.ntmps117
      go_wp2
      go_loopw [25] (fun i wr => ∃ k : Nat, k ≤ g.E.length ∧ i = .int .i64 k ∧ Bx (g.endsOk (g.E.drop k) = g.endsOk g.E) ∧ BB (w.alloc (.cells #[.int .i64 g.N, .slice A g.E.length c] 24)) wr) (fun i _ => g.E.length - (intOf i).toNat)
      case atStart => exact ⟨0, Nat.zero_le _, rfl, ⟨rfl⟩, BB.refl _⟩
      case round =>
        obtain ⟨k, hk, rfl, hd, HB⟩ := hrel
        by_cases hlt : k < g.E.length
        · have hz := HB.pos
          obtain ⟨b, off, rfl, hc⟩ := (HB.under.re HA.out).at (by omega)
          obtain ⟨hc1, hc2⟩ := hc k hlt
          have hN := HB.cell (box_cell w _ _ _ 0)
          have hE := HB.cell (box_cell w _ _ _ 1)
          have hdd := Bx.mk (Gr.endsOk_drop (g := g) hlt)
          clear hc
          go_wp2_with (go_at_call 157; refine (inside_any _ _ _ _).mono ?_; rintro e w1 ⟨rfl, hb1⟩; obtain ⟨hx1, hx2⟩ := bcell hb1; (first | (replace HB := HB.call hb1) | (replace HB := HB.call1 hb1)); clear hb1)
          · have h1 : g.inside (ge g.E k).1 = true := by assumption
            have h2 : (!g.inside (ge g.E k).2) = true := by assumption
            go_ret
            simp only [Bool.not_eq_true'] at h2
            exact ⟨ret_int (by rw [hr.out, ← hd.out, hdd.out, h1, h2]; rfl), HB.under.b⟩
          · have h1 : g.inside (ge g.E k).1 = true := by assumption
            have h2 : (!g.inside (ge g.E k).2) = false := by assumption
            simp only [Bool.not_eq_false'] at h2
            go_roundw
            case rel => exact ⟨k + 1, by omega, by go_num, ⟨by rw [← hd.out, hdd.out, h1, h2]; rfl⟩, HB⟩
            case measure => simp [intOf]; omega
          · have h1 : ¬ g.inside (ge g.E k).1 = true := by assumption
            go_ret
            simp only [Bool.not_eq_true] at h1
            exact ⟨ret_int (by rw [hr.out, ← hd.out, hdd.out, h1]; rfl), HB.under.b⟩
        · go_wp2
          go_ret
          exact ⟨ret_int (by rw [hr.out, ← hd.out, List.drop_of_length_le (by omega)]; rfl), HB.under.b⟩

theorem rightPart_any (g : Gr) (p : Pt) (A A1 A2 : Option Addr) (n c n1 c1 n2 c2 : Nat) (w : World) (hA : RE w A n g.E) (h1 : RI w A1 n1 p.V) (h2 : RI w A2 n2 p.E) :
    Calls Tryz.prog 83 #[.agg #[.int .i64 g.N, .slice A n c], .agg #[.slice A1 n1 c1, .slice A2 n2 c2]] w fun e w' => e = .returned (.int .i64 (g.rightPart p)) ∧ Below w.heap.size w w' := by
  have hlen := hA.len
  have hle := hA.le
  subst hlen
  have hlen2 := h2.len
  have hle2 := h2.le
  subst hlen2
  have HA := Bx.mk hA
  have H1 := Bx.mk h1
  have H2 := Bx.mk h2
  clear hA h1 h2
  by_cases h0 : g.right = 0
  · cases hv : risesF g.N (-1) p.V
    · have hr : Bx (g.rightPart p = 4) := ⟨by unfold Gr.rightPart; rw [if_neg (by omega), if_pos (.inl hv)]⟩
      go_enter Tryz.func83, Tryz.ntmps83
      go_wp2_with (first | (go_at_call 117; (with_reducible refine (right_any g A _ c _ ((((BB.refl w).al _).al _).re HA.out)).mono ?_); rintro e w1 ⟨rfl, hb1⟩; obtain ⟨hx1, hx2⟩ := bcell hb1; have HB := (((BB.refl w).al _).al _).call hb1; have HC := BB.mk hb1; clear hb1) | (go_at_call 118; (with_reducible refine (rises_any p.V _ _ _ _ _ (HB.ri H1.out)).mono ?_); rintro e w1 ⟨rfl, rfl⟩))
      go_ret
      exact ⟨ret_int hr.out.symm, HB.b⟩
    · cases he : risesF g.E.length (-1) p.E
      · have hr : Bx (g.rightPart p = 4) := ⟨by unfold Gr.rightPart; rw [if_neg (by omega), if_pos (.inr he)]⟩
        go_enter Tryz.func83, Tryz.ntmps83
        go_wp2_with (first | (go_at_call 117; (with_reducible refine (right_any g A _ c _ ((((BB.refl w).al _).al _).re HA.out)).mono ?_); rintro e w1 ⟨rfl, hb1⟩; obtain ⟨hx1, hx2⟩ := bcell hb1; have HB := (((BB.refl w).al _).al _).call hb1; have HC := BB.mk hb1; clear hb1) | (go_at_call 118; (with_reducible refine (rises_any p.V _ _ _ _ _ (HB.ri H1.out)).mono ?_); rintro e w1 ⟨rfl, rfl⟩) | (go_at_call 118; (with_reducible refine (rises_any p.E _ _ _ _ _ (HB.ri H2.out)).mono ?_); rintro e w1 ⟨rfl, rfl⟩))
        go_ret
        exact ⟨ret_int hr.out.symm, HB.b⟩
      · have hr : Bx (g.rightPart p = if g.partEnds p.V p.E then 0 else 4) := ⟨by unfold Gr.rightPart; rw [if_neg (by omega), if_neg (by simp [hv, he])]⟩
        have HV := Bx.mk (risesF_sound _ _ _ hv)
        have HE := Bx.mk (risesF_sound _ _ _ he)
        go_enter Tryz.func83, Tryz.ntmps83
        go_wp2_with (first | (go_at_call 117; (with_reducible refine (right_any g A _ c _ ((((BB.refl w).al _).al _).re HA.out)).mono ?_); rintro e w1 ⟨rfl, hb1⟩; obtain ⟨hx1, hx2⟩ := bcell hb1; have HB := (((BB.refl w).al _).al _).call hb1; have HC := BB.mk hb1; clear hb1) | (go_at_call 118; (with_reducible refine (rises_any p.V _ _ _ _ _ (HB.ri H1.out)).mono ?_); rintro e w1 ⟨rfl, rfl⟩) | (go_at_call 118; (with_reducible refine (rises_any p.E _ _ _ _ _ (HB.ri H2.out)).mono ?_); rintro e w1 ⟨rfl, rfl⟩))
        go_loopw [31] (fun i wr => ∃ k : Nat, k ≤ p.E.length ∧ i = .int .i64 k ∧ Bx (g.partEnds p.V (p.E.drop k) = g.partEnds p.V p.E) ∧ BB ((w.alloc (.cells #[.int .i64 g.N, .slice A g.E.length c] 24)).alloc (.cells #[.slice A1 n1 c1, .slice A2 p.E.length c2] 27)) wr) (fun i _ => p.E.length - (intOf i).toNat)
        case atStart => exact ⟨0, Nat.zero_le _, rfl, ⟨rfl⟩, HC⟩
        case round =>
          obtain ⟨k, hk, rfl, hd, HW⟩ := hrel
          clear hv he h0 HB HC hx1 hx2
          by_cases hlt : k < p.E.length
          · have hz := HW.pos2
            have HW0 := HW.under.under
            obtain ⟨b2, off2, rfl, hc2⟩ := (HW0.ri H2.out).at (by omega)
            have hc2' := hc2 k hlt
            have hm := (HE.out.2 _ (gi_mem hlt))
            have hm1 : 0 ≤ gi p.E k := by omega
            have hm2 := hm.2
            obtain ⟨b, off, rfl, hc⟩ := (HW0.re HA.out).at (by omega)
            obtain ⟨hc3, hc4⟩ := hc (gi p.E k).toNat (by omega)
            have hE := HW.cell (box_cell1 w _ _ _ _ 1)
            have hV := HW.cell (box_cell2 w _ _ _ _ 0)
            have hdd := Bx.mk (Gr.partEnds_drop (g := g) (V := p.V) hlt)
            clear hc hc2 hm
            have e1 : Bx (g.edge (gi p.E k) = ge g.E (gi p.E k).toNat) := ⟨rfl⟩
            by_cases m1 : (ge g.E (gi p.E k).toNat).1 ∈ p.V
            · by_cases m2 : (ge g.E (gi p.E k).toNat).2 ∈ p.V
              · have hn1 : (!decide ((ge g.E (gi p.E k).toNat).1 ∈ p.V)) = false := by simp [m1]
                have hn2 : (!decide ((ge g.E (gi p.E k).toNat).2 ∈ p.V)) = false := by simp [m2]
                go_wp2
                go_quiet ((go_at_call 41; exact Calls.quiet_of_same ((has_any p.V _ _ _ _ _ ((HW0.drawn _).ri H1.out) HV.out.1).mono fun _ _ h => ⟨h.1, h.2.symm⟩)))
                go_wp2
                go_roundw
                case rel => exact ⟨k + 1, by omega, by go_num, ⟨by rw [← hd.out, hdd.out, e1.out]; simp [m1, m2]⟩, HW.drawn _⟩
                case measure => simp [intOf]; omega
              · have hn1 : (!decide ((ge g.E (gi p.E k).toNat).1 ∈ p.V)) = false := by simp [m1]
                have hn2 : (!decide ((ge g.E (gi p.E k).toNat).2 ∈ p.V)) = true := by simp [m2]
                go_wp2
                go_quiet ((go_at_call 41; exact Calls.quiet_of_same ((has_any p.V _ _ _ _ _ ((HW0.drawn _).ri H1.out) HV.out.1).mono fun _ _ h => ⟨h.1, h.2.symm⟩)))
                go_wp2
                go_ret
                exact ⟨ret_int (by rw [hr.out, ← hd.out, hdd.out, e1.out]; simp [m1, m2]), (HW.under.under.drawn _).b⟩
            · have hn1 : (!decide ((ge g.E (gi p.E k).toNat).1 ∈ p.V)) = true := by simp [m1]
              go_wp2
              go_quiet ((go_at_call 41; exact Calls.quiet_of_same ((has_any p.V _ _ _ _ _ ((HW0.drawn _).ri H1.out) HV.out.1).mono fun _ _ h => ⟨h.1, h.2.symm⟩)))
              go_wp2
              go_ret
              exact ⟨ret_int (by rw [hr.out, ← hd.out, hdd.out, e1.out]; simp [m1]), (HW.under.under.drawn _).b⟩
          · go_wp2
            go_ret
            exact ⟨ret_int (by rw [hr.out, ← hd.out, List.drop_of_length_le (by omega)]; rfl), HW.under.under.b⟩
  · have hr : Bx (g.rightPart p = g.right) := ⟨by unfold Gr.rightPart; rw [if_pos h0]⟩
    go_enter Tryz.func83, Tryz.ntmps83
    go_wp2_with (go_at_call 117; (with_reducible refine (right_any g A _ c _ ((((BB.refl w).al _).al _).re HA.out)).mono ?_); rintro e w1 ⟨rfl, hb1⟩; obtain ⟨hx1, hx2⟩ := bcell hb1; have HB := (((BB.refl w).al _).al _).call hb1; have HC := BB.mk hb1; clear hb1)
    go_ret
    exact ⟨ret_int hr.out.symm, HB.b⟩
end Go.Proofs.YtefhmlgepnlaoaaGreat
