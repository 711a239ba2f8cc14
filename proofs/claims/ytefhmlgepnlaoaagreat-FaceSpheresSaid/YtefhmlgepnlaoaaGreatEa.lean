/- Walks: the document's functions of layers 2, 4, 6: Find, Right, Tail, Twin, Step, Next. Walks: the document's Rises. Walks: the document's Right of a graph. Walks: the document's RightPart (layer 4). Walks: the document's Step and Next (layer 6). -/
import Derived.Test.YtefhmlgepnlaoaaGreatAa
import Derived.Deep.QuietTactic
import Derived.BigQuiet
import Derived.Deep.RegionHeld3
set_option linter.unusedVariables false
set_option linter.unusedSimpArgs false
namespace Go.Proofs.YtefhmlgepnlaoaaGreat
open Go.RowKit

theorem find2_any (xs : List Int) (x : Int) (A : Option Addr) (n c : Nat) (w : World) (hA : RI w A n xs) :
    Calls Tryz.prog 95 #[.slice A n c, .int .i64 x] w fun e w' => e = .returned (.int .i64 (idx xs x)) ∧ w = w' := by
  have hlen := hA.len
  subst hlen
  have HA := Bx.mk hA
  have hle := hA.le
  clear hA
  go_enter Tryz.func95, Tryz.ntmps95
  go_wp2
  go_loopw [5] (fun iv wr => ∃ k : Nat, k ≤ xs.length ∧ iv = .int .i64 k ∧ Bx (idx xs x = idxFrom k (xs.drop k) x) ∧ w = wr) (fun iv _ => xs.length - (intOf iv).toNat)
  case atStart => exact ⟨0, Nat.zero_le _, rfl, ⟨rfl⟩, rfl⟩
  case round =>
    obtain ⟨k, hk, rfl, HN, rfl⟩ := hrel
    by_cases hlt : k < xs.length
    · obtain ⟨b, off, rfl, hc⟩ := HA.out.at (by omega)
      have hck := hc k hlt
      have HD := Bx.mk (idxFrom_drop (x := x) hlt)
      clear hc
      by_cases he : x = gi xs k
      · have hb : (gi xs k == x) = true := by simp [he]
        have hm : Bx (idx xs x = (k : Int)) := ⟨by rw [HN.out, HD.out, if_pos he]⟩
        clear he
        go_wp2
        go_ret
        exact ⟨ret_int hm.out.symm, rfl⟩
      · have hb : (gi xs k == x) = false := by simp; exact fun e => he e.symm
        have HN2 : Bx (idx xs x = idxFrom (k + 1) (xs.drop (k + 1)) x) := ⟨by rw [HN.out, HD.out, if_neg he]⟩
        clear he
        go_wp2
        go_roundw
        case rel => exact ⟨k + 1, hlt, by go_num, HN2, trivial⟩
        case measure => simp [intOf]; omega
    · have hm : Bx (idx xs x = -1) := ⟨by rw [HN.out, List.drop_of_length_le (by omega)]; rfl⟩
      go_wp2
      go_ret
      exact ⟨ret_int hm.out.symm, rfl⟩
/-- The vertex that a dart leaves (the document's). -/
theorem tail4_any (g : Gr) (d : Nat) (hd : d / 2 < g.E.length) (A : Option Addr) (n c : Nat) (w : World) (hA : RE w A n g.E) :
    Calls Tryz.prog 94 #[.agg #[.int .i64 g.N, .slice A n c], .int .i64 (d : Int)] w fun e w' => e = .returned (.int .i64 (if d % 2 = 0 then (ge g.E (d / 2)).1 else (ge g.E (d / 2)).2)) ∧ BB w w' := by
  have hlen := hA.len
  subst hlen
  have hle := hA.le
  obtain ⟨b, off, rfl, hc⟩ := hA.at (by omega)
  obtain ⟨h1, h2⟩ := hc (d / 2) hd
  have hb := (BB.refl w).al (.cells #[.int .i64 g.N, .slice (some ⟨b, off, none⟩) g.E.length c] 24)
  have hb1 := hb.cell h1
  have hb2 := hb.cell h2
  have HBB := Bx.mk hb
  obtain ⟨q, hq⟩ : ∃ q : Nat, Bx (d / 2 = q) := ⟨_, ⟨rfl⟩⟩
  rw [hq.out] at hd hb1 hb2
  have hqq : Int.tdiv (d : Int) 2 = (q : Int) := by rw [Int.tdiv_eq_ediv_of_nonneg (by omega)]; have := hq.out; omega
  have hdb : d < 1099511627776 * 64 := by have := hq.out; omega
  clear hA hc h1 h2 hb
  by_cases hm : d % 2 = 0
  · have hmm : Int.tmod (d : Int) 2 = 0 := by rw [Int.tmod_eq_emod_of_nonneg (by omega)]; omega
    have HM := Bx.mk hm
    go_enter Tryz.func94, Tryz.ntmps94
    go_wp2
    go_ret
    exact ⟨(by first | (rw [if_pos HM.out, hq.out]; rfl) | (rw [hq.out]; rfl)), HBB.out⟩
  · have hmm : Int.tmod (d : Int) 2 = 1 := by rw [Int.tmod_eq_emod_of_nonneg (by omega)]; omega
    have HM := Bx.mk hm
    go_enter Tryz.func94, Tryz.ntmps94
    go_wp2
    go_ret
    exact ⟨(by first | (rw [if_neg HM.out, hq.out]; rfl) | (rw [hq.out]; rfl)), HBB.out⟩
theorem twin4_any (d : Nat) (hd : d < 1099511627776) (w : World) : Calls Tryz.prog 80 #[.int .i64 (d : Int)] w fun e w' => e = .returned (.int .i64 (twinI d)) ∧ w = w' := by
  have ht : Bx (twinI (d : Int) = if d % 2 = 0 then (d : Int) + 1 else (d : Int) - 1) := ⟨by unfold twinI; split <;> split <;> omega⟩
  by_cases hm : d % 2 = 0
  · have hmm : Int.tmod (d : Int) 2 = 0 := by rw [Int.tmod_eq_emod_of_nonneg (by omega)]; omega
    have HM := Bx.mk hm
    go_enter Tryz.func80, Tryz.ntmps80
    go_wp2
    go_ret
    exact ⟨ret_int (by rw [ht.out, if_pos HM.out]), rfl⟩
  · have hmm : Int.tmod (d : Int) 2 = 1 := by rw [Int.tmod_eq_emod_of_nonneg (by omega)]; omega
    have HM := Bx.mk hm
    have hd1 : 1 ≤ d := by omega
    go_enter Tryz.func80, Tryz.ntmps80
    go_wp2
    go_ret
    exact ⟨ret_int (by rw [ht.out, if_neg HM.out]), rfl⟩
/-- Are a list's numbers each there once? -/
def onceF (xs : List Int) : Nat → List Int → Bool
  | _, [] => true
  | k, y :: ys => decide (idx xs y = (k : Int)) && onceF xs (k + 1) ys
theorem onceF_drop {xs : List Int} {k : Nat} (h : k < xs.length) : onceF xs k (xs.drop k) = (decide (idx xs (gi xs k) = (k : Int)) && onceF xs (k + 1) (xs.drop (k + 1))) := by
  rw [List.drop_eq_getElem_cons h, gi_eq h]; rfl
theorem idx_gi_le {xs : List Int} {k : Nat} (h : k < xs.length) : 0 ≤ idx xs (gi xs k) ∧ idx xs (gi xs k) ≤ k := by
  obtain ⟨j, h1, h2, h3, h4⟩ := gi_idx (gi_mem h)
  rw [h1]
  refine ⟨by omega, ?_⟩
  refine Decidable.byContradiction fun hn => ?_
  exact h4 k (by omega) rfl
theorem right2_any (xs : List Int) (A : Option Addr) (n c : Nat) (w : World) (hA : RI w A n xs) :
    Calls Tryz.prog 45 #[.slice A n c] w fun e w' => e = .returned (.bool (onceF xs 0 xs)) ∧ BB w w' := by
  have hlen := hA.len
  subst hlen
  have HA := Bx.mk hA
  have hle := hA.le
  clear hA
  go_enter Tryz.func45, Tryz.ntmps45
  go_wp2
  go_loopw [3] (fun iv wr => ∃ k : Nat, k ≤ xs.length ∧ iv = .int .i64 k ∧ Bx (onceF xs 0 xs = onceF xs k (xs.drop k)) ∧ BB w wr) (fun iv _ => xs.length - (intOf iv).toNat)
  case atStart => exact ⟨0, Nat.zero_le _, rfl, ⟨rfl⟩, BB.refl _⟩
  case round =>
    obtain ⟨k, hk, rfl, HN, HBr⟩ := hrel
    by_cases hlt : k < xs.length
    · have hri := HBr.ri HA.out
      obtain ⟨b, off, rfl, hc⟩ := hri.at (by omega)
      have hck := hc k hlt
      have HD := Bx.mk (onceF_drop hlt)
      obtain ⟨hi0, hi1⟩ := idx_gi_le hlt
      obtain ⟨i, hi⟩ : ∃ i : Nat, Bx (idx xs (gi xs k) = (i : Int)) := ⟨(idx xs (gi xs k)).toNat, ⟨by omega⟩⟩
      rw [hi.out] at hi1
      have HRI := Bx.mk hri
      have hfind := fun W (h : RI W (some ⟨b, off, none⟩) xs.length xs) => find2_any xs (gi xs k) (some ⟨b, off, none⟩) xs.length c W h
      rw [hi.out] at hfind
      have HFI := Bx.mk hfind
      clear hc hri hi0 hfind
      by_cases he : i = k
      · have hb : ¬ ((i : Int) < (k : Int)) := by omega
        have HN2 : Bx (onceF xs 0 xs = onceF xs (k + 1) (xs.drop (k + 1))) := ⟨by rw [HN.out, HD.out, hi.out, he]; simp⟩
        clear he
        go_wp2_with (go_at_call 95; (with_reducible refine (HFI.out _ HRI.out).mono ?_); rintro e w1 ⟨rfl, rfl⟩)
        go_roundw
        case rel => exact ⟨k + 1, hlt, by go_num, HN2, HBr⟩
        case measure => simp [intOf]; omega
      · have hb : (i : Int) < (k : Int) := by omega
        have hm : Bx (onceF xs 0 xs = false) := ⟨by
          rw [HN.out, HD.out, hi.out]
          have : ¬ ((i : Int) = (k : Int)) := by omega
          simp [this]⟩
        clear he
        go_wp2_with (go_at_call 95; (with_reducible refine (HFI.out _ HRI.out).mono ?_); rintro e w1 ⟨rfl, rfl⟩)
        go_ret
        exact ⟨ret_bool hm.out.symm, HBr⟩
    · have hm : Bx (onceF xs 0 xs = true) := ⟨by rw [HN.out, List.drop_of_length_le (by omega)]; rfl⟩
      go_wp2
      go_ret
      exact ⟨ret_bool hm.out.symm, HBr⟩

theorem wrap_id4 {x : Int} (h0 : 0 ≤ x) (h1 : x < 17592186044416) : IntKind.i64.wrap x = x := by
  simp [IntKind.wrap, IntKind.bits, IntKind.signed]
  omega
def lastTo (xs : List Int) (k : Nat) : Int := if k = 0 then -1 else gi xs (k - 1)
theorem risesF_last {limit : Int} {xs : List Int} {k : Nat} (h : k < xs.length) : risesF limit (lastTo xs k) (xs.drop k) = if gi xs k ≤ lastTo xs k ∨ limit ≤ gi xs k then false else risesF limit (lastTo xs (k + 1)) (xs.drop (k + 1)) := risesF_drop h
set_option maxRecDepth 100000 in
set_option maxHeartbeats 4000000 in
theorem rises4_any (xs : List Int) (lim : Int) (A : Option Addr) (n c : Nat) (w : World) (hA : RI w A n xs) :
    Calls Tryz.prog 93 #[.slice A n c, .int .i64 lim] w fun e w' => e = .returned (.bool (risesF lim (-1) xs)) ∧ BB w w' := by
  have hlen := hA.len
  subst hlen
  have HA := Bx.mk hA
  have hle := hA.le
  clear hA
  go_enter Tryz.func93, Tryz.ntmps93
  go_wp2
  go_loopw [5] (fun iv wr => ∃ k : Nat, k ≤ xs.length ∧ iv = .int .i64 k ∧ Bx (risesF lim (-1) xs = risesF lim (lastTo xs k) (xs.drop k) ∧ -1 ≤ lastTo xs k) ∧ BB w wr) (fun iv _ => xs.length - (intOf iv).toNat)
  case atStart => exact ⟨0, Nat.zero_le _, rfl, ⟨rfl, by simp [lastTo]⟩, BB.refl _⟩
  case round =>
    obtain ⟨k, hk, rfl, HN, HBr⟩ := hrel
    by_cases hlt : k < xs.length
    · obtain ⟨b, off, rfl, hc⟩ := (HBr.ri HA.out).at (by omega)
      have hck := hc k hlt
      have hcm := hc (k - 1) (by omega)
      have HD := Bx.mk (risesF_last (limit := lim) hlt)
      obtain ⟨m, hm⟩ : ∃ m : Nat, Bx (k - 1 = m) := ⟨_, ⟨rfl⟩⟩
      have HL : Bx (lastTo xs k = if k = 0 then -1 else gi xs m) := ⟨by unfold lastTo; rw [hm.out]⟩
      have HL1 : Bx (lastTo xs (k + 1) = gi xs k) := ⟨by unfold lastTo; rw [if_neg (by omega)]; rfl⟩
      rw [hm.out] at hcm
      have hmlt : m < xs.length := by rw [← hm.out]; omega
      clear hc
      generalize gi xs k = x at *
      generalize gi xs m = y at *
      by_cases h1 : x < 0
      · have hb1 : decide (x < 0) = true := by simp [h1]
        have h5 := HN.out.2
        have h6 := HL.out
        have hr : Bx (risesF lim (-1) xs = false) := ⟨by rw [HN.out.1, HD.out, if_pos (by rw [HL.out]; split <;> rename_i h7 <;> first | (left; omega) | (rw [if_neg h7] at h6; rw [h6] at h5; left; omega))]⟩
        clear h5 h6
        go_wp2
        go_quiet (fail)
        go_wp2
        go_ret
        exact ⟨ret_bool hr.out.symm, HBr.drawn _⟩
      · have hb1 : decide (x < 0) = false := by simp [h1]
        by_cases h2 : lim ≤ x
        · have hb2 : decide (lim ≤ x) = true := by simp [h2]
          have hr : Bx (risesF lim (-1) xs = false) := ⟨by rw [HN.out.1, HD.out, if_pos (by rw [HL.out]; right; exact h2)]⟩
          go_wp2
          go_quiet (fail)
          go_wp2
          go_ret
          exact ⟨ret_bool hr.out.symm, HBr.drawn _⟩
        · have hb2 : decide (lim ≤ x) = false := by simp [h2]
          by_cases hk0 : k = 0
          · have hk1 : ¬ 0 < k := by omega
            have hb3 : decide (0 < k) = false := by simp [hk0]
            have hr : Bx (risesF lim (-1) xs = risesF lim (lastTo xs (k + 1)) (xs.drop (k + 1)) ∧ -1 ≤ lastTo xs (k + 1)) := ⟨by rw [HN.out.1, HD.out, if_neg (by rw [HL.out]; rw [if_pos hk0]; omega)], by rw [HL1.out]; omega⟩
            clear hk0
            go_wp2
            go_quiet (fail)
            go_wp2
            go_roundw
            case rel => exact ⟨k + 1, hlt, by go_num, hr, HBr.drawn _⟩
            case measure => simp [intOf]; omega
          · have hk1 : 0 < k := by omega
            have hkw : IntKind.i64.wrap ((k : Int) - 1) = (m : Int) := by rw [show (k : Int) - 1 = (m : Int) by have := hm.out; omega]; exact wrap_id4 (by omega) (by omega)
            by_cases h3 : x ≤ y
            · have hb4 : decide (x ≤ y) = true := by simp [h3]
              have hr : Bx (risesF lim (-1) xs = false) := ⟨by rw [HN.out.1, HD.out, if_pos (by rw [HL.out]; rw [if_neg hk0]; left; exact h3)]⟩
              clear hk0
              go_wp2
              go_quiet (fail)
              go_wp2
              go_ret
              exact ⟨ret_bool hr.out.symm, HBr.drawn _⟩
            · have hb4 : decide (x ≤ y) = false := by simp [h3]
              have hr : Bx (risesF lim (-1) xs = risesF lim (lastTo xs (k + 1)) (xs.drop (k + 1)) ∧ -1 ≤ lastTo xs (k + 1)) := ⟨by rw [HN.out.1, HD.out, if_neg (by rw [HL.out]; rw [if_neg hk0]; omega)], by rw [HL1.out]; omega⟩
              clear hk0
              go_wp2
              go_quiet (fail)
              go_wp2
              go_roundw
              case rel => exact ⟨k + 1, hlt, by go_num, hr, HBr.drawn _⟩
              case measure => simp [intOf]; omega
    · have hr : Bx (risesF lim (-1) xs = true) := ⟨by rw [HN.out.1, List.drop_of_length_le (by omega)]; rfl⟩
      go_wp2
      go_ret
      exact ⟨ret_bool hr.out.symm, HBr⟩

set_option maxRecDepth 100000 in
set_option maxHeartbeats 4000000 in
theorem right4_any (g : Gr) (A : Option Addr) (n c : Nat) (w : World) (hA : RE w A n g.E) :
    Calls Tryz.prog 92 #[.agg #[.int .i64 g.N, .slice A n c]] w fun e w' => e = .returned (.int .i64 g.right) ∧ BB w w' := by
  have hlen := hA.len
  subst hlen
  have HA := Bx.mk hA
  have hle := hA.le
  clear hA
  have HBB := Bx.mk ((BB.refl w).al (.cells #[.int .i64 g.N, .slice A g.E.length c] 24))
  have hG := Bx.mk (show g.right = if g.N < 0 then 3 else if 1024 < g.N ∨ 1024 - g.N < (g.E.length : Int) then 2 else if g.endsOk g.E then 0 else 3 from rfl)
  have hc0 := box_cell w #[.int .i64 g.N, .slice A g.E.length c] 24 (0, 0) 0
  have hc1 := box_cell w #[.int .i64 g.N, .slice A g.E.length c] 24 (0, 0) 1
  have HC := Bx.mk (And.intro hc0 hc1)
  have hin : Bx (∀ v, g.inside v = (decide (0 ≤ v) && decide (v < g.N))) := ⟨fun _ => rfl⟩
  have hdr : Bx (∀ k, k < g.E.length → g.endsOk (g.E.drop k) = (g.inside (ge g.E k).1 && (g.inside (ge g.E k).2 && g.endsOk (g.E.drop (k + 1))))) := ⟨fun k hk => Gr.endsOk_drop hk⟩
  have hend : Bx (g.endsOk [] = true) := ⟨rfl⟩
  clear hc0 hc1
  by_cases h1 : g.N < 0
  · have hb1 : decide (g.N < 0) = true := by simp [h1]
    have hr : Bx (g.right = 3) := ⟨by rw [hG.out, if_pos h1]⟩
    go_enter Tryz.func92, Tryz.ntmps92
    go_wp2
    go_ret
    exact ⟨ret_int hr.out.symm, HBB.out⟩
  by_cases h2 : 1024 < g.N
  · have hr : Bx (g.right = 2) := ⟨by rw [hG.out, if_neg h1, if_pos (.inl h2)]⟩
    go_enter Tryz.func92, Tryz.ntmps92
    go_wp2
    go_ret
    exact ⟨ret_int hr.out.symm, HBB.out⟩
  by_cases h3 : 1024 < g.E.length
  · have hr : Bx (g.right = 2) := ⟨by rw [hG.out, if_neg h1, if_pos (.inr (by omega))]⟩
    go_enter Tryz.func92, Tryz.ntmps92
    go_wp2
    go_ret
    exact ⟨ret_int hr.out.symm, HBB.out⟩
  by_cases h4 : 1024 < g.N + (g.E.length : Int)
  · have hr : Bx (g.right = 2) := ⟨by rw [hG.out, if_neg h1, if_pos (.inr (by omega))]⟩
    go_enter Tryz.func92, Tryz.ntmps92
    go_wp2
    go_ret
    exact ⟨ret_int hr.out.symm, HBB.out⟩
  have hr0 : Bx (g.right = if g.endsOk g.E then 0 else 3) := ⟨by rw [hG.out, if_neg h1, if_neg (by omega)]⟩
  go_enter Tryz.func92, Tryz.ntmps92
  go_wp2
  go_loopw [3] (fun iv wr => ∃ k : Nat, k ≤ g.E.length ∧ iv = .int .i64 k ∧ Bx (g.endsOk g.E = g.endsOk (g.E.drop k)) ∧ BB (w.alloc (.cells #[.int .i64 g.N, .slice A g.E.length c] 24)) wr) (fun iv _ => g.E.length - (intOf iv).toNat)
  case atStart => exact ⟨0, Nat.zero_le _, rfl, ⟨rfl⟩, BB.refl _⟩
  case round =>
    obtain ⟨k, hk, rfl, HN, HBr⟩ := hrel
    have hq0 := HBr.cell HC.out.1
    have hq1 := HBr.cell HC.out.2
    by_cases hlt : k < g.E.length
    · obtain ⟨b, off, rfl, hc⟩ := (HBr.re (HBB.out.re HA.out)).at (by omega)
      obtain ⟨hca, hcb⟩ := hc k hlt
      have HD := Bx.mk (hdr.out k hlt)
      rw [hin.out, hin.out] at HD
      clear hc
      generalize (ge g.E k).1 = x at *
      generalize (ge g.E k).2 = y at *
      by_cases e1 : x < 0
      · have hb1 : decide (x < 0) = true := by simp [e1]
        have hr : Bx (g.right = 3) := ⟨by rw [hr0.out, HN.out, HD.out]; simp; omega⟩
        go_wp2
        go_quiet (fail)
        go_wp2
        go_ret
        exact ⟨ret_int hr.out.symm, HBB.out.trans (HBr.drawn _)⟩
      by_cases e2 : g.N ≤ x
      · have hb1 : decide (x < 0) = false := by simp [e1]
        have hb2 : decide (g.N ≤ x) = true := by simp [e2]
        have hr : Bx (g.right = 3) := ⟨by rw [hr0.out, HN.out, HD.out]; simp; omega⟩
        go_wp2
        go_quiet (fail)
        go_wp2
        go_ret
        exact ⟨ret_int hr.out.symm, HBB.out.trans (HBr.drawn _)⟩
      by_cases e3 : y < 0
      · have hb1 : decide (x < 0) = false := by simp [e1]
        have hb2 : decide (g.N ≤ x) = false := by simp [e2]
        have hb3 : decide (y < 0) = true := by simp [e3]
        have hr : Bx (g.right = 3) := ⟨by rw [hr0.out, HN.out, HD.out]; simp; omega⟩
        go_wp2
        go_quiet (fail)
        go_wp2
        go_ret
        exact ⟨ret_int hr.out.symm, HBB.out.trans (HBr.drawn _)⟩
      by_cases e4 : g.N ≤ y
      · have hb1 : decide (x < 0) = false := by simp [e1]
        have hb2 : decide (g.N ≤ x) = false := by simp [e2]
        have hb3 : decide (y < 0) = false := by simp [e3]
        have hb4 : decide (g.N ≤ y) = true := by simp [e4]
        have hr : Bx (g.right = 3) := ⟨by rw [hr0.out, HN.out, HD.out]; simp; omega⟩
        go_wp2
        go_quiet (fail)
        go_wp2
        go_ret
        exact ⟨ret_int hr.out.symm, HBB.out.trans (HBr.drawn _)⟩
      have hb1 : decide (x < 0) = false := by simp [e1]
      have hb2 : decide (g.N ≤ x) = false := by simp [e2]
      have hb3 : decide (y < 0) = false := by simp [e3]
      have hb4 : decide (g.N ≤ y) = false := by simp [e4]
      have hn : Bx (g.endsOk g.E = g.endsOk (g.E.drop (k + 1))) := ⟨by
        have i1 : decide (0 ≤ x) = true := by simp; omega
        have i2 : decide (x < g.N) = true := by simp; omega
        have i3 : decide (0 ≤ y) = true := by simp; omega
        have i4 : decide (y < g.N) = true := by simp; omega
        rw [HN.out, HD.out, i1, i2, i3, i4]; rfl⟩
      go_wp2
      go_quiet (fail)
      go_wp2
      go_roundw
      case rel => exact ⟨k + 1, hlt, by go_num, hn, HBr.drawn _⟩
      case measure => simp [intOf]; omega
    · have hr : Bx (g.right = 0) := ⟨by rw [hr0.out, HN.out, List.drop_of_length_le (by omega), hend.out]; rfl⟩
      go_wp2
      go_ret
      exact ⟨ret_int hr.out.symm, HBB.out.trans HBr⟩

theorem RI.drawnN {w : World} {A : Option Addr} {n : Nat} {xs : List Int} (h : RI w A n xs) (q : Nat) : RI (w.drewN q) A n xs := h.below ((BB.refl w).drawn q).b
set_option maxRecDepth 100000 in
set_option maxHeartbeats 4000000 in
theorem rightPart4_any (g : Gr) (p : Pt) (A A1 A2 : Option Addr) (n c n1 c1 n2 c2 : Nat) (w : World) (hA : RE w A n g.E) (h1 : RI w A1 n1 p.V) (h2 : RI w A2 n2 p.E) :
    Calls Tryz.prog 43 #[.agg #[.int .i64 g.N, .slice A n c], .agg #[.slice A1 n1 c1, .slice A2 n2 c2]] w fun e w' => e = .returned (.int .i64 (g.rightPart p)) ∧ BB w w' := by
  have hlen := hA.len
  subst hlen
  have hlen := h1.len
  subst hlen
  have hlen := h2.len
  subst hlen
  have HA := Bx.mk hA
  have H1 := Bx.mk h1
  have H2 := Bx.mk h2
  have hleE := hA.le
  have hle2 := h2.le
  clear hA h1 h2
  have BA := Bx.mk (((BB.refl w).al (.cells #[.int .i64 g.N, .slice A g.E.length c] 24)).al (.cells #[.slice A1 p.V.length c1, .slice A2 p.E.length c2] 27))
  have hG1 := box_cell1 w #[.int .i64 g.N, .slice A g.E.length c] 24 (0, 0) (.cells #[.slice A1 p.V.length c1, .slice A2 p.E.length c2] 27) 0
  have hG2 := box_cell1 w #[.int .i64 g.N, .slice A g.E.length c] 24 (0, 0) (.cells #[.slice A1 p.V.length c1, .slice A2 p.E.length c2] 27) 1
  have hP1 := box_cell2 w #[.slice A1 p.V.length c1, .slice A2 p.E.length c2] 27 (0, 0) (.cells #[.int .i64 g.N, .slice A g.E.length c] 24) 0
  have hP2 := box_cell2 w #[.slice A1 p.V.length c1, .slice A2 p.E.length c2] 27 (0, 0) (.cells #[.int .i64 g.N, .slice A g.E.length c] 24) 1
  have HB := Bx.mk (And.intro hG1 (And.intro hG2 (And.intro hP1 hP2)))
  clear hG1 hG2 hP1 hP2
  have HR : Bx (g.rightPart p = if g.right ≠ 0 then g.right else if risesF g.N (-1) p.V = false ∨ risesF g.E.length (-1) p.E = false then 4 else if g.partEnds p.V p.E then 0 else 4) := ⟨rfl⟩
  by_cases h0 : g.right = 0
  case neg =>
    have h0b : (g.right != 0) = true := by simp [h0]
    have hr : Bx (g.rightPart p = g.right) := ⟨by rw [HR.out, if_pos h0]⟩
    clear h0
    go_enter Tryz.func43, Tryz.ntmps43
    go_wp2_with (go_at_call 92; (with_reducible refine (right4_any g A _ c _ (BA.out.re HA.out)).mono ?_); rintro e w1 ⟨rfl, hb1⟩)
    go_ret
    exact ⟨ret_int hr.out.symm, BA.out.trans hb1⟩
  case pos =>
    have h0b : (g.right != 0) = false := by simp [h0]
    have HR2 : Bx (g.rightPart p = if risesF g.N (-1) p.V = false ∨ risesF g.E.length (-1) p.E = false then 4 else if g.partEnds p.V p.E then 0 else 4) := ⟨by rw [HR.out, if_neg (by simp [h0])]⟩
    clear h0
    cases hv : risesF g.N (-1) p.V with
    | false =>
      have hr : Bx (g.rightPart p = 4) := ⟨by rw [HR2.out, if_pos (.inl hv)]⟩
      have HV := Bx.mk hv
      clear hv
      go_enter Tryz.func43, Tryz.ntmps43
      go_wp2_with (first
        | (go_at_call 92; (with_reducible refine (right4_any g A _ c _ (BA.out.re HA.out)).mono ?_); rintro e w1 ⟨rfl, hb1⟩; have hG1 := hb1.cell HB.out.1; have hP1 := hb1.cell HB.out.2.2.1)
        | (go_at_call 93; (with_reducible refine (rises4_any p.V g.N A1 _ c1 _ ((BA.out.trans hb1).ri H1.out)).mono ?_); rintro e w2 ⟨rfl, hb2⟩; rw [HV.out])
        | fail)
      go_ret
      exact ⟨ret_int hr.out.symm, (BA.out.trans hb1).trans hb2⟩
    | true =>
      have HV := Bx.mk hv
      have HR3 : Bx (g.rightPart p = if risesF g.E.length (-1) p.E = false then 4 else if g.partEnds p.V p.E then 0 else 4) := ⟨by rw [HR2.out, hv]; simp⟩
      clear hv
      cases hv : risesF g.E.length (-1) p.E with
      | false =>
        have hr : Bx (g.rightPart p = 4) := ⟨by rw [HR3.out, if_pos hv]⟩
        have HE := Bx.mk hv
        clear hv
        go_enter Tryz.func43, Tryz.ntmps43
        go_wp2_with (first
        | (go_at_call 92; (with_reducible refine (right4_any g A _ c _ (BA.out.re HA.out)).mono ?_); rintro e w1 ⟨rfl, hb1⟩; have HW1 := Bx.mk (BA.out.trans hb1); have hG1 := hb1.cell HB.out.1; have hP1 := hb1.cell HB.out.2.2.1; have hG2 := hb1.cell HB.out.2.1; have hP2 := hb1.cell HB.out.2.2.2; clear hb1)
        | (go_at_call 93; first
          | ((with_reducible refine (rises4_any p.V g.N A1 _ c1 _ (HW1.out.ri H1.out)).mono ?_); rintro e w2 ⟨rfl, hb2⟩; rw [HV.out]; have HW2 := Bx.mk (HW1.out.trans hb2); have hG12 := hb2.cell hG1; have hG22 := hb2.cell hG2; have hP12 := hb2.cell hP1; have hP22 := hb2.cell hP2; clear hb2)
          | ((with_reducible refine (rises4_any p.E (g.E.length : Int) A2 _ c2 _ (HW2.out.ri H2.out)).mono ?_); rintro e w3 ⟨rfl, hb3⟩; rw [HE.out]; have HW3 := Bx.mk (HW2.out.trans hb3); have hG13 := hb3.cell hG12; have hG23 := hb3.cell hG22; have hP13 := hb3.cell hP12; have hP23 := hb3.cell hP22; clear hb3)
          | fail)
        | fail)
        go_ret
        exact ⟨ret_int hr.out.symm, HW3.out⟩
      | true =>
        have HE := Bx.mk hv
        have HEI := Bx.mk (risesF_sound _ _ _ hv).2
        have HR4 : Bx (g.rightPart p = if g.partEnds p.V p.E then 0 else 4) := ⟨by rw [HR3.out, if_neg (by rw [hv]; simp)]⟩
        have HPD : Bx (∀ k, k < p.E.length → g.partEnds p.V (p.E.drop k) = ((decide ((g.edge (gi p.E k)).1 ∈ p.V)) && (decide ((g.edge (gi p.E k)).2 ∈ p.V) && g.partEnds p.V (p.E.drop (k + 1))))) := ⟨fun k hk => Gr.partEnds_drop hk⟩
        have HPN : Bx (g.partEnds p.V [] = true) := ⟨rfl⟩
        clear hv
        go_enter Tryz.func43, Tryz.ntmps43
        go_wp2_with (first
        | (go_at_call 92; (with_reducible refine (right4_any g A _ c _ (BA.out.re HA.out)).mono ?_); rintro e w1 ⟨rfl, hb1⟩; have HW1 := Bx.mk (BA.out.trans hb1); have hG1 := hb1.cell HB.out.1; have hP1 := hb1.cell HB.out.2.2.1; have hG2 := hb1.cell HB.out.2.1; have hP2 := hb1.cell HB.out.2.2.2; clear hb1)
        | (go_at_call 93; first
          | ((with_reducible refine (rises4_any p.V g.N A1 _ c1 _ (HW1.out.ri H1.out)).mono ?_); rintro e w2 ⟨rfl, hb2⟩; rw [HV.out]; have HW2 := Bx.mk (HW1.out.trans hb2); have hG12 := hb2.cell hG1; have hG22 := hb2.cell hG2; have hP12 := hb2.cell hP1; have hP22 := hb2.cell hP2; clear hb2)
          | ((with_reducible refine (rises4_any p.E (g.E.length : Int) A2 _ c2 _ (HW2.out.ri H2.out)).mono ?_); rintro e w3 ⟨rfl, hb3⟩; rw [HE.out]; have HW3 := Bx.mk (HW2.out.trans hb3); have hG13 := hb3.cell hG12; have hG23 := hb3.cell hG22; have hP13 := hb3.cell hP12; have hP23 := hb3.cell hP22; clear hb3)
          | fail)
        | fail)
        have HC := Bx.mk (And.intro hG13 (And.intro hG23 (And.intro hP13 hP23)))
        clear hG1 hG2 hP1 hP2 hG12 hG22 hP12 hP22 hG13 hG23 hP13 hP23
        go_loopw [6] (fun iv wr => ∃ k : Nat, k ≤ p.E.length ∧ iv = .int .i64 k ∧ Bx (g.partEnds p.V p.E = g.partEnds p.V (p.E.drop k)) ∧ BB w3 wr) (fun iv _ => p.E.length - (intOf iv).toNat)
        case atStart => exact ⟨0, Nat.zero_le _, rfl, ⟨rfl⟩, BB.refl _⟩
        case round =>
          obtain ⟨k, hk, rfl, HN, HBr⟩ := hrel
          have hq2 := HBr.cell HC.out.2.1
          have hq3 := HBr.cell HC.out.2.2.1
          have hq4 := HBr.cell HC.out.2.2.2
          by_cases hlt : k < p.E.length
          · have HWr := HW3.out.trans HBr
            obtain ⟨b2, off2, rfl, hc⟩ := (HWr.ri H2.out).at (by omega)
            have hck := hc k hlt
            have hei := HEI.out _ (gi_mem hlt)
            obtain ⟨x, hx⟩ : ∃ x : Nat, Bx (gi p.E k = (x : Int)) := ⟨(gi p.E k).toNat, ⟨by omega⟩⟩
            rw [hx.out] at hck hei
            have hxl : x < g.E.length := by omega
            obtain ⟨b, off, rfl, hcl⟩ := (HWr.re HA.out).at (by omega)
            obtain ⟨hca, hcb⟩ := hcl x hxl
            have HD := Bx.mk (HPD.out k hlt)
            have hed : Bx (g.edge (gi p.E k) = ge g.E x) := ⟨by rw [hx.out]; rfl⟩
            rw [hed.out] at HD
            have HRV := Bx.mk (HWr.ri H1.out)
            clear hc hcl hei HWr
            generalize (ge g.E x).1 = a at *
            generalize (ge g.E x).2 = b' at *
            by_cases m1 : a ∈ p.V
            · have d1 : Bx (decide (a ∈ p.V) = true) := ⟨by simp [m1]⟩
              by_cases m2 : b' ∈ p.V
              · have d2 : Bx (decide (b' ∈ p.V) = true) := ⟨by simp [m2]⟩
                have hn : Bx (g.partEnds p.V p.E = g.partEnds p.V (p.E.drop (k + 1))) := ⟨by rw [HN.out, HD.out, d1.out, d2.out]; rfl⟩
                clear m1 m2
                go_wp2
                go_quiet ((go_at_call 32; first | with_reducible exact Calls.quiet_of_same ((in_any p.V a A1 _ c1 _ (HRV.out.drawnN _)).mono fun _ _ h => ⟨h.1.trans (ret_bool d1.out), h.2.symm⟩) | with_reducible exact Calls.quiet_of_same ((in_any p.V b' A1 _ c1 _ (HRV.out.drawnN _)).mono fun _ _ h => ⟨h.1.trans (ret_bool d2.out), h.2.symm⟩)))
                go_wp2
                go_roundw
                case rel => exact ⟨k + 1, hlt, by go_num, hn, HBr.drawn _⟩
                case measure => simp [intOf]; omega
              · have d2 : Bx (decide (b' ∈ p.V) = false) := ⟨by simp [m2]⟩
                have hr : Bx (g.rightPart p = 4) := ⟨by rw [HR4.out, HN.out, HD.out, d1.out, d2.out]; rfl⟩
                clear m1 m2
                go_wp2
                go_quiet ((go_at_call 32; first | with_reducible exact Calls.quiet_of_same ((in_any p.V a A1 _ c1 _ (HRV.out.drawnN _)).mono fun _ _ h => ⟨h.1.trans (ret_bool d1.out), h.2.symm⟩) | with_reducible exact Calls.quiet_of_same ((in_any p.V b' A1 _ c1 _ (HRV.out.drawnN _)).mono fun _ _ h => ⟨h.1.trans (ret_bool d2.out), h.2.symm⟩)))
                go_wp2
                go_ret
                exact ⟨ret_int hr.out.symm, HW3.out.trans (HBr.drawn _)⟩
            · have d1 : Bx (decide (a ∈ p.V) = false) := ⟨by simp [m1]⟩
              have hr : Bx (g.rightPart p = 4) := ⟨by rw [HR4.out, HN.out, HD.out, d1.out]; rfl⟩
              clear m1
              go_wp2
              go_quiet ((go_at_call 32; exact Calls.quiet_of_same ((in_any p.V a A1 _ c1 _ (HRV.out.drawnN _)).mono fun _ _ h => ⟨h.1.trans (ret_bool d1.out), h.2.symm⟩)))
              go_wp2
              go_ret
              exact ⟨ret_int hr.out.symm, HW3.out.trans (HBr.drawn _)⟩
          · have hr : Bx (g.rightPart p = 0) := ⟨by rw [HR4.out, HN.out, List.drop_of_length_le (by omega), HPN.out]; rfl⟩
            go_wp2
            go_ret
            exact ⟨ret_int hr.out.symm, HW3.out.trans HBr⟩

/-- The vertex that a dart leaves. -/
def tail4 (g : Gr) (d : Nat) : Int := if d % 2 = 0 then (ge g.E (d / 2)).1 else (ge g.E (d / 2)).2
theorem step4_any (g : Gr) (tn : List (List Int)) (d v i : Nat) (n : Int) (hn1 : -1 ≤ n) (hn2 : n ≤ 1) (hd : d / 2 < g.E.length) (hv : tail4 g d = (v : Int)) (hvt : v < tn.length) (hi : idx (gl tn v) (d : Int) = (i : Int)) (hil : i < (gl tn v).length) (A A3 : Option Addr) (c c3 : Nat) (w : World) (hA : RE w A g.E.length g.E) (h3 : RL w A3 tn.length tn) :
    Calls Tryz.prog 107 #[.agg #[.int .i64 g.N, .slice A g.E.length c], .slice A3 tn.length c3, .int .i64 (d : Int), .int .i64 n] w fun e w' => e = .returned (.int .i64 (gi (gl tn v) (((i : Int) + n) % (gl tn v).length).toNat)) ∧ BB w w' := by
  have HB := Bx.mk ((BB.refl w).al (.cells #[.int .i64 g.N, .slice A g.E.length c] 24))
  have hT := tail4_any g d hd A g.E.length c _ (HB.out.re hA)
  have hvv : (if d % 2 = 0 then (ge g.E (d / 2)).1 else (ge g.E (d / 2)).2) = (v : Int) := hv
  rw [hvv] at hT
  obtain ⟨b3, off3, a5, m5, c5, rfl, hc5, hmc5, hr5⟩ := h3.get hvt
  have hm5 := hr5.len
  subst hm5
  have hle5 := hr5.le
  have HT := Bx.mk hT
  have HC5 := Bx.mk hc5
  have HR5 := Bx.mk hr5
  have HI := Bx.mk hi
  have h1 : 0 ≤ ((i : Int) + n) % (gl tn v).length := Int.emod_nonneg _ (by omega)
  have h2 : ((i : Int) + n) % (gl tn v).length < (gl tn v).length := Int.emod_lt_of_pos _ (by omega)
  have h4 : 0 ≤ (i : Int) + n + (gl tn v).length := by omega
  have hle3 := h3.le
  have hvl := hvt
  clear hA h3 hT hvv hv hi hc5 hr5
  generalize hgl : gl tn v = l at *
  clear hgl
  go_enter Tryz.func107, Tryz.ntmps107
  go_wp2_with (first
    | (go_at_call 94; (with_reducible refine HT.out.mono ?_); rintro e w1 ⟨rfl, hb1⟩; have HW1 := Bx.mk (HB.out.trans hb1); have hc51 := HW1.out.cell HC5.out; have hr51 := Bx.mk (HW1.out.ri HR5.out); clear hb1)
    | (go_at_call 95; (with_reducible refine (find2_any l (d : Int) a5 _ c5 _ hr51.out).mono ?_); rintro e w2 ⟨rfl, rfl⟩; rw [HI.out]; obtain ⟨b, off, rfl, hcl⟩ := hr51.out.at (by omega); have hcj := hcl (((i : Int) + n) % l.length).toNat (by omega); clear hcl)
    | fail)
  go_ret
  exact ⟨rfl, HW1.out⟩
theorem next4_any (g : Gr) (tn : List (List Int)) (d t v i : Nat) (ht : twinI (d : Int) = (t : Int)) (hdb : d < 1099511627776) (hd : t / 2 < g.E.length) (hv : tail4 g t = (v : Int)) (hvt : v < tn.length) (hi : idx (gl tn v) (t : Int) = (i : Int)) (hil : i < (gl tn v).length) (A A3 : Option Addr) (c c3 : Nat) (w : World) (hA : RE w A g.E.length g.E) (h3 : RL w A3 tn.length tn) :
    Calls Tryz.prog 58 #[.agg #[.int .i64 g.N, .slice A g.E.length c], .slice A3 tn.length c3, .int .i64 (d : Int)] w fun e w' => e = .returned (.int .i64 (gi (gl tn v) (((i : Int) + -1) % (gl tn v).length).toNat)) ∧ BB w w' := by
  have HB := Bx.mk ((BB.refl w).al (.cells #[.int .i64 g.N, .slice A g.E.length c] 24))
  have hS := fun W (h : BB w W) => step4_any g tn t v i (-1) (by omega) (by omega) hd hv hvt hi hil A A3 c c3 W (h.re hA) (h.rl h3)
  have HS := Bx.mk hS
  have HT := Bx.mk (fun W => twin4_any d hdb W)
  rw [ht] at HT
  have hd0 : (w.alloc (.cells #[.int .i64 g.N, .slice A g.E.length c] 24)).drew.cell? ⟨w.heap.size, 0, none⟩ = some (.int .i64 g.N) := box_cell w #[.int .i64 g.N, .slice A g.E.length c] 24 (0, 0) 0
  have hd1 : (w.alloc (.cells #[.int .i64 g.N, .slice A g.E.length c] 24)).drew.cell? ⟨w.heap.size, 1, none⟩ = some (.slice A g.E.length c) := box_cell w #[.int .i64 g.N, .slice A g.E.length c] 24 (0, 0) 1
  have HBD : Bx (BB w (w.alloc (.cells #[.int .i64 g.N, .slice A g.E.length c] 24)).drew) := ⟨HB.out.drawn 1⟩
  clear hA h3 hS ht hd hv hvt hi hil
  go_enter Tryz.func58, Tryz.ntmps58
  go_wp2
  go_region_held3 (fun w' => w'.cell? ⟨w.heap.size, 0, none⟩ = some (.int .i64 g.N) ∧ w'.cell? ⟨w.heap.size, 1, none⟩ = some (.slice A g.E.length c))
    (first | exact ⟨hd0, hd1⟩ | exact ⟨he0, he1⟩ | fail)
    (first
      | (go_simp; go_at_call 80; (with_reducible refine (HT.out _).mono ?_); rintro e w1 ⟨rfl, rfl⟩)
      | (go_simp; go_at_call 107; (with_reducible refine (HS.out _ HBD.out).mono ?_); rintro e w2 ⟨rfl, hb2⟩; have he0 := hb2.cell hd0; have he1 := hb2.cell hd1)
      | fail)
  all_goals
    go_wp2
    go_ret
    exact ⟨rfl, HBD.out.trans hb2⟩
end Go.Proofs.YtefhmlgepnlaoaaGreat
