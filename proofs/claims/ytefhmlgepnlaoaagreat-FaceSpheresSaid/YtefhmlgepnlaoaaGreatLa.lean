/- Walks: the library's slices.Clone, Equal, Index, Min at []int; ring's turned, First. -/
import Derived.Test.YtefhmlgepnlaoaaGreatWb
import Derived.Lib.LazyBuf
import Derived.Deep.RegionLaw
set_option linter.unusedVariables false
set_option linter.unusedSimpArgs false
namespace Go.Proofs.YtefhmlgepnlaoaaGreat
open Go.RowKit

theorem clone_any (xs : List Int) (A : Option Addr) (n c : Nat) (w : World) (hA : RI w A n xs) (hl : n < 1099511627776) :
    Calls Tryz.prog 97 #[.slice A n c] w fun e w' => (∃ u, e = .returned u ∧ OwnI w' w.heap.size u xs) ∧ Below w.heap.size w w' := by
  have hlen := hA.len
  subst hlen
  have HA := Bx.mk hA
  clear hA
  cases A with
  | none =>
    have hxs : Bx (xs = []) := ⟨by
      rcases Nat.eq_zero_or_pos xs.length with h | h
      · exact List.eq_nil_of_length_eq_zero h
      · obtain ⟨b, off, h1, _⟩ := HA.out.at h
        cases h1⟩
    have hn := fun W : World => run_eql_slice_nil (P := Tryz.prog) W 25 3 none xs.length c Tryz.underlying25
    go_enter Tryz.func97, Tryz.ntmps97
    go_wp2
    go_ret
    exact ⟨⟨_, rfl, hxs.out ▸ OwnI.nil _ _⟩, Below.refl _ _⟩
  | some ad =>
    have hn := fun W : World => run_eql_slice_nil (P := Tryz.prog) W 25 3 (some ad) xs.length c Tryz.underlying25
    go_enter Tryz.func97, Tryz.ntmps97
    go_wp2_with (at_builtin; refine app_row w.heap.size [] _ (OwnI.lit0 w _ (Nat.le_refl _)) xs (some ad) xs.length c (((BB.refl w).al _).ri HA.out) rfl rfl rfl rfl (by simp) (by simp; omega) ?_; intro v1 w1 ho1 hs1 hb1)
    go_ret
    exact ⟨⟨_, rfl, by simpa using ho1⟩, (((BB.refl w).al _).own (OwnI.lit0 w _ (Nat.le_refl _)) (by simp) hs1).b⟩

theorem eqL_drop {xs ys : List Int} {k : Nat} (h1 : k < xs.length) (h2 : k < ys.length) : (xs.drop k == ys.drop k) = (gi xs k == gi ys k && xs.drop (k + 1) == ys.drop (k + 1)) := by
  rw [List.drop_eq_getElem_cons h1, List.drop_eq_getElem_cons h2, gi_eq h1, gi_eq h2]; rfl

theorem equal_any (xs ys : List Int) (A B : Option Addr) (n c m d : Nat) (w : World) (hA : RI w A n xs) (hB : RI w B m ys) :
    Calls Tryz.prog 82 #[.slice A n c, .slice B m d] w fun e w' => e = .returned (.bool (xs == ys)) ∧ ∃ q, w' = w.drewN q := by
  have hlen := hA.len
  subst hlen
  have hlen2 := hB.len
  subst hlen2
  have HA := Bx.mk hA
  have HB := Bx.mk hB
  have hle := hA.le
  clear hA hB
  by_cases hl : xs.length = ys.length
  · have HL := Bx.mk hl
    have hl1 : decide (xs.length = ys.length) = true := by simp [hl]
    have hl2 : ys.length ≤ xs.length := by omega
    have hl3 : xs.length ≤ ys.length := by omega
    clear hl
    go_enter Tryz.func82, Tryz.ntmps82
    go_wp2
    go_loopw [5, 13] (fun _ i wr => ∃ k : Nat, k ≤ xs.length ∧ i = .int .i64 k ∧ Bx ((xs.drop k == ys.drop k) = (xs == ys)) ∧ ∃ q, Bx (wr = w.drewN q)) (fun _ i _ => xs.length - (intOf i).toNat)
    case atStart => exact ⟨0, Nat.zero_le _, rfl, ⟨rfl⟩, 0, ⟨rfl⟩⟩
    case round =>
      obtain ⟨k, hk, rfl, hd, q, hq⟩ := hrel
      have HW : BB w wr := by rw [hq.out]; exact (BB.refl w).drawn q
      by_cases hlt : k < xs.length
      · obtain ⟨b1, o1, rfl, hc1⟩ := (HW.ri HA.out).at (by omega)
        obtain ⟨b2, o2, rfl, hc2⟩ := (HW.ri HB.out).at (by omega)
        have hc1' := hc1 k hlt
        have hc2' := hc2 k (by omega)
        have hdd := Bx.mk (eqL_drop hlt (show k < ys.length by omega))
        clear hc1 hc2 HL
        by_cases he : gi xs k = gi ys k
        · have he' : (gi xs k != gi ys k) = false := by simp [he]
          have HE := Bx.mk he
          clear he
          go_wp2
          go_quiet (fail)
          go_wp2
          go_roundw
          case rel => exact ⟨k + 1, by omega, by go_num, ⟨by rw [← hd.out, hdd.out, HE.out]; simp⟩, q + nq, ⟨by rw [hq.out, World.drewN_drewN]⟩⟩
          case measure => simp [intOf]; omega
        · have he' : (gi xs k != gi ys k) = true := by simp [he]
          go_wp2
          go_quiet (fail)
          go_wp2
          go_ret
          exact ⟨ret_bool (by rw [← hd.out, hdd.out]; simp [he]), q + nq, by rw [hq.out, World.drewN_drewN]⟩
      · go_wp2
        go_ret
        exact ⟨ret_bool (by rw [← hd.out, List.drop_of_length_le (by omega), List.drop_of_length_le (by have := HL.out; omega)]; rfl), q, hq.out⟩
  · have hr : Bx ((xs == ys) = false) := ⟨by
      rw [beq_eq_false_iff_ne]
      exact fun h => hl (by rw [h])⟩
    go_enter Tryz.func82, Tryz.ntmps82
    go_wp2
    go_ret
    exact ⟨ret_bool hr.out.symm, 0, rfl⟩

theorem index_any (xs : List Int) (x : Int) (A : Option Addr) (n c : Nat) (w : World) (hA : RI w A n xs) :
    Calls Tryz.prog 106 #[.slice A n c, .int .i64 x] w fun e w' => e = .returned (.int .i64 (idx xs x)) ∧ w = w' := by
  have hcell := fun h0 => hA.at h0
  obtain ⟨rfl, hn, -⟩ := hA
  go_enter Tryz.func106, Tryz.ntmps106
  go_wp2
  go_loop [5, 8] (fun _ i => ∃ k : Nat, k ≤ xs.length ∧ i = .int .i64 k ∧ Bx (idxFrom k (xs.drop k) x = idx xs x)) (fun _ i => xs.length - (intOf i).toNat)
  case atStart => exact ⟨0, Nat.zero_le _, rfl, ⟨rfl⟩⟩
  case round =>
    obtain ⟨k, hk, rfl, hd⟩ := hrel
    by_cases hlt : k < xs.length
    · obtain ⟨b, off, rfl, hc⟩ := hcell (by omega)
      have hc0 := hc k hlt
      have hdd := Bx.mk (idxFrom_drop (x := x) hlt)
      clear hc hcell
      go_wp2
      · have h1 : (x == gi xs k) = true := by assumption
        go_ret
        exact ⟨ret_int (by rw [← hd.out, hdd.out, if_pos (by simpa using h1)]), rfl⟩
      · have h1 : (x == gi xs k) = false := by assumption
        go_round
        case rel => exact ⟨k + 1, by omega, by go_num, ⟨by rw [← hd.out, hdd.out, if_neg (by simpa using h1)]⟩⟩
        case measure => simp [intOf]; omega
    · go_wp2
      go_ret
      exact ⟨ret_int (by rw [← hd.out, List.drop_of_length_le (by omega)]; rfl), rfl⟩

theorem min_any (xs : List Int) (A : Option Addr) (n c : Nat) (w : World) (hA : RI w A n xs) (h0 : 0 < n) :
    Calls Tryz.prog 126 #[.slice A n c] w fun e w' => e = .returned (.int .i64 (minL xs)) ∧ w = w' := by
  have hcell := hA.at h0
  obtain ⟨rfl, hn, -⟩ := hA
  obtain ⟨b, off, rfl, hc⟩ := hcell
  have hc0 := hc 0 h0
  have hm1 : Bx (minTo xs 1 = gi xs 0) := ⟨rfl⟩
  rw [Nat.add_zero] at hc0
  go_enter Tryz.func126, Tryz.ntmps126
  go_wp2
  go_loop [3, 4] (fun m i => ∃ k : Nat, 1 ≤ k ∧ k ≤ xs.length ∧ i = .int .i64 k ∧ m = .int .i64 (minTo xs k)) (fun _ i => xs.length - (intOf i).toNat)
  case atStart => exact ⟨1, by omega, by omega, rfl, by rw [hm1.out]⟩
  case round =>
    obtain ⟨k, hk1, hk, rfl, rfl⟩ := hrel
    by_cases hlt : k < xs.length
    · have hck := hc k hlt
      have hs := Bx.mk (minTo_succ xs k hk1)
      clear hc hc0
      go_wp2
      go_round
      case rel => exact ⟨k + 1, by omega, by omega, by go_num, by rw [hs.out]⟩
      case measure => simp [intOf]; omega
    · have hk2 : k = xs.length := by omega
      subst hk2
      go_wp2
      go_ret
      exact ⟨rfl, rfl⟩

theorem turned_any (xs : List Int) (m : Nat) (A : Option Addr) (n c : Nat) (w : World) (hA : RI w A n xs) (hnc : n ≤ c) (hm : m ≤ n) (hl : n < 1099511627776) :
    Calls Tryz.prog 125 #[.slice A n c, .int .i64 (m : Int)] w fun e w' => (∃ u, e = .returned u ∧ OwnI w' w.heap.size u (xs.drop m ++ xs.take m)) ∧ Below w.heap.size w w' := by
  have hlen := hA.len
  subst hlen
  have HA := Bx.mk hA
  clear hA
  by_cases h0 : xs.length = 0
  · have hxs : Bx (xs.drop m ++ xs.take m = []) := ⟨by rw [List.eq_nil_of_length_eq_zero h0]; simp⟩
    go_enter Tryz.func125, Tryz.ntmps125
    go_wp2
    go_ret
    exact ⟨⟨_, rfl, hxs.out ▸ OwnI.nil _ _⟩, Below.refl _ _⟩
  · obtain ⟨A1, hcut, hr1, ha1⟩ := cut_l A xs.length c m hm hnc
    have hcut2 := cut_hm A xs.length c m hm hnc
    have HR1 := Bx.mk (hr1 w xs HA.out)
    have HR2 : Bx (RI w (if m = 0 then A else A.map (·.add 0)) m (xs.take m)) := ⟨by
      have := HA.out.take m hm
      rcases Nat.eq_zero_or_pos m with h | h
      · subst h; simpa using this
      · rw [if_neg (by omega)]
        cases A with
        | none => exact this
        | some ad => simpa [Addr.add] using this⟩
    generalize (if m = 0 then A else A.map (·.add 0)) = A2 at hcut2 HR2
    clear hr1 ha1
    have HL : Bx ((xs.drop m).length + (xs.take m).length < 1099511627776) := ⟨by rw [List.length_drop, List.length_take]; omega⟩
    go_enter Tryz.func125, Tryz.ntmps125
    go_wp2
    go_region_law (first | (go_simp; go_at_call 97; refine (clone_any _ A1 _ _ _ (((BB.refl w).drawn 1).ri HR1.out) (Nat.lt_of_le_of_lt (Nat.sub_le _ _) hl)).mono ?_; rintro e w1 ⟨⟨u, rfl, HO⟩, hb1⟩; have HW := ((BB.refl w).drawn 1).call hb1) | (go_loud (refine step_app_row w.heap.size _ _ HO _ A2 m m (HW.ri HR2.out) rfl rfl rfl rfl HW.size HL.out ?_); intro v1 w1 ho1 hs1 hb1; replace HW := HW.own HO (Nat.le_refl _) hs1))
    go_wp2
    go_ret
    exact ⟨⟨v1, rfl, ho1⟩, HW.b⟩

theorem first_any (xs : List Int) (A : Option Addr) (n c : Nat) (w : World) (hA : RI w A n xs) (hnc : n ≤ c) (hl : n < 1099511627776) :
    Calls Tryz.prog 99 #[.slice A n c] w fun e w' => (∃ u, e = .returned u ∧ OwnI w' w.heap.size u (firstR xs)) ∧ Below w.heap.size w w' := by
  have hlen := hA.len
  subst hlen
  have HA := Bx.mk hA
  clear hA
  by_cases h0 : xs.length = 0
  · have hxs : Bx (firstR xs = []) := ⟨by rw [List.eq_nil_of_length_eq_zero h0]; rfl⟩
    go_enter Tryz.func99, Tryz.ntmps99
    go_wp2
    go_ret
    exact ⟨⟨_, rfl, hxs.out ▸ OwnI.nil _ _⟩, Below.refl _ _⟩
  · have hm := idx_mem (minL_mem (show 0 < xs.length by omega))
    obtain ⟨m, hm1⟩ : ∃ m : Nat, idx xs (minL xs) = (m : Int) := ⟨_, (Int.toNat_of_nonneg hm.1).symm⟩
    have hm2 : m ≤ xs.length := by omega
    have hf : Bx (firstR xs = xs.drop m ++ xs.take m) := ⟨by unfold firstR; rw [hm1]; rfl⟩
    have HI := index_any xs (minL xs) A xs.length c w HA.out
    rw [hm1] at HI
    have HT := turned_any xs m A xs.length c w HA.out hnc hm2 hl
    have HM := min_any xs A xs.length c w HA.out (by omega)
    have h1 : ¬ (xs.length : Int) < 1 := by omega
    clear hm hm1
    go_enter Tryz.func99, Tryz.ntmps99
    go_wp2_with (first | (go_at_call 126; refine HM.mono ?_; rintro e w' ⟨rfl, rfl⟩) | (go_at_call 106; refine HI.mono ?_; rintro e w' ⟨rfl, rfl⟩) | (go_at_call 125; refine HT.mono ?_; rintro e w1 ⟨⟨u, rfl, HO⟩, hb1⟩; have HW := BB.mk hb1; clear hb1))
    go_ret
    exact ⟨⟨_, rfl, hf.out ▸ HO⟩, HW.b⟩
end Go.Proofs.YtefhmlgepnlaoaaGreat
