/- Walks: graph.Ends. -/
import Derived.Test.YtefhmlgepnlaoaaGreatGb
set_option linter.unusedVariables false
set_option linter.unusedSimpArgs false
namespace Go.Proofs.YtefhmlgepnlaoaaGreat
open Go.RowKit

/-- What graph.Ends answers: the ends of a dart's edge, the dart's own end first. -/
def Gr.endsF (g : Gr) (d : Int) : Int × Int × Bool :=
  if g.right ≠ 0 ∨ d < 0 ∨ (g.E.length : Int) ≤ d / 2 then (0, 0, false)
  else if d % 2 = 1 then ((ge g.E (d / 2).toNat).2, (ge g.E (d / 2).toNat).1, true) else ((ge g.E (d / 2).toNat).1, (ge g.E (d / 2).toNat).2, true)
theorem ret_ends {g : Gr} {d : Int} {a b : Int} {o : Bool} (h : g.endsF d = (a, b, o)) : Ending.returned (.tuple #[.int .i64 a, .int .i64 b, .bool o]) = .returned (.tuple #[.int .i64 (g.endsF d).1, .int .i64 (g.endsF d).2.1, .bool (g.endsF d).2.2]) := by rw [h]

theorem results_three {fn : Func} {t u v : Tmp} (h : fn.results = #[.tmp t, .tmp u, .tmp v]) (tmps : Array Value) (P : Program) (w : World) :
    (results fn tmps).run P w = .ok (.tuple #[tmps.getD t undef, tmps.getD u undef, tmps.getD v undef]) w := by
  simp [results, h]
theorem ends_any (g : Gr) (d : Int) (hdb : d < 1048576) (A : Option Addr) (n c : Nat) (w : World) (hA : RE w A n g.E) :
    Calls Tryz.prog 91 #[.agg #[.int .i64 g.N, .slice A n c], .int .i64 d] w fun e w' => e = .returned (.tuple #[.int .i64 (g.endsF d).1, .int .i64 (g.endsF d).2.1, .bool (g.endsF d).2.2]) ∧ Below w.heap.size w w' := by
  have hlen := hA.len
  have hle := hA.le
  subst hlen
  have HA := Bx.mk hA
  clear hA
  by_cases h0 : g.right = 0
  case neg =>
    have hf : Bx (g.endsF d = (0, 0, false)) := ⟨by unfold Gr.endsF; rw [if_pos (.inl h0)]⟩
    have h0b : (g.right != 0) = true := by simp [h0]
    clear h0
    go_enter Tryz.func91, Tryz.ntmps91
    go_wp2_with (go_at_call 117; (with_reducible refine (right_any g A _ c _ (((BB.refl w).al _).re HA.out)).mono ?_); rintro e w1 ⟨rfl, hb1⟩; have HC := (BB.mk hb1).under)
    refine bodyPost_ret (results_three rfl _ _ _) rfl ?_
    exact ⟨ret_ends hf.out, HC.b⟩
  case pos =>
    have h0b : (g.right != 0) = false := by simp [h0]
    by_cases hd : d < 0
    · have hf : Bx (g.endsF d = (0, 0, false)) := ⟨by unfold Gr.endsF; rw [if_pos (.inr (.inl hd))]⟩
      clear h0
      go_enter Tryz.func91, Tryz.ntmps91
      go_wp2_with (go_at_call 117; (with_reducible refine (right_any g A _ c _ (((BB.refl w).al _).re HA.out)).mono ?_); rintro e w1 ⟨rfl, hb1⟩; have HC := (BB.mk hb1).under)
      refine bodyPost_ret (results_three rfl _ _ _) rfl ?_
      exact ⟨ret_ends hf.out, HC.b⟩
    · obtain ⟨m, rfl⟩ : ∃ m : Nat, d = (m : Int) := ⟨d.toNat, by omega⟩
      have hm0 : m / 2 < 1048576 := by omega
      obtain ⟨q, hqe⟩ : ∃ q, Bx (m / 2 = q) := ⟨_, ⟨rfl⟩⟩
      have hq : Int.tdiv ((m : Nat) : Int) 2 = ((q : Nat) : Int) := by rw [← hqe.out]; exact (Int.ofNat_tdiv m 2).symm
      have hf0 : Bx (g.endsF m = if g.E.length ≤ q then (0, 0, false) else if m % 2 = 1 then ((ge g.E q).2, (ge g.E q).1, true) else ((ge g.E q).1, (ge g.E q).2, true)) := ⟨by
        have h2 : ((m : Nat) : Int) / 2 = ((q : Nat) : Int) := by rw [← hqe.out]; omega
        unfold Gr.endsF
        rw [h2]
        by_cases hl : g.E.length ≤ q
        · rw [if_pos (.inr (.inr (by omega))), if_pos hl]
        · rw [if_neg (by omega), if_neg hl, Int.toNat_natCast]
          by_cases h3 : m % 2 = 1
          · rw [if_pos h3, if_pos (by omega)]
          · rw [if_neg h3, if_neg (by omega)]⟩
      have hqb : q < 1048576 := by rw [← hqe.out]; exact hm0
      clear hm0 hdb
      by_cases hm : g.E.length ≤ q
      · have hf : Bx (g.endsF m = (0, 0, false)) := ⟨by rw [hf0.out, if_pos hm]⟩
        have hm' : ((g.E.length : Nat) : Int) ≤ ((q : Nat) : Int) := by omega
        have hlt0 : ¬ ((m : Nat) : Int) < 0 := by omega
        clear h0 hm
        go_enter Tryz.func91, Tryz.ntmps91
        go_wp2_with (go_at_call 117; (with_reducible refine (right_any g A _ c _ (((BB.refl w).al _).re HA.out)).mono ?_); rintro e w1 ⟨rfl, hb1⟩; have HC := (BB.mk hb1).under; have hE := (BB.mk hb1).cell (box_cell w _ _ _ 1))
        refine bodyPost_ret (results_three rfl _ _ _) rfl ?_
        exact ⟨ret_ends hf.out, HC.b⟩
      · obtain ⟨b, off, rfl, hc⟩ := HA.out.at (by omega)
        obtain ⟨hw3, hw4⟩ := hc q (by omega)
        rcases Nat.mod_two_eq_zero_or_one m with hr | hr
        · have hr2 : Int.tmod ((m : Nat) : Int) 2 = 0 := by
            have := (Int.ofNat_tmod m 2).symm
            rw [hr] at this
            exact this
          have hf : Bx (g.endsF m = ((ge g.E q).1, (ge g.E q).2, true)) := ⟨by rw [hf0.out, if_neg hm, if_neg (by omega)]⟩
          clear h0 hr hc
          go_enter Tryz.func91, Tryz.ntmps91
          go_wp2_with (go_at_call 117; (with_reducible refine (right_any g _ _ c _ (((BB.refl w).al _).re HA.out)).mono ?_); rintro e w1 ⟨rfl, hb1⟩; have HC := (BB.mk hb1).under; have hE := (BB.mk hb1).cell (box_cell w _ _ _ 1); have hw5 := HC.cell hw3; have hw6 := HC.cell hw4)
          have hk0 := box_cell w1 #[.int .i64 (ge g.E q).1, .int .i64 (ge g.E q).2] 70 (0, 0) 0
          have hk1 := box_cell w1 #[.int .i64 (ge g.E q).1, .int .i64 (ge g.E q).2] 70 (0, 0) 1
          simp only [List.getElem?_toArray, List.getElem?_cons_succ, List.getElem?_cons_zero] at hk0 hk1
          go_region
          go_wp2
          refine bodyPost_ret (results_three rfl _ _ _) rfl ?_
          exact ⟨ret_ends hf.out, ((HC.al _).drawn 1).b⟩
        · have hr2 : Int.tmod ((m : Nat) : Int) 2 = 1 := by
            have := (Int.ofNat_tmod m 2).symm
            rw [hr] at this
            exact this
          have hf : Bx (g.endsF m = ((ge g.E q).2, (ge g.E q).1, true)) := ⟨by rw [hf0.out, if_neg hm, if_pos hr]⟩
          clear h0 hr hc
          go_enter Tryz.func91, Tryz.ntmps91
          go_wp2_with (go_at_call 117; (with_reducible refine (right_any g _ _ c _ (((BB.refl w).al _).re HA.out)).mono ?_); rintro e w1 ⟨rfl, hb1⟩; have HC := (BB.mk hb1).under; have hE := (BB.mk hb1).cell (box_cell w _ _ _ 1); have hw5 := HC.cell hw3; have hw6 := HC.cell hw4)
          have hk0 := box_cell w1 #[.int .i64 (ge g.E q).1, .int .i64 (ge g.E q).2] 70 (0, 0) 0
          have hk1 := box_cell w1 #[.int .i64 (ge g.E q).1, .int .i64 (ge g.E q).2] 70 (0, 0) 1
          simp only [List.getElem?_toArray, List.getElem?_cons_succ, List.getElem?_cons_zero] at hk0 hk1
          go_region
          go_wp2
          refine bodyPost_ret (results_three rfl _ _ _) rfl ?_
          exact ⟨ret_ends hf.out, ((HC.al _).drawn 1).b⟩
end Go.Proofs.YtefhmlgepnlaoaaGreat
