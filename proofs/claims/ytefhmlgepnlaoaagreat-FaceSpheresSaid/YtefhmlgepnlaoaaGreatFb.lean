/- Walks: rota's Darts (an iterator). -/
import Derived.Test.YtefhmlgepnlaoaaGreatFa
import Derived.RangeFuncNested
import Derived.RangeFuncBound
import Derived.RangeFuncCalls
import Derived.RangeFuncLeaves
import Derived.RangeFuncWrites
import Derived.Shelf.Abstract
import Derived.OwnWalkIn
import Derived.TacticsInMore
import Derived.LoopNIn
import Derived.LoopIn
set_option linter.unusedVariables false
set_option linter.unusedSimpArgs false
namespace Go.Proofs.YtefhmlgepnlaoaaGreat
open Go.RowKit Go.Shelf
attribute [local go_sem] Oper.semAt_some

theorem wpListIn_skipW {n : Nat} {P : Program} {ops : Array Oper} {Q : Exit → Act → World → Prop} {a : Act} {w : World} {rest : List Oper} {o : Oper} (hw : Region.wanted o (yielded ops a.tmps) = false) (h : wpListIn Fence.wide n P ops Q rest (a.put o.dst undef) w) : wpListIn Fence.wide n P ops Q (o :: rest) a w := by
  simp only [wpListIn, hw]
  exact ⟨fun _ _ => trivial, h⟩
/-- All darts of edges, in order. -/
def dartsAll (E : List Int) : List Int := E.flatMap fun e => [2 * e, 2 * e + 1]
theorem dartsAll_len (E : List Int) : (dartsAll E).length = 2 * E.length := by
  induction E with
  | nil => rfl
  | cons e es ih => simp only [dartsAll, List.flatMap_cons, List.length_append, List.length_cons, List.length_nil] at ih ⊢; omega
theorem dartsAll_take {E : List Int} {k : Nat} (h : k < E.length) : dartsAll (E.take (k + 1)) = dartsAll (E.take k) ++ [2 * gi E k, 2 * gi E k + 1] := by
  unfold dartsAll
  rw [List.take_succ_eq_append_getElem h, List.flatMap_append, gi_eq h]
  simp
theorem mem_dartsAll {E : List Int} {k : Nat} (h : k < E.length) : 2 * gi E k ∈ dartsAll E ∧ 2 * gi E k + 1 ∈ dartsAll E := by
  unfold dartsAll
  constructor <;> exact List.mem_flatMap.2 ⟨gi E k, gi_mem h, by simp⟩
abbrev Drt (E : List Int) := { d : Int // d ∈ dartsAll E }

theorem darts_iter (v : Option Addr) (w : World) : Calls Tryz.prog 52 #[.pointer v] w fun e w' => e = .returned (.func (.func 100) #[] #[.pointer (some ⟨w.heap.size, 0, none⟩)]) ∧ w.alloc (.cells #[.pointer v] 81) = w' := by
  go_enter Tryz.func52, Tryz.ntmps52
  go_wp2
  go_ret
  exact ⟨rfl, rfl⟩

set_option maxRecDepth 100000 in
set_option maxHeartbeats 1000000 in
theorem darts1_in (n : Nat) (hn : 1 ≤ n) (l Bn n₀ : Nat) (g : Gr) (p : Pt) (tn : List (List Int)) (at_ : Int → Option Nat) (v : Value) (hrange : Bx (∀ e ∈ p.E, 0 ≤ e ∧ e < 1048576)) (J Jx : List (Drt p.E) → World → Prop)
    (hY : ∀ pre x W, J pre W → pre.length < (dartsAll p.E).length → YieldAt Fence.wide (n - 1) Tryz.prog l #[.int .i64 x.1] W fun e W' =>
      (e = .returned (.bool true) ∧ J (pre ++ [x]) W' ∧ Below n₀ W W') ∨ (e = .returned (.bool false) ∧ Jx (pre ++ [x]) W'))
    (W : World) (hBn : W.cell? ⟨Bn, 0, none⟩ = some v) (hR : RotaX W n₀ v g p tn at_) (h0 : J [] W) :
    CallsIn Fence.wide n Tryz.prog 100 #[.func (.yield l) #[] #[], .pointer (some ⟨Bn, 0, none⟩)] W fun e W' => (∃ v, e = .returned v) ∧
      ((∃ ys, ys.map Subtype.val = dartsAll p.E ∧ J ys W') ∨ (∃ pre, True ∧ Jx pre W')) := by
  obtain ⟨m, ⟨R, A, n', c, A1, n1, c1, A2, n2, c2, A3, n3, c3, M, rfl, h2, h3, h4, h5, h6, h7, h8, h9⟩, hl⟩ := hR.r
  have hE := cell_of_row W R 3 _ _ _ h2
  simp only [List.getElem?_toArray, List.getElem?_cons_succ, List.getElem?_cons_zero] at hE
  have hln := h5.len
  have hle := h5.le
  subst hln
  have H5 := Bx.mk h5
  have H9 := Bx.mk h9
  have HY := Bx.mk hY
  clear h2 h3 h4 h5 h6 h7 h8 h9 hl hR hY
  refine callsIn_of_wp Tryz.func100 rfl trivial ?_ rfl
  simp only [Tryz.ntmps100, List.size_toArray, List.length_cons, List.length_nil, Nat.reduceAdd, Nat.reduceSub, Array.replicate_succ, Array.replicate_zero, List.push_toArray, List.append_toArray, List.nil_append, List.cons_append]
  gi_wp2
  gi_loopw [13] (fun i wr => ∃ (k : Nat) (pre : List (Drt p.E)), k ≤ p.E.length ∧ i = .int .i64 k ∧ Bx (pre.map Subtype.val = dartsAll (p.E.take k)) ∧ J pre wr ∧ Below n₀ W wr) (fun i _ => p.E.length - (intOf i).toNat)
  case atStart => exact ⟨0, [], Nat.zero_le _, rfl, ⟨rfl⟩, h0, Below.refl _ _⟩
  case round =>
    obtain ⟨k, pre, hk, rfl, hpre, hJ, hB⟩ := hrel
    have hpl : pre.length = 2 * k := by
      have := congrArg List.length hpre.out
      rw [List.length_map, dartsAll_len, List.length_take] at this
      omega
    have hPL := Bx.mk hpl
    clear hpl
    by_cases hlt : k < p.E.length
    · have HE := H5.out.step (Step.of_below hB) fun a ha h0 => Nat.not_le.2 (H9.out a ha h0)
      obtain ⟨b, off, rfl, hc⟩ := HE.at (by omega)
      have hck := hc k hlt
      have hdt := Bx.mk (dartsAll_take hlt)
      clear hc HE
      obtain ⟨fn, tmps, assign, body, hy, hRd⟩ := HY.out pre ⟨2 * gi p.E k, (mem_dartsAll hlt).1⟩ wr hJ (by rw [hPL.out, dartsAll_len]; omega)
      dsimp only at hy
      have hrg : 0 ≤ gi p.E k ∧ gi p.E k < 1048576 := hrange.out _ (gi_mem hlt)
      obtain ⟨hr0, hr1⟩ := hrg
      gi_wp2
      refine hRd.mono ?_
      rintro e W2 (⟨rfl, hJ2, hk2⟩ | ⟨rfl, hJx2⟩)
      · obtain ⟨fn2, tmps2, assign2, body2, hy2, hRd2⟩ := HY.out _ ⟨2 * gi p.E k + 1, (mem_dartsAll hlt).2⟩ W2 hJ2 (by rw [List.length_append, hPL.out, dartsAll_len]; simp; omega)
        dsimp only at hy2
        gi_wp2
        refine hRd2.mono ?_
        rintro e W3 (⟨rfl, hJ3, hk3⟩ | ⟨rfl, hJx3⟩)
        · gi_wp2
          go_roundw
          case rel => exact ⟨k + 1, _, by omega, by go_num, ⟨by rw [hdt.out, List.map_append, List.map_append, hpre.out]; simp⟩, hJ3, (hB.trans hk2).trans hk3⟩
          case measure => simp [intOf]; omega
        · gi_wp2
          refine bodyPost_ret (results_none rfl _ _ _) rfl ?_
          exact ⟨⟨_, rfl⟩, .inr ⟨_, trivial, hJx3⟩⟩
      · gi_wp2_with (refine wpListIn_skipW rfl ?_)
        refine bodyPost_ret (results_none rfl _ _ _) rfl ?_
        exact ⟨⟨_, rfl⟩, .inr ⟨_, trivial, hJx2⟩⟩
    · gi_wp2
      go_end0
      exact ⟨⟨_, rfl⟩, .inl ⟨pre, by rw [hpre.out, List.take_of_length_le (by omega)], hJ⟩⟩

/-- Darts' function: all darts, in order; or some, where a round has said 'no more'. -/
theorem darts_stops (n : Nat) (hn : 1 ≤ n) (Bn n₀ : Nat) (g : Gr) (p : Pt) (tn : List (List Int)) (at_ : Int → Option Nat) (v : Value) (w : World) (hrange : ∀ e ∈ p.E, 0 ≤ e ∧ e < 1048576) (hc : w.cell? ⟨Bn, 0, none⟩ = some v) (hR : RotaX w n₀ v g p tn at_) :
    SeqStopsK Fence.wide n Tryz.prog 100 #[.pointer (some ⟨Bn, 0, none⟩)] (fun x : Drt p.E => #[Value.int .i64 x.1]) (Below n₀) (fun ys => ys.map Subtype.val = dartsAll p.E) (fun _ => True) (dartsAll p.E).length w := fun l J Jx W hW _ _ hY h0 =>
  darts1_in n hn l Bn n₀ g p tn at_ v ⟨hrange⟩ J Jx hY W (Below.lt_cell hW hc) (hR.below hW) h0
end Go.Proofs.YtefhmlgepnlaoaaGreat
