/- Walks: sets.New. -/
import Derived.Test.YtefhmlgepnlaoaaGreatSc
import Derived.Carry
set_option linter.unusedVariables false
set_option linter.unusedSimpArgs false
namespace Go.Proofs.YtefhmlgepnlaoaaGreat
open Go.RowKit

theorem addRep_id (n : Nat) : addRep n (fun i => i) = fun i => i := by
  funext i
  unfold addRep
  split
  · exact Eq.symm (by assumption)
  · rfl
theorem Step.of_belowB {w0 w w' : World} {base : Nat} (h : Below base w w') : Step (fun k => base ≤ k) w w' := ⟨h.os, h.tape, h.output, h.size, fun k _ hk => h.block k (by omega)⟩
theorem nodup_gi_take {xs : List Int} (hn : xs.Nodup) {k : Nat} (hk : k < xs.length) : gi xs k ∉ xs.take k := by
  intro h
  obtain ⟨i, hi, he⟩ := List.mem_iff_getElem.1 h
  rw [List.length_take] at hi
  rw [List.getElem_take, gi_eq hk] at he
  have := nodup_inj hn _ _ he
  omega
theorem new_any (xs : List Int) (A : Option Addr) (n c : Nat) (w : World) (hA : RI w A n xs) (hnd : xs.Nodup) (hl : xs.length < 1048576) :
    Calls Tryz.prog 84 #[.slice A n c] w fun e w' => (∃ v U, e = .returned v ∧ SetsAt w' w.heap.size v xs (fun i => i) U) ∧ Below w.heap.size w w' := by
  have hlen := hA.len
  subst hlen
  have HA := Bx.mk hA
  have HN := Bx.mk hnd
  have hle := hA.le
  have hmm := @run_makeMap Tryz.prog
  clear hA hnd
  go_enter Tryz.func84, Tryz.ntmps84
  go_wp2
  go_loopw [11] (fun iv wr => ∃ k U, k ≤ xs.length ∧ iv = .int .i64 k ∧ SetsAt wr w.heap.size (.pointer (some ⟨w.heap.size + 1, 0, none⟩)) (xs.take k) (fun i => i) U ∧ BB w wr) (fun iv _ => xs.length - (intOf iv).toNat)
  case atStart =>
    refine ⟨0, none, Nat.zero_le _, rfl, ⟨w.heap.size + 1, w.heap.size, .slice none 0 0, .slice none 0 0, [], [], rfl, ?_, by omega, Nat.le_refl _, (MapAt.made w).alloc _, fun x => rfl, OwnI.nil _ _, OwnI.nil _ _, rfl, fun k hk => (by cases hk), rfl, fun i hi => (by simp at hi), List.nodup_nil, by simp⟩, ((BB.refl w).al _).al _⟩
    have := heap_alloc_new (w.alloc (.map #[] 0)) (.cells #[.map (some w.heap.size), .slice none 0 0, .slice none 0 0] 142 (0, 0))
    simpa using this
  case round =>
    obtain ⟨k, U, hk, rfl, hS, HB⟩ := hrel
    by_cases hlt : k < xs.length
    · obtain ⟨b, off, rfl, hc⟩ := (HB.ri HA.out).at (by omega)
      have hck := hc k hlt
      have hsz := HB.size
      have hT : Bx (xs.take k ++ [gi xs k] = xs.take (k + 1)) := ⟨by rw [List.take_succ_eq_append_getElem hlt, gi_eq hlt]⟩
      clear hc
      go_wp2_with (go_at_call 112; (with_reducible refine (add_new w.heap.size _ (xs.take k) (fun i => i) U (gi xs k) (nodup_gi_take HN.out hlt) (by rw [List.length_take]; omega) _ hS).mono ?_); rintro e w1 ⟨rfl, ⟨U1, hS1⟩, hb1⟩)
      go_roundw
      case rel => exact ⟨k + 1, U1, hlt, by go_num, (by rw [← hT.out]; rw [addRep_id] at hS1; exact hS1), ⟨HB.b.trans hb1⟩⟩
      case measure => simp [intOf]; omega
    · go_wp2
      go_ret
      have : k = xs.length := by omega
      subst this
      rw [List.take_length] at hS
      exact ⟨⟨_, U, rfl, hS⟩, HB.b⟩
end Go.Proofs.YtefhmlgepnlaoaaGreat
