/- Plain: the document's example of face. -/
import Derived.Test.YtefhmlgepnlaoaaGreatAc
import Derived.KernelRfl
set_option linter.unusedVariables false
set_option linter.unusedSimpArgs false
namespace Go.Proofs.YtefhmlgepnlaoaaGreat
open Go.RowKit

abbrev g0 : Gr := ⟨2, [(0, 1), (0, 1)]⟩
abbrev p0 : Pt := ⟨[0, 1], [0, 1]⟩
abbrev t0 : List (List Int) := [[0, 2], [1, 3]]
theorem whole_g0 : g0.whole = p0 := by kernel_rfl
theorem sort02 : sortI [0, 2] = [0, 2] := List.mergeSort_of_pairwise (by decide)
theorem sort13 : sortI [1, 3] = [1, 3] := List.mergeSort_of_pairwise (by decide)
theorem part_g0 : g0.rightPart p0 = 0 := by kernel_rfl
theorem err_g0 : g0.rotaErr p0 t0 = 0 := by
  have h1 : g0.darts p0 0 = [0, 2] := by kernel_rfl
  have h2 : g0.darts p0 1 = [1, 3] := by kernel_rfl
  have h3 : g0.rowsOk p0 0 t0 = true := by
    unfold Gr.rowsOk
    unfold Gr.rowsOk
    unfold Gr.rowsOk
    rw [sort02, sort13]
    have e1 : g0.darts p0 ((0 : Nat) : Int) = [0, 2] := h1
    have e2 : g0.darts p0 ((0 + 1 : Nat) : Int) = [1, 3] := h2
    rw [e1, e2]
    rfl
  unfold Gr.rotaErr
  rw [part_g0, h3]
  rfl
theorem wF_g0 : wF p0 t0 = [(0, [0, 3]), (1, [1, 2])] := by kernel_rfl
theorem us_g0 {us : List (Int × List Int)} (h : us.Perm (wF p0 t0)) (hw : WalksOk p0 us) : us = [(0, [0, 3]), (1, [1, 2])] := by
  rw [wF_g0] at h
  have hk := hw.keys
  have hl := h.length_eq
  match us, hl with
  | [a, b], _ =>
    have ha := h.mem_iff (a := a)
    have hb := h.mem_iff (a := b)
    simp at ha hb hk
    have h0 := h.mem_iff (a := (0, [0, 3]))
    have h1 := h.mem_iff (a := (1, [1, 2]))
    rcases ha with rfl | rfl
    · rcases hb with rfl | rfl
      · simp at hk
      · rfl
    · rcases hb with rfl | rfl
      · simp at hk
      · simp at hk
theorem genus_g0 : genusF g0 p0 [(0, [0, 3]), (1, [1, 2])] = [0] := by kernel_rfl
end Go.Proofs.YtefhmlgepnlaoaaGreat
