/- Opens: a graph, a part, turns, as they come in. -/
import Derived.ProofKit
import Derived.Deep.Slices
import Derived.Deep.Matrix
import Derived.SizedLaws
import Derived.OpenShut
import Derived.Lib.SmallJoins
import Derived.Test.YtefhmlgepnlaoaaGreatWb
set_option linter.unusedVariables false
set_option linter.unusedSimpArgs false
namespace Go.Proofs.YtefhmlgepnlaoaaGreat
open Go.ChangeShapes Go.WideShapes Go.ChangeAt Go.RowKit Go.Joins Go.Deep

theorem two_of_len : ∀ {l : List Value}, l.length = 2 → ∃ a b, l = [a, b]
  | [a, b], _ => ⟨a, b, rfl⟩
theorem cells_int : Tryz.prog.cellsOf 3 = 1 := by kernel_rfl
theorem cells_ints : Tryz.prog.cellsOf 25 = 1 := by kernel_rfl
theorem cells_edge : Tryz.prog.cellsOf 70 = 2 := by kernel_rfl
theorem cells_graph : Tryz.prog.cellsOf 24 = 2 := by kernel_rfl
theorem cells_part : Tryz.prog.cellsOf 27 = 2 := by kernel_rfl
theorem bytes_int : Tryz.prog.bytesOf 3 = 8 := by kernel_rfl
theorem bytes_ints : Tryz.prog.bytesOf 25 = 24 := by kernel_rfl
theorem bytes_edge : Tryz.prog.bytesOf 70 = 16 := by kernel_rfl
section
variable {H : Type} {enc : TypeId × Value → H} {w : World} {x : DataW H × List MemPlace} {fuel : Nat}
def Near (t : TypeId) (d : DataW H) : Prop := ∀ n ∈ d.weights Tryz.prog t, n ≤ reachBytes
theorem ints_open {v : Value} (h : DataW.trod enc Tryz.prog w 0 (fun _ => true) true fuel 25 [v] = some x) (hr : Near 25 x.1) : ∃ A n c xs, v = .slice A n c ∧ n ≤ c ∧ RI w A n xs := by
  rcases open_ints Tryz.underlying25 Tryz.underlying3 cells_int h with ⟨hcs, hx⟩ | ⟨a, len, cap, zs, hcs, _, hl, hm, hz, hx, hcell, hwz⟩
  · simp only [List.cons.injEq, and_true] at hcs
    subst hcs
    exact ⟨none, 0, 0, [], rfl, Nat.le_refl _, RI.nil _ _⟩
  · simp only [List.cons.injEq, and_true] at hcs
    subst hcs
    simp only [if_true] at hz
    subst hx
    have h1 := hr _ (by simp only [DataW.weights, Tryz.underlying25]; exact List.mem_cons_self ..)
    rw [bytes_int] at h1
    have h2 : (lits (H := H) .i64 (zs.take len)).length + (lits (H := H) .i64 (zs.drop len)).length = cap := by simp [lits]; omega
    rw [h2] at h1
    have h3 : reachBytes = 140737488351232 := rfl
    have htl : (zs.take len).length = len := by rw [List.length_take]; omega
    refine ⟨some a, len, cap, zs.take len, rfl, hl, ⟨htl, by omega, fun h0 => ?_⟩⟩
    rw [List.length_map, htl] at h0
    obtain ⟨b, off, rfl, hc⟩ := ints_at hcell (by omega)
    refine ⟨b, off, rfl, fun j hj => ?_⟩
    rw [List.length_map, htl] at hj
    rw [hc j (by omega), List.getElem?_map, List.getElem?_take_of_lt hj, List.getElem?_eq_getElem (by omega), List.getD_eq_getElem?_getD, List.getElem?_eq_getElem (by omega)]
    rfl
theorem cells_two {a : Addr} {base : Nat} {u0 u1 : Value} (h : w.cells? base a 2 = some [u0, u1]) : w.cell? a = some u0 ∧ w.cell? (a.add 1) = some u1 := by
  unfold World.cells? at h
  split at h
  · have e : List.range 2 = [0, 1] := rfl
    rw [e] at h
    have a0 : a.add 0 = a := by simp [Addr.add]
    simp only [List.mapM_cons, List.mapM_nil, a0] at h
    cases h0 : w.cell? a with
    | none => rw [h0] at h; cases h
    | some v0 =>
      cases h1 : w.cell? (a.add 1) with
      | none => rw [h0, h1] at h; cases h
      | some v1 =>
        rw [h0, h1] at h
        cases h
        exact ⟨rfl, rfl⟩
  · cases h
theorem edges_open {v : Value} (h : DataW.trod enc Tryz.prog w 0 (fun _ => true) true fuel 22 [v] = some x) (hr : Near 22 x.1) : ∃ A n c es, v = .slice A n c ∧ n ≤ c ∧ RE w A n es := by
  rcases open_slice Tryz.underlying22 h with ⟨hcs, hx⟩ | ⟨a, len, cap, m, n, D, Pl, hcs, hb, hl, hm, hmm, hx, hel⟩
  · simp only [List.cons.injEq, and_true] at hcs
    subst hcs
    exact ⟨none, 0, 0, [], rfl, Nat.le_refl _, ⟨rfl, by omega, fun h0 => absurd h0 (by simp [edgeCells])⟩⟩
  · simp only [List.cons.injEq, and_true] at hcs
    subst hcs
    simp only [if_true] at hmm
    subst hmm
    subst hx
    have h1 := hr _ (by simp only [DataW.weights, Tryz.underlying22]; exact List.mem_cons_self ..)
    rw [bytes_edge, List.length_map, List.length_map, List.length_range, List.length_range] at h1
    have h3 : reachBytes = 140737488351232 := rfl
    have hone : ∀ i, i < len → ∃ e : Int × Int, w.cell? (a.add (i * 2)) = some (.int .i64 e.1) ∧ w.cell? (a.add (i * 2 + 1)) = some (.int .i64 e.2) := fun i hi => by
      obtain ⟨cs, hc1, hc2⟩ := hel i (by omega)
      rw [cells_edge] at hc1
      obtain ⟨y0, y1, k, _, hlen, k0, k1⟩ := trod_struct2 Tryz.underlying70 hc2
      rw [cells_edge] at hlen
      obtain ⟨u0, u1, rfl⟩ := two_of_len hlen
      have d0 : ∀ t, Tryz.prog.cellsOf t = 1 → ([u0, u1].drop 0).take (Tryz.prog.cellsOf t) = [u0] := fun t h => by rw [h]; rfl
      have d1 : ∀ t, Tryz.prog.cellsOf t = 1 → ([u0, u1].drop 1).take (Tryz.prog.cellsOf t) = [u1] := fun t h => by rw [h]; rfl
      rw [d0 _ cells_int] at k0
      rw [d1 _ cells_int] at k1
      obtain ⟨n0, e0, _, _⟩ := DataW.trod_int Tryz.underlying3 k0
      obtain ⟨n1, e1, _, _⟩ := DataW.trod_int Tryz.underlying3 k1
      simp only [List.cons.injEq, and_true] at e0 e1
      subst e0 e1
      obtain ⟨q0, q1⟩ := cells_two hc1
      refine ⟨(n0, n1), q0, ?_⟩
      rw [← add_add]; exact q1
    obtain ⟨f, hf⟩ := choose_lt hone
    have hfl : ((List.range len).map f).length = len := by simp
    refine ⟨some a, len, m, (List.range len).map f, rfl, hl, ⟨hfl, by omega, fun h0 => ?_⟩⟩
    rw [edgeCells_length, hfl] at h0
    obtain ⟨b, off, spot⟩ := a
    have hspot : spot = none := by simpa [Addr.add] using World.cell?_spot (hf 0 (by omega)).1
    subst hspot
    refine ⟨b, off, rfl, fun j hj => ?_⟩
    rw [edgeCells_length, hfl] at hj
    have hg := edgeCells_get ((List.range len).map f) (j / 2) (by rw [hfl]; omega)
    have he : ((List.range len).map f)[j / 2]'(by rw [hfl]; omega) = f (j / 2) := by simp
    rw [he] at hg
    obtain ⟨f1, f2⟩ := hf (j / 2) (by omega)
    rw [addr_add] at f1 f2
    rcases Nat.mod_two_eq_zero_or_one j with hj2 | hj2
    · have e : j = 2 * (j / 2) := by omega
      rw [show off + j = off + j / 2 * 2 by omega, f1, ← hg.1, ← e]
    · have e : j = 2 * (j / 2) + 1 := by omega
      rw [show off + j = off + (j / 2 * 2 + 1) by omega, f2, ← hg.2, ← e]
theorem weightsAll_mem {t : TypeId} {d : DataW H} {n : Nat} : ∀ {l : List (DataW H)}, d ∈ l → n ∈ d.weights Tryz.prog t → n ∈ DataW.weightsAll Tryz.prog t l
  | y :: l, hd, hn => by
    unfold DataW.weightsAll
    rcases List.mem_cons.1 hd with rfl | hd
    · exact List.mem_append.2 (.inl hn)
    · exact List.mem_append.2 (.inr (weightsAll_mem hd hn))
theorem rows_open {v : Value} (h : DataW.trod enc Tryz.prog w 0 (fun _ => true) true fuel 28 [v] = some x) (hr : Near 28 x.1) : ∃ A n c xss, v = .slice A n c ∧ n ≤ c ∧ RL w A n xss := by
  rcases open_int_rows Tryz.underlying28 Tryz.underlying25 Tryz.underlying3 cells_ints cells_int h with ⟨hcs, hx⟩ | ⟨a, len, cap, B, L, C, Z, hcs, _, hl, hm, hx, hrow⟩
  · simp only [List.cons.injEq, and_true] at hcs
    subst hcs
    exact ⟨none, 0, 0, [], rfl, Nat.le_refl _, ⟨rfl, by omega, [], rfl, RC.nil _ _, fun j hj => by omega⟩⟩
  · simp only [List.cons.injEq, and_true] at hcs
    subst hcs
    subst hx
    have h3 : reachBytes = 140737488351232 := rfl
    have h1 := hr _ (by simp only [DataW.weights, Tryz.underlying28]; exact List.mem_cons_self ..)
    rw [bytes_ints, List.length_map, List.length_map, List.length_range, List.length_range] at h1
    have hC : ∀ r, r < len → C r ≤ 17592186044416 := fun r hrl => by
      obtain ⟨k1, k2, k3, k4, k5, k6, k7⟩ := hrow r (by omega)
      cases hB : B r with
      | none => have := k6 hB; omega
      | some ad =>
        have h4 := hr ((C r) * 8) (by
          simp only [DataW.weights, Tryz.underlying28]
          refine List.mem_cons_of_mem _ (List.mem_append.2 (.inl (weightsAll_mem (d := intRow .i64 (B r) (L r) (Z r)) (List.mem_map.2 ⟨r, List.mem_range.2 hrl, rfl⟩) ?_)))
          rw [hB]
          simp only [intRow, DataW.weights, Tryz.underlying25]
          rw [bytes_int]
          have : (lits (H := H) .i64 ((Z r).take (L r))).length + (lits (H := H) .i64 ((Z r).drop (L r))).length = C r := by simp [lits]; omega
          rw [this]
          exact List.mem_cons_self ..)
        omega
    refine ⟨some a, len, cap, (List.range len).map fun r => (Z r).take (L r), rfl, hl, ⟨by simp, by omega, (List.range len).map fun r => .slice (B r) (L r) (C r), by simp, fun h0 => ?_, fun j hj => ?_⟩⟩
    · rw [List.length_map, List.length_range] at h0
      obtain ⟨b, off, spot⟩ := a
      have hspot : spot = none := by simpa [Addr.add] using World.cell?_spot (hrow 0 (by omega)).1
      subst hspot
      refine ⟨b, off, rfl, fun j hj => ?_⟩
      rw [List.length_map, List.length_range] at hj
      have := (hrow j (by omega)).1
      rw [addr_add] at this
      rw [this, List.getElem?_map, List.getElem?_range hj]
      rfl
    · obtain ⟨k1, k2, k3, k4, k5, k6, k7⟩ := hrow j (by omega)
      have htl : ((Z j).take (L j)).length = L j := by rw [List.length_take]; omega
      refine ⟨B j, L j, C j, by rw [List.getElem?_map, List.getElem?_range hj]; rfl, k2, ?_⟩
      have hg : ((List.range len).map fun r => (Z r).take (L r)).getD j [] = (Z j).take (L j) := by
        rw [List.getD_eq_getElem?_getD, List.getElem?_map, List.getElem?_range hj]
        rfl
      rw [hg]
      refine ⟨htl, by have := hC j hj; omega, fun h0 => ?_⟩
      rw [List.length_map, htl] at h0
      cases hB : B j with
      | none => have := k6 hB; omega
      | some ad =>
        obtain ⟨_, hcell⟩ := k7 ad hB
        obtain ⟨b, off, rfl, hc⟩ := ints_at (k := .i64) (zs := Z j) (fun i hi => hcell i (by omega)) (by omega)
        refine ⟨b, off, rfl, fun i hi => ?_⟩
        rw [List.length_map, htl] at hi
        rw [hc i (by omega), List.getElem?_map, List.getElem?_take_of_lt hi, List.getElem?_eq_getElem (by omega), List.getD_eq_getElem?_getD, List.getElem?_eq_getElem (by omega)]
        rfl
end
end Go.Proofs.YtefhmlgepnlaoaaGreat
