/- Walks: the laws' Whole. -/
import Derived.Test.YtefhmlgepnlaoaaGreatAb
import Derived.Test.YtefhmlgepnlaoaaGreatSc
set_option linter.unusedVariables false
set_option linter.unusedSimpArgs false
namespace Go.Proofs.YtefhmlgepnlaoaaGreat
open Go.RowKit

def upTo (n : Nat) : List Int := (List.range n).map fun i : Nat => (i : Int)
theorem upTo_succ (n : Nat) : upTo (n + 1) = upTo n ++ [(n : Int)] := by
  unfold upTo
  rw [List.range_succ, List.map_append]
  rfl
theorem upTo_len (n : Nat) : (upTo n).length = n := by simp [upTo]
def Gr.whole (g : Gr) : Pt := ⟨upTo g.N.toNat, upTo g.E.length⟩
theorem whole_any (g : Gr) (N : Nat) (hN : g.N = (N : Int)) (hN1 : N < 1048576) (hE1 : g.E.length < 1048576) (A : Option Addr) (c : Nat) (w : World) :
    Calls Tryz.prog 38 #[.agg #[.int .i64 g.N, .slice A g.E.length c]] w fun e w' => (∃ A1 c1 A2 c2, e = .returned (.agg #[.slice A1 N c1, .slice A2 g.E.length c2]) ∧ RI w' A1 N g.whole.V ∧ RI w' A2 g.E.length g.whole.E) ∧ BB w w' := by
  have HV : Bx (g.whole.V = upTo N) := ⟨by unfold Gr.whole; rw [hN]; rfl⟩
  have HE : Bx (g.whole.E = upTo g.E.length) := ⟨rfl⟩
  rw [hN]
  have HW := Bx.mk (((BB.refl w).al (.cells #[.int .i64 (N : Int), .slice A g.E.length c] 24)).al (.cells #[.slice none 0 0, .slice none 0 0] 27))
  have hb1 := box_cell1 w #[.int .i64 (N : Int), .slice A g.E.length c] 24 (0, 0) (.cells #[.slice none 0 0, .slice none 0 0] 27) 0
  have hb2 := box_cell1 w #[.int .i64 (N : Int), .slice A g.E.length c] 24 (0, 0) (.cells #[.slice none 0 0, .slice none 0 0] 27) 1
  have hz := heap_alloc_new (w.alloc (.cells #[.int .i64 (N : Int), .slice A g.E.length c] 24)) (.cells #[.slice none 0 0, .slice none 0 0] 27 (0, 0))
  have hsz : (w.alloc (.cells #[.int .i64 (N : Int), .slice A g.E.length c] 24)).heap.size = w.heap.size + 1 := by simp
  rw [hsz] at hz
  have HB := Bx.mk (And.intro hb1 (And.intro hb2 hz))
  generalize hne : g.E.length = nE at *
  clear hN hb1 hb2 hz hsz hne
  go_enter Tryz.func38, Tryz.ntmps38
  go_wp2
  generalize hw2 : ((w.alloc (.cells #[.int .i64 (N : Int), .slice A nE c] 24)).alloc (.cells #[.slice none 0 0, .slice none 0 0] 27)) = w2 at *
  have hz2 : w2.heap.size = w.heap.size + 2 := by rw [← hw2]; simp
  clear hw2
  have HZ := Bx.mk hz2
  go_loopw [4] (fun iv wr => ∃ (k : Nat) (A1 : Option Addr) (c1 : Nat), k ≤ N ∧ iv = .int .i64 k ∧ wr.heap[w.heap.size + 2]? = some (.cells #[.slice A1 k c1, .slice none 0 0] 27 (0, 0)) ∧ OwnI wr (w.heap.size + 3) (.slice A1 k c1) (upTo k) ∧ BB w2 wr) (fun iv _ => N - (intOf iv).toNat)
  case atStart =>
    refine ⟨0, none, 0, Nat.zero_le _, rfl, ?_, OwnI.nil _ _, (BB.refl w2).al _⟩
    have := heap_alloc_new w2 (.cells #[.slice none 0 0, .slice none 0 0] 27 (0, 0))
    rw [HZ.out] at this
    exact this
  case round =>
    obtain ⟨k, A1, c1, hk, rfl, hR, HO, HBr⟩ := hrel
    have hc0 := HBr.cell HB.out.1
    have hc1 := HBr.cell HB.out.2.1
    have hp0 := cell_of_row wr (w.heap.size + 2) 0 _ _ _ hR
    have hp1 := cell_of_row wr (w.heap.size + 2) 1 _ _ _ hR
    have hszr : w.heap.size + 3 ≤ wr.heap.size := (Array.getElem?_eq_some_iff.1 hR).1
    have HRR := Bx.mk hR
    have HUL := Bx.mk (upTo_len k)
    have HUS := Bx.mk (upTo_succ k)
    clear hR
    by_cases hlt : k < N
    · have hkl : (upTo k).length < 1099511627776 := by rw [HUL.out]; omega
      have HKL := Bx.mk hkl
      clear hkl
      go_wp2_with (at_builtin; refine app_int (w.heap.size + 3) (upTo k) (.slice A1 k c1) HO (k : Int) rfl rfl rfl rfl hszr HKL.out ?_; intro v8 w8 ho8 hs8 hb8; have hnb : ¬ some (w.heap.size + 2) = (Value.slice A1 k c1).ownBlock := (fun e => by have := (HO.lt _ e.symm).1; omega); have hR8 := Bx.mk (hs8.heap HRR.out hnb); have hp08 : w8.cell? ⟨w.heap.size + 2, 0, none⟩ = some (.slice A1 k c1) := cell_of_row w8 _ 0 _ _ _ hR8.out; have hfz8 := frozen_of_row w8 (w.heap.size + 2) 0 hR8.out; obtain ⟨A8, c8, hv8, -, -, -⟩ := ho8.read (by rw [List.length_append, HUL.out]; simp; omega); rw [List.length_append, HUL.out] at hv8; subst hv8; have HNB := Bx.mk hnb; clear hnb)
      go_roundw
      case rel =>
        have hset := Step.setCell (F := fun j => j = w.heap.size + 2) w8 (p := ⟨w.heap.size + 2, 0, none⟩) rfl (.slice A8 (k + 1) c8)
        have hB8 := HBr.own HO (by rw [HZ.out]; omega) hs8
        refine ⟨k + 1, A8, c8, hlt, by go_num, heap_setCell_own w8 (w.heap.size + 2) 0 (.slice A8 (k + 1) c8) hR8.out, ?_, hB8.set (by rw [HZ.out]; exact Nat.le_refl _) _⟩
        rw [HUS.out]
        exact ho8.step hset fun j hj e => by have := (ho8.lt j hj).1; omega
      case measure => simp [intOf]; omega
    · have hkk : k = N := by omega
      subst hkk
      rename World => wG
      have hzG : w.heap.size + 3 ≤ wG.heap.size := hszr
      go_wp2
      have HO1 := Bx.mk HO
      clear HO hc0 hc1 hp0 hp1 hszr HUL HUS
      go_loopw [5] (fun iv wr => ∃ (j : Nat) (A2 : Option Addr) (c2 : Nat), j ≤ nE ∧ iv = .int .i64 j ∧ wr.heap[w.heap.size + 2]? = some (.cells #[.slice A1 k c1, .slice A2 j c2] 27 (0, 0)) ∧ OwnI wr wG.heap.size (.slice A2 j c2) (upTo j) ∧ OwnI wr (w.heap.size + 3) (.slice A1 k c1) (upTo k) ∧ wG.heap.size ≤ wr.heap.size ∧ BB w2 wr) (fun iv _ => nE - (intOf iv).toNat)
      case atStart => exact ⟨0, none, 0, Nat.zero_le _, rfl, HRR.out, OwnI.nil _ _, HO1.out, Nat.le_refl _, HBr⟩
      case round =>
        obtain ⟨j, A2, c2, hj, rfl, hR, HO, HO1', hzr, HBr'⟩ := hrel
        have hc0 := HBr'.cell HB.out.1
        have hc1 := HBr'.cell HB.out.2.1
        have hp0 := cell_of_row wr (w.heap.size + 2) 0 _ _ _ hR
        have hp1 := cell_of_row wr (w.heap.size + 2) 1 _ _ _ hR
        have hszr : w.heap.size + 3 ≤ wr.heap.size := (Array.getElem?_eq_some_iff.1 hR).1
        have HRR2 := Bx.mk hR
        have HUL := Bx.mk (upTo_len j)
        have HUS := Bx.mk (upTo_succ j)
        clear hR
        by_cases hjt : j < nE
        · have hkl : (upTo j).length < 1099511627776 := by rw [HUL.out]; omega
          have HKL := Bx.mk hkl
          clear hkl
          go_wp2_with (at_builtin; refine app_int wG.heap.size (upTo j) (.slice A2 j c2) HO (j : Int) rfl rfl rfl rfl hzr HKL.out ?_; intro v8 w8 ho8 hs8 hb8; have hnb : ¬ some (w.heap.size + 2) = (Value.slice A2 j c2).ownBlock := (fun e => by have := (HO.lt _ e.symm).1; omega); have hR8 := Bx.mk (hs8.heap HRR2.out hnb); have hp18 : w8.cell? ⟨w.heap.size + 2, 1, none⟩ = some (.slice A2 j c2) := cell_of_row w8 _ 1 _ _ _ hR8.out; have hfz8 := frozen_of_row w8 (w.heap.size + 2) 1 hR8.out; obtain ⟨A8, c8, hv8, -, -, -⟩ := ho8.read (by rw [List.length_append, HUL.out]; simp; omega); rw [List.length_append, HUL.out] at hv8; subst hv8; have HNB := Bx.mk hnb; clear hnb)
          go_roundw
          case rel =>
            have hset := Step.setCell (F := fun i => i = w.heap.size + 2) w8 (p := ⟨w.heap.size + 2, 1, none⟩) rfl (.slice A8 (j + 1) c8)
            have hB8 := HBr'.own HO (by rw [HZ.out]; omega) hs8
            have hz8 := hs8.size
            refine ⟨j + 1, A8, c8, hjt, by go_num, heap_setCell_own w8 (w.heap.size + 2) 1 (.slice A8 (j + 1) c8) hR8.out, ?_, ?_, by rw [setCell_size]; omega, hB8.set (by rw [HZ.out]; exact Nat.le_refl _) _⟩
            · rw [HUS.out]
              exact ho8.step hset fun i hi e => by have := (ho8.lt i hi).1; omega
            · exact (HO1'.step hs8 fun i hi e => by have := (HO.lt _ e.symm).1; have := (HO1.out.lt i hi).2; omega).step hset fun i hi e => by have := (HO1'.lt i hi).1; omega
          case measure => simp [intOf]; omega
        · have hjj : j = nE := by omega
          subst hjj
          have hR2 := Bx.mk (HBr'.b.block _ (by rw [HZ.out]; omega) |>.trans HB.out.2.2)
          have hq0 := cell_of_row wr (w.heap.size + 1) 0 _ _ _ hR2.out
          have hq1 := cell_of_row wr (w.heap.size + 1) 1 _ _ _ hR2.out
          have hf0 := frozen_of_row wr (w.heap.size + 1) 0 hR2.out
          have hf1 := frozen_of_row wr (w.heap.size + 1) 1 hR2.out
          go_wp2
          have hS1 := heap_setCell_own wr (w.heap.size + 1) 0 (.slice A1 k c1) hR2.out
          have hS2 := heap_setCell_own _ (w.heap.size + 1) 1 (.slice A2 j c2) hS1
          try simp only [Exit.inBlock, Exit.then]
          refine bodyPost_ret (results_cell_row rfl _ _ (w.heap.size + 1) _ _ _ _ rfl hS2 Tryz.underlying27 rfl (by kernel_rfl)) rfl ?_
          obtain ⟨A3, c3, hv3, -, hr3, -⟩ := HO1'.read (by rw [upTo_len]; omega)
          obtain ⟨A4, c4, hv4, -, hr4, -⟩ := HO.read (by rw [upTo_len]; omega)
          rw [upTo_len] at hv3 hv4 hr3 hr4
          cases hv3
          cases hv4
          have hset : Step (fun i => i = w.heap.size + 1) wr ((wr.setCell ⟨w.heap.size + 1, 0, none⟩ (.slice A1 k c1)).setCell ⟨w.heap.size + 1, 1, none⟩ (.slice A2 j c2)) :=
            (Step.setCell (F := fun i => i = w.heap.size + 1) wr (p := ⟨w.heap.size + 1, 0, none⟩) rfl _).trans (Step.setCell (F := fun i => i = w.heap.size + 1) _ (p := ⟨w.heap.size + 1, 1, none⟩) rfl _)
          refine ⟨⟨A1, c1, A2, c2, rfl, ?_, ?_⟩, (((HW.out.trans HBr').set (by dsimp only; omega) _).set (by dsimp only; omega) _)⟩
          · rw [HV.out]
            refine hr3.step hset fun ad ha h0 e => ?_
            have := (HO1'.lt ad.block (by rw [ha]; rfl)).1
            omega
          · rw [HE.out]
            refine hr4.step hset fun ad ha h0 e => ?_
            have := (HO.lt ad.block (by rw [ha]; rfl)).1
            omega
end Go.Proofs.YtefhmlgepnlaoaaGreat
