/- Walks: sets in memory: Join. -/
import Derived.Test.YtefhmlgepnlaoaaGreatSb
import Derived.Deep.RegionHeld3
set_option linter.unusedVariables false
set_option linter.unusedSimpArgs false
namespace Go.Proofs.YtefhmlgepnlaoaaGreat
open Go.RowKit

theorem nat_max_if (a b : Nat) : (if ((a : Nat) : Int) < ((b : Nat) : Int) then ((b : Nat) : Int) else ((a : Nat) : Int)) = ((max a b : Nat) : Int) := by
  split <;> omega
theorem nat_min_if (a b : Nat) : (if ((b : Nat) : Int) < ((a : Nat) : Int) then ((b : Nat) : Int) else ((a : Nat) : Int)) = ((min a b : Nat) : Int) := by
  split <;> omega

theorem OwnI.cast {w : World} {base : Nat} {A : Option Addr} {n n' c : Nat} {xs : List Int} (h : OwnI w base (.slice A n c) xs) (e : n = n') : OwnI w base (.slice A n' c) xs := e ▸ h
/-- It returns yes or no. -/
def RetB (e : Ending) : Prop := ∃ b, e = .returned (.bool b)
set_option maxHeartbeats 1000000 in
theorem join_any (base : Nat) (v : Value) (all : List Int) (rep : Nat → Nat) (U : Option Nat) (x y : Int) (hx : x ∈ all) (hy : y ∈ all) (w : World) (hS : SetsAt w base v all rep U) :
    Calls Tryz.prog 85 #[v, .int .i64 x, .int .i64 y] w fun e w' => RetB e ∧ SetsAt w' base v all (joinRep rep (posN all x) (posN all y)) U ∧ Step (fun k => some k = U) w w' := by
  have HS0 := Bx.mk hS
  obtain ⟨R, M, va, vu, m, up, rfl, h2, h3, h4, h5, h6, h7, h8, h9, h10, h11, h12, h13, h14⟩ := hS.h
  have hlx := h6 x
  have hly := h6 y
  rw [posL_some hx] at hlx
  rw [posL_some hy] at hly
  have hx1 : (List.lookup x m).getD (.int .i64 0) = .int .i64 (posN all x : Nat) := by rw [hlx]; rfl
  have hy1 : (List.lookup y m).getD (.int .i64 0) = .int .i64 (posN all y : Nat) := by rw [hly]; rfl
  have hr0 := cell_of_row w R 0 _ _ _ h2
  simp only [List.getElem?_toArray, List.getElem?_cons_succ, List.getElem?_cons_zero] at hr0
  have hpx := posN_lt hx
  have hpy := posN_lt hy
  have hRU : Bx (¬ some R = U) := ⟨fun e => by
    obtain ⟨cs, fr, hc⟩ := h8.cells R (h9.trans e.symm)
    rw [h2] at hc; cases hc⟩
  have hMU : Bx (¬ some M = U) := ⟨fun e => by
    obtain ⟨cs, fr, hc⟩ := h8.cells M (h9.trans e.symm)
    obtain ⟨es, c, hb, _⟩ := h5.h
    rw [hb] at hc; cases hc⟩
  have H2 := Bx.mk h2
  have hqx := fun w' (h : MapAt w' M m) => run_lookup h 100 3 3 Tryz.underlying100 Tryz.underlying3 (.int .i64 0) (zero_int w') x false
  have hqy := fun w' (h : MapAt w' M m) => run_lookup h 100 3 3 Tryz.underlying100 Tryz.underlying3 (.int .i64 0) (zero_int w') y false
  simp only [hx1, hy1, Bool.false_eq_true, if_false] at hqx hqy
  have hlwx := hqx w h5
  have hlwy := hqy w h5
  have hldx := hqx w.drew (h5.drawn 1)
  have hldy := hqy w.drew (h5.drawn 1)
  have HQX := Bx.mk hqx
  have HQY := Bx.mk hqy
  have HL := Bx.mk h5
  have HSD : Bx (SetsAt w.drew base (.pointer (some ⟨R, 0, none⟩)) all rep U) := ⟨HS0.out.below (BB.drawn (BB.refl w) 1).b⟩
  clear hlx hly h6 h9 h10 h11 h2 hS hqx hqy
  go_enter Tryz.func85, Tryz.ntmps85
  go_wp2_with (go_at_call 112; first
    | ((with_reducible refine (add_in base _ all rep U x hx _ HS0.out).mono ?_); rintro e w1 ⟨rfl, rfl⟩)
    | ((with_reducible refine (add_in base _ all rep U y hy _ HS0.out).mono ?_); rintro e w1 ⟨rfl, rfl⟩))
  go_region_held3 (fun w' => w'.cell? ⟨R, 0, none⟩ = some (.map (some M)) ∧ Sem.run Tryz.prog (Instr.lookup 100 (.map (some M)) (.int .i64 x) false) w' = .ok (.int .i64 (posN all x : Nat)) w' ∧ Sem.run Tryz.prog (Instr.lookup 100 (.map (some M)) (.int .i64 y) false) w' = .ok (.int .i64 (posN all y : Nat)) w')
    (first | exact ⟨hr02, hlx2, hly2⟩ | exact ⟨hr01, hlx1, hly1⟩ | exact ⟨hr0, hldx, hldy⟩ | fail)
    (first
      | (go_simp; go_at_call 119; first
        | ((with_reducible refine (top_any base _ all rep U (posN all x) hpx _ HSD.out).mono ?_); rintro e w1 ⟨rfl, hS1, hs1⟩; have hR1 := Bx.mk (hs1.heap H2.out hRU.out); have hr01 : w1.cell? ⟨R, 0, none⟩ = some (.map (some M)) := cell_of_row w1 R 0 _ _ _ hR1.out; have hM1 := (HL.out.drawn 1).step hs1 hMU.out; have hlx1 := HQX.out w1 hM1; have hly1 := HQY.out w1 hM1)
        | ((with_reducible refine (top_any base _ all rep U (posN all y) hpy _ hS1).mono ?_); rintro e w2 ⟨rfl, hS2, hs2⟩; have hR2 := Bx.mk (hs2.heap hR1.out hRU.out); have hr02 : w2.cell? ⟨R, 0, none⟩ = some (.map (some M)) := cell_of_row w2 R 0 _ _ _ hR2.out; have hM2 := hM1.step hs2 hMU.out; have hlx2 := HQX.out w2 hM2; have hly2 := HQY.out w2 hM2)
        | fail)
      | fail)
  all_goals
    obtain ⟨R', M', va', vu', m', up', hv', k2, k3, k4, k5, k6, k7, k8, k9, k10, k11, k12, k13, k14⟩ := hS2.h
    cases hv'
    have hmx : max (rep (posN all x)) (rep (posN all y)) < up'.length := by
      have := k12.le (posN all x) (by omega)
      have := k12.le (posN all y) (by omega)
      omega
    obtain ⟨mx, hmx0⟩ : ∃ mx, Bx (max (rep (posN all x)) (rep (posN all y)) = mx) := ⟨_, ⟨rfl⟩⟩
    rw [hmx0.out] at hmx
    obtain ⟨g, cap, rfl, hc1, hc2, hg1, hg2, hcl, hfz, hput⟩ := k8.put (i := mx) hmx
    have hr2 := cell_of_row w2 R 2 _ _ _ k2
    simp only [List.getElem?_toArray, List.getElem?_cons_succ, List.getElem?_cons_zero] at hr2
    have hcm := hcl _ hmx
    obtain ⟨i, hi⟩ : ∃ i, Bx (rep (posN all x) = i) := ⟨_, ⟨rfl⟩⟩
    obtain ⟨k, hk⟩ : ∃ k, Bx (rep (posN all y) = k) := ⟨_, ⟨rfl⟩⟩
    rw [hi.out, hk.out]
    have hup := Bx.mk k11
    have H2' := Bx.mk k2
    clear hcl hx1 hy1 hlwx hlwy hldx hldy hlx1 hly1 hlx2 hly2 k2 k11
    have hj := UpOk.join k12 (i := posN all x) (k := posN all y) (by rw [hup.out]; exact hpx) (by rw [hup.out]; exact hpy)
    rw [hi.out, hk.out] at hj
    have HJ := Bx.mk hj
    rw [hi.out, hk.out] at hmx0
    clear hj
    have hst : ∀ v, Step (fun j => some j = U) w (w2.setCell ⟨g, mx, none⟩ v) := fun v => ((hs1.trans hs2 |> fun h => (⟨h.os, h.tape, h.output, h.size, h.block⟩ : Step (fun j => some j = U) w w2))).trans (Step.setCell w2 (p := ⟨g, mx, none⟩) (by show some g = U; rw [← k9]; rfl) v)
    have HST := Bx.mk hst
    have hRg : R ≠ g := by
      rintro rfl
      obtain ⟨cs, fr, hc⟩ := k8.cells _ rfl
      rw [H2'.out] at hc
      cases hc
    have hMg : M' ≠ g := by
      rintro rfl
      obtain ⟨cs, fr, hc⟩ := k8.cells _ rfl
      obtain ⟨es, c, hb, _⟩ := k5.h
      rw [hb] at hc
      cases hc
    have hfin : ∀ mn : Nat, mn = min i k → SetsAt (w2.setCell ⟨g, mx, none⟩ (.int .i64 (mn : Int))) base (.pointer (some ⟨R, 0, none⟩)) all (joinRep rep (posN all x) (posN all y)) U := by
      rintro mn rfl
      have hs := Step.setCell (F := fun j => j = g) w2 (p := ⟨g, mx, none⟩) rfl (.int .i64 ((min i k : Nat) : Int))
      rw [hmx0.out] at HJ
      exact ⟨R, M', va', _, m', up'.set mx (min i k : Nat), rfl, hs.heap H2'.out hRg, k3, k4, k5.step hs hMg, k6, k7.step hs (fun j hj e => k10 j hj (by rw [e]; rfl)), hput ((min i k : Nat) : Int), k9, k10, by rw [List.length_set]; exact hup.out, HJ.out, k13, k14⟩
    have HF := Bx.mk hfin
    clear hst hfin k6 k9 k10 hput
    rcases Nat.lt_or_ge i k with hik | hik
    · have e1 : mx = k := by rw [← hmx0.out]; omega
      subst e1
      have e2 : max ((i : Nat) : Int) ((mx : Nat) : Int) = ((mx : Nat) : Int) := by omega
      have e3 : min ((i : Nat) : Int) ((mx : Nat) : Int) = ((i : Nat) : Int) := by omega
      go_wp2
      all_goals (go_ret; exact ⟨⟨_, rfl⟩, HF.out _ (by omega), HST.out _⟩)
    · have e1 : mx = i := by rw [← hmx0.out]; omega
      subst e1
      have e2 : max ((mx : Nat) : Int) ((k : Nat) : Int) = ((mx : Nat) : Int) := by omega
      have e3 : min ((mx : Nat) : Int) ((k : Nat) : Int) = ((k : Nat) : Int) := by omega
      go_wp2
      all_goals (go_ret; exact ⟨⟨_, rfl⟩, HF.out _ (by omega), HST.out _⟩)
end Go.Proofs.YtefhmlgepnlaoaaGreat
