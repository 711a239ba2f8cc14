/- Walks: face.Corners. -/
import Derived.Test.YtefhmlgepnlaoaaGreatGc
import Derived.Test.YtefhmlgepnlaoaaGreatWb
set_option linter.unusedVariables false
set_option linter.unusedSimpArgs false
namespace Go.Proofs.YtefhmlgepnlaoaaGreat
open Go.RowKit

theorem OwnI.lit1 (w : World) (base : Nat) (x : Int) (hb : base ≤ w.heap.size) : OwnI (w.alloc (.cells #[.int .i64 x] 3)) base (.slice (some ⟨w.heap.size, 0, none⟩) 1 1) [x] :=
  ⟨⟨by simp, .inr ⟨w.heap.size, 1, #[.int .i64 x], rfl, hb, heap_alloc_new w _, Nat.le_refl _, by simp [maxLen], rfl, rfl⟩⟩⟩
theorem OwnI.lit1' (w : World) (base : Nat) (x : Int) (b : Nat) (h : b = w.heap.size) (hb : base ≤ w.heap.size) : OwnI (w.alloc (.cells #[.int .i64 x] 3)) base (.slice (some ⟨b, 0, none⟩) 1 1) [x] := h ▸ OwnI.lit1 w base x hb
theorem lone_any' (x : Int) (w : World) (h0 : -1048576 ≤ x) (h1 : x < 1048576) : Calls Tryz.prog 51 #[.int .i64 x] w fun e w' => e = .returned (.int .i64 (-1 - x)) ∧ w = w' := by
  go_enter Tryz.func51, Tryz.ntmps51
  go_wp2
  go_ret
  exact ⟨rfl, rfl⟩
/-- The tails of darts, as far as each dart is one. -/
def Gr.tails (g : Gr) : List Int → Option (List Int)
  | [] => some []
  | d :: ds => if (g.endsF d).2.2 then (g.tails ds).map ((g.endsF d).1 :: ·) else none
def Gr.corners (g : Gr) (u : Int × List Int) : List Int :=
  if u.1 < 0 ∧ -1 - u.1 < g.N ∧ u.2.length = 0 then [-1 - u.1] else (g.tails u.2).getD []
theorem tails_ok (g : Gr) : ∀ ds : List Int, (∀ d ∈ ds, (g.endsF d).2.2 = true) → g.tails ds = some (ds.map fun d => (g.endsF d).1) := by
  intro ds
  induction ds with
  | nil => intro _; rfl
  | cons d ds ih =>
    intro h
    unfold Gr.tails
    rw [if_pos (h d (by simp)), ih fun x hx => h x (by simp [hx])]
    rfl
theorem tails_bad (g : Gr) : ∀ ds : List Int, (∃ d ∈ ds, (g.endsF d).2.2 = false) → g.tails ds = none := by
  intro ds
  induction ds with
  | nil => rintro ⟨d, hd, _⟩; cases hd
  | cons d ds ih =>
    rintro ⟨x, hx, hb⟩
    unfold Gr.tails
    cases hd : (g.endsF d).2.2 with
    | false => simp
    | true =>
      rcases List.mem_cons.1 hx with rfl | hx
      · rw [hd] at hb; cases hb
      · rw [if_pos rfl, ih ⟨x, hx, hb⟩]; rfl

theorem corners_any (g : Gr) (u : Int × List Int) (hk0 : -1048576 ≤ u.1) (hk1 : u.1 < 1048576) (hd : ∀ d ∈ u.2, d < 1048576) (hl : u.2.length < 1048576) (A A1 : Option Addr) (n c n1 c1 : Nat) (w : World) (hA : RE w A n g.E) (h1 : RI w A1 n1 u.2) :
    Calls Tryz.prog 42 #[.agg #[.int .i64 g.N, .slice A n c], .agg #[.int .i64 u.1, .slice A1 n1 c1]] w fun e w' => (∃ v, e = .returned v ∧ OwnI w' w.heap.size v (g.corners u)) ∧ Below w.heap.size w w' := by
  have hlen := hA.len
  subst hlen
  have hlen1 := h1.len
  subst hlen1
  have HA := Bx.mk hA
  have H1 := Bx.mk h1
  have HD := Bx.mk hd
  obtain ⟨key, ds⟩ := u
  dsimp only at *
  clear hA h1 hd
  by_cases hlo : key < 0 ∧ -1 - key < g.N ∧ ds.length = 0
  · obtain ⟨e1, e2, e3⟩ := hlo
    have hc : Bx (g.corners (key, ds) = [-1 - key]) := ⟨by unfold Gr.corners; rw [if_pos ⟨e1, e2, e3⟩]⟩
    go_enter Tryz.func42, Tryz.ntmps42
    go_wp2_with (go_at_call 51; (with_reducible refine (lone_any' key _ hk0 hk1).mono ?_); rintro e w1 ⟨rfl, rfl⟩)
    go_ret
    exact ⟨⟨_, rfl, by rw [hc.out]; exact OwnI.lit1' _ _ _ (w.heap.size + 1 + 1) (by simp) (BB.size (((BB.refl w).al _).al _))⟩, ((((BB.refl w).al _).al _).al _).b⟩
  · have hcor : Bx (g.corners (key, ds) = (g.tails ds).getD []) := ⟨by unfold Gr.corners; rw [if_neg hlo]⟩
    have h3 : ¬ key < 0 ∨ (key < 0 ∧ ¬ -1 - key < g.N) ∨ (key < 0 ∧ -1 - key < g.N ∧ (((ds.length : Nat) : Int) == 0) = false) := by
      by_cases e1 : key < 0
      · by_cases e2 : -1 - key < g.N
        · exact .inr (.inr ⟨e1, e2, by simp; intro h; exact hlo ⟨e1, e2, by simp [h]⟩⟩)
        · exact .inr (.inl ⟨e1, e2⟩)
      · exact .inl e1
    clear hlo
    rcases h3 with e1 | ⟨e1, e2⟩ | ⟨e1, e2, e3⟩
    all_goals
      go_enter Tryz.func42, Tryz.ntmps42
      go_wp2_with (go_at_call 51; (with_reducible refine (lone_any' key _ hk0 hk1).mono ?_); rintro e w1 ⟨rfl, rfl⟩)
      go_loopw [6, 35] (fun ov i wr => ∃ k : Nat, k ≤ ds.length ∧ i = .int .i64 k ∧ OwnI wr (w.heap.size + 2) ov ((ds.take k).map fun d => (g.endsF d).1) ∧ Bx (∀ d ∈ ds.take k, (g.endsF d).2.2 = true) ∧ BB ((w.alloc (.cells #[.int .i64 g.N, .slice A g.E.length c] 24)).alloc (.cells #[.int .i64 key, .slice A1 ds.length c1] 45)) wr) (fun _ i _ => ds.length - (intOf i).toNat)
      case atStart => exact ⟨0, Nat.zero_le _, rfl, OwnI.nil _ _, ⟨fun d h => by simp at h⟩, BB.refl _⟩
      case round =>
        obtain ⟨k, hk, rfl, HO, hok, HW⟩ := hrel
        by_cases hlt : k < ds.length
        · have hz := HW.pos2
          have HW0 := HW.under.under
          obtain ⟨b2, off2, rfl, hc2⟩ := (HW0.ri H1.out).at (by omega)
          have hc2' := hc2 k hlt
          have hG := HW.cell (box_cell1 w _ _ _ _ 0)
          have hG1 := HW.cell (box_cell1 w _ _ _ _ 1)
          have hdk := Bx.mk (HD.out _ (gi_mem hlt))
          have HTK : Bx (ds.take (k + 1) = ds.take k ++ [gi ds k]) := ⟨by rw [List.take_succ_eq_append_getElem hlt, gi_eq hlt]⟩
          have HLE : Bx (((ds.take k).map fun d => (g.endsF d).1).length < 1099511627776) := ⟨by rw [List.length_map, List.length_take]; omega⟩
          clear hc2
          cases hoks : (g.endsF (gi ds k)).2.2 with
          | false =>
            have hbad : Bx (g.corners (key, ds) = []) := ⟨by rw [hcor.out, tails_bad g ds ⟨_, gi_mem hlt, hoks⟩]; rfl⟩
            go_wp2_with (go_at_call 91; (with_reducible refine (ends_any g _ hdk.out A _ c _ (HW0.re HA.out)).mono ?_); rintro e w3 ⟨rfl, hb3⟩; have HW3 := HW0.call hb3)
            go_ret
            exact ⟨⟨_, rfl, by rw [hbad.out]; exact OwnI.nil _ _⟩, HW3.b⟩
          | true =>
            go_wp2_with (first
              | (go_at_call 91; (with_reducible refine (ends_any g _ hdk.out A _ c _ (HW0.re HA.out)).mono ?_); rintro e w3 ⟨rfl, hb3⟩; have HW3 := HW.call hb3; have HO3 := HO.below hb3; have HZ3 : Bx (w.heap.size + 2 ≤ w3.heap.size) := ⟨Nat.le_trans hz hb3.size⟩)
              | (at_builtin; refine app_int (w.heap.size + 2) _ _ HO3 _ rfl rfl rfl rfl HZ3.out HLE.out ?_; intro v1 w4 ho4 hs4 hb4; have HW4 := HW3.own HO3 (by simp) hs4))
            go_roundw
            case rel => exact ⟨k + 1, hlt, by go_num, by rw [HTK.out, List.map_append]; exact ho4, ⟨fun d hd => by rw [HTK.out] at hd; rcases List.mem_append.1 hd with hd | hd; exact hok.out d hd; simp at hd; subst hd; exact hoks⟩, HW4⟩
            case measure => simp [intOf]; omega
        · have hkk : k = ds.length := by omega
          subst hkk
          rw [List.take_length] at HO hok
          have hall : Bx (g.corners (key, ds) = ds.map fun d => (g.endsF d).1) := ⟨by rw [hcor.out, tails_ok g ds hok.out]; rfl⟩
          go_wp2
          go_ret
          exact ⟨⟨_, rfl, by rw [hall.out]; exact HO.mono (by omega)⟩, HW.under.under.b⟩
end Go.Proofs.YtefhmlgepnlaoaaGreat
