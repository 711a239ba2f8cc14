/- Walks: graph's Darts. -/
import Derived.Test.YtefhmlgepnlaoaaGreatGa
import Derived.Test.YtefhmlgepnlaoaaGreatWb
set_option linter.unusedVariables false
set_option linter.unusedSimpArgs false
namespace Go.Proofs.YtefhmlgepnlaoaaGreat
open Go.RowKit

theorem dartsOf_take {g : Gr} {v : Int} {xs : List Int} {k : Nat} (h : k < xs.length) : g.dartsOf v (xs.take (k + 1)) = g.dartsOf v (xs.take k) ++ (if (ge g.E (gi xs k).toNat).1 = v then [2 * gi xs k] else []) ++ (if (ge g.E (gi xs k).toNat).2 = v then [2 * gi xs k + 1] else []) := by
  rw [List.take_succ_eq_append_getElem h, Gr.dartsOf_append, ← gi_eq h]
  simp only [Gr.dartsOf, List.append_nil, List.append_assoc]
  rfl
theorem dartsOf_len (g : Gr) (v : Int) (xs : List Int) : (g.dartsOf v xs).length ≤ 2 * xs.length := by
  induction xs with
  | nil => simp [Gr.dartsOf]
  | cons x xs ih => simp only [Gr.dartsOf, List.length_append, List.length_cons]; split <;> split <;> simp <;> omega

theorem darts_any (g : Gr) (p : Pt) (v : Int) (A A1 A2 : Option Addr) (n c n1 c1 n2 c2 : Nat) (w : World) (hA : RE w A n g.E) (h1 : RI w A1 n1 p.V) (h2 : RI w A2 n2 p.E) :
    Calls Tryz.prog 98 #[.agg #[.int .i64 g.N, .slice A n c], .agg #[.slice A1 n1 c1, .slice A2 n2 c2], .int .i64 v] w fun e w' => (∃ u, e = .returned u ∧ OwnI w' w.heap.size u (g.darts p v)) ∧ Below w.heap.size w w' := by
  have hlen := hA.len
  have hle := hA.le
  subst hlen
  have hlen2 := h2.len
  have hle2 := h2.le
  subst hlen2
  have HA := Bx.mk hA
  have H1 := Bx.mk h1
  have H2 := Bx.mk h2
  clear hA h1 h2
  by_cases h0 : g.rightPart p = 0
  · have hr : Bx (g.darts p v = g.dartsOf v p.E) := ⟨by unfold Gr.darts; rw [if_neg (by omega)]⟩
    obtain ⟨hg0, hv, he, -⟩ := Gr.rightPart_ok h0
    have hgl := (Gr.right_ok hg0).2.1
    have HE := Bx.mk (risesF_sound _ _ _ he)
    have hpl := risesF_len _ _ _ he (by omega)
    have hN := (Gr.right_ok hg0).1
    clear hg0 hv he
    go_enter Tryz.func98, Tryz.ntmps98
    go_wp2_with (go_at_call 83; (with_reducible refine (rightPart_any g p A A1 A2 _ c _ c1 _ c2 _ ((((BB.refl w).al _).al _).re HA.out) ((((BB.refl w).al _).al _).ri H1.out) ((((BB.refl w).al _).al _).ri H2.out)).mono ?_); rintro e w1 ⟨rfl, hb1⟩; obtain ⟨hx1, hx2⟩ := bcell hb1; have HC := BB.mk hb1; clear hb1)
    go_loopw [7, 17] (fun ov i wr => ∃ k : Nat, k ≤ p.E.length ∧ i = .int .i64 k ∧ OwnI wr (w.heap.size + 2) ov (g.dartsOf v (p.E.take k)) ∧ BB ((w.alloc (.cells #[.int .i64 g.N, .slice A g.E.length c] 24)).alloc (.cells #[.slice A1 n1 c1, .slice A2 p.E.length c2] 27)) wr) (fun _ i _ => p.E.length - (intOf i).toNat)
    case atStart => exact ⟨0, Nat.zero_le _, rfl, OwnI.nil _ _, HC⟩
    case round =>
      obtain ⟨k, hk, rfl, HO, HW⟩ := hrel
      clear h0 HC hx1 hx2
      by_cases hlt : k < p.E.length
      · have hz := HW.pos2
        have HW0 := HW.under.under
        obtain ⟨b2, off2, rfl, hc2⟩ := (HW0.ri H2.out).at (by omega)
        have hc2' := hc2 k hlt
        have hm := (HE.out.2 _ (gi_mem hlt))
        have hm1 : 0 ≤ gi p.E k := by omega
        have hm2 := hm.2
        obtain ⟨b, off, rfl, hc⟩ := HA.out.at (by omega)
        obtain ⟨hw3, hw4⟩ := hc (gi p.E k).toNat (by omega)
        have HW4 := Bx.mk hw4
        have hc3 := HW0.cell hw3
        have hc4 := HW0.cell hw4
        have hE := HW.cell (box_cell1 w _ _ _ _ 1)
        have hdt := Bx.mk (dartsOf_take (g := g) (v := v) hlt)
        have hl := dartsOf_len g v (p.E.take k)
        simp only [List.length_take] at hl
        clear hc hc2 hm hw3 hw4
        go_wp2_with (at_builtin; refine app_int (w.heap.size + 2) _ _ HO _ rfl rfl rfl rfl (by omega) (by (try simp only [List.length_append, List.length_singleton]); omega) ?_; intro v1 w1 ho1 hs1 hb1; have hz1 := hs1.size; replace HW := HW.own HO (by simp) hs1; replace HO := ho1; have hE := HW.cell (box_cell1 w _ _ _ _ 1); have hc4 := HW.under.under.cell HW4.out; clear ho1 hs1 hb1)
        all_goals
          go_roundw
          case rel =>
            refine ⟨k + 1, by omega, by go_num, ?_, HW⟩
            rw [hdt.out]
            clear hdt HE HA H1 H2 HW hE hc3 hc4 HW4
            simp_all [beq_iff_eq]
          case measure => simp [intOf]; omega
      · go_wp2
        go_ret
        refine ⟨⟨_, rfl, ?_⟩, HW.under.under.b⟩
        rw [hr.out, ← List.take_of_length_le (show p.E.length ≤ k by omega)]
        exact HO.mono (by omega)
  · have hr : Bx (g.darts p v = []) := ⟨by unfold Gr.darts; rw [if_pos h0]⟩
    have h0' : (g.rightPart p != 0) = true := by simp [h0]
    go_enter Tryz.func98, Tryz.ntmps98
    go_wp2_with (go_at_call 83; (with_reducible refine (rightPart_any g p A A1 A2 _ c _ c1 _ c2 _ ((((BB.refl w).al _).al _).re HA.out) ((((BB.refl w).al _).al _).ri H1.out) ((((BB.refl w).al _).al _).ri H2.out)).mono ?_); rintro e w1 ⟨rfl, hb1⟩; have HC := (((BB.refl w).al _).al _).call hb1; clear hb1)
    go_ret
    exact ⟨⟨_, rfl, hr.out ▸ OwnI.nil _ _⟩, HC.b⟩
end Go.Proofs.YtefhmlgepnlaoaaGreat
