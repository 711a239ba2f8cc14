/- Walks: the law FaceKeys. -/
import Derived.Test.YtefhmlgepnlaoaaAe
import Derived.Test.YtefhmlgepnlaoaaKy
set_option linter.unusedVariables false
set_option linter.unusedSimpArgs false
namespace Go.Proofs.Ytefhmlgepnlaoaa
open Go.RowKit

theorem small6_ok' {g : Gr} {p : Pt} {tn : List (List Int)} (h : g.small6 p tn = true) : tn.length ≤ 100 ∧ ∀ l ∈ tn, l.length ≤ 200 := by
  unfold Gr.small6 at h
  simp only [Bool.and_eq_true, decide_eq_true_eq, List.all_eq_true] at h
  exact ⟨h.2.1, h.2.2⟩
theorem keyF_spec (d : Int) : ∀ us : List (Int × List Int), ((keyF d us).2 = false ∧ (keyF d us).1 = 0 ∧ ∀ u ∈ us, ofW d u = false) ∨ ((keyF d us).2 = true ∧ ∃ u ∈ us, u.1 = (keyF d us).1 ∧ ofW d u = true) := by
  intro us
  induction us with
  | nil => exact .inl ⟨rfl, rfl, fun u hu => by cases hu⟩
  | cons u us ih =>
    unfold keyF
    cases hu : ofW d u with
    | true => exact .inr ⟨rfl, u, List.mem_cons_self .., rfl, hu⟩
    | false =>
      simp only [Bool.false_eq_true, if_false]
      rcases ih with ⟨h1, h2, h3⟩ | ⟨h1, v, hv, h2, h3⟩
      · refine .inl ⟨h1, h2, fun x hx => ?_⟩
        rcases List.mem_cons.1 hx with rfl | hx
        · exact hu
        · exact h3 x hx
      · exact .inr ⟨h1, v, List.mem_cons_of_mem _ hv, h2, h3⟩
theorem flat_unique {x : Int} {u v : Int × List Int} : ∀ {us : List (Int × List Int)}, (us.flatMap Prod.snd).Nodup → u ∈ us → v ∈ us → x ∈ u.2 → x ∈ v.2 → u = v := by
  intro us
  induction us with
  | nil => intro _ hu; cases hu
  | cons y us ih =>
    intro hn hu hv hxu hxv
    rw [List.flatMap_cons] at hn
    obtain ⟨h1, h2, h3⟩ := List.nodup_append.1 hn
    rcases List.mem_cons.1 hu with e1 | hu'
    · rcases List.mem_cons.1 hv with e2 | hv'
      · rw [e1, e2]
      · exact absurd rfl (h3 x (e1 ▸ hxu) x (List.mem_flatMap.2 ⟨v, hv', hxv⟩))
    · rcases List.mem_cons.1 hv with e2 | hv'
      · exact absurd rfl (h3 x (e2 ▸ hxv) x (List.mem_flatMap.2 ⟨u, hu', hxu⟩))
      · exact ih h2 hu' hv' hxu hxv
section
variable {g : Gr} {p : Pt} {tn : List (List Int)} (h0 : g.rotaErr p tn = 0)
include h0
theorem walk_sign {us : List (Int × List Int)} (hw : WalksOk p us) {u : Int × List Int} (hu : u ∈ us) {d : Int} (hd : ofW d u = true) : u.1 ≤ d ∧ (u.1 < 0 ↔ d < 0) ∧ (u.2 ≠ [] → u.1 ∈ u.2 ∧ 0 ≤ u.1) ∧ (u.2 = [] → u.1 < 0) := by
  have hdart : ∀ x ∈ u.2, 0 ≤ x := fun x hx => ((turns_of h0).pos x (hw.perm.mem_iff.1 (List.mem_flatMap.2 ⟨u, hu, hx⟩))).1
  have hne : u.2 ≠ [] → u.1 ∈ u.2 ∧ 0 ≤ u.1 := fun hn => by
    have hh := hw.head u hu hn
    have hm : gi u.2 0 ∈ u.2 := gi_mem (List.length_pos_iff.2 hn)
    rw [hh.1] at hm
    exact ⟨hm, hdart _ hm⟩
  have hem : u.2 = [] → u.1 < 0 := fun hn => by
    obtain ⟨v, hv, hk⟩ := hw.lone u hu hn
    have := verts_range h0 v hv
    omega
  unfold ofW at hd
  simp only [Bool.or_eq_true, decide_eq_true_eq] at hd
  rcases hd with rfl | hd
  · exact ⟨Int.le_refl _, Iff.rfl, hne, hem⟩
  · have hn : u.2 ≠ [] := fun e => by rw [e] at hd; cases hd
    have h1 := (hw.head u hu hn).2 d hd
    have h2 := (hne hn).2
    have h3 := hdart d hd
    exact ⟨h1, ⟨fun h => by omega, fun h => by omega⟩, hne, hem⟩
/-- A key's key is itself. -/
theorem keyF_again {us vs : List (Int × List Int)} (hu : us.Perm (wF p tn)) (hwu : WalksOk p us) (hv : vs.Perm (wF p tn)) (hwv : WalksOk p vs) {d k : Int} (h : keyF d us = (k, true)) : keyF k vs = (k, true) ∧ k ≤ d ∧ (k < 0 ↔ d < 0) := by
  rcases keyF_spec d us with ⟨h1, _⟩ | ⟨_, u, hum, h2, h3⟩
  · rw [h] at h1; cases h1
  · rw [h] at h2
    dsimp only at h2
    have hs := walk_sign h0 hwu hum h3
    rw [h2] at hs
    refine ⟨?_, hs.1, hs.2.1⟩
    have huv : u ∈ vs := hv.mem_iff.2 (hu.mem_iff.1 hum)
    have hk : ofW k u = true := by unfold ofW; simp [h2]
    rcases keyF_spec k vs with ⟨_, _, q3⟩ | ⟨q1, v, hvm, q2, q3⟩
    · rw [q3 u huv] at hk; cases hk
    · have e1 : (keyF k vs).1 = k := by
        rw [← q2]
        unfold ofW at q3
        simp only [Bool.or_eq_true, decide_eq_true_eq] at q3
        rcases q3 with q3 | q3
        · exact q3
        · have hn : v.2 ≠ [] := fun e => by rw [e] at q3; cases q3
          have hk0 : 0 ≤ k := ((turns_of h0).pos k (hwv.perm.mem_iff.1 (List.mem_flatMap.2 ⟨v, hvm, q3⟩))).1
          have hun : u.2 ≠ [] := fun e => by have := hs.2.2.2 e; omega
          have huk := (hs.2.2.1 hun).1
          have hnd : (vs.flatMap Prod.snd).Nodup := hwv.perm.nodup_iff.2 (turns_of h0).nd
          have := flat_unique hnd huv hvm huk q3
          rw [← this, h2]
      exact Prod.ext e1 q1
end
set_option maxHeartbeats 8000000 in
theorem faceKeys_any (g : Gr) (p : Pt) (tn : List (List Int)) (d : Int) (A A1 A2 A3 : Option Addr) (c c1 c2 c3 : Nat) (w : World) (hA : RE w A g.E.length g.E) (h1 : RI w A1 p.V.length p.V) (h2 : RI w A2 p.E.length p.E) (h3 : RL w A3 tn.length tn) :
    Calls Try.prog 4 #[.agg #[.int .i64 g.N, .slice A g.E.length c], .agg #[.slice A1 p.V.length c1, .slice A2 p.E.length c2], .slice A3 tn.length c3, .int .i64 d] w fun e w' => e = .returned (.bool true) ∧ BB w w' := by
  have HA := Bx.mk hA
  have H1 := Bx.mk h1
  have H2 := Bx.mk h2
  have H3 := Bx.mk h3
  have hle3 := h3.le
  clear hA h1 h2 h3
  have BA := Bx.mk (((BB.refl w).al (.cells #[.int .i64 g.N, .slice A g.E.length c] 24)).al (.cells #[.slice A1 p.V.length c1, .slice A2 p.E.length c2] 27))
  have hG1 := box_cell1 w #[.int .i64 g.N, .slice A g.E.length c] 24 (0, 0) (.cells #[.slice A1 p.V.length c1, .slice A2 p.E.length c2] 27) 0
  have hG2 := box_cell1 w #[.int .i64 g.N, .slice A g.E.length c] 24 (0, 0) (.cells #[.slice A1 p.V.length c1, .slice A2 p.E.length c2] 27) 1
  have hP1 := box_cell2 w #[.slice A1 p.V.length c1, .slice A2 p.E.length c2] 27 (0, 0) (.cells #[.int .i64 g.N, .slice A g.E.length c] 24) 0
  have hP2 := box_cell2 w #[.slice A1 p.V.length c1, .slice A2 p.E.length c2] 27 (0, 0) (.cells #[.int .i64 g.N, .slice A g.E.length c] 24) 1
  have HB := Bx.mk (And.intro hG1 (And.intro hG2 (And.intro hP1 hP2)))
  clear hG1 hG2 hP1 hP2
  cases hsm : g.small6 p tn with
  | false =>
    have HS := Bx.mk hsm
    clear hsm
    go_enter Try.func4, Try.ntmps4
    go_wp2_with (first
      | (go_at_call 6; first
        | ((with_reducible refine (awake_any ((w.alloc (.cells #[.int .i64 g.N, .slice A g.E.length c] 24)).alloc (.cells #[.slice A1 p.V.length c1, .slice A2 p.E.length c2] 27))).mono ?_); rintro e w1 ⟨rfl, hb1⟩; have hG1 := hb1.cell HB.out.1; have hG2 := hb1.cell HB.out.2.1; have hP1 := hb1.cell HB.out.2.2.1; have hP2 := hb1.cell HB.out.2.2.2)
        | ((with_reducible refine (awake_any _).mono ?_); rintro e w3 ⟨rfl, hb3⟩)
        | fail)
      | (go_at_call 7; (with_reducible refine (small6_any g p tn A A1 A2 A3 c c1 c2 c3 _ ((BA.out.trans hb1).rl H3.out)).mono ?_); rintro e w2 ⟨rfl, hb2⟩; rw [show smallI (g.small6 p tn) = 0 by rw [HS.out]; rfl])
      | fail)
    go_ret
    exact ⟨rfl, (BA.out.trans hb1).trans (hb2.trans hb3)⟩
  | true =>
    have HS := Bx.mk hsm
    obtain ⟨hs3, hs4⟩ := small6_ok' hsm
    have hs30 : tn.length < 1099511627776 := by omega
    have HS4 : Bx (∀ l ∈ tn, l.length < 1099511627776) := ⟨fun l hl => by have := hs4 l hl; omega⟩
    clear hsm hs4
    by_cases h0 : g.rotaErr p tn = 0
    case neg =>
      have H0 := Bx.mk h0
      clear h0
      go_enter Try.func4, Try.ntmps4
      go_wp2_with (first
        | (go_at_call 6; (with_reducible refine (awake_any ((w.alloc (.cells #[.int .i64 g.N, .slice A g.E.length c] 24)).alloc (.cells #[.slice A1 p.V.length c1, .slice A2 p.E.length c2] 27))).mono ?_); rintro e w1 ⟨rfl, hb1⟩; have hG1 := hb1.cell HB.out.1; have hG2 := hb1.cell HB.out.2.1; have hP1 := hb1.cell HB.out.2.2.1; have hP2 := hb1.cell HB.out.2.2.2)
        | (go_at_call 7; (with_reducible refine (small6_any g p tn A A1 A2 A3 c c1 c2 c3 _ ((BA.out.trans hb1).rl H3.out)).mono ?_); rintro e w2 ⟨rfl, hb2⟩; rw [show smallI (g.small6 p tn) = 1 by rw [HS.out]; rfl]; have HW2 := (BA.out.trans hb1).trans hb2; have hG12 := hb2.cell hG1; have hG22 := hb2.cell hG2; have hP12 := hb2.cell hP1; have hP22 := hb2.cell hP2)
        | (go_at_call 10; (with_reducible refine (key_law g p tn d A A1 A2 A3 _ c _ c1 _ c2 _ c3 _ (HW2.re HA.out) (HW2.ri H1.out) (HW2.ri H2.out) (HW2.rl H3.out) hs30 HS4.out).mono ?_); rintro e w3 ⟨⟨k, b, rfl, hk⟩, hb3⟩; rw [if_neg H0.out] at hk; obtain ⟨rfl, rfl⟩ := hk)
        | fail)
      go_ret
      exact ⟨rfl, HW2.trans hb3⟩
    case pos =>
      have H0 := Bx.mk h0
      clear h0
      go_enter Try.func4, Try.ntmps4
      go_wp2_with (first
        | (go_at_call 6; (with_reducible refine (awake_any ((w.alloc (.cells #[.int .i64 g.N, .slice A g.E.length c] 24)).alloc (.cells #[.slice A1 p.V.length c1, .slice A2 p.E.length c2] 27))).mono ?_); rintro e w1 ⟨rfl, hb1⟩; have hG1 := hb1.cell HB.out.1; have hG2 := hb1.cell HB.out.2.1; have hP1 := hb1.cell HB.out.2.2.1; have hP2 := hb1.cell HB.out.2.2.2)
        | (go_at_call 7; (with_reducible refine (small6_any g p tn A A1 A2 A3 c c1 c2 c3 _ ((BA.out.trans hb1).rl H3.out)).mono ?_); rintro e w2 ⟨rfl, hb2⟩; rw [show smallI (g.small6 p tn) = 1 by rw [HS.out]; rfl]; have HW2 := Bx.mk ((BA.out.trans hb1).trans hb2); have hG12 := hb2.cell hG1; have hG22 := hb2.cell hG2; have hP12 := hb2.cell hP1; have hP22 := hb2.cell hP2)
        | fail)
      refine (key_law g p tn d A A1 A2 A3 _ c _ c1 _ c2 _ c3 _ (HW2.out.re HA.out) (HW2.out.ri H1.out) (HW2.out.ri H2.out) (HW2.out.rl H3.out) hs30 HS4.out).mono ?_
      rintro e w3 ⟨⟨k, b, rfl, hk⟩, hb3⟩
      rw [if_pos H0.out] at hk
      obtain ⟨us, hpu, hwu, hku⟩ := hk
      cases b with
      | false =>
        have hk0 : k = 0 := by
          rcases keyF_spec d us with ⟨_, q2, _⟩ | ⟨q1, _⟩
          · rw [← hku] at q2; exact q2
          · rw [← hku] at q1; cases q1
        subst hk0
        clear hku
        go_wp2
        go_ret
        exact ⟨rfl, HW2.out.trans hb3⟩
      | true =>
        have HKU := Bx.mk (And.intro hpu (And.intro hwu hku))
        have HB3 := Bx.mk hb3
        have hG13 := hb3.cell hG12
        have hG23 := hb3.cell hG22
        have hP13 := hb3.cell hP12
        have hP23 := hb3.cell hP22
        clear hpu hwu hku hG1 hG2 hP1 hP2 hG12 hG22 hP12 hP22 hb1 hb2 hb3
        go_wp2_with fail
        refine (key_law g p tn k A A1 A2 A3 _ c _ c1 _ c2 _ c3 _ ((HW2.out.trans HB3.out).re HA.out) ((HW2.out.trans HB3.out).ri H1.out) ((HW2.out.trans HB3.out).ri H2.out) ((HW2.out.trans HB3.out).rl H3.out) hs30 HS4.out).mono ?_
        rintro e w4 ⟨⟨k2, b2, rfl, hk2⟩, hb4⟩
        rw [if_pos H0.out] at hk2
        obtain ⟨vs, hpv, hwv, hkv⟩ := hk2
        obtain ⟨q1, q2, q3⟩ := keyF_again H0.out HKU.out.1 HKU.out.2.1 hpv hwv HKU.out.2.2.symm
        rw [q1] at hkv
        cases hkv
        clear q1 hpv hwv
        by_cases hn : k < 0
        · have hd : d < 0 := q3.1 hn
          clear q3
          go_wp2
          go_ret
          exact ⟨rfl, (HW2.out.trans HB3.out).trans hb4⟩
        · have hd : ¬ d < 0 := fun h => hn (q3.2 h)
          clear q3
          go_wp2
          go_ret
          exact ⟨ret_bool (a := (decide (k < 0) == decide (d < 0))) (by rw [beq_iff_eq]; exact decide_eq_decide.2 ⟨fun _ => by omega, fun _ => by omega⟩), (HW2.out.trans HB3.out).trans hb4⟩
end Go.Proofs.Ytefhmlgepnlaoaa
