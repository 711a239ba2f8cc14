/- Walks: the law FaceWalks. -/
import Derived.Test.YtefhmlgepnlaoaaGreatAe
import Derived.Test.YtefhmlgepnlaoaaGreatEl
set_option linter.unusedVariables false
set_option linter.unusedSimpArgs false
namespace Go.Proofs.YtefhmlgepnlaoaaGreat
open Go.RowKit

theorem small6_okw {g : Gr} {p : Pt} {tn : List (List Int)} (h : g.small6 p tn = true) : tn.length ≤ 100 ∧ ∀ l ∈ tn, l.length ≤ 200 := by
  unfold Gr.small6 at h
  simp only [Bool.and_eq_true, decide_eq_true_eq, List.all_eq_true] at h
  exact ⟨h.2.1, h.2.2⟩
set_option maxHeartbeats 8000000 in
theorem faceWalks_any (g : Gr) (p : Pt) (tn : List (List Int)) (d : Int) (A A1 A2 A3 : Option Addr) (c c1 c2 c3 : Nat) (w : World) (hA : RE w A g.E.length g.E) (h1 : RI w A1 p.V.length p.V) (h2 : RI w A2 p.E.length p.E) (h3 : RL w A3 tn.length tn) :
    Calls Tryz.prog 4 #[.agg #[.int .i64 g.N, .slice A g.E.length c], .agg #[.slice A1 p.V.length c1, .slice A2 p.E.length c2], .slice A3 tn.length c3, .int .i64 d] w fun e w' => e = .returned (.bool true) ∧ BB w w' := by
  have HA := Bx.mk hA
  have H1 := Bx.mk h1
  have H2 := Bx.mk h2
  have H3 := Bx.mk h3
  have hle3 := h3.le
  clear hA h1 h2 h3
  have BA := Bx.mk (((BB.refl w).al (.cells #[.int .i64 g.N, .slice A g.E.length c] 24)).al (.cells #[.slice A1 p.V.length c1, .slice A2 p.E.length c2] 27))
  have hG1 := box_cell1 w #[.int .i64 g.N, .slice A g.E.length c] 24 (0, 0) (.cells #[.slice A1 p.V.length c1, .slice A2 p.E.length c2] 27) 0
  have hG2 := box_cell1 w #[.int .i64 g.N, .slice A g.E.length c] 24 (0, 0) (.cells #[.slice A1 p.V.length c1, .slice A2 p.E.length c2] 27) 1
  have hP1 := box_cell2 w #[.slice A1 p.V.length c1, .slice A2 p.E.length c2] 27 (0, 0) (.cells #[.int .i64 g.N, .slice A g.E.length c] 24) 0
  have hP2 := box_cell2 w #[.slice A1 p.V.length c1, .slice A2 p.E.length c2] 27 (0, 0) (.cells #[.int .i64 g.N, .slice A g.E.length c] 24) 1
  have HB := Bx.mk (And.intro hG1 (And.intro hG2 (And.intro hP1 hP2)))
  clear hG1 hG2 hP1 hP2
  cases hsm : g.small6 p tn with
  | false =>
    have HS := Bx.mk hsm
    clear hsm
    go_enter Tryz.func4, Tryz.ntmps4
    go_wp2_with (first
      | (go_at_call 11; first
        | ((with_reducible refine (awake_any ((w.alloc (.cells #[.int .i64 g.N, .slice A g.E.length c] 24)).alloc (.cells #[.slice A1 p.V.length c1, .slice A2 p.E.length c2] 27))).mono ?_); rintro e w1 ⟨rfl, hb1⟩; have hG1 := hb1.cell HB.out.1; have hG2 := hb1.cell HB.out.2.1; have hP1 := hb1.cell HB.out.2.2.1; have hP2 := hb1.cell HB.out.2.2.2)
        | ((with_reducible refine (awake_any _).mono ?_); rintro e w3 ⟨rfl, hb3⟩)
        | fail)
      | (go_at_call 12; (with_reducible refine (small6_any g p tn A A1 A2 A3 c c1 c2 c3 _ ((BA.out.trans hb1).rl H3.out)).mono ?_); rintro e w2 ⟨rfl, hb2⟩; rw [show smallI (g.small6 p tn) = 0 by rw [HS.out]; rfl])
      | fail)
    go_ret
    exact ⟨rfl, (BA.out.trans hb1).trans (hb2.trans hb3)⟩
  | true =>
    have HS := Bx.mk hsm
    obtain ⟨hs3, hs4⟩ := small6_okw hsm
    have hs30 : tn.length < 1099511627776 := by omega
    have HS4 : Bx (∀ l ∈ tn, l.length < 1099511627776) := ⟨fun l hl => by have := hs4 l hl; omega⟩
    clear hsm hs4
    by_cases h0 : g.rotaErr p tn = 0
    case neg =>
      have h0b : (g.rotaErr p tn != 0) = true := by simp [h0]
      have H0 := Bx.mk h0
      clear h0
      go_enter Tryz.func4, Tryz.ntmps4
      go_wp2_with (first
        | (go_at_call 11; (with_reducible refine (awake_any ((w.alloc (.cells #[.int .i64 g.N, .slice A g.E.length c] 24)).alloc (.cells #[.slice A1 p.V.length c1, .slice A2 p.E.length c2] 27))).mono ?_); rintro e w1 ⟨rfl, hb1⟩; have hG1 := hb1.cell HB.out.1; have hG2 := hb1.cell HB.out.2.1; have hP1 := hb1.cell HB.out.2.2.1; have hP2 := hb1.cell HB.out.2.2.2)
        | (go_at_call 12; (with_reducible refine (small6_any g p tn A A1 A2 A3 c c1 c2 c3 _ ((BA.out.trans hb1).rl H3.out)).mono ?_); rintro e w2 ⟨rfl, hb2⟩; rw [show smallI (g.small6 p tn) = 1 by rw [HS.out]; rfl]; have HW2 := Bx.mk ((BA.out.trans hb1).trans hb2); have hG12 := hb2.cell hG1; have hG22 := hb2.cell hG2; have hP12 := hb2.cell hP1; have hP22 := hb2.cell hP2)
        | (go_at_call 19; (with_reducible refine (walks_law g p tn A A1 A2 A3 _ c _ c1 _ c2 _ c3 _ (HW2.out.re HA.out) (HW2.out.ri H1.out) (HW2.out.ri H2.out) (HW2.out.rl H3.out) hs30 HS4.out).mono ?_); rintro e w3 ⟨⟨u3, rfl, hu3⟩, hb3⟩; rw [if_neg H0.out] at hu3; subst hu3; have HB3 := Bx.mk (BB.mk hb3); have HW3 := Bx.mk (HW2.out.trans HB3.out); have hG13 := HB3.out.cell hG12; have hG23 := HB3.out.cell hG22; have hP13 := HB3.out.cell hP12; have hP23 := HB3.out.cell hP22)
        | (go_at_call 20; (with_reducible refine (key_law g p tn d A A1 A2 A3 _ c _ c1 _ c2 _ c3 _ (HW3.out.re HA.out) (HW3.out.ri H1.out) (HW3.out.ri H2.out) (HW3.out.rl H3.out) hs30 HS4.out).mono ?_); rintro e w4 ⟨⟨k4, b4, rfl, hk4⟩, hb4⟩; rw [if_neg H0.out] at hk4; obtain ⟨rfl, rfl⟩ := hk4; have HB4 := Bx.mk hb4; have HW4 := Bx.mk (HW3.out.trans hb4); have hG14 := hb4.cell hG13; have hG24 := hb4.cell hG23; have hP14 := hb4.cell hP13; have hP24 := hb4.cell hP23)
        | (go_at_call 14; (with_reducible refine (right6_any g p tn A A1 A2 A3 c c1 c2 c3 _ (HW4.out.re HA.out) (HW4.out.ri H1.out) (HW4.out.ri H2.out) (HW4.out.rl H3.out)).mono ?_); rintro e w5 ⟨rfl, hb5⟩; have HB5 := Bx.mk hb5; have HW5 := Bx.mk (HW4.out.trans hb5); have hG15 := hb5.cell hG14; have hG25 := hb5.cell hG24; have hP15 := hb5.cell hP14; have hP25 := hb5.cell hP24)
        | fail)
      go_ret
      exact ⟨rfl, HW5.out⟩
    case pos =>
      have H0 := Bx.mk h0
      have hdl := Bx.mk (verts_len h0)
      clear h0
      go_enter Tryz.func4, Tryz.ntmps4
      go_wp2_with (first
        | (go_at_call 11; (with_reducible refine (awake_any ((w.alloc (.cells #[.int .i64 g.N, .slice A g.E.length c] 24)).alloc (.cells #[.slice A1 p.V.length c1, .slice A2 p.E.length c2] 27))).mono ?_); rintro e w1 ⟨rfl, hb1⟩; have hG1 := hb1.cell HB.out.1; have hG2 := hb1.cell HB.out.2.1; have hP1 := hb1.cell HB.out.2.2.1; have hP2 := hb1.cell HB.out.2.2.2)
        | (go_at_call 12; (with_reducible refine (small6_any g p tn A A1 A2 A3 c c1 c2 c3 _ ((BA.out.trans hb1).rl H3.out)).mono ?_); rintro e w2 ⟨rfl, hb2⟩; rw [show smallI (g.small6 p tn) = 1 by rw [HS.out]; rfl]; have HW2 := Bx.mk ((BA.out.trans hb1).trans hb2); have hG12 := hb2.cell hG1; have hG22 := hb2.cell hG2; have hP12 := hb2.cell hP1; have hP22 := hb2.cell hP2)
        | (go_at_call 19; (with_reducible refine (walks_law g p tn A A1 A2 A3 _ c _ c1 _ c2 _ c3 _ (HW2.out.re HA.out) (HW2.out.ri H1.out) (HW2.out.ri H2.out) (HW2.out.rl H3.out) hs30 HS4.out).mono ?_); rintro e w3 ⟨⟨u3, rfl, hu3⟩, hb3⟩; rw [if_pos H0.out] at hu3; obtain ⟨us, hpu, hwk, hOW⟩ := hu3; obtain ⟨A4, c4, hv4, hc4⟩ := hOW.shape; subst hv4; have HUS := Bx.mk (And.intro hpu hwk); have HOW := Bx.mk hOW; clear hpu hwk hOW; have HB3 := Bx.mk (BB.mk hb3); have HW3 := Bx.mk (HW2.out.trans HB3.out); have hG13 := HB3.out.cell hG12; have hG23 := HB3.out.cell hG22; have hP13 := HB3.out.cell hP12; have hP23 := HB3.out.cell hP22)
        | (go_at_call 20; (with_reducible refine (key_law g p tn d A A1 A2 A3 _ c _ c1 _ c2 _ c3 _ (HW3.out.re HA.out) (HW3.out.ri H1.out) (HW3.out.ri H2.out) (HW3.out.rl H3.out) hs30 HS4.out).mono ?_); rintro e w4 ⟨⟨k4, b4, rfl, hk4⟩, hb4⟩; rw [if_pos H0.out] at hk4; obtain ⟨vs, hpv, hwv, hkv⟩ := hk4; have HVS := Bx.mk (And.intro hpv (And.intro hwv hkv)); clear hpv hwv hkv; have HB4 := Bx.mk hb4; have HW4 := Bx.mk (HW3.out.trans hb4); have hG14 := hb4.cell hG13; have hG24 := hb4.cell hG23; have hP14 := hb4.cell hP13; have hP24 := hb4.cell hP23)
        | (go_at_call 14; (with_reducible refine (right6_any g p tn A A1 A2 A3 c c1 c2 c3 _ (HW4.out.re HA.out) (HW4.out.ri H1.out) (HW4.out.ri H2.out) (HW4.out.rl H3.out)).mono ?_); rintro e w5 ⟨rfl, hb5⟩; rw [H0.out]; have HB5 := Bx.mk hb5; have HW5 := Bx.mk (HW4.out.trans hb5); have hG15 := hb5.cell hG14; have hG25 := hb5.cell hG24; have hP15 := hb5.cell hP14; have hP25 := hb5.cell hP24)
        | (go_at_call 21; (with_reducible refine (walks7_any g p tn H0.out A A1 A2 A3 c c1 c2 c3 _ (HW5.out.re HA.out) (HW5.out.ri H1.out) (HW5.out.ri H2.out) (HW5.out.rl H3.out)).mono ?_); rintro e w6 ⟨⟨u6, rfl, hu6⟩, hb6⟩; obtain ⟨A6, c6, hv6, hc6⟩ := hu6.shape; subst hv6; have HOW6 := Bx.mk hu6; have HB6 := Bx.mk (BB.mk hb6); have HD := Bx.mk (doc_eq H0.out HUS.out.1 HUS.out.2); rw [← HD.out] at HOW6; rw [← HD.out]; clear hu6)
        | fail)
      have hul : us.length ≤ 3072 := by have := HUS.out.2.few; have h2 := hdl.out; rw [dartsAll_len] at this; omega
      have HKV : Bx ((k4, b4) = keyF d us) := ⟨by have h1 := doc_eq H0.out HUS.out.1 HUS.out.2; have h2 := doc_eq H0.out HVS.out.1 HVS.out.2.1; rw [h1, ← h2]; exact HVS.out.2.2⟩
      have HOW3 := Bx.mk (HOW.out.below (HB4.out.trans (HB5.out.trans HB6.out)).b)
      have HW6 := Bx.mk (HW5.out.trans HB6.out)
      clear hG1 hG2 hP1 hP2 hG12 hG22 hP12 hP22 hG13 hG23 hP13 hP23 hG14 hG24 hP14 hP24 hG15 hG25 hP15 hP25 hb1 hb2 hb3 hb4 hb5 hb6
      go_loopw [15] (fun iv wr => ∃ k : Nat, k ≤ us.length ∧ iv = .int .i64 k ∧ BB w6 wr) (fun iv _ => us.length - (intOf iv).toNat)
      case atStart => exact ⟨0, Nat.zero_le _, rfl, BB.refl _⟩
      case round =>
        rename World => wi
        obtain ⟨k, hk, rfl, HBi⟩ := hrel
        by_cases hlt : k < us.length
        · obtain ⟨g5, cap5, ⟨kq, aq, mq, cq⟩, hv5, -, -, hk1, hk2, hwk1, hmq, hrq, -⟩ := HOW3.out.get hlt
          obtain ⟨g6, cap6, ⟨kp, ap, mp, cp⟩, hv6, -, -, hp1, hp2, hwp1, hmp, hrp, -⟩ := HOW6.out.get hlt
          dsimp only at hk1 hk2 hwk1 hmq hrq hp1 hp2 hwp1 hmp hrp
          cases hv5
          cases hv6
          generalize us[k] = u at *
          obtain ⟨key, ds⟩ := u
          dsimp only at hwk1 hrq hwp1 hrp
          rw [hwk1] at hk1
          rw [hwp1] at hp1
          have HBD : BB w6 wi.drew := HBi.drawn 1
          have HT : Bx (Calls Tryz.prog 16 #[.slice aq mq cq, .slice ap mp cp] wi.drew fun e w' => e = .returned (.bool true) ∧ BB wi.drew w') := ⟨by
            have := equal4_any ds ds aq ap mq cq mp cp wi.drew (HBD.ri hrq) (HBD.ri hrp)
            rw [show decide (ds = ds) = true by simp] at this
            exact this⟩
          have hd0 : wi.drew.cell? ⟨g5, k * 2, none⟩ = some (.int .i64 key) := HBD.cell hk1
          have hd1 : wi.drew.cell? ⟨g5, k * 2 + 1, none⟩ = some (.slice aq mq cq) := HBD.cell hk2
          have hd2 : wi.drew.cell? ⟨g6, k * 2, none⟩ = some (.int .i64 key) := HBD.cell hp1
          have hd3 : wi.drew.cell? ⟨g6, k * 2 + 1, none⟩ = some (.slice ap mp cp) := HBD.cell hp2
          have hkne : (key != key) = false := by simp
          have HBDB := Bx.mk HBD
          clear hrq hrp hk1 hk2 hp1 hp2 hwk1 hwp1 HBD
          go_wp2
          go_region_held3 (fun w' => w'.cell? ⟨g5, k * 2, none⟩ = some (.int .i64 key) ∧ w'.cell? ⟨g5, k * 2 + 1, none⟩ = some (.slice aq mq cq) ∧ w'.cell? ⟨g6, k * 2, none⟩ = some (.int .i64 key) ∧ w'.cell? ⟨g6, k * 2 + 1, none⟩ = some (.slice ap mp cp))
            (first | exact ⟨hd0, hd1, hd2, hd3⟩ | exact ⟨he0, he1, he2, he3⟩ | fail)
            (first
              | (go_simp; go_at_call 16; (with_reducible refine HT.out.mono ?_); rintro e w7 ⟨rfl, hb7⟩; have he0 := hb7.cell hd0; have he1 := hb7.cell hd1; have he2 := hb7.cell hd2; have he3 := hb7.cell hd3)
              | fail)
          all_goals
            go_wp2
            go_roundw
            case rel => exact ⟨k + 1, hlt, by go_num, HBDB.out.trans hb7⟩
            case measure => simp [intOf]; omega
        · have hb4 : (b4 == b4) = true := by simp
          have hk4 : (k4 == k4) = true := by simp
          have HK1 : Bx ((keyF d us).1 = k4 ∧ (keyF d us).2 = b4) := ⟨by rw [← HKV.out]; exact ⟨rfl, rfl⟩⟩
          go_wp2_with (go_at_call 22; (with_reducible refine (key7_any us d _ _ _ (HOW6.out.below HBi.b) (by omega)).mono ?_); rintro e w8 ⟨rfl, rfl⟩; rw [HK1.out.1, HK1.out.2])
          go_ret
          exact ⟨rfl, HW6.out.trans HBi⟩
end Go.Proofs.YtefhmlgepnlaoaaGreat
