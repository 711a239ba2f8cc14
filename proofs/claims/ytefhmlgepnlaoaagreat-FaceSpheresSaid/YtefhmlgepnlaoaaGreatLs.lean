/- Walks: the law FaceSpheres. -/
import Derived.Test.YtefhmlgepnlaoaaGreatAe
import Derived.Test.YtefhmlgepnlaoaaGreatEr
set_option linter.unusedVariables false
set_option linter.unusedSimpArgs false
namespace Go.Proofs.YtefhmlgepnlaoaaGreat
open Go.RowKit

theorem small6_oks {g : Gr} {p : Pt} {tn : List (List Int)} (h : g.small6 p tn = true) : tn.length ≤ 100 ∧ ∀ l ∈ tn, l.length ≤ 200 := by
  unfold Gr.small6 at h
  simp only [Bool.and_eq_true, decide_eq_true_eq, List.all_eq_true] at h
  exact ⟨h.2.1, h.2.2⟩
set_option maxHeartbeats 8000000 in
theorem faceSpheres_any (g : Gr) (p : Pt) (tn : List (List Int)) (A A1 A2 A3 : Option Addr) (c c1 c2 c3 : Nat) (w : World) (hA : RE w A g.E.length g.E) (h1 : RI w A1 p.V.length p.V) (h2 : RI w A2 p.E.length p.E) (h3 : RL w A3 tn.length tn) :
    Calls Tryz.prog 3 #[.agg #[.int .i64 g.N, .slice A g.E.length c], .agg #[.slice A1 p.V.length c1, .slice A2 p.E.length c2], .slice A3 tn.length c3] w fun e w' => e = .returned (.bool true) ∧ BB w w' := by
  have HA := Bx.mk hA
  have H1 := Bx.mk h1
  have H2 := Bx.mk h2
  have H3 := Bx.mk h3
  have hle3 := h3.le
  clear hA h1 h2 h3
  have BA := Bx.mk (((BB.refl w).al (.cells #[.int .i64 g.N, .slice A g.E.length c] 24)).al (.cells #[.slice A1 p.V.length c1, .slice A2 p.E.length c2] 27))
  have hG1 := box_cell1 w #[.int .i64 g.N, .slice A g.E.length c] 24 (0, 0) (.cells #[.slice A1 p.V.length c1, .slice A2 p.E.length c2] 27) 0
  have hG2 := box_cell1 w #[.int .i64 g.N, .slice A g.E.length c] 24 (0, 0) (.cells #[.slice A1 p.V.length c1, .slice A2 p.E.length c2] 27) 1
  have hP1 := box_cell2 w #[.slice A1 p.V.length c1, .slice A2 p.E.length c2] 27 (0, 0) (.cells #[.int .i64 g.N, .slice A g.E.length c] 24) 0
  have hP2 := box_cell2 w #[.slice A1 p.V.length c1, .slice A2 p.E.length c2] 27 (0, 0) (.cells #[.int .i64 g.N, .slice A g.E.length c] 24) 1
  have HB := Bx.mk (And.intro hG1 (And.intro hG2 (And.intro hP1 hP2)))
  clear hG1 hG2 hP1 hP2
  cases hsm : g.small6 p tn with
  | false =>
    have HS := Bx.mk hsm
    clear hsm
    go_enter Tryz.func3, Tryz.ntmps3
    go_wp2_with (first
      | (go_at_call 11; first
        | ((with_reducible refine (awake_any ((w.alloc (.cells #[.int .i64 g.N, .slice A g.E.length c] 24)).alloc (.cells #[.slice A1 p.V.length c1, .slice A2 p.E.length c2] 27))).mono ?_); rintro e w1 ⟨rfl, hb1⟩; have hG1 := hb1.cell HB.out.1; have hG2 := hb1.cell HB.out.2.1; have hP1 := hb1.cell HB.out.2.2.1; have hP2 := hb1.cell HB.out.2.2.2)
        | ((with_reducible refine (awake_any _).mono ?_); rintro e w3 ⟨rfl, hb3⟩)
        | fail)
      | (go_at_call 12; (with_reducible refine (small6_any g p tn A A1 A2 A3 c c1 c2 c3 _ ((BA.out.trans hb1).rl H3.out)).mono ?_); rintro e w2 ⟨rfl, hb2⟩; rw [show smallI (g.small6 p tn) = 0 by rw [HS.out]; rfl])
      | fail)
    go_ret
    exact ⟨rfl, (BA.out.trans hb1).trans (hb2.trans hb3)⟩
  | true =>
    have HS := Bx.mk hsm
    obtain ⟨hs3, hs4⟩ := small6_oks hsm
    have hs30 : tn.length < 1099511627776 := by omega
    have HS4 : Bx (∀ l ∈ tn, l.length < 1099511627776) := ⟨fun l hl => by have := hs4 l hl; omega⟩
    clear hsm hs4
    by_cases h0 : g.rotaErr p tn = 0
    case neg =>
      have h0b : (g.rotaErr p tn != 0) = true := by simp [h0]
      have H0 := Bx.mk h0
      clear h0
      go_enter Tryz.func3, Tryz.ntmps3
      go_wp2_with (first
        | (go_at_call 11; (with_reducible refine (awake_any ((w.alloc (.cells #[.int .i64 g.N, .slice A g.E.length c] 24)).alloc (.cells #[.slice A1 p.V.length c1, .slice A2 p.E.length c2] 27))).mono ?_); rintro e w1 ⟨rfl, hb1⟩; have hG1 := hb1.cell HB.out.1; have hG2 := hb1.cell HB.out.2.1; have hP1 := hb1.cell HB.out.2.2.1; have hP2 := hb1.cell HB.out.2.2.2)
        | (go_at_call 12; (with_reducible refine (small6_any g p tn A A1 A2 A3 c c1 c2 c3 _ ((BA.out.trans hb1).rl H3.out)).mono ?_); rintro e w2 ⟨rfl, hb2⟩; rw [show smallI (g.small6 p tn) = 1 by rw [HS.out]; rfl]; have HW2 := Bx.mk ((BA.out.trans hb1).trans hb2); have hG12 := hb2.cell hG1; have hG22 := hb2.cell hG2; have hP12 := hb2.cell hP1; have hP22 := hb2.cell hP2)
        | (go_at_call 13; (with_reducible refine (genus_law g p tn A A1 A2 A3 _ c _ c1 _ c2 _ c3 _ (HW2.out.re HA.out) (HW2.out.ri H1.out) (HW2.out.ri H2.out) (HW2.out.rl H3.out) hs30 HS4.out).mono ?_); rintro e w3 ⟨⟨u3, rfl, hu3⟩, hb3⟩; rw [if_neg H0.out] at hu3; subst hu3; have HB3 := Bx.mk (BB.mk hb3); have HW3 := Bx.mk (HW2.out.trans HB3.out); have hG13 := HB3.out.cell hG12; have hG23 := HB3.out.cell hG22; have hP13 := HB3.out.cell hP12; have hP23 := HB3.out.cell hP22)
        | (go_at_call 14; (with_reducible refine (right6_any g p tn A A1 A2 A3 c c1 c2 c3 _ (HW3.out.re HA.out) (HW3.out.ri H1.out) (HW3.out.ri H2.out) (HW3.out.rl H3.out)).mono ?_); rintro e w4 ⟨rfl, hb4⟩; have HB4 := Bx.mk hb4; have HW4 := Bx.mk (HW3.out.trans hb4); have hG14 := hb4.cell hG13; have hG24 := hb4.cell hG23; have hP14 := hb4.cell hP13; have hP24 := hb4.cell hP23)
        | (go_at_call 15; (with_reducible refine (sphere_law g p tn A A1 A2 A3 _ c _ c1 _ c2 _ c3 _ (HW4.out.re HA.out) (HW4.out.ri H1.out) (HW4.out.ri H2.out) (HW4.out.rl H3.out) hs30 HS4.out).mono ?_); rintro e w5 ⟨⟨b5, rfl, hu5⟩, hb5⟩; rw [if_neg H0.out] at hu5; subst hu5)
        | fail)
      go_ret
      exact ⟨rfl, HW4.out.call hb5⟩
    case pos =>
      have H0 := Bx.mk h0
      have hgl : (genusF g p (docW (nextD (tn.map firstR) (atF tn)) tn p)).length ≤ 1024 := by unfold genusF; rw [List.length_map]; have h1 := (pieces_ok (rotaErr_part h0).1).1; have h2 := (verts_len h0).1; omega
      obtain ⟨G, hG⟩ : ∃ G, Bx (genusF g p (docW (nextD (tn.map firstR) (atF tn)) tn p) = G) := ⟨_, ⟨rfl⟩⟩
      rw [hG.out] at hgl
      obtain ⟨b, hb⟩ : ∃ b, Bx ((!G.any (fun x => x != 0)) = b) := ⟨_, ⟨rfl⟩⟩
      have HS7 : Bx ((if g.rotaErr p tn = 0 then !(genusF g p (docW (nextD (tn.map firstR) (atF tn)) tn p)).any (fun x => x != 0) else false) = b) := ⟨by rw [if_pos h0, hG.out]; exact hb.out⟩
      have hbb : (b == b) = true := by simp
      clear h0
      go_enter Tryz.func3, Tryz.ntmps3
      go_wp2_with (first
        | (go_at_call 11; (with_reducible refine (awake_any ((w.alloc (.cells #[.int .i64 g.N, .slice A g.E.length c] 24)).alloc (.cells #[.slice A1 p.V.length c1, .slice A2 p.E.length c2] 27))).mono ?_); rintro e w1 ⟨rfl, hb1⟩; have hG1 := hb1.cell HB.out.1; have hG2 := hb1.cell HB.out.2.1; have hP1 := hb1.cell HB.out.2.2.1; have hP2 := hb1.cell HB.out.2.2.2)
        | (go_at_call 12; (with_reducible refine (small6_any g p tn A A1 A2 A3 c c1 c2 c3 _ ((BA.out.trans hb1).rl H3.out)).mono ?_); rintro e w2 ⟨rfl, hb2⟩; rw [show smallI (g.small6 p tn) = 1 by rw [HS.out]; rfl]; have HW2 := Bx.mk ((BA.out.trans hb1).trans hb2); have hG12 := hb2.cell hG1; have hG22 := hb2.cell hG2; have hP12 := hb2.cell hP1; have hP22 := hb2.cell hP2)
        | (go_at_call 13; (with_reducible refine (genus_law g p tn A A1 A2 A3 _ c _ c1 _ c2 _ c3 _ (HW2.out.re HA.out) (HW2.out.ri H1.out) (HW2.out.ri H2.out) (HW2.out.rl H3.out) hs30 HS4.out).mono ?_); rintro e w3 ⟨⟨u3, rfl, hu3⟩, hb3⟩; rw [if_pos H0.out] at hu3; obtain ⟨us, hpu, hwk, hOI⟩ := hu3; rw [doc_eq H0.out hpu hwk, hG.out] at hOI; obtain ⟨A5, c5, hv5, hc5, hr5, -⟩ := hOI.read (by omega); subst hv5; rw [H0.out]; have HR5 := Bx.mk hr5; clear hpu hwk hOI hr5; have HB3 := Bx.mk (BB.mk hb3); have HW3 := Bx.mk (HW2.out.trans HB3.out); have hG13 := HB3.out.cell hG12; have hG23 := HB3.out.cell hG22; have hP13 := HB3.out.cell hP12; have hP23 := HB3.out.cell hP22)
        | (go_at_call 14; (with_reducible refine (right6_any g p tn A A1 A2 A3 c c1 c2 c3 _ (HW3.out.re HA.out) (HW3.out.ri H1.out) (HW3.out.ri H2.out) (HW3.out.rl H3.out)).mono ?_); rintro e w4 ⟨rfl, hb4⟩; rw [H0.out]; have HB4 := Bx.mk hb4; have HW4 := Bx.mk (HW3.out.trans hb4); have hG14 := hb4.cell hG13; have hG24 := hb4.cell hG23; have hP14 := hb4.cell hP13; have hP24 := hb4.cell hP23)
        | fail)
      have HR54 := Bx.mk (HB4.out.ri HR5.out)
      have hbD : BB w4 w4.drew := (BB.refl w4).drawn 1
      have hd0 : w4.drew.cell? ⟨w.heap.size, 0, none⟩ = some (.int .i64 g.N) := hbD.cell hG14
      have hd1 : w4.drew.cell? ⟨w.heap.size, 1, none⟩ = some (.slice A g.E.length c) := hbD.cell hG24
      have hd2 : w4.drew.cell? ⟨w.heap.size + 1, 0, none⟩ = some (.slice A1 p.V.length c1) := hbD.cell hP14
      have hd3 : w4.drew.cell? ⟨w.heap.size + 1, 1, none⟩ = some (.slice A2 p.E.length c2) := hbD.cell hP24
      have HWD := Bx.mk (HW4.out.trans hbD)
      skip
      have HG7 := Bx.mk (genus7_any g p tn H0.out A A1 A2 A3 c c1 c2 c3 w4.drew (HWD.out.re HA.out) (HWD.out.ri H1.out) (HWD.out.ri H2.out) (HWD.out.rl H3.out))
      have HR5D := Bx.mk (hbD.ri HR54.out)
      clear hG1 hG2 hP1 hP2 hG12 hG22 hP12 hP22 hG13 hG23 hP13 hP23 hG14 hG24 hP14 hP24 hb1 hb2 hb3 hb4 hbD
      go_region_held3 (fun w' => w'.cell? ⟨w.heap.size, 0, none⟩ = some (.int .i64 g.N) ∧ w'.cell? ⟨w.heap.size, 1, none⟩ = some (.slice A g.E.length c) ∧ w'.cell? ⟨w.heap.size + 1, 0, none⟩ = some (.slice A1 p.V.length c1) ∧ w'.cell? ⟨w.heap.size + 1, 1, none⟩ = some (.slice A2 p.E.length c2))
        (first | exact ⟨hd0, hd1, hd2, hd3⟩ | exact ⟨hd05, hd15, hd25, hd35⟩ | exact ⟨hd06, hd16, hd26, hd36⟩ | exact ⟨hd07, hd17, hd27, hd37⟩ | exact ⟨hd08, hd18, hd28, hd38⟩ | fail)
        (first
          | (go_simp; go_at_call 17; (refine HG7.out.mono ?_); rintro e w5 ⟨⟨u5, rfl, hu5⟩, hb5⟩; rw [hG.out] at hu5; obtain ⟨A7, c7, hv7, hc7, hr7, -⟩ := hu5.read (by omega); subst hv7; have HR7 := Bx.mk hr7; have HB5 := Bx.mk (BB.mk hb5); have hd05 := HB5.out.cell hd0; have hd15 := HB5.out.cell hd1; have hd25 := HB5.out.cell hd2; have hd35 := HB5.out.cell hd3; have HR55 := Bx.mk (HB5.out.ri HR5D.out); have HW5 := Bx.mk (HWD.out.trans HB5.out); clear hu5 hr7 hb5)
          | (go_simp; go_at_call 16; (refine (equal4_any G G A5 A7 _ c5 _ c7 _ HR55.out HR7.out).mono ?_); rintro e w6 ⟨rfl, hb6⟩; rw [show decide (G = G) = true from decide_eq_true rfl]; have HB6 := Bx.mk hb6; have hd06 := HB6.out.cell hd05; have hd16 := HB6.out.cell hd15; have hd26 := HB6.out.cell hd25; have hd36 := HB6.out.cell hd35; have HW6 := Bx.mk (HW5.out.trans hb6); clear hb6)
          | (go_simp; go_at_call 15; (refine (sphere_law g p tn A A1 A2 A3 _ c _ c1 _ c2 _ c3 _ (HW6.out.re HA.out) (HW6.out.ri H1.out) (HW6.out.ri H2.out) (HW6.out.rl H3.out) hs30 HS4.out).mono ?_); rintro e w7 ⟨⟨b7, rfl, hu7⟩, hb7⟩; rw [if_pos H0.out] at hu7; obtain ⟨us7, hpu7, hwk7, hB7⟩ := hu7; rw [doc_eq H0.out hpu7 hwk7, hG.out, hb.out] at hB7; subst hB7; have HB7 := Bx.mk (BB.mk hb7); have hd07 := HB7.out.cell hd06; have hd17 := HB7.out.cell hd16; have hd27 := HB7.out.cell hd26; have hd37 := HB7.out.cell hd36; have HW7 := Bx.mk (HW6.out.trans HB7.out); clear hpu7 hwk7 hb7)
          | (go_simp; go_at_call 18; (refine (sphere7_any g p tn A A1 A2 A3 c c1 c2 c3 _ (HW7.out.re HA.out) (HW7.out.ri H1.out) (HW7.out.ri H2.out) (HW7.out.rl H3.out)).mono ?_); rintro e w8 ⟨rfl, hb8⟩; rw [HS7.out]; have hd08 := hb8.cell hd07; have hd18 := hb8.cell hd17; have hd28 := hb8.cell hd27; have hd38 := hb8.cell hd37)
          | fail)
      all_goals
        go_wp2
        go_ret
        exact ⟨rfl, HW7.out.trans hb8⟩
end Go.Proofs.YtefhmlgepnlaoaaGreat
