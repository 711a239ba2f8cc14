/- Walks: the law FaceGenus. -/
import Derived.Test.YtefhmlgepnlaoaaAe
import Derived.Test.YtefhmlgepnlaoaaMi
import Derived.Test.YtefhmlgepnlaoaaPg
set_option linter.unusedVariables false
set_option linter.unusedSimpArgs false
namespace Go.Proofs.Ytefhmlgepnlaoaa
open Go.RowKit

theorem small6_okg {g : Gr} {p : Pt} {tn : List (List Int)} (h : g.small6 p tn = true) : tn.length ≤ 100 ∧ ∀ l ∈ tn, l.length ≤ 200 := by
  unfold Gr.small6 at h
  simp only [Bool.and_eq_true, decide_eq_true_eq, List.all_eq_true] at h
  exact ⟨h.2.1, h.2.2⟩
theorem mirT_eq (tn : List (List Int)) : (tn.map firstR).map mir1 = mirT tn := by
  unfold mirT
  rw [List.map_map]
  rfl
set_option maxHeartbeats 8000000 in
theorem faceGenus_any (g : Gr) (p : Pt) (tn : List (List Int)) (A A1 A2 A3 : Option Addr) (c c1 c2 c3 : Nat) (w : World) (hA : RE w A g.E.length g.E) (h1 : RI w A1 p.V.length p.V) (h2 : RI w A2 p.E.length p.E) (h3 : RL w A3 tn.length tn) :
    Calls Try.prog 5 #[.agg #[.int .i64 g.N, .slice A g.E.length c], .agg #[.slice A1 p.V.length c1, .slice A2 p.E.length c2], .slice A3 tn.length c3] w fun e w' => e = .returned (.bool true) ∧ BB w w' := by
  have HA := Bx.mk hA
  have H1 := Bx.mk h1
  have H2 := Bx.mk h2
  have H3 := Bx.mk h3
  have hle3 := h3.le
  clear hA h1 h2 h3
  have BA := Bx.mk (((BB.refl w).al (.cells #[.int .i64 g.N, .slice A g.E.length c] 24)).al (.cells #[.slice A1 p.V.length c1, .slice A2 p.E.length c2] 27))
  have hG1 := box_cell1 w #[.int .i64 g.N, .slice A g.E.length c] 24 (0, 0) (.cells #[.slice A1 p.V.length c1, .slice A2 p.E.length c2] 27) 0
  have hG2 := box_cell1 w #[.int .i64 g.N, .slice A g.E.length c] 24 (0, 0) (.cells #[.slice A1 p.V.length c1, .slice A2 p.E.length c2] 27) 1
  have hP1 := box_cell2 w #[.slice A1 p.V.length c1, .slice A2 p.E.length c2] 27 (0, 0) (.cells #[.int .i64 g.N, .slice A g.E.length c] 24) 0
  have hP2 := box_cell2 w #[.slice A1 p.V.length c1, .slice A2 p.E.length c2] 27 (0, 0) (.cells #[.int .i64 g.N, .slice A g.E.length c] 24) 1
  have HB := Bx.mk (And.intro hG1 (And.intro hG2 (And.intro hP1 hP2)))
  clear hG1 hG2 hP1 hP2
  cases hsm : g.small6 p tn with
  | false =>
    have HS := Bx.mk hsm
    clear hsm
    go_enter Try.func5, Try.ntmps5
    go_wp2_with (first
      | (go_at_call 6; first
        | ((with_reducible refine (awake_any ((w.alloc (.cells #[.int .i64 g.N, .slice A g.E.length c] 24)).alloc (.cells #[.slice A1 p.V.length c1, .slice A2 p.E.length c2] 27))).mono ?_); rintro e w1 ⟨rfl, hb1⟩; have hG1 := hb1.cell HB.out.1; have hG2 := hb1.cell HB.out.2.1; have hP1 := hb1.cell HB.out.2.2.1; have hP2 := hb1.cell HB.out.2.2.2)
        | ((with_reducible refine (awake_any _).mono ?_); rintro e w3 ⟨rfl, hb3⟩)
        | fail)
      | (go_at_call 7; (with_reducible refine (small6_any g p tn A A1 A2 A3 c c1 c2 c3 _ ((BA.out.trans hb1).rl H3.out)).mono ?_); rintro e w2 ⟨rfl, hb2⟩; rw [show smallI (g.small6 p tn) = 0 by rw [HS.out]; rfl])
      | fail)
    go_ret
    exact ⟨rfl, (BA.out.trans hb1).trans (hb2.trans hb3)⟩
  | true =>
    have HS := Bx.mk hsm
    obtain ⟨hs3, hs4⟩ := small6_okg hsm
    have hs30 : tn.length < 1099511627776 := by omega
    have HS4 : Bx (∀ l ∈ tn, l.length < 1099511627776) := ⟨fun l hl => by have := hs4 l hl; omega⟩
    clear hsm hs4
    by_cases h0 : g.rotaErr p tn = 0
    case neg =>
      have h0b : (g.rotaErr p tn != 0) = true := by simp [h0]
      have H0 := Bx.mk h0
      clear h0
      go_enter Try.func5, Try.ntmps5
      go_wp2_with (first
        | (go_at_call 6; (with_reducible refine (awake_any ((w.alloc (.cells #[.int .i64 g.N, .slice A g.E.length c] 24)).alloc (.cells #[.slice A1 p.V.length c1, .slice A2 p.E.length c2] 27))).mono ?_); rintro e w1 ⟨rfl, hb1⟩; have hG1 := hb1.cell HB.out.1; have hG2 := hb1.cell HB.out.2.1; have hP1 := hb1.cell HB.out.2.2.1; have hP2 := hb1.cell HB.out.2.2.2)
        | (go_at_call 7; (with_reducible refine (small6_any g p tn A A1 A2 A3 c c1 c2 c3 _ ((BA.out.trans hb1).rl H3.out)).mono ?_); rintro e w2 ⟨rfl, hb2⟩; rw [show smallI (g.small6 p tn) = 1 by rw [HS.out]; rfl]; have HW2 := Bx.mk ((BA.out.trans hb1).trans hb2); have hG12 := hb2.cell hG1; have hG22 := hb2.cell hG2; have hP12 := hb2.cell hP1; have hP22 := hb2.cell hP2)
        | (go_at_call 11; (with_reducible refine (genus_law g p tn A A1 A2 A3 _ c _ c1 _ c2 _ c3 _ (HW2.out.re HA.out) (HW2.out.ri H1.out) (HW2.out.ri H2.out) (HW2.out.rl H3.out) hs30 HS4.out).mono ?_); rintro e w3 ⟨⟨u3, rfl, hu3⟩, hb3⟩; rw [if_neg H0.out] at hu3; subst hu3; have HB3 := Bx.mk (BB.mk hb3); have HW3 := Bx.mk (HW2.out.trans HB3.out); have hG13 := HB3.out.cell hG12; have hG23 := HB3.out.cell hG22; have hP13 := HB3.out.cell hP12; have hP23 := HB3.out.cell hP22)
        | (go_at_call 12; (with_reducible refine (rotaNew_any g p tn A A1 A2 A3 _ c _ c1 _ c2 _ c3 _ (HW3.out.re HA.out) (HW3.out.ri H1.out) (HW3.out.ri H2.out) (HW3.out.rl H3.out) hs30 HS4.out).mono ?_); rintro e w4 ⟨⟨u4, rfl, hu4⟩, hb4⟩; rw [if_neg H0.out] at hu4; subst hu4; have HB4 := Bx.mk (BB.mk hb4); have HW4 := Bx.mk (HW3.out.trans HB4.out); have hG14 := HB4.out.cell hG13; have hG24 := HB4.out.cell hG23; have hP14 := HB4.out.cell hP13; have hP24 := HB4.out.cell hP23)
        | (go_at_call 13; (with_reducible refine (sphere_law g p tn A A1 A2 A3 _ c _ c1 _ c2 _ c3 _ (HW4.out.re HA.out) (HW4.out.ri H1.out) (HW4.out.ri H2.out) (HW4.out.rl H3.out) hs30 HS4.out).mono ?_); rintro e w5 ⟨⟨b5, rfl, hu5⟩, hb5⟩; rw [if_neg H0.out] at hu5; subst hu5)
        | fail)
      go_ret
      exact ⟨rfl, HW4.out.call hb5⟩
    case pos =>
      have H0 := Bx.mk h0
      have H0' := Bx.mk (mirT_right h0)
      have HDL := Bx.mk (verts_len h0)
      have HMIR := Bx.mk (mir_same h0)
      have HPOS := Bx.mk (genus_pos h0)
      have HLT := Bx.mk (turns_of h0).at_lt
      have hgl : Bx ((genusF g p (docW (nextD (tn.map firstR) (atF tn)) tn p)).length ≤ 1024) := ⟨by unfold genusF; rw [List.length_map]; have h1 := (pieces_ok (rotaErr_part h0).1).1; have h2 := (verts_len h0).1; omega⟩
      obtain ⟨mt, hmt⟩ : ∃ mt, Bx (mirT tn = mt) := ⟨_, ⟨rfl⟩⟩
      have hml : Bx (mt.length < 1099511627776 ∧ ∀ l ∈ mt, l.length < 1099511627776) := ⟨by
        rw [← hmt.out]
        refine ⟨by rw [mirT_len]; exact hs30, fun l hl => ?_⟩
        unfold mirT at hl
        obtain ⟨l0, hl0, rfl⟩ := List.mem_map.1 hl
        rw [(mirR_perm l0).length_eq]
        exact HS4.out l0 hl0⟩
      rw [hmt.out] at H0' HMIR
      obtain ⟨D, hD⟩ : ∃ D, Bx (docW (nextD (tn.map firstR) (atF tn)) tn p = D) := ⟨_, ⟨rfl⟩⟩
      obtain ⟨D', hD'⟩ : ∃ D', Bx (docW (nextD (mt.map firstR) (atF mt)) mt p = D') := ⟨_, ⟨rfl⟩⟩
      rw [hD.out, hD'.out] at HMIR
      rw [hD.out] at HPOS hgl
      obtain ⟨G, hG⟩ : ∃ G, Bx (genusF g p D = G) := ⟨_, ⟨rfl⟩⟩
      rw [hG.out] at HPOS hgl HMIR
      have hglo := hgl.out
      clear h0
      go_enter Try.func5, Try.ntmps5
      go_wp2_with (first
        | (go_at_call 6; (with_reducible refine (awake_any ((w.alloc (.cells #[.int .i64 g.N, .slice A g.E.length c] 24)).alloc (.cells #[.slice A1 p.V.length c1, .slice A2 p.E.length c2] 27))).mono ?_); rintro e w1 ⟨rfl, hb1⟩; have hG1 := hb1.cell HB.out.1; have hG2 := hb1.cell HB.out.2.1; have hP1 := hb1.cell HB.out.2.2.1; have hP2 := hb1.cell HB.out.2.2.2)
        | (go_at_call 7; (with_reducible refine (small6_any g p tn A A1 A2 A3 c c1 c2 c3 _ ((BA.out.trans hb1).rl H3.out)).mono ?_); rintro e w2 ⟨rfl, hb2⟩; rw [show smallI (g.small6 p tn) = 1 by rw [HS.out]; rfl]; have HW2 := Bx.mk ((BA.out.trans hb1).trans hb2); have hG12 := hb2.cell hG1; have hG22 := hb2.cell hG2; have hP12 := hb2.cell hP1; have hP22 := hb2.cell hP2)
        | (go_at_call 11; first
          | ((with_reducible refine (genus_law g p tn A A1 A2 A3 _ c _ c1 _ c2 _ c3 _ (HW2.out.re HA.out) (HW2.out.ri H1.out) (HW2.out.ri H2.out) (HW2.out.rl H3.out) hs30 HS4.out).mono ?_); rintro e w3 ⟨⟨u3, rfl, hu3⟩, hb3⟩; rw [if_pos H0.out] at hu3; obtain ⟨us, hpu, hwk, hOI⟩ := hu3; rw [doc_eq H0.out hpu hwk, hD.out, hG.out] at hOI; obtain ⟨A5, c5, hv5, hc5, hr5, -⟩ := hOI.read (by omega); subst hv5; rw [H0.out]; have HR5 := Bx.mk hr5; clear hpu hwk hOI hr5; have HB3 := Bx.mk (BB.mk hb3); have HW3 := Bx.mk (HW2.out.trans HB3.out); have hG13 := HB3.out.cell hG12; have hG23 := HB3.out.cell hG22; have hP13 := HB3.out.cell hP12; have hP23 := HB3.out.cell hP22)
          | ((with_reducible refine (genus_law g p mt A A1 A2 A6 _ c _ c1 _ c2 _ c6 _ (HW6.out.re HA.out) (HW6.out.ri H1.out) (HW6.out.ri H2.out) HR6.out hml.out.1 hml.out.2).mono ?_); rintro e w7 ⟨⟨u7, rfl, hu7⟩, hb7⟩; rw [if_pos H0'.out] at hu7; obtain ⟨us7, hpu7, hwk7, hOI7⟩ := hu7; rw [doc_eq H0'.out hpu7 hwk7, hD'.out, HMIR.out.1] at hOI7; obtain ⟨A7, c7, hv7, hc7, hr7, -⟩ := hOI7.read (by omega); subst hv7; rw [H0'.out]; have HR7 := Bx.mk hr7; have HB7 := Bx.mk (BB.mk hb7); have HW7 := Bx.mk (HW6.out.trans HB7.out); have hG17 := HB7.out.cell hG16; have hG27 := HB7.out.cell hG26; have hP17 := HB7.out.cell hP16; have hP27 := HB7.out.cell hP26; clear hpu7 hwk7 hOI7 hr7)
          | fail)
        | (go_at_call 12; (with_reducible refine (rotaNew_any g p tn A A1 A2 A3 _ c _ c1 _ c2 _ c3 _ (HW3.out.re HA.out) (HW3.out.ri H1.out) (HW3.out.ri H2.out) (HW3.out.rl H3.out) hs30 HS4.out).mono ?_); rintro e w4 ⟨⟨u4, rfl, hu4⟩, hb4⟩; rw [if_pos H0.out] at hu4; rw [H0.out]; have HX4 : Bx (RotaX w4 w3.heap.size u4 g p (tn.map firstR) (atF tn)) := ⟨⟨⟨_, hu4, fun d => atN_lookup tn d tn.length⟩, fun d v h => (by rw [List.length_map]; exact HLT.out d v h), ⟨(by rw [List.length_map]; exact hs30), fun l hl => (by obtain ⟨l', hl', rfl⟩ := List.mem_map.1 hl; rw [firstR_len]; exact HS4.out _ hl')⟩⟩⟩; clear hu4; have HB4 := Bx.mk (BB.mk hb4); have HW4 := Bx.mk (HW3.out.trans HB4.out); have hG14 := HB4.out.cell hG13; have hG24 := HB4.out.cell hG23; have hP14 := HB4.out.cell hP13; have hP24 := HB4.out.cell hP23)
        | (go_at_call 14; (with_reducible refine (mirror_any g p (tn.map firstR) (atF tn) u4 _ HX4.out).mono ?_); rintro e w5 ⟨⟨u5, rfl, hu5⟩, hb5⟩; have HX5 := Bx.mk hu5; have HB5 := Bx.mk (BB.mk hb5); have HW5 := Bx.mk (HW4.out.trans HB5.out); have hG15 := HB5.out.cell hG14; have hG25 := HB5.out.cell hG24; have hP15 := HB5.out.cell hP14; have hP25 := HB5.out.cell hP24; clear hu5)
        | (go_at_call 15; (with_reducible refine (turn_any g p ((tn.map firstR).map mir1) (atF tn) u5 _ HX5.out).mono ?_); rintro e w6 ⟨⟨u6, rfl, hu6⟩, hb6⟩; rw [mirT_eq, hmt.out] at hu6; obtain ⟨A6, c6, hv6, hc6, hr6, -⟩ := hu6.read (by have := hml.out.1; omega); subst hv6; have HR6 := Bx.mk hr6; have HB6 := Bx.mk (BB.mk hb6); have HW6 := Bx.mk (HW5.out.trans HB6.out); have hG16 := HB6.out.cell hG15; have hG26 := HB6.out.cell hG25; have hP16 := HB6.out.cell hP15; have hP26 := HB6.out.cell hP25; clear hu6 hr6)
        | (go_at_call 8; first
          | ((with_reducible refine (walks_law g p tn A A1 A2 A3 _ c _ c1 _ c2 _ c3 _ (HW7.out.re HA.out) (HW7.out.ri H1.out) (HW7.out.ri H2.out) (HW7.out.rl H3.out) hs30 HS4.out).mono ?_); rintro e w8 ⟨⟨u8, rfl, hu8⟩, hb8⟩; rw [if_pos H0.out] at hu8; obtain ⟨us8, hpu8, hwk8, hOW8⟩ := hu8; rw [doc_eq H0.out hpu8 hwk8, hD.out] at hOW8; obtain ⟨A8, c8, hv8, hc8⟩ := hOW8.shape; subst hv8; rw [H0.out]; have HB8 := Bx.mk (BB.mk hb8); have HW8 := Bx.mk (HW7.out.trans HB8.out); have hG18 := HB8.out.cell hG17; have hG28 := HB8.out.cell hG27; have hP18 := HB8.out.cell hP17; have hP28 := HB8.out.cell hP27; clear hpu8 hwk8 hOW8)
          | ((with_reducible refine (walks_law g p mt A A1 A2 A6 _ c _ c1 _ c2 _ c6 _ (HW8.out.re HA.out) (HW8.out.ri H1.out) (HW8.out.ri H2.out) ((HB7.out.trans HB8.out).rl HR6.out) hml.out.1 hml.out.2).mono ?_); rintro e w9 ⟨⟨u9, rfl, hu9⟩, hb9⟩; rw [if_pos H0'.out] at hu9; obtain ⟨us9, hpu9, hwk9, hOW9⟩ := hu9; rw [doc_eq H0'.out hpu9 hwk9, hD'.out] at hOW9; obtain ⟨A9, c9, hv9, hc9⟩ := hOW9.shape; rw [HMIR.out.2] at hv9; subst hv9; rw [H0'.out]; have HB9 := Bx.mk (BB.mk hb9); have HW9 := Bx.mk (HW8.out.trans HB9.out); clear hpu9 hwk9 hOW9)
          | fail)
        | fail)
      clear hG1 hG2 hP1 hP2 hG12 hG22 hP12 hP22 hG13 hG23 hP13 hP23 hG14 hG24 hP14 hP24 hG15 hG25 hP15 hP25 hG16 hG26 hP16 hP26 hG17 hG27 hP17 hP27 hG18 hG28 hP18 hP28 hb1 hb2 hb3 hb4 hb5 hb6 hb7 hb8 hb9
      have HR59 := Bx.mk ((HB4.out.trans (HB5.out.trans (HB6.out.trans (HB7.out.trans (HB8.out.trans HB9.out))))).ri HR5.out)
      have HR79 := Bx.mk ((HB8.out.trans HB9.out).ri HR7.out)
      go_loopw [18] (fun iv wr => ∃ k : Nat, k ≤ G.length ∧ iv = .int .i64 k ∧ w9 = wr) (fun iv _ => G.length - (intOf iv).toNat)
      case atStart => exact ⟨0, Nat.zero_le _, rfl, rfl⟩
      case round =>
        obtain ⟨k, hk, rfl, rfl⟩ := hrel
        by_cases hlt : k < G.length
        · obtain ⟨b5, off5, rfl, hcl⟩ := HR59.out.at (by omega)
          have hck := hcl k hlt
          have hpk := HPOS.out _ (gi_mem hlt)
          have hpk2 : ¬ gi G k < 0 := by omega
          clear hcl
          go_wp2
          go_roundw
          case rel => exact ⟨k + 1, hlt, by go_num, trivial⟩
          case measure => simp [intOf]; omega
        · have HEQ : Bx (decide (G = G) = true) := ⟨by simp⟩
          go_wp2_with (go_at_call 16; (with_reducible refine (equal4_any G G A5 A7 _ c5 _ c7 _ HR59.out HR79.out).mono ?_); rintro e w10 ⟨rfl, hb10⟩; rw [HEQ.out])
          go_ret
          exact ⟨rfl, HW9.out.trans hb10⟩
end Go.Proofs.Ytefhmlgepnlaoaa
