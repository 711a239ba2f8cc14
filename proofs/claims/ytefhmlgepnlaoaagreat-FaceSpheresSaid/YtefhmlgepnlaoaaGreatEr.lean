/- Walks: the document's Corner, Genus and Sphere (layer 7), of right turns. -/
import Derived.Test.YtefhmlgepnlaoaaGreatEo
import Derived.Test.YtefhmlgepnlaoaaGreatEl
import Derived.Test.YtefhmlgepnlaoaaGreatPc
set_option linter.unusedVariables false
set_option linter.unusedSimpArgs false
namespace Go.Proofs.YtefhmlgepnlaoaaGreat
open Go.RowKit

theorem wrap_near {x : Int} (h0 : -1048576 ≤ x) (h1 : x < 1048576) : IntKind.i64.wrap x = x := by
  simp [IntKind.wrap, IntKind.bits, IntKind.signed]
  omega
def cor7 (g : Gr) (key : Int) : Int := if key < 0 then -1 - key else tail4 g key.toNat
theorem corner7_any (g : Gr) (key : Int) (hk0 : -1048576 ≤ key) (hk1 : key < 1048576) (hd : 0 ≤ key → key.toNat / 2 < g.E.length) (A A1 : Option Addr) (n c n1 c1 : Nat) (w : World) (hA : RE w A n g.E) :
    Calls Tryz.prog 48 #[.agg #[.int .i64 g.N, .slice A n c], .agg #[.int .i64 key, .slice A1 n1 c1]] w fun e w' => e = .returned (.int .i64 (cor7 g key)) ∧ BB w w' := by
  have HA := Bx.mk hA
  have BA := Bx.mk (((BB.refl w).al (.cells #[.int .i64 g.N, .slice A n c] 24)).al (.cells #[.int .i64 key, .slice A1 n1 c1] 46))
  clear hA
  by_cases hn : key < 0
  · have HR : Bx (cor7 g key = -1 - key) := ⟨if_pos hn⟩
    go_enter Tryz.func48, Tryz.ntmps48
    go_wp2
    go_ret
    exact ⟨ret_int HR.out.symm, BA.out⟩
  · obtain ⟨d, rfl⟩ : ∃ d : Nat, key = (d : Int) := ⟨key.toNat, by omega⟩
    have HR : Bx (cor7 g ((d : Nat) : Int) = if d % 2 = 0 then (ge g.E (d / 2)).1 else (ge g.E (d / 2)).2) := ⟨by unfold cor7; rw [if_neg hn, Int.toNat_natCast]; rfl⟩
    have hd2 := hd (by omega)
    rw [Int.toNat_natCast] at hd2
    have HT := Bx.mk (tail4_any g d hd2 A n c _ (BA.out.re HA.out))
    rw [← HR.out] at HT
    generalize cor7 g ((d : Nat) : Int) = y at *
    clear hd
    go_enter Tryz.func48, Tryz.ntmps48
    go_wp2_with (go_at_call 94; (with_reducible refine HT.out.mono ?_); rintro e w5 ⟨rfl, hb5⟩)
    go_ret
    exact ⟨rfl, BA.out.trans hb5⟩
/-- A walk's corner is what the document's Corner answers. -/
theorem corner7_eq {g : Gr} {p : Pt} {tn : List (List Int)} (h0 : g.rotaErr p tn = 0) {u : Int × List Int} (hu : u ∈ docW (nextD (tn.map firstR) (atF tn)) tn p) :
    (-1048576 ≤ u.1 ∧ u.1 < 1048576 ∧ (0 ≤ u.1 → u.1.toNat / 2 < g.E.length)) ∧ cor7 g u.1 = cornerF g u := by
  have hr := (rotaErr_part h0).1
  rcases mem_docW.1 hu with ⟨v, hv, hl, rfl⟩ | ⟨d, hd, hl, rfl⟩
  · have h1 := verts_range h0 v hv
    rw [corner_lone h0 hv]
    refine ⟨⟨by dsimp only; omega, by dsimp only; omega, fun h => by dsimp only at h; omega⟩, ?_⟩
    show cor7 g (-1 - v) = v
    unfold cor7
    rw [if_pos (by omega)]
    omega
  · have hp := (turns_of h0).pos d hd
    obtain ⟨e, he, hde⟩ := mem_dartsAll'.1 hd
    have hE := edges_ok hr e he
    obtain ⟨o1, o2⟩ := orb_head h0 hd
    rw [corner_dart' h0 (orb_sub h0 hd) o1 o2]
    refine ⟨⟨by dsimp only; omega, by dsimp only; omega, fun _ => by dsimp only; omega⟩, ?_⟩
    show cor7 g d = tailD g d
    unfold cor7
    rw [if_neg (by omega), tail4_tailD, show ((d.toNat : Nat) : Int) = d by omega]
set_option maxRecDepth 8000 in
set_option maxHeartbeats 4000000 in
theorem genus7_any (g : Gr) (p : Pt) (tn : List (List Int)) (h0 : g.rotaErr p tn = 0) (A A1 A2 A3 : Option Addr) (c c1 c2 c3 : Nat) (w : World) (hA : RE w A g.E.length g.E) (h1 : RI w A1 p.V.length p.V) (h2 : RI w A2 p.E.length p.E) (h3 : RL w A3 tn.length tn) :
    Calls Tryz.prog 17 #[.agg #[.int .i64 g.N, .slice A g.E.length c], .agg #[.slice A1 p.V.length c1, .slice A2 p.E.length c2], .slice A3 tn.length c3] w fun e w' => (∃ u, e = .returned u ∧ OwnI w' w.heap.size u (genusF g p (docW (nextD (tn.map firstR) (atF tn)) tn p))) ∧ Below w.heap.size w w' := by
  have HA := Bx.mk hA
  have H1 := Bx.mk h1
  have H2 := Bx.mk h2
  have H3 := Bx.mk h3
  have H0 := Bx.mk h0
  have hr := Bx.mk (rotaErr_part h0).1
  have HPO := Bx.mk (pieces_ok (rotaErr_part h0).1)
  obtain ⟨hvl, hel⟩ := verts_len h0
  obtain ⟨D, hD⟩ : ∃ D, Bx (docW (nextD (tn.map firstR) (atF tn)) tn p = D) := ⟨_, ⟨rfl⟩⟩
  have HCO : Bx (∀ u ∈ D, (-1048576 ≤ u.1 ∧ u.1 < 1048576 ∧ (0 ≤ u.1 → u.1.toNat / 2 < g.E.length)) ∧ cor7 g u.1 = cornerF g u) := ⟨fun u hu => corner7_eq h0 (by rw [hD.out]; exact hu)⟩
  have HDL : Bx (D.length ≤ 4096) := ⟨by
    rw [← hD.out]
    unfold docW
    rw [List.length_append]
    have a := lonesF_len tn p.V.reverse
    have b := oneD_len (nextD (tn.map firstR) (atF tn)) (dartsAll p.E)
    rw [List.length_reverse] at a
    rw [dartsAll_len] at b
    omega⟩
  have hdl := HDL.out
  obtain ⟨PS, hPS⟩ : ∃ PS, Bx (piecesF g p = PS) := ⟨_, ⟨rfl⟩⟩
  rw [hPS.out] at HPO
  have hpl : PS.length ≤ 1024 := by have := HPO.out.1; omega
  have HGF : Bx (genusF g p D = PS.map (genusOf g D)) := ⟨by unfold genusF; rw [hPS.out]⟩
  rw [hD.out]
  clear hA h1 h2 h3 h0
  have BA := Bx.mk (((BB.refl w).al (.cells #[.int .i64 g.N, .slice A g.E.length c] 24)).al (.cells #[.slice A1 p.V.length c1, .slice A2 p.E.length c2] 27))
  have hG1 := box_cell1 w #[.int .i64 g.N, .slice A g.E.length c] 24 (0, 0) (.cells #[.slice A1 p.V.length c1, .slice A2 p.E.length c2] 27) 0
  have hG2 := box_cell1 w #[.int .i64 g.N, .slice A g.E.length c] 24 (0, 0) (.cells #[.slice A1 p.V.length c1, .slice A2 p.E.length c2] 27) 1
  have hP1 := box_cell2 w #[.slice A1 p.V.length c1, .slice A2 p.E.length c2] 27 (0, 0) (.cells #[.int .i64 g.N, .slice A g.E.length c] 24) 0
  have hP2 := box_cell2 w #[.slice A1 p.V.length c1, .slice A2 p.E.length c2] 27 (0, 0) (.cells #[.int .i64 g.N, .slice A g.E.length c] 24) 1
  have HB := Bx.mk (And.intro hG1 (And.intro hG2 (And.intro hP1 hP2)))
  clear hG1 hG2 hP1 hP2
  have hz0 : Bx ((((w.alloc (.cells #[.int .i64 g.N, .slice A g.E.length c] 24)).alloc (.cells #[.slice A1 p.V.length c1, .slice A2 p.E.length c2] 27))).heap.size = w.heap.size + 2) := ⟨by simp⟩
  go_enter Tryz.func17, Tryz.ntmps17
  go_wp2_with (first
    | (go_at_call 21; (with_reducible refine (walks7_any g p tn H0.out A A1 A2 A3 c c1 c2 c3 _ (BA.out.re HA.out) (BA.out.ri H1.out) (BA.out.ri H2.out) (BA.out.rl H3.out)).mono ?_); rintro e w1 ⟨⟨u1, rfl, hu1⟩, hb1⟩; rw [hD.out] at hu1; obtain ⟨A7, c7, hv7, hc7⟩ := hu1.shape; subst hv7; have HW := Bx.mk hu1; have HB1 := Bx.mk (BB.mk hb1); have hg1 := HB1.out.cell HB.out.1; have hg2 := HB1.out.cell HB.out.2.1; have hp1 := HB1.out.cell HB.out.2.2.1; have hp2 := HB1.out.cell HB.out.2.2.2; clear hu1 hb1)
    | (go_at_call 26; (with_reducible refine (pieces5_any g p hr.out A A1 A2 c c1 c2 _ ((BA.out.trans HB1.out).re HA.out) ((BA.out.trans HB1.out).ri H1.out) ((BA.out.trans HB1.out).ri H2.out)).mono ?_); rintro e w2 ⟨⟨u2, rfl, hu2⟩, hb2⟩; rw [hPS.out] at hu2; obtain ⟨A8, c8, hv8, hc8⟩ := hu2.shape; subst hv8; have HP := Bx.mk hu2; have HB2 := Bx.mk (HB1.out.trans (BB.mk hb2)); have HW2 := Bx.mk (HW.out.below hb2); have hz2 := HB2.out.size; rw [hz0.out] at hz2; clear hu2 hb2)
    | fail)
  clear hg1 hg2 hp1 hp2
  go_loopw [10, 9] (fun iv ov wr => ∃ k : Nat, k ≤ PS.length ∧ iv = .int .i64 k ∧ OwnI wr w2.heap.size ov ((PS.take k).map (genusOf g D)) ∧ BB w2 wr) (fun iv _ _ => PS.length - (intOf iv).toNat)
  case atStart => exact ⟨0, Nat.zero_le _, rfl, OwnI.nil _ _, BB.refl _⟩
  case round =>
    rename World => wo
    obtain ⟨k, hk, rfl, HO, HBo⟩ := hrel
    by_cases hlt : k < PS.length
    · obtain ⟨g8, cap8, ⟨⟨aV, nV, cV⟩, ⟨aE, nE, cE⟩⟩, hv8, -, -, hk1, hk2, ⟨⟨hmV, hrV, -⟩, ⟨hmE, hrE, -⟩⟩⟩ := HP.out.get hlt
      dsimp only at hk1 hk2 hmV hrV hmE hrE
      cases hv8
      have hxo := HPO.out.2 _ (List.getElem_mem hlt)
      have HTK : Bx ((PS.take (k + 1)).map (genusOf g D) = (PS.take k).map (genusOf g D) ++ [genusOf g D PS[k]]) := ⟨by rw [List.take_succ_eq_append_getElem hlt, List.map_append]; rfl⟩
      generalize PS[k] = x at *
      have hnV := Bx.mk hrV.len
      have hnE := Bx.mk hrE.len
      have hnV2 : nV ≤ 1024 := by have := hnV.out; omega
      have hnE2 : nE ≤ 1024 := by have := hnE.out; omega
      have HRV := Bx.mk hrV
      have HO1 := Bx.mk HO
      have hc1 := HBo.cell hk1
      have hc2 := HBo.cell hk2
      have HC1 := Bx.mk hk1
      obtain ⟨m1, hm1⟩ : ∃ m1 : Int, Bx (2 - (nV : Int) = m1) := ⟨_, ⟨rfl⟩⟩
      obtain ⟨m2, hm2⟩ : ∃ m2 : Int, Bx (m1 + (nE : Int) = m2) := ⟨_, ⟨rfl⟩⟩
      have hm2b : -1024 ≤ m2 ∧ m2 ≤ 1026 := by have := hm1.out; have := hm2.out; omega
      have hw1 : IntKind.i64.wrap (2 - (nV : Int)) = m1 := by rw [hm1.out]; exact wrap_near (by have := hm1.out; omega) (by have := hm1.out; omega)
      have hw2 : IntKind.i64.wrap (m1 + (nE : Int)) = m2 := by rw [hm2.out]; exact wrap_near (by omega) (by omega)
      clear hk1 hk2 hrV hrE HO hxo
      go_wp2
      go_quiet (fail)
      go_wp2
      clear hw1 hw2 hc1 hc2
      go_loopw [12, 11] (fun jv nv wi => ∃ (j f : Nat), j ≤ D.length ∧ jv = .int .i64 j ∧ nv = .int .i64 (m2 - (f : Int)) ∧ Bx (f = facesF g (D.take j) x.1) ∧ f ≤ j ∧ BB wo wi) (fun jv _ _ => D.length - (intOf jv).toNat)
      case atStart => exact ⟨0, 0, Nat.zero_le _, rfl, by simp, ⟨rfl⟩, Nat.le_refl _, (BB.refl _).drawn _⟩
      case round =>
        rename World => wi
        obtain ⟨j, f, hj, rfl, rfl, HF, hfj, HBi⟩ := hrel
        by_cases hjt : j < D.length
        · obtain ⟨g7, cap7, ⟨kq, aq, mq, cq⟩, hv7, -, -, hq1, hq2, hwq, -, -, -⟩ := HW2.out.get hjt
          dsimp only at hq1 hq2 hwq
          cases hv7
          have hco := HCO.out _ (List.getElem_mem hjt)
          have HFT := Bx.mk (facesF_take (g := g) (V := x.1) hjt)
          generalize D[j] = u at *
          obtain ⟨key, ds⟩ := u
          dsimp only at hwq hco
          rw [hwq] at hq1
          clear hwq
          obtain ⟨⟨ck0, ck1, ck2⟩, ck3⟩ := hco
          have HCC := Bx.mk (corner7_any g key ck0 ck1 ck2 A aq g.E.length c mq cq wi.drew ((BA.out.trans (HB2.out.trans (HBo.trans (HBi.drawn 1)))).re HA.out))
          rw [ck3] at HCC
          have hBD : BB w2 wi.drew := HBo.trans (HBi.drawn 1)
          have hd0 : wi.drew.cell? ⟨g8, k * 2, none⟩ = some (.slice aV nV cV) := hBD.cell HC1.out
          have hd1 : wi.drew.cell? ⟨w.heap.size, 0, none⟩ = some (.int .i64 g.N) := (HB2.out.trans hBD).cell HB.out.1
          have hd2 : wi.drew.cell? ⟨w.heap.size, 1, none⟩ = some (.slice A g.E.length c) := (HB2.out.trans hBD).cell HB.out.2.1
          have hd3 : wi.drew.cell? ⟨g7, j * 2, none⟩ = some (.int .i64 key) := hBD.cell hq1
          have hd4 : wi.drew.cell? ⟨g7, j * 2 + 1, none⟩ = some (.slice aq mq cq) := hBD.cell hq2
          have HRVi := Bx.mk (hBD.ri HRV.out)
          have HBDB := Bx.mk (HBi.drawn 1)
          generalize cornerF g (key, ds) = y at *
          clear hq1 hq2 ck0 ck1 ck2 ck3 hBD
          by_cases hin : y ∈ x.1
          · have HIN : Bx (decide (y ∈ x.1) = true) := ⟨by simp [hin]⟩
            clear hin
            go_wp2
            go_region_held3 (fun w' => w'.cell? ⟨g8, k * 2, none⟩ = some (.slice aV nV cV) ∧ w'.cell? ⟨w.heap.size, 0, none⟩ = some (.int .i64 g.N) ∧ w'.cell? ⟨w.heap.size, 1, none⟩ = some (.slice A g.E.length c) ∧ w'.cell? ⟨g7, j * 2, none⟩ = some (.int .i64 key) ∧ w'.cell? ⟨g7, j * 2 + 1, none⟩ = some (.slice aq mq cq))
              (first | exact ⟨hd0, hd1, hd2, hd3, hd4⟩ | exact ⟨he0, he1, he2, he3, he4⟩ | fail)
              (first
                | (go_simp; go_at_call 48; (with_reducible refine HCC.out.mono ?_); rintro e w7 ⟨rfl, hb7⟩; have he0 := hb7.cell hd0; have he1 := hb7.cell hd1; have he2 := hb7.cell hd2; have he3 := hb7.cell hd3; have he4 := hb7.cell hd4; have HRV7 := Bx.mk (hb7.ri HRVi.out))
                | (go_simp; go_at_call 32; (with_reducible refine (in_any x.1 y aV nV cV _ HRV7.out).mono ?_); rintro e w8 ⟨rfl, rfl⟩; rw [HIN.out])
                | fail)
            all_goals
              go_wp2
              go_roundw
              case rel => exact ⟨j + 1, f + 1, hjt, by go_num, by go_num, ⟨by rw [HFT.out, ← HF.out, if_pos HIN.out]⟩, by omega, HBDB.out.trans hb7⟩
              case measure => simp [intOf]; omega
          · have HIN : Bx (decide (y ∈ x.1) = false) := ⟨by simp [hin]⟩
            clear hin
            go_wp2
            go_region_held3 (fun w' => w'.cell? ⟨g8, k * 2, none⟩ = some (.slice aV nV cV) ∧ w'.cell? ⟨w.heap.size, 0, none⟩ = some (.int .i64 g.N) ∧ w'.cell? ⟨w.heap.size, 1, none⟩ = some (.slice A g.E.length c) ∧ w'.cell? ⟨g7, j * 2, none⟩ = some (.int .i64 key) ∧ w'.cell? ⟨g7, j * 2 + 1, none⟩ = some (.slice aq mq cq))
              (first | exact ⟨hd0, hd1, hd2, hd3, hd4⟩ | exact ⟨he0, he1, he2, he3, he4⟩ | fail)
              (first
                | (go_simp; go_at_call 48; (with_reducible refine HCC.out.mono ?_); rintro e w7 ⟨rfl, hb7⟩; have he0 := hb7.cell hd0; have he1 := hb7.cell hd1; have he2 := hb7.cell hd2; have he3 := hb7.cell hd3; have he4 := hb7.cell hd4; have HRV7 := Bx.mk (hb7.ri HRVi.out))
                | (go_simp; go_at_call 32; (with_reducible refine (in_any x.1 y aV nV cV _ HRV7.out).mono ?_); rintro e w8 ⟨rfl, rfl⟩; rw [HIN.out])
                | fail)
            all_goals
              go_wp2
              go_roundw
              case rel => exact ⟨j + 1, f, hjt, by go_num, rfl, ⟨by rw [HFT.out, ← HF.out, if_neg (by rw [HIN.out]; simp)]; rfl⟩, by omega, HBDB.out.trans hb7⟩
              case measure => simp [intOf]; omega
        · have hjj : j = D.length := by omega
          subst hjj
          rw [List.take_length] at HF
          obtain ⟨q, hq⟩ : ∃ q, Int.tdiv (m2 - (f : Int)) 2 = q := ⟨_, rfl⟩
          have HGO : Bx (genusOf g D x = q) := ⟨by unfold genusOf; rw [hnV.out, hnE.out, ← HF.out, hm1.out, hm2.out]; exact hq⟩
          have hq1 : -9000 < q ∧ q < 9000 := by
            rw [← hq]
            rcases Int.le_total 0 (m2 - (f : Int)) with h | h
            · rw [Int.tdiv_eq_ediv_of_nonneg h]; omega
            · have e : Int.tdiv (m2 - (f : Int)) 2 = -Int.tdiv (-(m2 - (f : Int))) 2 := by rw [Int.neg_tdiv, Int.neg_neg]
              rw [e, Int.tdiv_eq_ediv_of_nonneg (by omega)]; omega
          obtain ⟨hq2, hq3⟩ := hq1
          have HOi := Bx.mk (HO1.out.below HBi.b)
          have HB2i := Bx.mk (HBo.trans HBi)
          have hzi := HB2i.out.size
          have HKL : Bx (((PS.take k).map (genusOf g D)).length < 1099511627776) := ⟨by rw [List.length_map, List.length_take]; omega⟩
          go_wp2_with (at_builtin; refine app_int w2.heap.size ((PS.take k).map (genusOf g D)) _ HOi.out q rfl rfl rfl rfl hzi HKL.out ?_; intro v8 w8 ho8 hs8 hb8)
          go_roundw
          case rel => exact ⟨k + 1, hlt, by go_num, by rw [HTK.out, HGO.out]; exact ho8, HB2i.out.own HOi.out (Nat.le_refl _) hs8⟩
          case measure => simp [intOf]; omega
    · have hkk : k = PS.length := by omega
      subst hkk
      rw [List.take_length, ← HGF.out] at HO
      go_wp2
      go_ret
      exact ⟨⟨_, rfl, HO.mono (by omega)⟩, (BA.out.trans (HB2.out.trans HBo)).b⟩
set_option maxRecDepth 8000 in
set_option maxHeartbeats 4000000 in
theorem sphere7_any (g : Gr) (p : Pt) (tn : List (List Int)) (A A1 A2 A3 : Option Addr) (c c1 c2 c3 : Nat) (w : World) (hA : RE w A g.E.length g.E) (h1 : RI w A1 p.V.length p.V) (h2 : RI w A2 p.E.length p.E) (h3 : RL w A3 tn.length tn) :
    Calls Tryz.prog 18 #[.agg #[.int .i64 g.N, .slice A g.E.length c], .agg #[.slice A1 p.V.length c1, .slice A2 p.E.length c2], .slice A3 tn.length c3] w fun e w' => e = .returned (.bool (if g.rotaErr p tn = 0 then !(genusF g p (docW (nextD (tn.map firstR) (atF tn)) tn p)).any (fun x => x != 0) else false)) ∧ BB w w' := by
  have HA := Bx.mk hA
  have H1 := Bx.mk h1
  have H2 := Bx.mk h2
  have H3 := Bx.mk h3
  clear hA h1 h2 h3
  have BA := Bx.mk (((BB.refl w).al (.cells #[.int .i64 g.N, .slice A g.E.length c] 24)).al (.cells #[.slice A1 p.V.length c1, .slice A2 p.E.length c2] 27))
  have hG1 := box_cell1 w #[.int .i64 g.N, .slice A g.E.length c] 24 (0, 0) (.cells #[.slice A1 p.V.length c1, .slice A2 p.E.length c2] 27) 0
  have hG2 := box_cell1 w #[.int .i64 g.N, .slice A g.E.length c] 24 (0, 0) (.cells #[.slice A1 p.V.length c1, .slice A2 p.E.length c2] 27) 1
  have hP1 := box_cell2 w #[.slice A1 p.V.length c1, .slice A2 p.E.length c2] 27 (0, 0) (.cells #[.int .i64 g.N, .slice A g.E.length c] 24) 0
  have hP2 := box_cell2 w #[.slice A1 p.V.length c1, .slice A2 p.E.length c2] 27 (0, 0) (.cells #[.int .i64 g.N, .slice A g.E.length c] 24) 1
  have HB := Bx.mk (And.intro hG1 (And.intro hG2 (And.intro hP1 hP2)))
  clear hG1 hG2 hP1 hP2
  by_cases h0 : g.rotaErr p tn = 0
  case neg =>
    have HR : Bx ((if g.rotaErr p tn = 0 then !(genusF g p (docW (nextD (tn.map firstR) (atF tn)) tn p)).any (fun x => x != 0) else false) = false) := ⟨if_neg h0⟩
    have h0b : (g.rotaErr p tn != 0) = true := by simp [h0]
    rw [HR.out]
    clear h0
    go_enter Tryz.func18, Tryz.ntmps18
    go_wp2_with (go_at_call 14; (with_reducible refine (right6_any g p tn A A1 A2 A3 c c1 c2 c3 _ (BA.out.re HA.out) (BA.out.ri H1.out) (BA.out.ri H2.out) (BA.out.rl H3.out)).mono ?_); rintro e w5 ⟨rfl, hb5⟩)
    go_ret
    exact ⟨rfl, BA.out.trans hb5⟩
  case pos =>
    have H0 := Bx.mk h0
    have HR : Bx ((if g.rotaErr p tn = 0 then !(genusF g p (docW (nextD (tn.map firstR) (atF tn)) tn p)).any (fun x => x != 0) else false) = !(genusF g p (docW (nextD (tn.map firstR) (atF tn)) tn p)).any (fun x => x != 0)) := ⟨if_pos h0⟩
    rw [HR.out]
    have hgl : (genusF g p (docW (nextD (tn.map firstR) (atF tn)) tn p)).length ≤ 1024 := by unfold genusF; rw [List.length_map]; have h1 := (pieces_ok (rotaErr_part h0).1).1; have h2 := (verts_len h0).1; omega
    obtain ⟨G, hG⟩ : ∃ G, Bx (genusF g p (docW (nextD (tn.map firstR) (atF tn)) tn p) = G) := ⟨_, ⟨rfl⟩⟩
    rw [hG.out] at hgl
    rw [hG.out]
    clear h0
    go_enter Tryz.func18, Tryz.ntmps18
    go_wp2_with (first
      | (go_at_call 14; (with_reducible refine (right6_any g p tn A A1 A2 A3 c c1 c2 c3 _ (BA.out.re HA.out) (BA.out.ri H1.out) (BA.out.ri H2.out) (BA.out.rl H3.out)).mono ?_); rintro e w5 ⟨rfl, hb5⟩; rw [H0.out]; have HB5 := Bx.mk hb5; have hg1 := hb5.cell HB.out.1; have hg2 := hb5.cell HB.out.2.1; have hp1 := hb5.cell HB.out.2.2.1; have hp2 := hb5.cell HB.out.2.2.2; clear hb5)
      | (go_at_call 17; (with_reducible refine (genus7_any g p tn H0.out A A1 A2 A3 c c1 c2 c3 _ ((BA.out.trans HB5.out).re HA.out) ((BA.out.trans HB5.out).ri H1.out) ((BA.out.trans HB5.out).ri H2.out) ((BA.out.trans HB5.out).rl H3.out)).mono ?_); rintro e w6 ⟨⟨u6, rfl, hu6⟩, hb6⟩; rw [hG.out] at hu6; obtain ⟨A6, c6, hv6, hc6, hr6, -⟩ := hu6.read (by omega); subst hv6; have HR6 := Bx.mk hr6; have HB6 := Bx.mk (HB5.out.trans (BB.mk hb6)); clear hu6 hr6 hb6)
      | fail)
    clear hg1 hg2 hp1 hp2
    go_loopw [8] (fun iv wr => ∃ k : Nat, k ≤ G.length ∧ iv = .int .i64 k ∧ Bx (G.any (fun x => x != 0) = (G.drop k).any (fun x => x != 0)) ∧ w6 = wr) (fun iv _ => G.length - (intOf iv).toNat)
    case atStart => exact ⟨0, Nat.zero_le _, rfl, ⟨rfl⟩, rfl⟩
    case round =>
      obtain ⟨k, hk, rfl, HN, rfl⟩ := hrel
      by_cases hlt : k < G.length
      · obtain ⟨b6, off6, rfl, hcl⟩ := HR6.out.at (by omega)
        have hck := hcl k hlt
        have HDR : Bx ((G.drop k).any (fun x => x != 0) = ((gi G k != 0) || (G.drop (k + 1)).any (fun x => x != 0))) := ⟨by rw [List.drop_eq_getElem_cons hlt, gi_eq hlt]; rfl⟩
        obtain ⟨x, hx⟩ : ∃ x, Bx (gi G k = x) := ⟨_, ⟨rfl⟩⟩
        rw [hx.out] at hck HDR
        clear hcl
        cases hne : (x != 0) with
        | true =>
          have HF : Bx ((!G.any (fun x => x != 0)) = false) := ⟨by rw [HN.out, HDR.out, hne]; rfl⟩
          go_wp2
          go_ret
          exact ⟨ret_bool HF.out.symm, BA.out.trans HB6.out⟩
        | false =>
          have HN2 : Bx (G.any (fun x => x != 0) = (G.drop (k + 1)).any (fun x => x != 0)) := ⟨by rw [HN.out, HDR.out, hne]; rfl⟩
          go_wp2
          go_roundw
          case rel => exact ⟨k + 1, hlt, by go_num, HN2, trivial⟩
          case measure => simp [intOf]; omega
      · have HF : Bx ((!G.any (fun x => x != 0)) = true) := ⟨by rw [HN.out, List.drop_of_length_le (by omega)]; rfl⟩
        go_wp2
        go_ret
        exact ⟨ret_bool HF.out.symm, BA.out.trans HB6.out⟩
end Go.Proofs.YtefhmlgepnlaoaaGreat
