/- Walks: the document's Spread (layer 5). Walks: the document's Sub (layer 5). Words: rows of parts beside another row that grows. Walks: the document's Pieces (layer 5). -/
import Derived.Test.YtefhmlgepnlaoaaGreatPc
import Derived.Test.YtefhmlgepnlaoaaGreatEa
import Derived.Deep.DeepCutAuto
import Derived.Test.YtefhmlgepnlaoaaGreatAc
set_option linter.unusedVariables false
set_option linter.unusedSimpArgs false
namespace Go.Proofs.YtefhmlgepnlaoaaGreat
open Go.RowKit

theorem sprE_take {g : Gr} {E : List Int} {but x : Int} {S : List Int} {k : Nat} (hk : k < E.length) : sprX g (E.take (k + 1)) but x S = sprE g but x (sprX g (E.take k) but x S) (gi E k) := by
  unfold sprX
  rw [List.take_succ_eq_append_getElem hk, List.foldl_append, gi_eq hk]
  rfl
theorem gi_append {xs ys : List Int} {i : Nat} (h : i < xs.length) : gi (xs ++ ys) i = gi xs i := by
  rw [gi_eq (by rw [List.length_append]; omega), gi_eq h, List.getElem_append_left h]
theorem sprX_at {g : Gr} {E : List Int} {but x : Int} {S : List Int} {i : Nat} (hi : i < S.length) : gi (sprX g E but x S) i = gi S i ∧ i < (sprX g E but x S).length := by
  obtain ⟨t, ht⟩ := sprX_pre g but x E S
  rw [ht]
  exact ⟨gi_append hi, by rw [List.length_append]; omega⟩
theorem sprX_len1 (g : Gr) (but x : Int) : ∀ (E : List Int) (S : List Int), (sprX g E but x S).length ≤ S.length + 2 * E.length := by
  have one : ∀ (met : List Int) (a b : Int), (spr1 but x met a b).length ≤ met.length + 1 := fun met a b => by
    unfold spr1
    split
    · rw [List.length_append]; exact Nat.le_refl _
    · omega
  intro E
  induction E with
  | nil => intro S; exact Nat.le_refl _
  | cons e E ih =>
    intro S
    have h1 := ih (sprE g but x S e)
    have h2 : (sprE g but x S e).length ≤ S.length + 2 := by
      unfold sprE
      have a := one S (ge g.E e.toNat).1 (ge g.E e.toNat).2
      have b := one (spr1 but x S (ge g.E e.toNat).1 (ge g.E e.toNat).2) (ge g.E e.toNat).2 (ge g.E e.toNat).1
      omega
    show (sprX g E but x (sprE g but x S e)).length ≤ _
    rw [List.length_cons]
    omega
set_option maxRecDepth 8000 in
set_option maxHeartbeats 4000000 in
theorem spread5_any (g : Gr) (p : Pt) (but : Int) (l0 : List Int) (h0 : g.rightPart p = 0) (hn : l0.Nodup) (hl : ∀ x ∈ l0, x ∈ p.V) (A A1 A2 A3 : Option Addr) (c n1 c1 c2 c3 : Nat) (w : World) (hA : RE w A g.E.length g.E) (h2 : RI w A2 p.E.length p.E) (h3 : RI w A3 l0.length l0) :
    Calls Tryz.prog 64 #[.agg #[.int .i64 g.N, .slice A g.E.length c], .agg #[.slice A1 n1 c1, .slice A2 p.E.length c2], .slice A3 l0.length c3, .int .i64 but] w fun e w' => (∃ u, e = .returned u ∧ OwnI w' w.heap.size u (sprF g p but l0)) ∧ Below w.heap.size w w' := by
  have HA := Bx.mk hA
  have H2 := Bx.mk h2
  have H3 := Bx.mk h3
  have hE : Bx (∀ x ∈ p.E, 0 ≤ x ∧ x < (g.E.length : Int)) := ⟨fun x hx => by have := edges_ok h0 x hx; omega⟩
  have HLEN : Bx (∀ k, (sprTo g p.E but l0 k).length ≤ p.V.length) := ⟨spr_len h0 hn hl⟩
  have HEND : Bx (∀ k, (sprTo g p.E but l0 k).length = k → sprF g p but l0 = sprTo g p.E but l0 k) := ⟨fun k hk => sprF_eq h0 hn hl hk⟩
  have hvl : p.V.length ≤ 1024 := by have := risesF_len _ _ _ (Gr.rightPart_ok h0).2.1 (by have := (Gr.right_ok (Gr.rightPart_ok h0).1); omega); have := (Gr.right_ok (Gr.rightPart_ok h0).1); omega
  have hel : p.E.length ≤ 1024 := by have := risesF_len _ _ _ (Gr.rightPart_ok h0).2.2.1 (by omega); have := (Gr.right_ok (Gr.rightPart_ok h0).1); omega
  have hll : l0.length ≤ 1024 := by have := HLEN.out 0; show (sprTo g p.E but l0 0).length ≤ 1024; omega
  have hgl : g.E.length ≤ 1024 := by have := Gr.right_ok (Gr.rightPart_ok h0).1; omega
  clear hA h2 h3 h0 hn hl
  have BA := Bx.mk (((BB.refl w).al (.cells #[.int .i64 g.N, .slice A g.E.length c] 24)).al (.cells #[.slice A1 n1 c1, .slice A2 p.E.length c2] 27))
  have hG2 := box_cell1 w #[.int .i64 g.N, .slice A g.E.length c] 24 (0, 0) (.cells #[.slice A1 n1 c1, .slice A2 p.E.length c2] 27) 1
  have hP2 := box_cell2 w #[.slice A1 n1 c1, .slice A2 p.E.length c2] 27 (0, 0) (.cells #[.int .i64 g.N, .slice A g.E.length c] 24) 1
  have HB := Bx.mk (And.intro hG2 hP2)
  clear hG2 hP2
  have hz0 : Bx ((((w.alloc (.cells #[.int .i64 g.N, .slice A g.E.length c] 24)).alloc (.cells #[.slice A1 n1 c1, .slice A2 p.E.length c2] 27))).heap.size = w.heap.size + 2) := ⟨by simp⟩
  go_enter Tryz.func64, Tryz.ntmps64
  go_wp2_with (at_builtin; refine app_row (w.heap.size + 2) [] _ (OwnI.nil _ _) l0 A3 l0.length c3 (BA.out.ri H3.out) rfl rfl rfl rfl (by rw [hz0.out]; exact Nat.le_refl _) (by rw [List.length_nil]; omega) ?_; intro v1 w1 ho1 hs1 hb1; rw [List.nil_append] at ho1)
  generalize hw0 : ((w.alloc (.cells #[.int .i64 g.N, .slice A g.E.length c] 24)).alloc (.cells #[.slice A1 n1 c1, .slice A2 p.E.length c2] 27)) = w0 at *
  have HB1 : BB w0 w1 := (BB.refl w0).own (OwnI.nil _ (w.heap.size + 2)) (by rw [hz0.out]; exact Nat.le_refl _) hs1
  clear hw0 hs1 hb1
  go_loopw [10, 9] (fun iv mv wr => ∃ i : Nat, iv = .int .i64 i ∧ OwnI wr (w.heap.size + 2) mv (sprTo g p.E but l0 i) ∧ i ≤ (sprTo g p.E but l0 i).length ∧ BB w0 wr) (fun iv _ _ => p.V.length - (intOf iv).toNat)
  case atStart => exact ⟨0, rfl, ho1, Nat.zero_le _, HB1⟩
  case round =>
    rename World => wo
    clear ho1 HB1
    obtain ⟨i, rfl, HO, hi, HBo⟩ := hrel
    have hlen := HLEN.out i
    obtain ⟨S, hS⟩ : ∃ S, Bx (sprTo g p.E but l0 i = S) := ⟨_, ⟨rfl⟩⟩
    have HSU := Bx.mk (sprTo_succ g p.E but l0 i)
    have HEI := Bx.mk (HEND.out i)
    rw [hS.out] at HO hi hlen HSU HEI
    obtain ⟨A5, c5, rfl, hle5, -, -⟩ := HO.read (by omega)
    by_cases hlt : i < S.length
    · have HSU2 : Bx (sprTo g p.E but l0 (i + 1) = sprX g p.E but (gi S i) S) := ⟨by rw [HSU.out, if_pos hlt]⟩
      obtain ⟨x, hx⟩ : ∃ x, Bx (gi S i = x) := ⟨_, ⟨rfl⟩⟩
      rw [hx.out] at HSU2
      have HSU3 : Bx (sprTo g p.E but l0 (i + 1) = sprX g (p.E.take p.E.length) but x S) := ⟨by rw [HSU2.out, List.take_length]⟩
      have HSL : Bx (i + 1 ≤ (sprTo g p.E but l0 (i + 1)).length) := ⟨by rw [HSU2.out]; exact (sprX_at (x := x) hlt).2⟩
      go_wp2
      rename World => wq
      go_loopw [11, 9] (fun kv mv wi => ∃ k : Nat, k ≤ p.E.length ∧ kv = .int .i64 k ∧ OwnI wi (w.heap.size + 2) mv (sprX g (p.E.take k) but x S) ∧ BB w0 wi) (fun kv _ _ => p.E.length - (intOf kv).toNat)
      case atStart => exact ⟨0, Nat.zero_le _, rfl, HO, HBo⟩
      case round =>
        rename World => wi
        clear HO HBo
        obtain ⟨k, hk, rfl, HOi, HBi⟩ := hrel
        have hP2 := HBi.cell HB.out.2
        have hml := sprX_len1 g but x (p.E.take k) S
        have hmk : (p.E.take k).length ≤ p.E.length := by rw [List.length_take]; omega
        obtain ⟨A6, c6, rfl, hle6, hr6, hown6⟩ := HOi.read (by omega)
        by_cases hkt : k < p.E.length
        · have HTK := Bx.mk (sprE_take (g := g) (but := but) (x := x) (S := S) hkt)
          obtain ⟨hgx, hil⟩ := sprX_at (g := g) (E := p.E.take k) (but := but) (x := x) hlt
          obtain ⟨M, hM⟩ : ∃ M, Bx (sprX g (p.E.take k) but x S = M) := ⟨_, ⟨rfl⟩⟩
          rw [hM.out] at HTK hgx hil hml hle6 hr6 hown6 HOi
          rw [hM.out]
          have hG2 := HBi.cell HB.out.1
          have HWi := Bx.mk (BA.out.trans HBi)
          obtain ⟨b2, off2, rfl, hc2⟩ := (HWi.out.ri H2.out).at (by omega)
          have hck := hc2 k hkt
          have hei := hE.out _ (gi_mem hkt)
          obtain ⟨e, he⟩ : ∃ e : Nat, Bx (gi p.E k = (e : Int)) := ⟨(gi p.E k).toNat, ⟨by omega⟩⟩
          rw [he.out] at hck hei HTK
          have hxl : e < g.E.length := by omega
          obtain ⟨b, off, rfl, hcl⟩ := (HWi.out.re HA.out).at (by omega)
          obtain ⟨hca, hcb⟩ := hcl e hxl
          obtain ⟨b6, off6, rfl, hc6⟩ := hr6.at (by omega)
          have hcx := hc6 i hil
          rw [hgx, hx.out] at hcx
          have HTK2 : Bx (sprX g (p.E.take (k + 1)) but x S = spr1 but x (spr1 but x M (ge g.E e).1 (ge g.E e).2) (ge g.E e).2 (ge g.E e).1) := ⟨by rw [HTK.out]; unfold sprE; rw [Int.toNat_natCast]⟩
          generalize (ge g.E e).1 = a at *
          generalize (ge g.E e).2 = b' at *
          clear hc2 hcl hc6 HTK hei
          have HOM := Bx.mk HOi
          clear HOi
          have hbD : BB wi wi.drew := (BB.refl wi).drawn 1
          have hd0 : wi.drew.cell? ⟨w.heap.size, 1, none⟩ = some (.slice (some ⟨b, off, none⟩) g.E.length c) := hbD.cell hG2
          have hd1 : wi.drew.cell? ⟨w.heap.size + 1, 1, none⟩ = some (.slice (some ⟨b2, off2, none⟩) p.E.length c2) := hbD.cell hP2
          have hd2 : wi.drew.cell? ⟨b2, off2 + k, none⟩ = some (.int .i64 (e : Int)) := hbD.cell hck
          have hd3 := hbD.cell hca
          have hd4 := hbD.cell hcb
          have n0 := World.new_ne wi.drew _ hd0
          have n1' := World.new_ne wi.drew _ hd1
          have n2 := World.new_ne wi.drew _ hd2
          have n3 := World.new_ne wi.drew _ hd3
          have n4 := World.new_ne wi.drew _ hd4
          go_wp2
          go_region_held3 (fun w' => w'.cell? ⟨w.heap.size, 1, none⟩ = some (.slice (some ⟨b, off, none⟩) g.E.length c) ∧ w'.cell? ⟨w.heap.size + 1, 1, none⟩ = some (.slice (some ⟨b2, off2, none⟩) p.E.length c2) ∧ w'.cell? ⟨b2, off2 + k, none⟩ = some (.int .i64 (e : Int)) ∧ w'.cell? ⟨b, off + e * 2, none⟩ = some (.int .i64 a) ∧ w'.cell? ⟨b, off + e * 2 + 1, none⟩ = some (.int .i64 b')) (go_keep) (fail)
          all_goals
            have HBw : BB wi (wi.alloc (.cells #[.int .i64 a, .int .i64 b'] 70)).drew := ((BB.refl wi).al _).drawn 1
            have hq0 : (wi.alloc (.cells #[.int .i64 a, .int .i64 b'] 70)).drew.cell? ⟨wi.heap.size, 0, none⟩ = some (.int .i64 a) := ((BB.refl _).drawn 1).cell (box_cell wi _ _ _ 0)
            have hq1 : (wi.alloc (.cells #[.int .i64 a, .int .i64 b'] 70)).drew.cell? ⟨wi.heap.size, 1, none⟩ = some (.int .i64 b') := ((BB.refl _).drawn 1).cell (box_cell wi _ _ _ 1)
            have hqx := HBw.cell hcx
            have HRI := Bx.mk (HBw.ri hr6)
            have HGX : Bx (gi M i = x) := ⟨hgx.trans hx.out⟩
            have HBO0 : Bx (∀ k, some k = (Value.slice (some ⟨b6, off6, none⟩) M.length c6).ownBlock → k ≠ wi.heap.size) := ⟨fun k hk => by have := HOM.out.lt k hk.symm; omega⟩
            have HOW : Bx (OwnI (wi.alloc (.cells #[.int .i64 a, .int .i64 b'] 70)).drew (w.heap.size + 2) (.slice (some ⟨b6, off6, none⟩) M.length c6) M) := ⟨(HOM.out.alloc (.cells #[.int .i64 a, .int .i64 b'] 70)).drawn 1⟩
            have HBW := Bx.mk (HBi.trans HBw)
            have hWS := HBi.size
            rw [hz0.out] at hWS
            generalize hbo : wi.heap.size = bo at *
            have HBO : Bx (¬ some bo = (Value.slice (some ⟨b6, off6, none⟩) M.length c6).ownBlock) := ⟨fun h => HBO0.out _ h rfl⟩
            generalize hW1 : (wi.alloc (.cells #[.int .i64 a, .int .i64 b'] 70)).drew = W1 at *
            clear hd0 hd1 hd2 hd3 hd4 n0 n1' n2 n3 n4 HBw hG2 hP2 hck hca hcb hcx hr6 hW1 hgx HBO0
            have hSz := HBW.out.size
            rw [hz0.out] at hSz
            go_upto_region 10 with fail
            go_cut [57] (fun s wx => ∃ q : Bool, s = .bool q ∧ Bx (q = decide (a = x ∧ b' ≠ but ∧ b' ∉ M)) ∧ BB W1 wx)
            case first =>
              by_cases k1 : a = x
              · have e1 : (a == x) = true := by simp [k1]
                by_cases k2 : b' = but
                · have e2 : (b' != but) = false := by simp [k2]
                  have HR : Bx (false = decide (a = x ∧ b' ≠ but ∧ b' ∉ M)) := ⟨by simp [k2]⟩
                  clear k1 k2
                  go_quiet (fail)
                  go_wp2
                  go_meet
                  exact ⟨false, rfl, HR, (BB.refl _).drawn _⟩
                · have e2 : (b' != but) = true := by simp [k2]
                  by_cases k3 : b' ∈ M
                  · have HR : Bx (false = decide (a = x ∧ b' ≠ but ∧ b' ∉ M)) := ⟨by simp [k1, k2, k3]⟩
                    have HIN : Bx (decide (b' ∈ M) = true) := ⟨by simp [k3]⟩
                    clear k1 k2 k3
                    go_quiet ((go_at_call 32; with_reducible exact Calls.quiet_of_same ((in_any M b' (some ⟨b6, off6, none⟩) M.length c6 _ (HRI.out.drawnN _)).mono fun _ _ h => ⟨h.1.trans (ret_bool HIN.out), h.2.symm⟩)))
                    go_wp2
                    go_meet
                    exact ⟨false, rfl, HR, (BB.refl _).drawn _⟩
                  · have HR : Bx (true = decide (a = x ∧ b' ≠ but ∧ b' ∉ M)) := ⟨by simp [k1, k2, k3]⟩
                    have HIN : Bx (decide (b' ∈ M) = false) := ⟨by simp [k3]⟩
                    clear k1 k2 k3
                    go_quiet ((go_at_call 32; with_reducible exact Calls.quiet_of_same ((in_any M b' (some ⟨b6, off6, none⟩) M.length c6 _ (HRI.out.drawnN _)).mono fun _ _ h => ⟨h.1.trans (ret_bool HIN.out), h.2.symm⟩)))
                    go_wp2
                    go_meet
                    exact ⟨true, rfl, HR, (BB.refl _).drawn _⟩
              · have e1 : (a == x) = false := by simp [k1]
                have HR : Bx (false = decide (a = x ∧ b' ≠ but ∧ b' ∉ M)) := ⟨by simp [k1]⟩
                clear k1
                go_quiet (fail)
                go_wp2
                go_meet
                exact ⟨false, rfl, HR, (BB.refl _).drawn _⟩
            case rest =>
              obtain ⟨q, rfl, HQ, hbc⟩ := hcut
              rename World => w2
              have hq02 := hbc.cell hq0
              have hq12 := hbc.cell hq1
              have HO2 := Bx.mk (HOW.out.below hbc.b)
              have hSz2 := hbc.size
              obtain ⟨M1, hM1⟩ : ∃ M1, Bx (spr1 but x M a b' = M1) := ⟨_, ⟨rfl⟩⟩
              have hM1L : Bx (M1.length ≤ M.length + 1) := ⟨by rw [← hM1.out]; unfold spr1; split; rw [List.length_append]; exact Nat.le_refl _; omega⟩
              have hM1x : Bx (gi M1 i = x ∧ i < M1.length) := ⟨by
                rw [← hM1.out]
                unfold spr1
                split
                · exact ⟨by rw [gi_append hil, HGX.out], by rw [List.length_append]; omega⟩
                · exact ⟨HGX.out, hil⟩⟩
              rw [hM1.out] at HTK2
              have HBc := Bx.mk (HBW.out.trans hbc)
              go_upto_if 57 with fail
              go_cut [9] (fun s wx => OwnI wx (w.heap.size + 2) s M1 ∧ wx.cell? ⟨bo, 0, none⟩ = some (.int .i64 a) ∧ wx.cell? ⟨bo, 1, none⟩ = some (.int .i64 b') ∧ BB w0 wx)
              case first =>
                cases q with
                | true =>
                  have HMM : Bx (M1 = M ++ [b']) := ⟨by rw [← hM1.out]; unfold spr1; rw [if_pos (of_decide_eq_true HQ.out.symm)]⟩
                  go_wp2_with (at_builtin; refine app_int (w.heap.size + 2) M _ HO2.out b' rfl rfl rfl rfl (by omega) (by omega) ?_; intro v3 w3 ho3 hs3 hb3)
                  go_meet
                  exact ⟨by rw [HMM.out]; exact ho3, hs3.cell hq02 HBO.out, hs3.cell hq12 HBO.out, HBc.out.own HO2.out (by rw [hz0.out]; exact Nat.le_refl _) hs3⟩
                | false =>
                  have HMM : Bx (M1 = M) := ⟨by rw [← hM1.out]; unfold spr1; rw [if_neg (of_decide_eq_false HQ.out.symm)]⟩
                  go_wp2
                  go_meet
                  exact ⟨by rw [HMM.out]; exact HO2.out, hq02, hq12, HBc.out⟩
              case rest =>
                clear hq0 hq1 hqx hq02 hq12 hbc hSz2
                obtain ⟨HO3, hq03, hq13, HB3⟩ := hcut
                rename World => w3
                have hM1l := hM1L.out
                obtain ⟨hM1g, hM1i⟩ := hM1x.out
                obtain ⟨A7, c7, rfl, hle7, hr7, -⟩ := HO3.read (by omega)
                obtain ⟨b7, off7, rfl, hc7⟩ := hr7.at (by omega)
                have hqx3 := hc7 i hM1i
                rw [hM1g] at hqx3
                have HRI1 := Bx.mk hr7
                have HO4 := Bx.mk HO3
                have HB4 := Bx.mk HB3
                clear hM1g hc7 hr7 HO3 HB3
                go_upto_region 12 with fail
                go_cut [82] (fun s wx => ∃ q : Bool, s = .bool q ∧ Bx (q = decide (b' = x ∧ a ≠ but ∧ a ∉ M1)) ∧ BB w3 wx)
                case first =>
                  by_cases k1 : b' = x
                  · have e1 : (b' == x) = true := by simp [k1]
                    by_cases k2 : a = but
                    · have e2 : (a != but) = false := by simp [k2]
                      have HR : Bx (false = decide (b' = x ∧ a ≠ but ∧ a ∉ M1)) := ⟨by simp [k2]⟩
                      clear k1 k2
                      go_quiet (fail)
                      go_wp2
                      go_meet
                      exact ⟨false, rfl, HR, (BB.refl _).drawn _⟩
                    · have e2 : (a != but) = true := by simp [k2]
                      by_cases k3 : a ∈ M1
                      · have HR : Bx (false = decide (b' = x ∧ a ≠ but ∧ a ∉ M1)) := ⟨by simp [k1, k2, k3]⟩
                        have HIN : Bx (decide (a ∈ M1) = true) := ⟨by simp [k3]⟩
                        clear k1 k2 k3
                        go_quiet ((go_at_call 32; with_reducible exact Calls.quiet_of_same ((in_any M1 a (some ⟨b7, off7, none⟩) M1.length c7 _ (HRI1.out.drawnN _)).mono fun _ _ h => ⟨h.1.trans (ret_bool HIN.out), h.2.symm⟩)))
                        go_wp2
                        go_meet
                        exact ⟨false, rfl, HR, (BB.refl _).drawn _⟩
                      · have HR : Bx (true = decide (b' = x ∧ a ≠ but ∧ a ∉ M1)) := ⟨by simp [k1, k2, k3]⟩
                        have HIN : Bx (decide (a ∈ M1) = false) := ⟨by simp [k3]⟩
                        clear k1 k2 k3
                        go_quiet ((go_at_call 32; with_reducible exact Calls.quiet_of_same ((in_any M1 a (some ⟨b7, off7, none⟩) M1.length c7 _ (HRI1.out.drawnN _)).mono fun _ _ h => ⟨h.1.trans (ret_bool HIN.out), h.2.symm⟩)))
                        go_wp2
                        go_meet
                        exact ⟨true, rfl, HR, (BB.refl _).drawn _⟩
                  · have e1 : (b' == x) = false := by simp [k1]
                    have HR : Bx (false = decide (b' = x ∧ a ≠ but ∧ a ∉ M1)) := ⟨by simp [k1]⟩
                    clear k1
                    go_quiet (fail)
                    go_wp2
                    go_meet
                    exact ⟨false, rfl, HR, (BB.refl _).drawn _⟩
                case rest =>
                  obtain ⟨q2, rfl, HQ2, hbc2⟩ := hcut
                  rename World => w4
                  have hq04 := hbc2.cell hq03
                  have HO5 := Bx.mk (HO4.out.below hbc2.b)
                  have HB5 := Bx.mk (HB4.out.trans hbc2)
                  have hSz4 := HB5.out.size
                  rw [hz0.out] at hSz4
                  clear hq03 hq13 hqx3 hbc2
                  cases q2 with
                  | true =>
                    have HMM : Bx (sprX g (p.E.take (k + 1)) but x S = M1 ++ [a]) := ⟨by rw [HTK2.out]; unfold spr1; rw [if_pos (of_decide_eq_true HQ2.out.symm)]⟩
                    go_wp2_with (at_builtin; refine app_int (w.heap.size + 2) M1 _ HO5.out a rfl rfl rfl rfl (by omega) (by omega) ?_; intro v6 w6 ho6 hs6 hb6)
                    go_roundw
                    case rel => exact ⟨k + 1, hkt, by go_num, by rw [HMM.out]; exact ho6, HB5.out.own HO5.out (by rw [hz0.out]; exact Nat.le_refl _) hs6⟩
                    case measure => simp [intOf]; omega
                  | false =>
                    have HMM : Bx (sprX g (p.E.take (k + 1)) but x S = M1) := ⟨by rw [HTK2.out]; unfold spr1; rw [if_neg (of_decide_eq_false HQ2.out.symm)]⟩
                    go_wp2
                    go_roundw
                    case rel => exact ⟨k + 1, hkt, by go_num, by rw [HMM.out]; exact HO5.out, HB5.out⟩
                    case measure => simp [intOf]; omega
        · have hkk : k = p.E.length := by omega
          subst hkk
          have HO8 := Bx.mk HOi
          clear HOi
          go_wp2
          go_roundw
          case rel => exact ⟨i + 1, by go_num, by rw [HSU3.out]; exact HO8.out, HSL.out, HBi⟩
          case measure => simp [intOf]; omega
    · have hii : S.length = i := by omega
      have hF : Bx (sprF g p but l0 = S) := ⟨HEI.out hii⟩
      go_wp2
      go_ret
      exact ⟨⟨_, rfl, by rw [hF.out]; exact HO.mono (by omega)⟩, (BA.out.trans HBo).b⟩

theorem filter_take {f : Int → Bool} {xs : List Int} {k : Nat} (hk : k < xs.length) : (xs.take (k + 1)).filter f = (xs.take k).filter f ++ if f (gi xs k) then [gi xs k] else [] := by
  rw [List.take_succ_eq_append_getElem hk, List.filter_append, gi_eq hk]
  congr 1
  cases h : f xs[k] <;> simp [h]
theorem filter_take_len {f : Int → Bool} {xs : List Int} {k : Nat} : ((xs.take k).filter f).length ≤ xs.length :=
  Nat.le_trans (List.length_filter_le ..) (by rw [List.length_take]; omega)
/-- What is told of a slice that a call has made. -/
def Made (w' : World) (base : Nat) (A : Option Addr) (c : Nat) (xs : List Int) : Prop := xs.length ≤ c ∧ RI w' A xs.length xs ∧ ∀ ad, A = some ad → base ≤ ad.block
set_option maxHeartbeats 4000000 in
theorem sub5_any (g : Gr) (p : Pt) (l : List Int) (hE0 : ∀ x ∈ p.E, 0 ≤ x ∧ x < (g.E.length : Int)) (hvl : p.V.length ≤ 1024) (hel : p.E.length ≤ 1024) (A A1 A2 A3 : Option Addr) (c c1 c2 n3 c3 : Nat) (w : World) (hA : RE w A g.E.length g.E) (h1 : RI w A1 p.V.length p.V) (h2 : RI w A2 p.E.length p.E) (h3 : RI w A3 n3 l) :
    Calls Tryz.prog 65 #[.agg #[.int .i64 g.N, .slice A g.E.length c], .agg #[.slice A1 p.V.length c1, .slice A2 p.E.length c2], .slice A3 n3 c3] w fun e w' => (∃ A7 c7 A8 c8, e = .returned (.agg #[.slice A7 (g.sub p l).1.length c7, .slice A8 (g.sub p l).2.length c8]) ∧ Made w' w.heap.size A7 c7 (g.sub p l).1 ∧ Made w' w.heap.size A8 c8 (g.sub p l).2) ∧ BB w w' := by
  have hm3 := h3.len
  subst hm3
  have HA := Bx.mk hA
  have H1 := Bx.mk h1
  have H2 := Bx.mk h2
  have H3 := Bx.mk h3
  have hE := Bx.mk hE0
  have hle3 := h3.le
  have hgl : g.E.length ≤ 17592186044416 := hA.le
  obtain ⟨fV, hfV⟩ : ∃ fV : Int → Bool, Bx ((fun x : Int => decide (x ∈ l)) = fV) := ⟨_, ⟨rfl⟩⟩
  obtain ⟨fE, hfE⟩ : ∃ fE : Int → Bool, Bx ((fun e : Int => decide ((ge g.E e.toNat).1 ∈ l) && decide ((ge g.E e.toNat).2 ∈ l)) = fE) := ⟨_, ⟨rfl⟩⟩
  have HSUB : Bx (g.sub p l = (p.V.filter fV, p.E.filter fE)) := ⟨by rw [← hfV.out, ← hfE.out]; rfl⟩
  clear hA h1 h2 h3 hE0
  have BA := Bx.mk (((BB.refl w).al (.cells #[.int .i64 g.N, .slice A g.E.length c] 24)).al (.cells #[.slice A1 p.V.length c1, .slice A2 p.E.length c2] 27))
  have hG2 := box_cell1 w #[.int .i64 g.N, .slice A g.E.length c] 24 (0, 0) (.cells #[.slice A1 p.V.length c1, .slice A2 p.E.length c2] 27) 1
  have hP1 := box_cell2 w #[.slice A1 p.V.length c1, .slice A2 p.E.length c2] 27 (0, 0) (.cells #[.int .i64 g.N, .slice A g.E.length c] 24) 0
  have hP2 := box_cell2 w #[.slice A1 p.V.length c1, .slice A2 p.E.length c2] 27 (0, 0) (.cells #[.int .i64 g.N, .slice A g.E.length c] 24) 1
  have HB := Bx.mk (And.intro hG2 (And.intro hP1 hP2))
  clear hG2 hP1 hP2
  have hz0 : Bx ((((w.alloc (.cells #[.int .i64 g.N, .slice A g.E.length c] 24)).alloc (.cells #[.slice A1 p.V.length c1, .slice A2 p.E.length c2] 27))).heap.size = w.heap.size + 2) := ⟨by simp⟩
  go_enter Tryz.func65, Tryz.ntmps65
  go_wp2
  have hzX : ((((w.alloc (.cells #[.int .i64 g.N, .slice A g.E.length c] 24)).alloc (.cells #[.slice A1 p.V.length c1, .slice A2 p.E.length c2] 27))).alloc (.cells #[.slice none 0 0, .slice none 0 0] 27)).heap.size = w.heap.size + 3 := by simp
  have hR6 := heap_alloc_new (((w.alloc (.cells #[.int .i64 g.N, .slice A g.E.length c] 24)).alloc (.cells #[.slice A1 p.V.length c1, .slice A2 p.E.length c2] 27))) (.cells #[.slice none 0 0, .slice none 0 0] 27 (0, 0))
  rw [hz0.out] at hR6
  have HBX : Bx (BB ((w.alloc (.cells #[.int .i64 g.N, .slice A g.E.length c] 24)).alloc (.cells #[.slice A1 p.V.length c1, .slice A2 p.E.length c2] 27)) ((((w.alloc (.cells #[.int .i64 g.N, .slice A g.E.length c] 24)).alloc (.cells #[.slice A1 p.V.length c1, .slice A2 p.E.length c2] 27))).alloc (.cells #[.slice none 0 0, .slice none 0 0] 27))) := ⟨(BB.refl _).al _⟩
  have HBq := Bx.mk (And.intro (HBX.out.cell HB.out.1) (And.intro (HBX.out.cell HB.out.2.1) (HBX.out.cell HB.out.2.2)))
  have BX := Bx.mk (BA.out.trans HBX.out)
  clear HBX HB BA hz0
  generalize hwX : ((((w.alloc (.cells #[.int .i64 g.N, .slice A g.E.length c] 24)).alloc (.cells #[.slice A1 p.V.length c1, .slice A2 p.E.length c2] 27))).alloc (.cells #[.slice none 0 0, .slice none 0 0] 27)) = wX at *
  have hR7 := heap_alloc_new wX (.cells #[.slice none 0 0, .slice none 0 0] 27 (0, 0))
  generalize hb7 : w.heap.size + 1 + 1 + 1 = b7
  generalize hb6 : w.heap.size + 1 + 1 = b6
  have e7 : wX.heap.size = b7 := by omega
  rw [e7] at hR7
  rw [show w.heap.size + 2 = b6 by omega] at hR6
  have HR7 := Bx.mk hR7
  have HR6 := Bx.mk hR6
  have HZ : Bx (wX.heap.size = b7 ∧ b7 = w.heap.size + 3 ∧ b6 = w.heap.size + 2) := ⟨⟨e7, by omega, by omega⟩⟩
  clear hwX hR7 hR6 e7 hb7 hb6 hzX
  go_loopw [8] (fun iv wr => ∃ (k : Nat) (A7 : Option Addr) (n7 c7 : Nat), k ≤ p.V.length ∧ iv = .int .i64 k ∧ Bx (wr.heap[b7]? = some (.cells #[.slice A7 n7 c7, .slice none 0 0] 27 (0, 0))) ∧ OwnI wr (b7 + 1) (.slice A7 n7 c7) ((p.V.take k).filter fV) ∧ BB wX wr ∧ b7 + 1 ≤ wr.heap.size) (fun iv _ => p.V.length - (intOf iv).toNat)
  case atStart => exact ⟨0, none, 0, 0, Nat.zero_le _, rfl, HR7, OwnI.nil _ _, (BB.refl wX).al _, (Array.getElem?_eq_some_iff.1 HR7.out).1⟩
  case round =>
    obtain ⟨k, A7, n7, c7, hk, rfl, HRr, HO, HBr, hzr⟩ := hrel
    have hn7 : ((p.V.take k).filter fV).length ≤ p.V.length := filter_take_len
    obtain ⟨A7', c7', hv7, hle7, -, -⟩ := HO.read (by omega)
    cases hv7
    have hP1 := HBr.cell HBq.out.2.1
    have hP2 := HBr.cell HBq.out.2.2
    by_cases hlt : k < p.V.length
    · have HWr := Bx.mk (BX.out.trans HBr)
      have HFT := Bx.mk (filter_take (f := fV) hlt)
      obtain ⟨b1, off1, rfl, hcl⟩ := (HWr.out.ri H1.out).at (by omega)
      have hck := hcl k hlt
      obtain ⟨x, hx⟩ : ∃ x, Bx (gi p.V k = x) := ⟨_, ⟨rfl⟩⟩
      rw [hx.out] at hck HFT
      have HR3 := Bx.mk (HWr.out.ri H3.out)
      have HO1 := Bx.mk HO
      clear hcl HO
      cases hin : fV x with
      | true =>
        have HIN : Bx (decide (x ∈ l) = true) := ⟨by rw [← hin, ← hfV.out]⟩
        have HFT2 : Bx ((p.V.take (k + 1)).filter fV = (p.V.take k).filter fV ++ [x]) := ⟨by rw [HFT.out, hin]; rfl⟩
        clear hin
        go_wp2_with (go_at_call 32; (with_reducible refine (in_any l x A3 _ c3 _ HR3.out).mono ?_); rintro e w5 ⟨rfl, rfl⟩; rw [HIN.out])
        have hBD : BB wr wr.drew := (BB.refl wr).drawn 1
        have hd0 : wr.drew.cell? ⟨b7, 0, none⟩ = some (.slice A7 ((p.V.take k).filter fV).length c7) := cell_of_row wr b7 0 _ _ _ HRr.out
        have hd1 := hBD.cell hP1
        have hd2 := hBD.cell hck
        have HBA : Bx (BB wr (wr.alloc (.cells #[.int .i64 x] 3)).drew) := ⟨((BB.refl wr).al _).drawn 1⟩
        have ha0 : (wr.alloc (.cells #[.int .i64 x] 3)).drew.cell? ⟨b7, 0, none⟩ = some (.slice A7 ((p.V.take k).filter fV).length c7) := HBA.out.cell hd0
        have ha1 := HBA.out.cell hP1
        have ha2 := HBA.out.cell hck
        have HOA : Bx (OwnI (wr.alloc (.cells #[.int .i64 x] 3)).drew (b7 + 1) (.slice A7 ((p.V.take k).filter fV).length c7) ((p.V.take k).filter fV)) := ⟨HO1.out.below HBA.out.b⟩
        have HRX : Bx (RI (wr.alloc (.cells #[.int .i64 x] 3)).drew (some ⟨wr.heap.size, 0, none⟩) 1 [x]) := ⟨ri_one (heap_alloc_new wr (.cells #[.int .i64 x] 3))⟩
        have hRA : Bx ((wr.alloc (.cells #[.int .i64 x] 3)).drew.heap[b7]? = some (.cells #[.slice A7 ((p.V.take k).filter fV).length c7, .slice none 0 0] 27 (0, 0))) := ⟨(HBA.out.b.block b7 (Array.getElem?_eq_some_iff.1 HRr.out).1).trans HRr.out⟩
        have HNE : Bx (¬ some b7 = (Value.slice A7 ((p.V.take k).filter fV).length c7).ownBlock) := ⟨fun e => by have := (HO1.out.lt _ e.symm).1; omega⟩
        have hsa : b7 + 1 ≤ (wr.alloc (.cells #[.int .i64 x] 3)).drew.heap.size := Nat.le_trans hzr HBA.out.size
        have hlx : ((p.V.take k).filter fV).length + [x].length < 1099511627776 := by rw [List.length_singleton]; omega
        have HLX := Bx.mk hlx
        clear hlx hBD
        go_region_law (first
          | (refine step_app_row (b7 + 1) ((p.V.take k).filter fV) (.slice A7 ((p.V.take k).filter fV).length c7) HOA.out [x] (some ⟨wr.heap.size, 0, none⟩) 1 1 HRX.out rfl rfl rfl rfl hsa HLX.out ?_; intro v8 w8 ho8 hs8 hb8; obtain ⟨A8, c8, hv8, -, -, -⟩ := ho8.read (by rw [List.length_append, List.length_singleton]; omega); subst hv8; have hR8 := hs8.heap hRA.out HNE.out; have hf8 := frozen_of_row w8 b7 0 hR8; have hc8 := cell_of_row w8 b7 0 _ _ _ hR8; have HR8 := Bx.mk hR8; clear hR8)
          | fail)
        all_goals
          have e9 : ((p.V.take k).filter fV ++ [x]).length = ((p.V.take k).filter fV).length + 1 := by rw [List.length_append, List.length_singleton]
          rw [e9] at ho8
          have HO8 := Bx.mk ho8
          have HB8 := Bx.mk ((HBr.trans HBA.out).own HOA.out (by have := HZ.out; omega) hs8)
          have hz8 := hs8.size
          clear ho8 e9 hb8 hs8
          go_wp2
          go_roundw
          case rel =>
            refine ⟨k + 1, A8, _, c8, hlt, by go_num, ⟨heap_setCell_own w8 b7 0 _ HR8.out⟩, ?_, HB8.out.set (by rw [HZ.out.1]; exact Nat.le_refl _) _, ?_⟩
            · rw [HFT2.out]
              exact HO8.out.step (Step.setCell (F := fun j => j = b7) w8 (p := ⟨b7, 0, none⟩) rfl _) fun j hj e => by have := (HO8.out.lt j hj).1; omega
            · rw [setCell_size]; omega
          case measure => simp [intOf]; omega
      | false =>
        have HIN : Bx (decide (x ∈ l) = false) := ⟨by rw [← hin, ← hfV.out]⟩
        have HFT2 : Bx ((p.V.take (k + 1)).filter fV = (p.V.take k).filter fV) := ⟨by rw [HFT.out, hin]; simp⟩
        clear hin
        go_wp2_with (go_at_call 32; (with_reducible refine (in_any l x A3 _ c3 _ HR3.out).mono ?_); rintro e w5 ⟨rfl, rfl⟩; rw [HIN.out])
        go_roundw
        case rel => exact ⟨k + 1, A7, _, c7, hlt, by go_num, HRr, by rw [HFT2.out]; exact HO1.out, HBr, hzr⟩
        case measure => simp [intOf]; omega
    · have hkk : k = p.V.length := by omega
      subst hkk
      have HFV : Bx ((p.V.take p.V.length).filter fV = p.V.filter fV) := ⟨by rw [List.take_length]⟩
      rw [HFV.out] at HRr HO hle7 hn7
      rename World => wG
      go_wp2
      have HOV := Bx.mk HO
      clear HO hP2 hP1
      go_loopw [9] (fun iv wr => ∃ (k : Nat) (A8 : Option Addr) (n8 c8 : Nat), k ≤ p.E.length ∧ iv = .int .i64 k ∧ Bx (wr.heap[b7]? = some (.cells #[.slice A7 (p.V.filter fV).length c7, .slice A8 n8 c8] 27 (0, 0))) ∧ OwnI wr wG.heap.size (.slice A8 n8 c8) ((p.E.take k).filter fE) ∧ OwnI wr (b7 + 1) (.slice A7 (p.V.filter fV).length c7) (p.V.filter fV) ∧ BB wX wr ∧ wG.heap.size ≤ wr.heap.size) (fun iv _ => p.E.length - (intOf iv).toNat)
      case atStart => exact ⟨0, none, 0, 0, Nat.zero_le _, rfl, HRr, OwnI.nil _ _, HOV.out, HBr, Nat.le_refl _⟩
      case round =>
        rename World => wi
        obtain ⟨k, A8, n8, c8, hk, rfl, HRi, HO, HO7, HBi, hzi⟩ := hrel
        have hn8 : ((p.E.take k).filter fE).length ≤ p.E.length := filter_take_len
        obtain ⟨A8', c8', hv8, hle8, -, -⟩ := HO.read (by omega)
        cases hv8
        have hP2 := HBi.cell HBq.out.2.2
        by_cases hlt : k < p.E.length
        · have HWi := Bx.mk (BX.out.trans HBi)
          have HFT := Bx.mk (filter_take (f := fE) hlt)
          have hG2 := HBi.cell HBq.out.1
          obtain ⟨b2, off2, rfl, hc2⟩ := (HWi.out.ri H2.out).at (by omega)
          have hck := hc2 k hlt
          have hei := hE.out _ (gi_mem hlt)
          obtain ⟨e, he⟩ : ∃ e : Nat, Bx (gi p.E k = (e : Int)) := ⟨(gi p.E k).toNat, ⟨by omega⟩⟩
          rw [he.out] at hck hei HFT
          have hxl : e < g.E.length := by omega
          obtain ⟨b, off, rfl, hcl⟩ := (HWi.out.re HA.out).at (by omega)
          obtain ⟨hca, hcb⟩ := hcl e hxl
          have HFE : Bx (fE (e : Int) = (decide ((ge g.E e).1 ∈ l) && decide ((ge g.E e).2 ∈ l))) := ⟨by rw [← hfE.out]; simp only [Int.toNat_natCast]⟩
          generalize (ge g.E e).1 = a at *
          generalize (ge g.E e).2 = b' at *
          have HO1 := Bx.mk HO
          have HO7B := Bx.mk HO7
          clear hc2 hcl hei HO HO7
          have hbD : BB wi wi.drew := (BB.refl wi).drawn 1
          have hd0 : wi.drew.cell? ⟨w.heap.size, 1, none⟩ = some (.slice (some ⟨b, off, none⟩) g.E.length c) := hbD.cell hG2
          have hd1 : wi.drew.cell? ⟨w.heap.size + 1, 1, none⟩ = some (.slice (some ⟨b2, off2, none⟩) p.E.length c2) := hbD.cell hP2
          have hd2 : wi.drew.cell? ⟨b2, off2 + k, none⟩ = some (.int .i64 (e : Int)) := hbD.cell hck
          have hd3 : wi.drew.cell? ⟨b, off + e * 2, none⟩ = some (.int .i64 a) := hbD.cell hca
          have hd4 : wi.drew.cell? ⟨b, off + e * 2 + 1, none⟩ = some (.int .i64 b') := hbD.cell hcb
          have n0 := World.new_ne wi.drew _ hd0
          have n1' := World.new_ne wi.drew _ hd1
          have n2 := World.new_ne wi.drew _ hd2
          have n3' := World.new_ne wi.drew _ hd3
          have n4 := World.new_ne wi.drew _ hd4
          go_wp2
          go_region_held3 (fun w' => w'.cell? ⟨w.heap.size, 1, none⟩ = some (.slice (some ⟨b, off, none⟩) g.E.length c) ∧ w'.cell? ⟨w.heap.size + 1, 1, none⟩ = some (.slice (some ⟨b2, off2, none⟩) p.E.length c2) ∧ w'.cell? ⟨b2, off2 + k, none⟩ = some (.int .i64 (e : Int)) ∧ w'.cell? ⟨b, off + e * 2, none⟩ = some (.int .i64 a) ∧ w'.cell? ⟨b, off + e * 2 + 1, none⟩ = some (.int .i64 b')) (go_keep) (fail)
          all_goals
            have HBw : Bx (BB wi (wi.alloc (.cells #[.int .i64 a, .int .i64 b'] 70)).drew) := ⟨((BB.refl wi).al _).drawn 1⟩
            have hq0 : (wi.alloc (.cells #[.int .i64 a, .int .i64 b'] 70)).drew.cell? ⟨wi.heap.size, 0, none⟩ = some (.int .i64 a) := ((BB.refl _).drawn 1).cell (box_cell wi _ _ _ 0)
            have hq1 : (wi.alloc (.cells #[.int .i64 a, .int .i64 b'] 70)).drew.cell? ⟨wi.heap.size, 1, none⟩ = some (.int .i64 b') := ((BB.refl _).drawn 1).cell (box_cell wi _ _ _ 1)
            have hp2 := HBw.out.cell hP2
            have hk2 := HBw.out.cell hck
            have HR7i : Bx ((wi.alloc (.cells #[.int .i64 a, .int .i64 b'] 70)).drew.heap[b7]? = some (.cells #[.slice A7 (p.V.filter fV).length c7, .slice A8 ((p.E.take k).filter fE).length c8] 27 (0, 0))) := ⟨(HBw.out.b.block b7 (Array.getElem?_eq_some_iff.1 HRi.out).1).trans HRi.out⟩
            have HOa : Bx (OwnI (wi.alloc (.cells #[.int .i64 a, .int .i64 b'] 70)).drew wG.heap.size (.slice A8 ((p.E.take k).filter fE).length c8) ((p.E.take k).filter fE)) := ⟨HO1.out.below HBw.out.b⟩
            have HO7a := Bx.mk (HO7B.out.below HBw.out.b)
            have HBa := Bx.mk (HBi.trans HBw.out)
            have HRLa := Bx.mk ((HWi.out.trans HBw.out).ri H3.out)
            have hza : wG.heap.size ≤ (wi.alloc (.cells #[.int .i64 a, .int .i64 b'] 70)).drew.heap.size := Nat.le_trans hzi HBw.out.size
            generalize hbo : wi.heap.size = bo at *
            generalize (wi.alloc (.cells #[.int .i64 a, .int .i64 b'] 70)).drew = W1 at *
            clear hd0 hd1 hd2 hd3 hd4 n0 n1' n2 n3' n4 HBw hG2 hP2 hck hca hcb hbo hbD
            by_cases m1 : a ∈ l
            · have d1 : Bx (decide (a ∈ l) = true) := ⟨by simp [m1]⟩
              by_cases m2 : b' ∈ l
              · have d2 : Bx (decide (b' ∈ l) = true) := ⟨by simp [m2]⟩
                have HFT2 : Bx ((p.E.take (k + 1)).filter fE = (p.E.take k).filter fE ++ [(e : Int)]) := ⟨by rw [HFT.out, HFE.out, d1.out, d2.out]; rfl⟩
                clear m1 m2
                go_wp2_with (go_at_call 32; first
                  | ((with_reducible refine (in_any l a A3 _ c3 _ HRLa.out).mono ?_); rintro e5 w5 ⟨rfl, rfl⟩; rw [d1.out])
                  | ((with_reducible refine (in_any l b' A3 _ c3 _ HRLa.out).mono ?_); rintro e5 w5 ⟨rfl, rfl⟩; rw [d2.out])
                  | fail)
                have hd0 : W1.drew.cell? ⟨b7, 1, none⟩ = some (.slice A8 ((p.E.take k).filter fE).length c8) := cell_of_row W1 b7 1 _ _ _ HR7i.out
                have hd1 := ((BB.refl W1).drawn 1).cell hp2
                have hd2 := ((BB.refl W1).drawn 1).cell hk2
                have HBA : Bx (BB W1 (W1.alloc (.cells #[.int .i64 (e : Int)] 3)).drew) := ⟨((BB.refl W1).al _).drawn 1⟩
                have ha0 : (W1.alloc (.cells #[.int .i64 (e : Int)] 3)).drew.cell? ⟨b7, 1, none⟩ = some (.slice A8 ((p.E.take k).filter fE).length c8) := HBA.out.cell hd0
                have ha1 := HBA.out.cell hp2
                have ha2 := HBA.out.cell hk2
                have HOA : Bx (OwnI (W1.alloc (.cells #[.int .i64 (e : Int)] 3)).drew wG.heap.size (.slice A8 ((p.E.take k).filter fE).length c8) ((p.E.take k).filter fE)) := ⟨HOa.out.below HBA.out.b⟩
                have HRX : Bx (RI (W1.alloc (.cells #[.int .i64 (e : Int)] 3)).drew (some ⟨W1.heap.size, 0, none⟩) 1 [(e : Int)]) := ⟨ri_one (heap_alloc_new W1 (.cells #[.int .i64 (e : Int)] 3))⟩
                have hRA : Bx ((W1.alloc (.cells #[.int .i64 (e : Int)] 3)).drew.heap[b7]? = some (.cells #[.slice A7 (p.V.filter fV).length c7, .slice A8 ((p.E.take k).filter fE).length c8] 27 (0, 0))) := ⟨(HBA.out.b.block b7 (Array.getElem?_eq_some_iff.1 HR7i.out).1).trans HR7i.out⟩
                have HNE : Bx (¬ some b7 = (Value.slice A8 ((p.E.take k).filter fE).length c8).ownBlock) := ⟨fun e => by have := (HO1.out.lt _ e.symm).1; omega⟩
                have hsa : wG.heap.size ≤ (W1.alloc (.cells #[.int .i64 (e : Int)] 3)).drew.heap.size := Nat.le_trans hza HBA.out.size
                have HLX : Bx (((p.E.take k).filter fE).length + [(e : Int)].length < 1099511627776) := ⟨by rw [List.length_singleton]; omega⟩
                go_region_law (first
                  | (refine step_app_row wG.heap.size ((p.E.take k).filter fE) (.slice A8 ((p.E.take k).filter fE).length c8) HOA.out [(e : Int)] (some ⟨W1.heap.size, 0, none⟩) 1 1 HRX.out rfl rfl rfl rfl hsa HLX.out ?_; intro v9 w9 ho9 hs9 hb9; obtain ⟨A9, c9, hv9, -, -, -⟩ := ho9.read (by rw [List.length_append, List.length_singleton]; omega); subst hv9; have hR9 := hs9.heap hRA.out HNE.out; have hf9 := frozen_of_row w9 b7 1 hR9; have hc9 := cell_of_row w9 b7 1 _ _ _ hR9; have HR9 := Bx.mk hR9; clear hR9)
                  | fail)
                all_goals
                  have e9 : ((p.E.take k).filter fE ++ [(e : Int)]).length = ((p.E.take k).filter fE).length + 1 := by rw [List.length_append, List.length_singleton]
                  rw [e9] at ho9
                  have HO9 := Bx.mk ho9
                  have HB9 := Bx.mk ((HBa.out.trans HBA.out).own HOA.out (by have := HZ.out; omega) hs9)
                  have HO79 := Bx.mk ((HO7a.out.below HBA.out.b).step hs9 fun j hj e => by have := (HO1.out.lt _ e.symm).1; have := (HOV.out.lt j hj).2; omega)
                  have hz9 := hs9.size
                  clear ho9 e9 hb9 hs9
                  go_wp2
                  go_roundw
                  case rel =>
                    refine ⟨k + 1, A9, _, c9, hlt, by go_num, ⟨heap_setCell_own w9 b7 1 _ HR9.out⟩, ?_, HO79.out.step (Step.setCell (F := fun j => j = b7) w9 (p := ⟨b7, 1, none⟩) rfl _) (fun j hj e => by have := (HO79.out.lt j hj).1; omega), HB9.out.set (by rw [HZ.out.1]; exact Nat.le_refl _) _, ?_⟩
                    · rw [HFT2.out]
                      exact HO9.out.step (Step.setCell (F := fun j => j = b7) w9 (p := ⟨b7, 1, none⟩) rfl _) fun j hj e => by have := (HO9.out.lt j hj).1; omega
                    · rw [setCell_size]; omega
                  case measure => simp [intOf]; omega
              · have d2 : Bx (decide (b' ∈ l) = false) := ⟨by simp [m2]⟩
                have HFT2 : Bx ((p.E.take (k + 1)).filter fE = (p.E.take k).filter fE) := ⟨by rw [HFT.out, HFE.out, d1.out, d2.out]; simp⟩
                clear m1 m2
                go_wp2_with (go_at_call 32; first
                  | ((with_reducible refine (in_any l a A3 _ c3 _ HRLa.out).mono ?_); rintro e5 w5 ⟨rfl, rfl⟩; rw [d1.out])
                  | ((with_reducible refine (in_any l b' A3 _ c3 _ HRLa.out).mono ?_); rintro e5 w5 ⟨rfl, rfl⟩; rw [d2.out])
                  | fail)
                go_roundw
                case rel => exact ⟨k + 1, A8, _, c8, hlt, by go_num, HR7i, by rw [HFT2.out]; exact HOa.out, HO7a.out, HBa.out, hza⟩
                case measure => simp [intOf]; omega
            · have d1 : Bx (decide (a ∈ l) = false) := ⟨by simp [m1]⟩
              have HFT2 : Bx ((p.E.take (k + 1)).filter fE = (p.E.take k).filter fE) := ⟨by rw [HFT.out, HFE.out, d1.out]; simp⟩
              clear m1
              go_wp2_with (go_at_call 32; (with_reducible refine (in_any l a A3 _ c3 _ HRLa.out).mono ?_); rintro e5 w5 ⟨rfl, rfl⟩; rw [d1.out])
              go_roundw
              case rel => exact ⟨k + 1, A8, _, c8, hlt, by go_num, HR7i, by rw [HFT2.out]; exact HOa.out, HO7a.out, HBa.out, hza⟩
              case measure => simp [intOf]; omega
        · have hkk : k = p.E.length := by omega
          subst hkk
          have HFE : Bx ((p.E.take p.E.length).filter fE = p.E.filter fE) := ⟨by rw [List.take_length]⟩
          rw [HFE.out] at HRi HO hle8 hn8
          have hR2 := Bx.mk (HBi.b.block b6 (by have := HZ.out; omega) |>.trans HR6.out)
          have hq0 := cell_of_row wi b7 0 _ _ _ HRi.out
          have hq1 := cell_of_row wi b7 1 _ _ _ HRi.out
          have hs0 := cell_of_row wi b6 0 _ _ _ hR2.out
          have hs1 := cell_of_row wi b6 1 _ _ _ hR2.out
          have hf0 := frozen_of_row wi b6 0 hR2.out
          have hf1 := frozen_of_row wi b6 1 hR2.out
          go_wp2
          have hz6 := HZ.out
          have hS1 := heap_setCell_own wi b6 0 (.slice A7 (p.V.filter fV).length c7) hR2.out
          have hS2 := heap_setCell_own _ b6 1 (.slice A8 (p.E.filter fE).length c8) hS1
          try simp only [Exit.inBlock, Exit.then]
          refine bodyPost_ret (results_cell_row rfl _ _ b6 _ _ _ _ rfl hS2 Tryz.underlying27 rfl (by kernel_rfl)) rfl ?_
          obtain ⟨A3', c3', hv3, hle3', hr3, ha3⟩ := HO7.read (by omega)
          obtain ⟨A4, c4, hv4, hle4, hr4, ha4⟩ := HO.read (by omega)
          cases hv3
          cases hv4
          have hset : Step (fun i => i = b6) wi ((wi.setCell ⟨b6, 0, none⟩ (.slice A7 (p.V.filter fV).length c7)).setCell ⟨b6, 1, none⟩ (.slice A8 (p.E.filter fE).length c8)) :=
            (Step.setCell (F := fun i => i = b6) wi (p := ⟨b6, 0, none⟩) rfl _).trans (Step.setCell (F := fun i => i = b6) _ (p := ⟨b6, 1, none⟩) rfl _)
          rw [HSUB.out]
          refine ⟨⟨A7, c7, A8, c8, rfl, ⟨hle3', hr3.step hset fun ad ha h0 e => ?_, fun ad ha => ?_⟩, ⟨hle4, hr4.step hset fun ad ha h0 e => ?_, fun ad ha => ?_⟩⟩, (((BX.out.trans HBi).set (by dsimp only; omega) _).set (by dsimp only; omega) _)⟩
          · have := (ha3 ad ha).1; omega
          · have := (ha3 ad ha).1; omega
          · have := (ha4 ad ha).1; omega
          · have := (ha4 ad ha).1; omega

/-- A row of parts of the call's own that keeps clear of block kd. -/
structure OwnPx (w : World) (base : Nat) (v : Value) (ws : List (List Int × List Int)) (kd : Option Nat) : Prop where
  o : ∃ zs : List (PP × (List Int × List Int)), zs.map Prod.snd = ws ∧ w.ownsRow base 27 2 v ws.length (zs.flatMap fun z => ppCells z.1) ∧ (∀ z ∈ zs, POk w base v z) ∧ (∀ k, v.ownBlock = some k → kd ≠ some k) ∧
    ∀ z ∈ zs, (∀ ad, z.1.1.1 = some ad → 0 < z.1.1.2.1 → kd ≠ some ad.block) ∧ ∀ ad, z.1.2.1 = some ad → 0 < z.1.2.2.1 → kd ≠ some ad.block
theorem OwnPx.own {w : World} {base : Nat} {v : Value} {ws : List (List Int × List Int)} {kd : Option Nat} (h : OwnPx w base v ws kd) : OwnP w base v ws := by
  obtain ⟨zs, h0, h1, h2, _⟩ := h.o
  exact ⟨zs, h0, h1, h2⟩
theorem OwnPx.nil (w : World) (base : Nat) (kd : Option Nat) : OwnPx w base (.slice none 0 0) [] kd := ⟨[], rfl, World.ownsRow_nil w base _ _, fun z hz => (by cases hz), fun k h => (by cases h), fun z hz => by cases hz⟩
theorem OwnPx.step {F : Nat → Prop} {w w' : World} {base : Nat} {v : Value} {ws : List (List Int × List Int)} {kd : Option Nat} (h : OwnPx w base v ws kd) (hs : Step F w w') (hf : ∀ k, k < w.heap.size → F k → kd = some k) : OwnPx w' base v ws kd := by
  obtain ⟨zs, h0, h1, h2, h3, h4⟩ := h.o
  have one : ∀ {q : Option Addr × Nat × Nat} {xs : List Int}, POk1 w base v q xs → (∀ ad, q.1 = some ad → 0 < q.2.1 → kd ≠ some ad.block) → POk1 w' base v q xs := fun {q xs} k hn =>
    ⟨k.1, k.2.1.step hs fun ad ha h0 hF => hn ad ha h0 (hf _ (k.2.1.blk ha h0) hF), k.2.2⟩
  refine ⟨zs, h0, ⟨h1.1, ?_⟩, fun z hz => ⟨one (h2 z hz).1 (h4 z hz).1, one (h2 z hz).2 (h4 z hz).2⟩, h3, h4⟩
  rcases h1.2 with k | ⟨g, cap, cur, rfl, hb, hg, hr⟩
  · exact .inl k
  · have hlt := (Array.getElem?_eq_some_iff.1 hg).1
    exact .inr ⟨g, cap, cur, rfl, hb, (hs.block g hlt fun hF => h3 g rfl (hf g hlt hF)).trans hg, hr⟩
theorem OwnPx.below {w w' : World} {base : Nat} {v : Value} {ws : List (List Int × List Int)} {kd : Option Nat} (h : OwnPx w base v ws kd) (hb : Below w.heap.size w w') : OwnPx w' base v ws kd :=
  h.step (Step.of_below hb) fun k hk hF => by omega
theorem OwnPx.turn {w : World} {base : Nat} {v : Value} {ws : List (List Int × List Int)} {kd : Option Nat} (h : OwnPx w base v ws kd) {kd' : Option Nat} (hk : ∀ k, kd' = some k → w.heap.size ≤ k) : OwnPx w base v ws kd' := by
  obtain ⟨zs, h0, h1, h2, _, _⟩ := h.o
  exact ⟨zs, h0, h1, h2, fun k hv e => by have := (h1.lt k hv).2; have := hk k e; omega, fun z hz => ⟨fun ad ha h0 e => by have := (h2 z hz).1.2.1.blk ha h0; have := hk _ e; omega, fun ad ha h0 e => by have := (h2 z hz).2.2.1.blk ha h0; have := hk _ e; omega⟩⟩
theorem OwnPx.step2 {F : Nat → Prop} {w w' : World} {base : Nat} {v : Value} {ws : List (List Int × List Int)} {kd kd' : Option Nat} (h : OwnPx w base v ws kd) (hs : Step F w w') (hf : ∀ k, k < w.heap.size → F k → kd = some k) (hk : ∀ k, kd' = some k → kd = some k ∨ w.heap.size ≤ k) : OwnPx w' base v ws kd' := by
  have h' := h.step hs hf
  obtain ⟨zs, h0, h1, h2, h3, h4⟩ := h.o
  obtain ⟨k1, k2⟩ := h'.own.o
  have one : ∀ {q : Option Addr × Nat × Nat} {xs : List Int}, POk1 w base v q xs → (∀ ad, q.1 = some ad → 0 < q.2.1 → kd ≠ some ad.block) → POk1 w' base v q xs := fun {q xs} k hn =>
    ⟨k.1, k.2.1.step hs fun ad ha h0 hF => hn ad ha h0 (hf _ (k.2.1.blk ha h0) hF), k.2.2⟩
  refine ⟨zs, h0, ⟨h1.1, ?_⟩, fun z hz => ⟨one (h2 z hz).1 (h4 z hz).1, one (h2 z hz).2 (h4 z hz).2⟩, fun k hv e => ?_, fun z hz => ⟨fun ad ha h0 e => ?_, fun ad ha h0 e => ?_⟩⟩
  · rcases h1.2 with k | ⟨g, cap, cur, rfl, hb, hg, hr⟩
    · exact .inl k
    · have hlt := (Array.getElem?_eq_some_iff.1 hg).1
      exact .inr ⟨g, cap, cur, rfl, hb, (hs.block g hlt fun hF => h3 g rfl (hf g hlt hF)).trans hg, hr⟩
  · rcases hk k e with h5 | h5
    · exact h3 k hv h5
    · have := (h1.lt k hv).2; omega
  · rcases hk _ e with h5 | h5
    · exact (h4 z hz).1 ad ha h0 h5
    · have := (h2 z hz).1.2.1.blk ha h0; omega
  · rcases hk _ e with h5 | h5
    · exact (h4 z hz).2 ad ha h0 h5
    · have := (h2 z hz).2.2.1.blk ha h0; omega
theorem OwnPx.ne {w : World} {base : Nat} {v : Value} {ws : List (List Int × List Int)} {kd : Option Nat} (h : OwnPx w base v ws kd) : ∀ k, v.ownBlock = some k → kd ≠ some k := by
  obtain ⟨zs, _, _, _, h3, _⟩ := h.o
  exact h3
theorem app_partx_run {a : Act} {o : Oper} {W : World} (base : Nat) (ws : List (List Int × List Int)) (v : Value) (kd : Option Nat) (HO : OwnPx W base v ws kd) (hkd : ∀ k, kd = some k → k < W.heap.size) (q : PP) (u : List Int × List Int) (hu : POk W base v (q, u))
    (hq : (∀ ad, q.1.1 = some ad → 0 < q.1.2.1 → kd ≠ some ad.block) ∧ ∀ ad, q.2.1 = some ad → 0 < q.2.2.1 → kd ≠ some ad.block) {s x : Operand}
    (ho : o.op = .call { callee := .builtin .append, args := #[s, x], argTypes := #[54, 54] }) (hs : a.eval s = v) (hx : a.eval x = .slice (some ⟨W.heap.size, 0, none⟩) 1 1)
    (hbase : base ≤ W.heap.size) (hl : ws.length < 1099511627776) :
    ∃ v1 w1, (execOp a.eval o).run Tryz.prog (W.alloc (.cells #[.slice q.1.1 q.1.2.1 q.1.2.2, .slice q.2.1 q.2.2.1 q.2.2.2] 27)) = .ok (.value v1) w1 ∧ OwnPx w1 base v1 (ws ++ [u]) kd ∧ Step (fun k => some k = v.ownBlock) W w1 := by
  obtain ⟨zs, h0, h1, h2, h3, h4⟩ := HO.o
  obtain ⟨i0, hi, hzz⟩ := Option.map_eq_some_iff.1 info_part
  simp only [Prod.mk.injEq] at hzz
  obtain ⟨hz0, hz1, hz2⟩ := hzz
  obtain ⟨v1, w1, hr, hown, hg, _, hat⟩ := run_append_own_at (P := Tryz.prog) (W.alloc (.cells #[.slice q.1.1 q.1.2.1 q.1.2.2, .slice q.2.1 q.2.2.1 q.2.2.2] 27)) base 54 o.type 27 i0 _ 2 48 Tryz.underlying54 hi hz0 hz1 hz2 rfl (by decide) v ws.length _ (h1.alloc _) ⟨W.heap.size, 0, none⟩ 1 1 (ppCells q) rfl
    (World.news_of_block (cs := #[.slice q.1.1 q.1.2.1 q.1.2.2, .slice q.2.1 q.2.2.1 q.2.2.2]) (t := 27) (fr := (0, 0)) (heap_alloc_new W _)) (by intro u hu; simp [ppCells] at hu; rcases hu with rfl | rfl <;> rfl) (by simp only [maxLen]; omega) (by omega) (by simp; omega)
  have hstep : Step (fun k => some k = v.ownBlock) W w1 := Step.of_grown (World.grownBy.trans (World.grownBy_alloc W (.cells #[.slice q.1.1 q.1.2.1 q.1.2.2, .slice q.2.1 q.2.2.1 q.2.2.2] 27) v.ownBlock) hg)
  have both : ∀ z ∈ zs ++ [(q, u)], POk W base v z ∧ (∀ ad, z.1.1.1 = some ad → 0 < z.1.1.2.1 → kd ≠ some ad.block) ∧ ∀ ad, z.1.2.1 = some ad → 0 < z.1.2.2.1 → kd ≠ some ad.block := fun z hz => by
    rcases List.mem_append.1 hz with hz | hz
    · exact ⟨h2 z hz, h4 z hz⟩
    · rw [List.mem_singleton] at hz; subst hz; exact ⟨hu, hq⟩
  refine ⟨v1, w1, ?_, ⟨zs ++ [(q, u)], by rw [List.map_append, h0]; rfl, ?_, fun z hz => ?_, fun k hk e => ?_, fun z hz => (both z hz).2⟩, hstep⟩
  · simp [execOp, ho, resolve, invoke, builtin, hs, hx, hr, Result.andThen]
  · rw [List.length_append, List.flatMap_append]
    simpa using hown
  · have hz' := (both z hz).1
    have one : ∀ {q : Option Addr × Nat × Nat} {xs : List Int}, POk1 W base v q xs → POk1 w1 base v1 q xs := fun {q xs} h => by
      obtain ⟨b1, b2, b3⟩ := h.step hstep fun k cs e fr hb hk hn hF => hn hF.symm
      refine ⟨b1, b2, fun ad ha h0 => ⟨(b3 ad ha h0).1, fun e => ?_⟩⟩
      rcases hat with hat | hat
      · exact (b3 ad ha h0).2 (hat ▸ e)
      · rw [hat] at e
        have := h.2.1.blk ha h0
        simp at e
        omega
    exact ⟨one hz'.1, one hz'.2⟩
  · rcases hat with hat | hat
    · exact h3 k (hat ▸ hk) e
    · rw [hat] at hk
      have := hkd k e
      simp at hk
      omega
section
variable {ops : Array Oper} {rest : List Oper} {o : Oper} {a : Act} {Q : Exit → Act → World → Prop}
theorem app_partx {W : World} (base : Nat) (ws : List (List Int × List Int)) (v : Value) (kd : Option Nat) (HO : OwnPx W base v ws kd) (hkd : ∀ k, kd = some k → k < W.heap.size) (q : PP) (u : List Int × List Int) (hu : POk W base v (q, u))
    (hq : (∀ ad, q.1.1 = some ad → 0 < q.1.2.1 → kd ≠ some ad.block) ∧ ∀ ad, q.2.1 = some ad → 0 < q.2.2.1 → kd ≠ some ad.block) {s x : Operand} (hgd : o.guard = none)
    (ho : o.op = .call { callee := .builtin .append, args := #[s, x], argTypes := #[54, 54] }) (hs : a.eval s = v) (hx : a.eval x = .slice (some ⟨W.heap.size, 0, none⟩) 1 1)
    (hbase : base ≤ W.heap.size) (hl : ws.length < 1099511627776)
    (h : ∀ v1 w1, OwnPx w1 base v1 (ws ++ [u]) kd → Step (fun k => some k = v.ownBlock) W w1 → wpList Tryz.prog ops Q rest (a.put o.dst v1) w1) :
    wpList Tryz.prog ops Q (o :: rest) a (W.alloc (.cells #[.slice q.1.1 q.1.2.1 q.1.2.2, .slice q.2.1 q.2.2.1 q.2.2.2] 27)) :=
  wpList_plain hgd fun K hK => by
    obtain ⟨v1, w1, hr, h1, h2⟩ := app_partx_run base ws v kd HO hkd q u hu hq ho hs hx hbase hl
    unfold Oper.wp
    rw [hr]
    exact hK _ _ (h v1 w1 h1 h2)
end
theorem piecesTo_len {g : Gr} {p : Pt} (h0 : g.rightPart p = 0) : ∀ k, k ≤ p.V.length → (piecesTo g p k).1.length ≤ k * p.V.length ∧ (piecesTo g p k).2.length ≤ k := by
  intro k
  induction k with
  | zero => intro _; exact ⟨Nat.zero_le _, Nat.le_refl _⟩
  | succ k ih =>
    intro hk
    obtain ⟨i1, i2⟩ := ih (by omega)
    unfold piecesTo
    rw [Nat.succ_mul]
    split
    · exact ⟨by omega, by omega⟩
    · have hl : (sprF g p (-1) [gi p.V k]).length ≤ p.V.length := spr_len h0 (by simp) (fun x hx => by rw [List.mem_singleton] at hx; subst hx; exact gi_mem (by omega)) _
      dsimp only
      rw [List.length_append, List.length_append, List.length_singleton]
      exact ⟨by omega, by omega⟩
set_option maxRecDepth 8000 in
set_option maxHeartbeats 4000000 in
theorem pieces5_any (g : Gr) (p : Pt) (h0 : g.rightPart p = 0) (A A1 A2 : Option Addr) (c c1 c2 : Nat) (w : World) (hA : RE w A g.E.length g.E) (h1 : RI w A1 p.V.length p.V) (h2 : RI w A2 p.E.length p.E) :
    Calls Tryz.prog 26 #[.agg #[.int .i64 g.N, .slice A g.E.length c], .agg #[.slice A1 p.V.length c1, .slice A2 p.E.length c2]] w fun e w' => (∃ u, e = .returned u ∧ OwnP w' w.heap.size u (piecesF g p)) ∧ Below w.heap.size w w' := by
  have HA := Bx.mk hA
  have H1 := Bx.mk h1
  have H2 := Bx.mk h2
  have H0 := Bx.mk h0
  have hE : Bx (∀ x ∈ p.E, 0 ≤ x ∧ x < (g.E.length : Int)) := ⟨fun x hx => by have := edges_ok h0 x hx; omega⟩
  have hvl : p.V.length ≤ 1024 := by have := risesF_len _ _ _ (Gr.rightPart_ok h0).2.1 (by have := (Gr.right_ok (Gr.rightPart_ok h0).1); omega); have := (Gr.right_ok (Gr.rightPart_ok h0).1); omega
  have hel : p.E.length ≤ 1024 := by have := risesF_len _ _ _ (Gr.rightPart_ok h0).2.2.1 (by omega); have := (Gr.right_ok (Gr.rightPart_ok h0).1); omega
  have HPL : Bx (∀ k, k ≤ p.V.length → (piecesTo g p k).1.length ≤ 1048576 ∧ (piecesTo g p k).2.length ≤ 1024) := ⟨fun k hk => by
    have := piecesTo_len h0 k hk
    have h2 : k * p.V.length ≤ 1024 * 1024 := Nat.mul_le_mul (by omega) hvl
    exact ⟨by omega, by omega⟩⟩
  have HEQ := Bx.mk (piecesTo_eq h0)
  clear hA h1 h2 h0
  have BA := Bx.mk (((BB.refl w).al (.cells #[.int .i64 g.N, .slice A g.E.length c] 24)).al (.cells #[.slice A1 p.V.length c1, .slice A2 p.E.length c2] 27))
  have hG1 := box_cell1 w #[.int .i64 g.N, .slice A g.E.length c] 24 (0, 0) (.cells #[.slice A1 p.V.length c1, .slice A2 p.E.length c2] 27) 0
  have hG2 := box_cell1 w #[.int .i64 g.N, .slice A g.E.length c] 24 (0, 0) (.cells #[.slice A1 p.V.length c1, .slice A2 p.E.length c2] 27) 1
  have hP1 := box_cell2 w #[.slice A1 p.V.length c1, .slice A2 p.E.length c2] 27 (0, 0) (.cells #[.int .i64 g.N, .slice A g.E.length c] 24) 0
  have hP2 := box_cell2 w #[.slice A1 p.V.length c1, .slice A2 p.E.length c2] 27 (0, 0) (.cells #[.int .i64 g.N, .slice A g.E.length c] 24) 1
  have HB := Bx.mk (And.intro hG1 (And.intro hG2 (And.intro hP1 hP2)))
  clear hG1 hG2 hP1 hP2
  have hz0 : Bx ((((w.alloc (.cells #[.int .i64 g.N, .slice A g.E.length c] 24)).alloc (.cells #[.slice A1 p.V.length c1, .slice A2 p.E.length c2] 27))).heap.size = w.heap.size + 2) := ⟨by simp⟩
  go_enter Tryz.func26, Tryz.ntmps26
  go_wp2
  generalize hw0 : ((w.alloc (.cells #[.int .i64 g.N, .slice A g.E.length c] 24)).alloc (.cells #[.slice A1 p.V.length c1, .slice A2 p.E.length c2] 27)) = w0 at *
  clear hw0
  go_loopw [7, 5, 6] (fun iv ov dv wr => ∃ k : Nat, k ≤ p.V.length ∧ iv = .int .i64 k ∧ OwnI wr (w.heap.size + 2) dv (piecesTo g p k).1 ∧ OwnPx wr (w.heap.size + 2) ov (piecesTo g p k).2 dv.ownBlock ∧ BB w0 wr) (fun iv _ _ _ => p.V.length - (intOf iv).toNat)
  case atStart => exact ⟨0, Nat.zero_le _, rfl, OwnI.nil _ _, OwnPx.nil _ _ _, BB.refl _⟩
  case round =>
    obtain ⟨k, hk, rfl, HO, HX, HBr⟩ := hrel
    obtain ⟨hl1, hl2⟩ := HPL.out k hk
    obtain ⟨A6, c6, rfl, hle6, hr6, -⟩ := HO.read (by omega)
    have hP1 := HBr.cell HB.out.2.2.1
    by_cases hlt : k < p.V.length
    · have HWr := Bx.mk (BA.out.trans HBr)
      obtain ⟨b1, off1, rfl, hcl⟩ := (HWr.out.ri H1.out).at (by omega)
      have hck := hcl k hlt
      have hxv := gi_mem hlt
      have HPT : Bx (piecesTo g p (k + 1) = if gi p.V k ∈ (piecesTo g p k).1 then piecesTo g p k else ((piecesTo g p k).1 ++ sprF g p (-1) [gi p.V k], (piecesTo g p k).2 ++ [g.sub p (sprF g p (-1) [gi p.V k])])) := ⟨rfl⟩
      obtain ⟨x, hx⟩ : ∃ x, Bx (gi p.V k = x) := ⟨_, ⟨rfl⟩⟩
      rw [hx.out] at hck HPT hxv
      obtain ⟨D, hD⟩ : ∃ D, Bx ((piecesTo g p k).1 = D) := ⟨_, ⟨rfl⟩⟩
      obtain ⟨P, hP⟩ : ∃ P, Bx ((piecesTo g p k).2 = P) := ⟨_, ⟨rfl⟩⟩
      rw [hD.out] at HO HX hl1 hr6 hle6 HPT
      rw [hP.out] at HX hl2 HPT
      rw [hD.out]
      have HR6 := Bx.mk hr6
      have HOD := Bx.mk HO
      have HXP := Bx.mk HX
      clear hcl hr6 HO HX
      by_cases hin : x ∈ D
      · have HIN : Bx (decide (x ∈ D) = true) := ⟨by simp [hin]⟩
        have HPT2 : Bx (piecesTo g p (k + 1) = piecesTo g p k) := ⟨by rw [HPT.out, if_pos hin]⟩
        clear hin
        go_wp2_with (go_at_call 32; (with_reducible refine (in_any D x A6 _ c6 _ HR6.out).mono ?_); rintro e5 w5 ⟨rfl, rfl⟩; rw [HIN.out])
        go_roundw
        case rel => exact ⟨k + 1, hlt, by go_num, by rw [HPT2.out, hD.out]; exact HOD.out, by rw [HPT2.out, hP.out]; exact HXP.out, HBr⟩
        case measure => simp [intOf]; omega
      · have HIN : Bx (decide (x ∈ D) = false) := ⟨by simp [hin]⟩
        have HPT2 : Bx ((piecesTo g p (k + 1)).1 = D ++ sprF g p (-1) [x] ∧ (piecesTo g p (k + 1)).2 = P ++ [g.sub p (sprF g p (-1) [x])]) := ⟨by rw [HPT.out, if_neg hin]; exact ⟨rfl, rfl⟩⟩
        clear hin
        go_wp2_with (go_at_call 32; (with_reducible refine (in_any D x A6 _ c6 _ HR6.out).mono ?_); rintro e5 w5 ⟨rfl, rfl⟩; rw [HIN.out])
        have HBA : Bx (BB wr (wr.alloc (.cells #[.int .i64 x] 3)).drew) := ⟨((BB.refl wr).al _).drawn 1⟩
        have hbD : BB wr wr.drew := (BB.refl wr).drawn 1
        have hg1 := HBr.cell HB.out.1
        have hg2 := HBr.cell HB.out.2.1
        have hp2 := HBr.cell HB.out.2.2.2
        have hd0 : wr.drew.cell? ⟨w.heap.size, 0, none⟩ = some (.int .i64 g.N) := hbD.cell hg1
        have hd1 : wr.drew.cell? ⟨w.heap.size, 1, none⟩ = some (.slice A g.E.length c) := hbD.cell hg2
        have hd2 : wr.drew.cell? ⟨w.heap.size + 1, 0, none⟩ = some (.slice (some ⟨b1, off1, none⟩) p.V.length c1) := hbD.cell hP1
        have hd3 : wr.drew.cell? ⟨w.heap.size + 1, 1, none⟩ = some (.slice A2 p.E.length c2) := hbD.cell hp2
        have hd4 : wr.drew.cell? ⟨b1, off1 + k, none⟩ = some (.int .i64 x) := hbD.cell hck
        have ha0 := HBA.out.cell (hbD.cell hg1)
        have ha1 := HBA.out.cell (hbD.cell hg2)
        have ha2 := HBA.out.cell hP1
        have ha3 := HBA.out.cell hp2
        have ha4 := HBA.out.cell hck
        have HLL : Bx ((sprF g p (-1) [x]).length ≤ 1024) := ⟨by
          have : (sprF g p (-1) [x]).length ≤ p.V.length := spr_len H0.out (by simp) (fun y hy => by rw [List.mem_singleton] at hy; subst hy; exact hxv) _
          omega⟩
        have HSP : Bx (Calls Tryz.prog 64 #[.agg #[.int .i64 g.N, .slice A g.E.length c], .agg #[.slice (some ⟨b1, off1, none⟩) p.V.length c1, .slice A2 p.E.length c2], .slice (some ⟨wr.heap.size, 0, none⟩) 1 1, .int .i64 (-1)] (wr.alloc (.cells #[.int .i64 x] 3)).drew fun e w' => (∃ u, e = .returned u ∧ OwnI w' (wr.alloc (.cells #[.int .i64 x] 3)).drew.heap.size u (sprF g p (-1) [x])) ∧ Below (wr.alloc (.cells #[.int .i64 x] 3)).drew.heap.size (wr.alloc (.cells #[.int .i64 x] 3)).drew w') :=
          ⟨spread5_any g p (-1) [x] H0.out (by simp) (fun y hy => by rw [List.mem_singleton] at hy; subst hy; exact hxv) A (some ⟨b1, off1, none⟩) A2 (some ⟨wr.heap.size, 0, none⟩) c p.V.length c1 c2 1 _ ((HWr.out.trans HBA.out).re HA.out) ((HWr.out.trans HBA.out).ri H2.out) (ri_one (heap_alloc_new wr (.cells #[.int .i64 x] 3)))⟩
        clear hg1 hg2 hp2 hP1 hck hbD
        go_region_held3 (fun w' => w'.cell? ⟨w.heap.size, 0, none⟩ = some (.int .i64 g.N) ∧ w'.cell? ⟨w.heap.size, 1, none⟩ = some (.slice A g.E.length c) ∧ w'.cell? ⟨w.heap.size + 1, 0, none⟩ = some (.slice (some ⟨b1, off1, none⟩) p.V.length c1) ∧ w'.cell? ⟨w.heap.size + 1, 1, none⟩ = some (.slice A2 p.E.length c2) ∧ w'.cell? ⟨b1, off1 + k, none⟩ = some (.int .i64 x))
          (first | exact ⟨hd0, hd1, hd2, hd3, hd4⟩ | exact ⟨ha0, ha1, ha2, ha3, ha4⟩ | exact ⟨he0, he1, he2, he3, he4⟩ | fail)
          (first
            | (go_simp; go_at_call 64; (refine HSP.out.mono ?_); rintro e5 w5 ⟨⟨uL, rfl, HOL⟩, hb5⟩; have HB5 := Bx.mk (BB.mk hb5); have he0 := HB5.out.cell ha0; have he1 := HB5.out.cell ha1; have he2 := HB5.out.cell ha2; have he3 := HB5.out.cell ha3; have he4 := HB5.out.cell ha4; obtain ⟨A7, c7, hv7, hle7, hr7, hown7⟩ := HOL.read (by have := HLL.out; omega); subst hv7; have HR7 := Bx.mk (And.intro hr7 hown7); clear HOL hr7 hown7 hb5)
            | fail)
        all_goals
          have HB5w := Bx.mk (HBr.trans (HBA.out.trans HB5.out))
          have HOD5 := Bx.mk (HOD.out.below (HBA.out.trans HB5.out).b)
          have HXP5 := Bx.mk (HXP.out.below (HBA.out.trans HB5.out).b)
          have hz5 := HB5w.out.size
          rw [hz0.out] at hz5
          clear hd0 hd1 hd2 hd3 hd4 ha0 ha1 ha2 ha3 ha4 he0 he1 he2 he3 he4
          have HLS : Bx (D.length + (sprF g p (-1) [x]).length < 1099511627776) := ⟨by have := HLL.out; omega⟩
          have hzA := HBA.out.size
          have HSB : Bx ((wr.alloc (.cells #[.int .i64 x] 3)).drew.heap.size ≤ w5.heap.size) := ⟨HB5.out.size⟩
          go_wp2_with (first
            | (at_builtin; refine app_row (w.heap.size + 2) D (.slice A6 D.length c6) HOD5.out (sprF g p (-1) [x]) A7 _ c7 HR7.out.1 rfl rfl rfl rfl hz5 HLS.out ?_; intro v8 w8 ho8 hs8 hb8; have HB8 := Bx.mk (HB5w.out.own HOD5.out (by rw [hz0.out]; exact Nat.le_refl _) hs8); have hg1 := HB8.out.cell HB.out.1; have hg2 := HB8.out.cell HB.out.2.1; have hp1 := HB8.out.cell HB.out.2.2.1; have hp2 := HB8.out.cell HB.out.2.2.2; have HXP8 := Bx.mk (HXP5.out.step2 hs8 (kd' := v8.ownBlock) (fun k _ hF => hF.symm) (fun k hk => by rcases hb8 with e | ⟨b, e, hb⟩; exact .inl (e.symm.trans hk); rw [hk] at e; cases e; exact .inr hb)); have HRL8 := Bx.mk (HR7.out.1.step hs8 (fun ad ha h0 e => by have h1 := (HOD.out.lt _ e.symm).2; have h2 := (HR7.out.2 ad ha).1; omega)); have HO8 := Bx.mk ho8; have hz8 : w.heap.size + 2 ≤ w8.heap.size := Nat.le_trans hz5 hs8.size; clear ho8 hs8 hb8)
            | (go_at_call 65; (refine (sub5_any g p (sprF g p (-1) [x]) hE.out hvl hel A (some ⟨b1, off1, none⟩) A2 A7 c c1 c2 _ c7 _ ((BA.out.trans HB8.out).re HA.out) ((BA.out.trans HB8.out).ri H1.out) ((BA.out.trans HB8.out).ri H2.out) HRL8.out).mono ?_); rintro e9 w9 ⟨⟨A9, c9, A10, c10, rfl, hm9, hm10⟩, hb9⟩; have HB9 := Bx.mk (HB8.out.trans hb9); have HX9 := Bx.mk (HXP8.out.below hb9.b); have HO9 := Bx.mk (HO8.out.below hb9.b); have hz9 : w.heap.size + 2 ≤ w9.heap.size := Nat.le_trans hz8 hb9.size; have HKD : Bx (∀ k, v8.ownBlock = some k → k < w8.heap.size) := ⟨fun k hk => (HO8.out.lt k hk).2⟩; have HVD : Bx (∀ k, u5.ownBlock = some k → k < w8.heap.size) := ⟨fun k hk => (HXP8.out.own.lt k hk).2⟩; have hz89 := hb9.size; have HM := Bx.mk (And.intro hm9 hm10); clear hm9 hm10 hb9 hg1 hg2 hp1 hp2)
            | (at_builtin; refine app_partx (w.heap.size + 2) P u5 v8.ownBlock HX9.out (fun k hk => Nat.lt_of_lt_of_le (HKD.out k hk) hz89) ((A9, (g.sub p (sprF g p (-1) [x])).1.length, c9), (A10, (g.sub p (sprF g p (-1) [x])).2.length, c10)) (g.sub p (sprF g p (-1) [x])) ⟨⟨HM.out.1.1, HM.out.1.2.1, fun ad ha h0 => ⟨Nat.le_trans hz8 (HM.out.1.2.2 ad ha), fun e => by have h1 := HVD.out _ e; have h2 := HM.out.1.2.2 ad ha; omega⟩⟩, ⟨HM.out.2.1, HM.out.2.2.1, fun ad ha h0 => ⟨Nat.le_trans hz8 (HM.out.2.2.2 ad ha), fun e => by have h1 := HVD.out _ e; have h2 := HM.out.2.2.2 ad ha; omega⟩⟩⟩ ⟨fun ad ha h0 e => by have h1 := HKD.out _ e; have h2 := HM.out.1.2.2 ad ha; omega, fun ad ha h0 e => by have h1 := HKD.out _ e; have h2 := HM.out.2.2.2 ad ha; omega⟩ rfl rfl rfl rfl hz9 (by omega) ?_; intro v10 w10 hx10 hs10)
            | fail)
          go_roundw
          case rel => exact ⟨k + 1, hlt, by go_num, by rw [HPT2.out.1]; exact HO9.out.step hs10 (fun j hj e => (HX9.out.ne j e.symm) hj), by rw [HPT2.out.2]; exact hx10, ⟨HB9.out.b.trans (hs10.below HB9.out.size fun j hj e => by have := (HX9.out.own.lt j e.symm).1; rw [hz0.out] at hj; omega)⟩⟩
          case measure => simp [intOf]; omega
    · have hkk : k = p.V.length := by omega
      subst hkk
      rw [HEQ.out] at HX
      go_wp2
      go_ret
      exact ⟨⟨_, rfl, HX.own.mono (by omega)⟩, (BA.out.trans HBr).b⟩
end Go.Proofs.YtefhmlgepnlaoaaGreat
