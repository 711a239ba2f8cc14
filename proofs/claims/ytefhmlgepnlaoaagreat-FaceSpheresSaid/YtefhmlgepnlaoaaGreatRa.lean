/- Walks: rota.New. -/
import Derived.Test.YtefhmlgepnlaoaaGreatGb
import Derived.Test.YtefhmlgepnlaoaaGreatLb
import Derived.Test.YtefhmlgepnlaoaaGreatWm
import Derived.Carry
set_option linter.unusedVariables false
set_option linter.unusedSimpArgs false
namespace Go.Proofs.YtefhmlgepnlaoaaGreat
open Go.RowKit

/-- Are lists, from vertex v on, the darts of each vertex in some order? -/
def Gr.rowsOk (g : Gr) (p : Pt) : Nat → List (List Int) → Bool
  | _, [] => true
  | v, l :: ls => (sortI l == g.darts p v) && g.rowsOk p (v + 1) ls
/-- rota.New's error -/
def Gr.rotaErr (g : Gr) (p : Pt) (tn : List (List Int)) : Int :=
  if g.rightPart p ≠ 0 then g.rightPart p else if (tn.length : Int) ≠ g.N then 5 else if g.rowsOk p 0 tn then 0 else 5
def gl (xss : List (List Int)) (i : Nat) : List Int := xss.getD i []
theorem gl_eq {xss : List (List Int)} {i : Nat} (h : i < xss.length) : gl xss i = xss[i] := by simp [gl, h, List.getD_eq_getElem?_getD]
theorem gl_mem {xss : List (List Int)} {i : Nat} (h : i < xss.length) : gl xss i ∈ xss := by rw [gl_eq h]; exact List.getElem_mem h
theorem rowsOk_drop {g : Gr} {p : Pt} {tn : List (List Int)} {k : Nat} (h : k < tn.length) : g.rowsOk p k (tn.drop k) = ((sortI (gl tn k) == g.darts p k) && g.rowsOk p (k + 1) (tn.drop (k + 1))) := by
  rw [List.drop_eq_getElem_cons h, gl_eq h]; rfl
/-- Which vertex a dart leaves, as New lays it. -/
def putAll (m : List (Int × Value)) (v : Nat) (l : List Int) : List (Int × Value) := l.foldl (fun m d => upd m d (.int .i64 (v : Int))) m
def atTo (tn : List (List Int)) : Nat → List (Int × Value)
  | 0 => []
  | k + 1 => putAll (atTo tn k) k (gl tn k)
theorem putAll_take {m : List (Int × Value)} {v : Nat} {l : List Int} {j : Nat} (h : j < l.length) : putAll m v (l.take (j + 1)) = upd (putAll m v (l.take j)) (gi l j) (.int .i64 (v : Int)) := by
  unfold putAll
  rw [List.take_succ_eq_append_getElem h, List.foldl_append, gi_eq h]
  rfl
theorem map_take_succ {α : Type} (f : List Int → α) {tn : List (List Int)} {k : Nat} (h : k < tn.length) : (tn.take (k + 1)).map f = (tn.take k).map f ++ [f (gl tn k)] := by
  rw [List.take_succ_eq_append_getElem h, List.map_append, gl_eq h]; rfl

theorem RL.get {w : World} {A : Option Addr} {n : Nat} {xss : List (List Int)} (h : RL w A n xss) {j : Nat} (hj : j < n) :
    ∃ b off a m c, A = some ⟨b, off, none⟩ ∧ w.cell? ⟨b, off + j, none⟩ = some (.slice a m c) ∧ m ≤ c ∧ RI w a m (gl xss j) := h.at hj
theorem heap_setCell_own (w : World) (b j : Nat) (v : Value) {cs : Array Value} {e : TypeId} {fr : Nat × Nat} (hb : w.heap[b]? = some (.cells cs e fr)) : (w.setCell ⟨b, j, none⟩ v).heap[b]? = some (.cells (cs.setIfInBounds j v) e fr) := by
  have := (Array.getElem?_eq_some_iff.1 hb).1
  simp [World.setCell, Array.getElem?_modify, hb]
theorem Step.heap {F : Nat → Prop} {w w' : World} (h : Step F w w') {b : Nat} {o : Obj} (hb : w.heap[b]? = some o) (hf : ¬ F b) : w'.heap[b]? = some o := (h.block b (Array.getElem?_eq_some_iff.1 hb).1 hf).trans hb
theorem frozen_of_row (w : World) (g j : Nat) {cs : Array Value} {t : TypeId} (hg : w.heap[g]? = some (.cells cs t (0, 0))) : w.frozen? ⟨g, j, none⟩ = false := by simp [World.frozen?, hg]

theorem darts_len (g : Gr) (p : Pt) (v : Int) : (g.darts p v).length ≤ 2048 := by
  unfold Gr.darts
  split
  · simp
  · rename_i h
    obtain ⟨h1, h2, h3, _⟩ := Gr.rightPart_ok (Decidable.byContradiction fun hn => h hn)
    have := dartsOf_len g v p.E
    have := risesF_len _ _ _ h3 (by omega)
    have := (Gr.right_ok h1)
    omega
theorem firstR_len (xs : List Int) : (firstR xs).length = xs.length := by
  unfold firstR rot
  rw [List.length_append, List.length_drop, List.length_take]
  omega
theorem sortI_len (xs : List Int) : (sortI xs).length = xs.length := by simp [sortI]
/-- A rota in memory, read. -/
structure RotaAt (w : World) (n0 : Nat) (v : Value) (g : Gr) (p : Pt) (tn : List (List Int)) (m : List (Int × Value)) : Prop where
  h : ∃ R A n c A1 n1 c1 A2 n2 c2 A3 n3 c3 M, v = .pointer (some ⟨R, 0, none⟩) ∧ w.heap[R]? = some (.cells #[.int .i64 g.N, .slice A n c, .slice A1 n1 c1, .slice A2 n2 c2, .slice A3 n3 c3, .map (some M)] 128 (0, 0)) ∧
    RE w A n g.E ∧ RI w A1 n1 p.V ∧ RI w A2 n2 p.E ∧ RL w A3 n3 tn ∧ n3 ≤ c3 ∧ MapAt w M m ∧ ∀ a, A2 = some a → 0 < n2 → a.block < n0
def NewPost (g : Gr) (p : Pt) (tn : List (List Int)) (w : World) (e : Ending) (w' : World) : Prop :=
  (∃ u, e = .returned (.tuple #[u, .int .i64 (g.rotaErr p tn)]) ∧ (if g.rotaErr p tn = 0 then RotaAt w' w.heap.size u g p (tn.map firstR) (atTo tn tn.length) else u = .pointer none)) ∧ Below w.heap.size w w'

theorem rotaNew_any (g : Gr) (p : Pt) (tn : List (List Int)) (A A1 A2 A3 : Option Addr) (n c n1 c1 n2 c2 n3 c3 : Nat) (w : World) (hA : RE w A n g.E) (h1 : RI w A1 n1 p.V) (h2 : RI w A2 n2 p.E) (h3 : RL w A3 n3 tn) (hs3 : tn.length < 1099511627776) (hs : ∀ l ∈ tn, l.length < 1099511627776) :
    Calls Tryz.prog 49 #[.agg #[.int .i64 g.N, .slice A n c], .agg #[.slice A1 n1 c1, .slice A2 n2 c2], .slice A3 n3 c3] w fun e w' =>
      NewPost g p tn w e w' := by
  have hlen := hA.len
  subst hlen
  have hlen2 := h2.len
  subst hlen2
  have hlen3 := h3.len
  subst hlen3
  have HA := Bx.mk hA
  have H1 := Bx.mk h1
  have H2 := Bx.mk h2
  have H3 := Bx.mk h3
  have HS := Bx.mk hs
  clear hA h1 h2 h3 hs
  by_cases h0 : g.rightPart p = 0
  · by_cases hN : (tn.length : Int) = g.N
    · have hN' : (((tn.length : Nat) : Int) != g.N) = false := by simp [hN]
      have hN2 : (((tn.length : Nat) : Int) == g.N) = true := by simp [hN]
      have HN := Bx.mk hN
      have hgN := (Gr.right_ok (Gr.rightPart_ok h0).1).2.1
      have hr : Bx (g.rotaErr p tn = if g.rowsOk p 0 tn then 0 else 5) := ⟨by unfold Gr.rotaErr; rw [if_neg (by omega), if_neg (by omega)]⟩
      have hmm := @run_makeMap Tryz.prog
      clear hN
      go_enter Tryz.func49, Tryz.ntmps49
      go_wp2_with (go_at_call 83; (with_reducible refine (rightPart_any g p A A1 A2 _ c _ c1 _ c2 _ ((((BB.refl w).al _).al _).re HA.out) ((((BB.refl w).al _).al _).ri H1.out) ((((BB.refl w).al _).al _).ri H2.out)).mono ?_); rintro e w1 ⟨rfl, hb1⟩; obtain ⟨hx1, hx2⟩ := bcell hb1; have HC := BB.mk hb1; clear hb1)
      clear hx1 hx2
      have HC0 := HC.under.under
      have hG1 := HC.cell (box_cell1 w _ _ _ _ 0)
      have hG2 := HC.cell (box_cell1 w _ _ _ _ 1)
      have hP1 := HC.cell (box_cell2 w _ _ _ _ 0)
      have hP2 := HC.cell (box_cell2 w _ _ _ _ 1)
      have HG1 := Bx.mk hG1
      have HG2 := Bx.mk hG2
      have HP1 := Bx.mk hP1
      have HP2 := Bx.mk hP2
      have hz1 := HC.pos2
      clear hG1 hG2 hP1 hP2 hmm h0
      go_loopw [33] (fun i wr => ∃ (k : Nat) (vt : Value), k ≤ tn.length ∧ i = .int .i64 k ∧ Bx (g.rowsOk p k (tn.drop k) = g.rowsOk p 0 tn) ∧ BB w1 wr ∧ w1.heap.size + 2 ≤ wr.heap.size ∧
        Bx (wr.heap[w1.heap.size + 1]? = some (.cells #[.int .i64 g.N, .slice A g.E.length c, .slice A1 n1 c1, .slice A2 p.E.length c2, vt, .map (some w1.heap.size)] 128 (0, 0))) ∧
        MapAt wr w1.heap.size (atTo tn k) ∧ OwnL wr (w1.heap.size + 2) vt ((tn.take k).map firstR)) (fun i _ => tn.length - (intOf i).toNat)
      case atStart =>
        refine ⟨0, .slice none 0 0, Nat.zero_le _, rfl, ⟨rfl⟩, ((BB.refl w1).al _).al _, by simp, ⟨?_⟩, ?_, OwnL.nil _ _⟩
        · have := heap_alloc_new (w1.alloc (.map #[] 0)) (.cells #[.int .i64 g.N, .slice A g.E.length c, .slice A1 n1 c1, .slice A2 p.E.length c2, .slice none 0 0, .map (some w1.heap.size)] 128 (0, 0))
          simpa using this
        · exact (MapAt.made w1).alloc _
      case round =>
        obtain ⟨k, vt, hk, rfl, hd, HB, hz2, HR, HM, HT⟩ := hrel
        by_cases hlt : k < tn.length
        · obtain ⟨b3, off3, a5, m5, c5, rfl, hc5w, hmc5, hr5⟩ := H3.out.get hlt
          have hc5 := (HC0.trans HB).cell hc5w
          clear hc5w
          have hdd := Bx.mk (rowsOk_drop (g := g) (p := p) hlt)
          have hm5 := hr5.len
          have hml := HS.out _ (gl_mem hlt)
          subst hm5
          have HR5 := Bx.mk hr5
          clear hr5
          cases hq : sortI (gl tn k) == g.darts p k
          · have HL6 : Bx ((sortI (gl tn k)).length ≤ 17592186044416) := ⟨by rw [sortI_len]; omega⟩
            have HL7 : Bx ((g.darts p k).length ≤ 17592186044416) := ⟨by have := darts_len g p k; omega⟩
            go_wp2_with (first
              | (go_at_call 97; (with_reducible refine (clone_any _ a5 _ _ _ ((HC0.trans HB).ri HR5.out) hml).mono ?_); rintro e w2 ⟨⟨u2, rfl, HO⟩, hb2⟩; have HX := HB.call hb2; have HY := BB.mk hb2; obtain ⟨hx1, hx2⟩ := bcell hb2; clear hb2)
              | (go_at_call 78; (with_reducible refine (sort_any (gl tn k) u2 wr.heap.size _ HO hml).mono ?_); rintro e w3 ⟨rfl, HO3, hs3⟩; replace HX := HX.own HO HB.size hs3; replace HY := HY.own HO (Nat.le_refl _) hs3; obtain ⟨A6, c6, hv6, hc6, hr6, -⟩ := HO3.read HL6.out; subst hv6; have hG1 := HX.cell HG1.out; have hG2 := HX.cell HG2.out; have hP1 := HX.cell HP1.out; have hP2 := HX.cell HP2.out; clear hs3 hx1 hx2)
              | (go_at_call 98; (with_reducible refine (darts_any g p (k : Int) A A1 A2 _ c _ c1 _ c2 _ ((HC0.trans HX).re HA.out) ((HC0.trans HX).ri H1.out) ((HC0.trans HX).ri H2.out)).mono ?_); rintro e w4 ⟨⟨u4, rfl, HO4⟩, hb4⟩; replace HX := HX.call hb4; replace HY := HY.call hb4; obtain ⟨A7, c7, hv7, -, hr7, -⟩ := HO4.read HL7.out; subst hv7; replace hr6 := hr6.below hb4; clear hb4)
              | (go_at_call 82; (with_reducible refine (equal_any (sortI (gl tn k)) (g.darts p k) A6 A7 _ _ _ _ _ hr6 hr7).mono ?_); rintro e w5 ⟨rfl, q, rfl⟩; replace HX := HX.drawn q; replace HY := HY.drawn q))
            go_ret2
            have hr5e : g.rotaErr p tn = 5 := by rw [hr.out, ← hd.out, hdd.out, hq]; rfl
            refine ⟨⟨.pointer none, ret_pair_i hr5e.symm, ?_⟩, (HC0.trans HX).b⟩
            rw [if_neg (by rw [hr5e]; decide)]
          · have HQ := Bx.mk hq
            have HL6 : Bx ((sortI (gl tn k)).length ≤ 17592186044416) := ⟨by rw [sortI_len]; omega⟩
            have HL7 : Bx ((g.darts p k).length ≤ 17592186044416) := ⟨by have := darts_len g p k; omega⟩
            go_wp2_with (first
              | (go_at_call 97; (with_reducible refine (clone_any _ a5 _ _ _ ((HC0.trans HB).ri HR5.out) hml).mono ?_); rintro e w2 ⟨⟨u2, rfl, HO⟩, hb2⟩; have HX := HB.call hb2; have HY := BB.mk hb2; obtain ⟨hx1, hx2⟩ := bcell hb2; clear hb2)
              | (go_at_call 78; (with_reducible refine (sort_any (gl tn k) u2 wr.heap.size _ HO hml).mono ?_); rintro e w3 ⟨rfl, HO3, hs3⟩; replace HX := HX.own HO HB.size hs3; replace HY := HY.own HO (Nat.le_refl _) hs3; obtain ⟨A6, c6, hv6, hc6, hr6, -⟩ := HO3.read HL6.out; subst hv6; have hG1 := HX.cell HG1.out; have hG2 := HX.cell HG2.out; have hP1 := HX.cell HP1.out; have hP2 := HX.cell HP2.out; clear hs3 hx1 hx2)
              | (go_at_call 98; (with_reducible refine (darts_any g p (k : Int) A A1 A2 _ c _ c1 _ c2 _ ((HC0.trans HX).re HA.out) ((HC0.trans HX).ri H1.out) ((HC0.trans HX).ri H2.out)).mono ?_); rintro e w4 ⟨⟨u4, rfl, HO4⟩, hb4⟩; replace HX := HX.call hb4; replace HY := HY.call hb4; obtain ⟨A7, c7, hv7, -, hr7, -⟩ := HO4.read HL7.out; subst hv7; replace hr6 := hr6.below hb4; clear hb4)
              | (go_at_call 82; (with_reducible refine (equal_any (sortI (gl tn k)) (g.darts p k) A6 A7 _ _ _ _ _ hr6 hr7).mono ?_); rintro e w5 ⟨rfl, q, rfl⟩; replace HX := HX.drawn q; replace HY := HY.drawn q))
            obtain ⟨wo, hwo⟩ : ∃ wo : World, wo = w4.drewN q := ⟨_, rfl⟩
            rw [← hwo] at HX HY ⊢
            have HRo : Bx (wo.heap[w1.heap.size + 1]? = some (.cells #[.int .i64 g.N, .slice A g.E.length c, .slice A1 n1 c1, .slice A2 p.E.length c2, vt, .map (some w1.heap.size)] 128 (0, 0))) := ⟨(HY.b.block _ (by omega)).trans HR.out⟩
            replace HM := HM.below HY.b
            replace HT := HT.below HY.b
            have hzo := HY.size
            clear hwo hr6 hr7 HO HO3 HO4 hG1 hG2 hP1 hP2 HR hc5 hq HB HY
            go_loopw [51] (fun i wi => ∃ j : Nat, j ≤ (gl tn k).length ∧ i = .int .i64 j ∧ MapAt wi w1.heap.size (putAll (atTo tn k) k ((gl tn k).take j)) ∧ Step (fun x => x = w1.heap.size) wo wi) (fun i _ => (gl tn k).length - (intOf i).toNat)
            case atStart => exact ⟨0, Nat.zero_le _, rfl, HM, Step.refl _ _⟩
            case round =>
              obtain ⟨j, hj, rfl, HMi, HSi⟩ := hrel
              have HXi : BB w1 wr := ⟨HX.b.trans (HSi.below HX.size (fun x hx e => by omega))⟩
              have HRi := HSi.heap HRo.out (show ¬ (w1.heap.size + 1 = w1.heap.size) by omega)
              have hzi := HSi.size
              by_cases hjl : j < (gl tn k).length
              · obtain ⟨b5, off5, ha5, hcl⟩ := ((HC0.trans HXi).ri HR5.out).at (by omega)
                have hclj := hcl j hjl
                have hr5c := cell_of_row wr (w1.heap.size + 1) 5 _ _ _ HRi
                simp only [List.getElem?_toArray, List.getElem?_cons_succ, List.getElem?_cons_zero] at hr5c
                have HPT := Bx.mk (putAll_take (m := atTo tn k) (v := k) hjl)
                subst ha5
                clear hcl
                go_wp2_with (at_mapUpdate; refine arm_update HMi Tryz.underlying100 Tryz.underlying3 rfl rfl rfl rfl rfl ?_; intro wj hmj hsj)
                go_roundw
                case rel => exact ⟨j + 1, by omega, by go_num, by rw [HPT.out]; exact hmj, HSi.trans hsj⟩
                case measure => simp [intOf]; omega
              · have hje : Bx (putAll (atTo tn k) k ((gl tn k).take j) = atTo tn (k + 1)) := ⟨by rw [List.take_of_length_le (by omega)]; rfl⟩
                have hMf : MapAt wr w1.heap.size (atTo tn (k + 1)) := hje.out ▸ HMi
                have hTi := HT.step HSi (fun x hx _ e => by omega)
                have hzz : Bx (w1.heap.size + 2 ≤ wr.heap.size) := ⟨by omega⟩
                have hr4c := cell_of_row wr (w1.heap.size + 1) 4 _ _ _ HRi
                simp only [List.getElem?_toArray, List.getElem?_cons_succ, List.getElem?_cons_zero] at hr4c
                clear HM HT HMi
                go_wp2
                have HL8 : Bx ((firstR (gl tn k)).length ≤ 17592186044416) := ⟨by rw [firstR_len]; omega⟩
                have HL9 : Bx (((tn.take k).map firstR).length < 1099511627776) := ⟨by rw [List.length_map, List.length_take]; omega⟩
                have HRb := Bx.mk HRi
                have hRne : Bx (∀ x, vt.ownBlock = some x → w1.heap.size + 2 ≤ x ∧ x < wr.heap.size) := ⟨hTi.lt⟩
                have HL10 : Bx (((tn.take k).map firstR ++ [firstR (gl tn k)]).length ≤ 17592186044416) := ⟨by rw [List.length_append, List.length_map, List.length_take, List.length_singleton]; omega⟩
                have HRF : Bx (¬ some (w1.heap.size + 1) = vt.ownBlock) := ⟨fun e => by have := (hRne.out _ e.symm).1; omega⟩
                clear HRi
                go_region_law (first
                  | (go_simp; go_at_call 99; refine (first_any (gl tn k) a5 _ c5 _ (((HC0.trans HXi).drawn 1).ri HR5.out) hmc5 hml).mono ?_; rintro e w6 ⟨⟨u6, rfl, HO6⟩, hb6⟩; have HW6 := ((BB.refl wr).drawn 1).call hb6; obtain ⟨A8, c8, hv8, hc8, hr8, ha8⟩ := HO6.read HL8.out; subst hv8; have hz6 : w1.heap.size + 1 < w6.heap.size := Nat.lt_of_lt_of_le (Nat.lt_of_succ_le hzz.out) HW6.size; have hT6 := hTi.below HW6.b; have hR6 := (HW6.b.block _ (show w1.heap.size + 1 < wr.heap.size by omega)).trans HRb.out; have hr46 := cell_of_row w6 (w1.heap.size + 1) 4 _ _ _ hR6; simp only [List.getElem?_toArray, List.getElem?_cons_succ, List.getElem?_cons_zero] at hr46)
                  | (refine step_app_list (w1.heap.size + 2) _ vt hT6 (firstR (gl tn k)) A8 _ c8 hc8 hr8 (fun ad ha h0 => ⟨Nat.le_trans hzz.out (ha8 ad ha).1, fun e => absurd (hRne.out _ e).2 (Nat.not_lt.2 (ha8 ad ha).1)⟩) rfl rfl rfl rfl (Nat.le_trans hzz.out HW6.size) HL9.out ?_; intro v1 w7 ho7 hs7 hb7; obtain ⟨A9, c9, hv9, hc9, hr9, ha9⟩ := ho7.read HL10.out; subst hv9; have hR7 := hs7.heap hR6 HRF.out; have hr47 := cell_of_row w7 (w1.heap.size + 1) 4 _ _ _ hR7; simp only [List.getElem?_toArray, List.getElem?_cons_succ, List.getElem?_cons_zero] at hr47; have hf47 := frozen_of_row w7 (w1.heap.size + 1) 4 hR7))
                all_goals
                  go_wp2
                  go_roundw
                  case rel =>
                    refine ⟨k + 1, _, by omega, by go_num, ⟨by rw [← hd.out, hdd.out, HQ.out, Bool.true_and]⟩, (((HXi.trans HW6).ownL hT6 (by omega) hs7).set (by simp) _), ?_, ⟨heap_setCell_own w7 (w1.heap.size + 1) 4 _ hR7⟩, ?_, ?_⟩
                    · rw [setCell_size]; have := hs7.size; have := HW6.size; omega
                    · exact ((hMf.below HW6.b).step hs7 (fun e => by have := (hRne.out _ e.symm).1; omega)).step (Step.setCell (F := fun x => x = w1.heap.size + 1) w7 (p := ⟨w1.heap.size + 1, 4, none⟩) rfl _) (by omega)
                    · rw [map_take_succ firstR hlt]
                      have e9 : (List.map firstR (List.take k tn) ++ [firstR (gl tn k)]).length = k + 1 := by rw [List.length_append, List.length_map, List.length_take, List.length_singleton]; omega
                      rw [e9] at ho7
                      exact ho7.step (Step.setCell (F := fun x => x = w1.heap.size + 1) w7 (p := ⟨w1.heap.size + 1, 4, none⟩) rfl _) (fun x hx _ e => by omega)
                  case measure => simp [intOf]; omega
        · have hkk : k = tn.length := by omega
          subst hkk
          rw [List.take_length] at HT
          have hok : g.rotaErr p tn = 0 := by rw [hr.out, ← hd.out, List.drop_length]; rfl
          have HOK := Bx.mk hok
          clear hok
          obtain ⟨A9, c9, hv9, hc9, hr9, ha9⟩ := HT.read (by rw [List.length_map]; omega)
          subst hv9
          go_wp2
          go_ret2
          refine ⟨⟨_, ret_pair_i HOK.out.symm, ?_⟩, (HC0.trans HB).b⟩
          rw [if_pos HOK.out]
          exact ⟨_, A, _, c, A1, n1, c1, A2, _, c2, A9, _, c9, _, rfl, HR.out, (HC0.trans HB).re HA.out, by have := H1.out.len; exact (HC0.trans HB).ri H1.out, (HC0.trans HB).ri H2.out, hr9, hc9, HM, fun a ha h0 => H2.out.blk ha h0⟩
    · have hr : Bx (g.rotaErr p tn = 5) := ⟨by unfold Gr.rotaErr; rw [if_neg (by omega), if_pos hN]⟩
      have hN' : (((tn.length : Nat) : Int) != g.N) = true := by simp [hN]
      have hN2 : (((tn.length : Nat) : Int) == g.N) = false := by simp [hN]
      have hmm := @run_makeMap Tryz.prog
      clear hN
      go_enter Tryz.func49, Tryz.ntmps49
      go_wp2_with (go_at_call 83; (with_reducible refine (rightPart_any g p A A1 A2 _ c _ c1 _ c2 _ ((((BB.refl w).al _).al _).re HA.out) ((((BB.refl w).al _).al _).ri H1.out) ((((BB.refl w).al _).al _).ri H2.out)).mono ?_); rintro e w1 ⟨rfl, hb1⟩; obtain ⟨hx1, hx2⟩ := bcell hb1; have HC := BB.mk hb1; clear hb1)
      have HC0 := HC.under.under
      go_ret2
      refine ⟨⟨.pointer none, ret_pair_i hr.out.symm, ?_⟩, HC0.b⟩
      rw [if_neg (by rw [hr.out]; decide)]
  · have hr : Bx (g.rotaErr p tn = g.rightPart p) := ⟨by unfold Gr.rotaErr; rw [if_pos h0]⟩
    have HE := Bx.mk h0
    have h0' : (g.rightPart p != 0) = true := by simp [h0]
    clear h0
    go_enter Tryz.func49, Tryz.ntmps49
    go_wp2_with (go_at_call 83; (with_reducible refine (rightPart_any g p A A1 A2 _ c _ c1 _ c2 _ ((((BB.refl w).al _).al _).re HA.out) ((((BB.refl w).al _).al _).ri H1.out) ((((BB.refl w).al _).al _).ri H2.out)).mono ?_); rintro e w1 ⟨rfl, hb1⟩; obtain ⟨hx1, hx2⟩ := bcell hb1; have HC := BB.mk hb1; clear hb1)
    have HC0 := HC.under.under
    go_ret2
    refine ⟨⟨.pointer none, ret_pair_i hr.out.symm, ?_⟩, HC0.b⟩
    rw [if_neg (by rw [hr.out]; exact HE.out)]
end Go.Proofs.YtefhmlgepnlaoaaGreat
