/- Walks: sets in memory: Groups. -/
import Derived.Test.YtefhmlgepnlaoaaGreatSo
import Derived.Test.YtefhmlgepnlaoaaGreatSn
import Derived.Test.YtefhmlgepnlaoaaGreatSd
import Derived.Test.YtefhmlgepnlaoaaGreatSg
set_option linter.unusedVariables false
set_option linter.unusedSimpArgs false
namespace Go.Proofs.YtefhmlgepnlaoaaGreat
open Go.RowKit

/-- One thing more, into its group. -/
def addG (st : List Int × List (List Int)) (t x : Int) : List Int × List (List Int) :=
  if t ∈ st.1 then (st.1, st.2.set (posN st.1 t) (st.2.getD (posN st.1 t) [] ++ [x])) else (st.1 ++ [t], st.2 ++ [[x]])
def groupsTo (all : List Int) (rep : Nat → Nat) : Nat → List Int × List (List Int)
  | 0 => ([], [])
  | k + 1 => addG (groupsTo all rep k) ((rep k : Nat) : Int) (gi all k)
/-- sets.Groups -/
def groupsF (all : List Int) (rep : Nat → Nat) : List (List Int) := (groupsTo all rep all.length).2
theorem groupsTo_ok (all : List Int) (rep : Nat → Nat) : ∀ k, (groupsTo all rep k).1.length = (groupsTo all rep k).2.length ∧ (groupsTo all rep k).1.Nodup ∧ (groupsTo all rep k).2.length ≤ k ∧ ∀ l ∈ (groupsTo all rep k).2, l.length ≤ k := by
  intro k
  induction k with
  | zero => exact ⟨rfl, List.nodup_nil, Nat.le_refl _, fun l hl => by cases hl⟩
  | succ k ih =>
    obtain ⟨h1, h2, h3, h4⟩ := ih
    unfold groupsTo addG
    split
    · rename_i hm
      refine ⟨by simpa using h1, h2, by simp; omega, fun l hl => ?_⟩
      dsimp only at hl
      rcases List.mem_or_eq_of_mem_set hl with hl | rfl
      · have := h4 l hl; omega
      · have hp := posN_lt hm
        rw [List.length_append, List.length_singleton, List.getD_eq_getElem?_getD, List.getElem?_eq_getElem (by omega), Option.getD_some]
        have := h4 _ (List.getElem_mem (l := (groupsTo all rep k).2) (n := posN (groupsTo all rep k).1 ((rep k : Nat) : Int)) (by omega))
        omega
    · rename_i hm
      refine ⟨by simp [h1], List.nodup_append.2 ⟨h2, (by simp), fun a ha b hb => by simp at hb; subst hb; intro e; exact hm (e ▸ ha)⟩, by simp; omega, fun l hl => ?_⟩
      dsimp only at hl
      rcases List.mem_append.1 hl with hl | hl
      · have := h4 l hl; omega
      · rw [List.mem_singleton] at hl; subst hl; simp
/-- Sets that stood in w0: what turns blocks from w0 on alone leaves them. -/
theorem SetsAt.far {F : Nat → Prop} {w0 w w' : World} {base : Nat} {v : Value} {all : List Int} {rep rep0 : Nat → Nat} {U : Option Nat} (h : SetsAt w base v all rep U) (h0 : SetsAt w0 base v all rep0 U) (hs0 : Step (fun k => some k = U) w0 w) (hs : Step F w w') (hf : ∀ k, k < w0.heap.size → ¬ F k) : SetsAt w' base v all rep U := by
  obtain ⟨R, M, va, vu, m, up, h1, h2, h3, h4, h5, h6, h7, h8, h9, h10, h11, h12, h13, h14⟩ := h.h
  obtain ⟨R', M', va', vu', m', up', k1, k2, k3, k4, k5, k6, k7, k8, k9, k10, k11, k12, k13, k14⟩ := h0.h
  have hR : R = R' := by rw [h1] at k1; cases k1; rfl
  subst hR
  have hRU : ¬ some R = U := fun e => by
    obtain ⟨cs, fr, hc⟩ := k8.cells R (k9.trans e.symm)
    rw [k2] at hc; cases hc
  have h2' := hs0.heap k2 hRU
  rw [h2] at h2'
  cases h2'
  have lt : ∀ {b : Nat} {o : Obj}, w0.heap[b]? = some o → b < w0.heap.size := fun hb => (Array.getElem?_eq_some_iff.1 hb).1
  exact ⟨R, M, va, vu, m, up, h1, hs.heap h2 (hf R (lt k2)), h3, h4, h5.step hs (hf M k5.lt), h6, h7.step hs fun k hk => hf k (k7.lt k hk).2, h8.step hs fun k hk => hf k (k8.lt k hk).2, h9, h10, h11, h12, h13, h14⟩
theorem posL_push {ks : List Int} {t : Int} (h : t ∉ ks) {n : Nat} (hn : ks.length = n) (y : Int) : posL (ks ++ [t]) y = if y = t then some (.int .i64 (n : Nat)) else posL ks y := by
  subst hn
  exact posL_app h y
set_option maxHeartbeats 4000000 in
theorem groups_any (base : Nat) (v : Value) (all : List Int) (rep : Nat → Nat) (U : Option Nat) (w : World) (hS : SetsAt w base v all rep U) :
    Calls Tryz.prog 86 #[v] w fun e w' => (∃ u, e = .returned u ∧ OwnL w' (w.heap.size + 1) u (groupsF all rep)) ∧ SetsAt w' base v all rep U ∧ Step (fun k => some k = U) w w' := by
  have HS0 := Bx.mk hS
  obtain ⟨R, M, va, vu, m, up, rfl, h2, h3, h4, h5, h6, h7, h8, h9, h10, h11, h12, h13, h14⟩ := hS.h
  obtain ⟨A1, c1, rfl, hc1, hr1, ha1⟩ := h7.read (by omega)
  have hrr := cell_of_row w R 1 _ _ _ h2
  simp only [List.getElem?_toArray, List.getElem?_cons_succ, List.getElem?_cons_zero] at hrr
  have hrr2 := ((BB.refl w).al (.map #[] 0)).cell hrr
  have hU : ∀ k, some k = U → k < w.heap.size := fun k hk => (h8.lt k (h9.trans hk.symm)).2
  have hUA : ∀ a, A1 = some a → 0 < all.length → ¬ some a.block = U := fun a ha _ e => h10 a.block (ha1 a ha).2 (h9.trans e.symm)
  have HR1 := Bx.mk hr1
  have HU := Bx.mk hU
  have HUA := Bx.mk hUA
  have H14 := Bx.mk h14
  have hmm := @run_makeMap Tryz.prog
  clear h2 h3 h4 h5 h6 h7 h8 h9 h10 h11 h12 h13 h14 hS hr1 ha1 hU hUA
  go_enter Tryz.func86, Tryz.ntmps86
  go_wp2
  clear hmm hrr hrr2
  go_loopw [17, 3] (fun iv ov wr => ∃ (k : Nat) (m2 : List (Int × Value)), k ≤ all.length ∧ iv = .int .i64 k ∧ OwnL wr (w.heap.size + 1) ov (groupsTo all rep k).2 ∧ Bx (MapAt wr w.heap.size m2 ∧ ∀ x, m2.lookup x = posL (groupsTo all rep k).1 x) ∧ SetsAt wr base (.pointer (some ⟨R, 0, none⟩)) all rep U ∧ Step (fun k => some k = U) w wr ∧ w.heap.size < wr.heap.size) (fun iv _ _ => all.length - (intOf iv).toNat)
  case atStart => exact ⟨0, [], Nat.zero_le _, rfl, OwnL.nil _ _, ⟨MapAt.made w, fun x => rfl⟩, HS0.out.below (below_alloc (Nat.le_refl _) _), Step.alloc _ _ _, by simp⟩
  case round =>
    obtain ⟨k, m2, hk, rfl, HO, HM, hS, hs, hsz⟩ := hrel
    have h14 := H14.out
    by_cases hlt : k < all.length
    · have hra := HR1.out.step hs HUA.out
      obtain ⟨b, off, rfl, hc⟩ := hra.at (by omega)
      have hck := hc k hlt
      obtain ⟨g1, g2, g3, g4⟩ := groupsTo_ok all rep k
      have HG : Bx ((groupsTo all rep (k + 1)) = addG (groupsTo all rep k) ((rep k : Nat) : Int) (gi all k)) := ⟨rfl⟩
      generalize hks : (groupsTo all rep k).1 = ks at *
      generalize hrs : (groupsTo all rep k).2 = rs at *
      have HST : Bx (groupsTo all rep k = (ks, rs)) := ⟨by rw [← hks, ← hrs]⟩
      have HGG := Bx.mk (And.intro g1 (And.intro g2 (And.intro g3 g4)))
      have hstep : ∀ w1, Step (fun k => some k = U) wr w1 → OwnL w1 (w.heap.size + 1) _ rs ∧ MapAt w1 w.heap.size m2 := fun w1 h1 => ⟨HO.step h1 fun j hj _ e => by have := HU.out j e; omega, HM.out.1.step h1 fun e => by have := HU.out _ e; omega⟩
      have HSTEP := Bx.mk hstep
      have hlook := HM.out.2 ((rep k : Nat) : Int)
      clear hc hra hks hrs g1 g2 g3 g4 hstep HO
      by_cases hin : ((rep k : Nat) : Int) ∈ ks
      · have hpl := posN_lt hin
        rw [posL_some hin] at hlook
        have hl1 : (List.lookup ((rep k : Nat) : Int) m2).getD (.int .i64 0) = .int .i64 (posN ks ((rep k : Nat) : Int) : Nat) := by rw [hlook]; rfl
        have hl2 : (List.lookup ((rep k : Nat) : Int) m2).isSome = true := by rw [hlook]; rfl
        generalize hp : posN ks ((rep k : Nat) : Int) = p at *
        have HP := Bx.mk hp
        have hpr : p < rs.length := by rw [← HGG.out.1]; exact hpl
        have HLEN : Bx (∀ n, (rs.getD p []).length = n → n < 1099511627776) := ⟨fun n hn => by
          rw [← hn, List.getD_eq_getElem?_getD, List.getElem?_eq_getElem hpr, Option.getD_some]
          have := HGG.out.2.2.2 _ (List.getElem_mem (l := rs) (n := p) hpr)
          have := H14.out
          omega⟩
        clear hlook hp hpl
        go_wp2_with (first
          | (go_at_call 119; (with_reducible refine (top_any base _ all rep U k hlt _ hS).mono ?_); rintro e w1 ⟨rfl, hS1, hs1⟩; obtain ⟨HO1, hM1⟩ := HSTEP.out w1 hs1; obtain ⟨g, cap, hv1, hgc, hgm, hgb, hgs, ⟨a, m', c', hcp, hmc, hri, hne⟩, hfz, hput⟩ := HO1.put hpr; subst hv1; have hm9 := HLEN.out _ hri.len; have HNE := Bx.mk hne; have HS1 := Bx.mk (And.intro hS1 (And.intro hs1 (And.intro hM1 hgs))); have HOO := Bx.mk HO1; clear hput hne HO1 hs1)
          | (go_at_call 120; (with_reducible refine (clip_any (rs.getD p []) a m' c' _ hri hmc).mono ?_); rintro e w2 ⟨rfl, rfl⟩)
          | (at_builtin; refine app_clip (rs.getD p []) a m' hri (gi all k) hm9 rfl rfl rfl rfl ?_; intro c3 w3 hc3 hr3 hb3 hz3; have hcp3 := hb3.cell hcp; have hfz3 : w3.frozen? ⟨g, p, none⟩ = false := ((bcell hb3.b).2 g p HS1.out.2.2.2).trans hfz)
          | (at_lookup; refine arm_lookup_ok hM1 (.int .i64 0) Tryz.underlying100 Tryz.underlying3 (zero_int _) rfl rfl rfl rfl ?_)
          | fail)
        go_roundw
        case rel =>
          obtain ⟨hS1', hs1', hM1', hgs'⟩ := HS1.out
          obtain ⟨g', cap', hv', -, -, -, -, -, -, hput⟩ := (HOO.out.below hb3.b).put hpr
          cases hv'
          have hst : groupsTo all rep (k + 1) = (ks, rs.set p (rs.getD p [] ++ [gi all k])) := by rw [HG.out, HST.out]; unfold addG; rw [if_pos hin, HP.out]
          have hset := Step.setCell (F := fun k => k = g) w3 (p := ⟨g, p, none⟩) rfl (.slice (some ⟨w1.heap.size + 1, 0, none⟩) (m' + 1) c3)
          exact ⟨k + 1, m2, hlt, by go_num, (by rw [hst]; exact hput _ _ _ _ hc3 hr3 (fun ad ha _ => by cases ha; dsimp only; exact ⟨by have := hs1'.size; omega, by omega⟩)), (by rw [hst]; exact ⟨(hM1'.step (step_of_bb (F := fun _ => False) hb3) fun h => h).step hset (by omega), HM.out.2⟩),
            (hS1'.below hb3.b).far HS0.out ((hs.trans hs1').trans (step_of_bb hb3)) hset (fun k hk e => by omega), ((hs.trans hs1').trans (step_of_bb hb3)).then hset (fun k hk e => by omega), by have := hs1'.size; have := hb3.size; rw [setCell_size]; omega⟩
        case measure => simp [intOf]; omega
      · have HNIN := Bx.mk hin
        have hlook0 : m2.lookup ((rep k : Nat) : Int) = none := by rw [hlook]; unfold posL; rw [if_neg hin]
        have hl1 : (List.lookup ((rep k : Nat) : Int) m2).getD (.int .i64 0) = .int .i64 0 := by rw [hlook0]; rfl
        have hl2 : (List.lookup ((rep k : Nat) : Int) m2).isSome = false := by rw [hlook0]; rfl
        have HNL := Bx.mk hlook0
        have hrl : rs.length < 1099511627776 := by have := HGG.out.2.2.1; omega
        have HPR : Bx (rs.length < (rs ++ [([] : List Int)]).length) := ⟨by simp⟩
        have HDD : Bx ((rs ++ [([] : List Int)]).getD rs.length [] = [] ∧ (rs ++ [([] : List Int)]).length = rs.length + 1) := ⟨by simp [List.getD_eq_getElem?_getD], by simp⟩
        obtain ⟨Ao, co, rfl, hco, -, -⟩ := (HSTEP.out wr (Step.refl _ _)).1.read (by omega)
        have HCO := Bx.mk hco
        clear hlook hlook0 hin
        go_wp2_with (first
          | (go_at_call 119; first
            | ((with_reducible refine (top_any base _ all rep U k hlt _ hS).mono ?_); rintro e w1 ⟨rfl, hS1, hs1⟩; obtain ⟨HO1, hM1⟩ := HSTEP.out w1 hs1)
            | ((with_reducible refine (top_any base _ all rep U k hlt _ hS1).mono ?_); rintro e w2 ⟨rfl, hS2, hs2⟩; obtain ⟨HO2, hM2⟩ := HSTEP.out w2 (hs1.trans hs2))
            | fail)
          | (at_lookup; refine arm_lookup_ok hM1 (.int .i64 0) Tryz.underlying100 Tryz.underlying3 (zero_int _) rfl rfl rfl rfl ?_)
          | (at_mapUpdate; refine arm_update hM2 Tryz.underlying100 Tryz.underlying3 rfl rfl rfl rfl rfl ?_; intro w3 hM3 hs3; have HO3 := HO2.step hs3 (fun j hj _ e => by omega); have hz3 := Nat.le_trans (Nat.succ_le_of_lt hsz) (Nat.le_trans (Nat.le_trans hs1.size hs2.size) hs3.size))
          | (at_builtin; refine app_list (w.heap.size + 1) rs _ HO3 [] none 0 0 (Nat.le_refl _) (RI.nil _ _) (fun ad ha _ => by cases ha) rfl rfl rfl rfl hz3 hrl ?_; intro v4 w4 HO4 hs4 hb4; obtain ⟨g, cap, hv4, hgc, hgm, hgb, hgs, ⟨a, m', c', hcp, hmc, hri, hne⟩, hfz, hput⟩ := HO4.put HPR.out; rw [HDD.out.2] at hv4 hgc; subst hv4; rw [HDD.out.1] at hri; have HB4 := Bx.mk (And.intro hb4 (And.intro HO4 hgs)); clear hput hne hb4 HO4)
          | (go_at_call 120; (with_reducible refine (clip_any [] a m' c' _ hri hmc).mono ?_); rintro e w5 ⟨rfl, rfl⟩)
          | (at_builtin; refine app_clip [] a m' hri (gi all k) (by have := hri.len; simp at this; omega) rfl rfl rfl rfl ?_; intro c6 w6 hc6 hr6 hb6 hz6; have hcp6 := hb6.cell hcp; have hfz6 : w6.frozen? ⟨g, rs.length, none⟩ = false := ((bcell hb6.b).2 g rs.length HB4.out.2.2).trans hfz)
          | fail)
        go_roundw
        case rel =>
          obtain ⟨hb4, HO4, hgs⟩ := HB4.out
          obtain ⟨g', cap', hv', -, -, -, -, -, -, hput⟩ := (HO4.below hb6.b).put HPR.out
          rw [HDD.out.2] at hv'
          cases hv'
          have hst : groupsTo all rep (k + 1) = (ks ++ [((rep k : Nat) : Int)], rs ++ [[gi all k]]) := by rw [HG.out, HST.out]; unfold addG; rw [if_neg HNIN.out]
          have hset := Step.setCell (F := fun k => k = g) w6 (p := ⟨g, rs.length, none⟩) rfl (.slice (some ⟨w4.heap.size + 1, 0, none⟩) (m' + 1) c6)
          have hz6 := hb6.size
          have hz4 := hs4.size
          have far : Step (fun k => w.heap.size ≤ k) w2 (w6.setCell ⟨g, rs.length, none⟩ (.slice (some ⟨w4.heap.size + 1, 0, none⟩) (m' + 1) c6)) :=
            (((hs3.mono (G := fun k => w.heap.size ≤ k) fun k _ e => by omega).trans (hs4.mono fun k _ e => by have := (HO3.lt k e.symm).1; omega)).trans (step_of_bb hb6)).trans (hset.mono fun k _ e => by omega)
          have hM6 := ((hM3.step hs4 fun e => by have := (HO3.lt _ e.symm).1; omega).step (step_of_bb (F := fun _ => False) hb6) fun h => h).step hset (by omega)
          have hp := hput _ _ _ _ hc6 hr6 (fun ad ha _ => by cases ha; dsimp only; exact ⟨by omega, by omega⟩)
          refine ⟨k + 1, upd m2 ((rep k : Nat) : Int) (.int .i64 (rs.length : Nat)), hlt, by go_num, ?_, ?_, hS2.far HS0.out ((hs.trans hs1).trans hs2) far (fun k hk e => by omega), ((hs.trans hs1).trans hs2).then far (fun k hk e => by omega), ?_⟩
          · rw [hst]
            have e : (rs ++ [([] : List Int)]).set rs.length ([] ++ [gi all k]) = rs ++ [[gi all k]] := by simp
            rw [e] at hp
            exact hp
          · rw [hst]
            refine ⟨hM6, fun x => ?_⟩
            rw [lookup_upd, HM.out.2]
            dsimp only
            rw [posL_push HNIN.out HGG.out.1]
          · rw [setCell_size]; omega
        case measure => simp [intOf]; omega
    · go_wp2
      go_ret
      have : k = all.length := by omega
      subst this
      exact ⟨⟨_, rfl, HO⟩, hS, hs⟩
end Go.Proofs.YtefhmlgepnlaoaaGreat
