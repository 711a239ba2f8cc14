/- Walks: slices.DeleteFunc over any function value; ContainsFunc. -/
import Derived.Test.YtefhmlgepnlaoaaGreatSh
import Derived.Test.YtefhmlgepnlaoaaGreatSa
import Derived.Lib.SliceRun
set_option linter.unusedVariables false
set_option linter.unusedSimpArgs false
namespace Go.Proofs.YtefhmlgepnlaoaaGreat
open Go.RowKit

theorem step_of_bb {w w' : World} {F : Nat → Prop} (h : BB w w') : Step F w w' := ⟨h.b.os, h.b.tape, h.b.output, h.b.size, fun k hk _ => h.b.block k hk⟩
theorem OwnI.cut {w : World} {base g n cap : Nat} {cur : List Int} (h : OwnI w base (.slice (some ⟨g, 0, none⟩) n cap) cur) {i : Nat} (hi : i ≤ cur.length) : OwnI w base (.slice (some ⟨g, 0, none⟩) i cap) (cur.take i) := by
  rcases h.o.2 with ⟨hv, _⟩ | ⟨g', cap', cu, hv, hb, hg, hc, hm, hs, ht⟩
  · cases hv
  · cases hv
    have hl : (cur.take i).length = i := by rw [List.length_take]; omega
    refine ⟨⟨by rw [List.length_map]; simp, .inr ⟨g, cap, cu, by rw [hl], hb, hg, by rw [hl]; omega, hm, hs, ?_⟩⟩⟩
    rw [hl, Nat.mul_one, List.map_take, ← ht, Nat.mul_one, List.take_take, Nat.min_eq_left hi]
theorem step_setCells (g : Nat) : ∀ (vs : List Value) (o : Nat) (w : World), Step (fun k => k = g) w (w.setCells g o vs)
  | [], o, w => Step.refl _ w
  | v :: vs, o, w => (Step.setCell (F := fun k => k = g) w (p := ⟨g, o, none⟩) rfl v).trans (step_setCells g vs (o + 1) _)
theorem OwnI.sets {base g n cap : Nat} : ∀ (m i : Nat) (w : World) (cur : List Int), OwnI w base (.slice (some ⟨g, 0, none⟩) n cap) cur → i + m ≤ cur.length →
    ∃ cur', cur'.length = cur.length ∧ cur'.take i = cur.take i ∧ OwnI (w.setCells g i (List.replicate m (.int .i64 0))) base (.slice (some ⟨g, 0, none⟩) n cap) cur'
  | 0, i, w, cur, h, _ => ⟨cur, rfl, rfl, h⟩
  | m + 1, i, w, cur, h, hm => by
    obtain ⟨g', cap', hv, _, _, _, _, _, _, hput⟩ := h.put (i := i) (by omega)
    cases hv
    obtain ⟨cur', h1, h2, h3⟩ := OwnI.sets m (i + 1) _ _ (hput 0) (by rw [List.length_set]; omega)
    refine ⟨cur', by rw [h1, List.length_set], ?_, h3⟩
    have h4 := congrArg (List.take i) h2
    rw [List.take_take, List.take_take, Nat.min_eq_left (by omega)] at h4
    rw [h4, List.take_set_of_le (by omega)]

theorem idxFFrom_spec (del : Int → Bool) : ∀ (xs : List Int) (k : Nat), (idxFFrom del k xs = -1 ∧ ∀ x ∈ xs, del x = false) ∨ ∃ j, j < xs.length ∧ idxFFrom del k xs = ((k + j : Nat) : Int) ∧ del (gi xs j) = true ∧ xs.take j = (xs.take j).filter (fun x => !del x)
  | [], k => .inl ⟨rfl, fun x h => by cases h⟩
  | x :: xs, k => by
    unfold idxFFrom
    cases hx : del x with
    | true => exact .inr ⟨0, by simp, by simp, by simpa [gi] using hx, by simp⟩
    | false =>
      rcases idxFFrom_spec del xs (k + 1) with ⟨h1, h2⟩ | ⟨j, h1, h2, h3, h4⟩
      · refine .inl ⟨h1, fun y hy => ?_⟩
        rcases List.mem_cons.1 hy with rfl | hy
        · exact hx
        · exact h2 y hy
      · refine .inr ⟨j + 1, by simpa using h1, by simp only [Bool.false_eq_true, if_false]; rw [h2]; congr 1; omega, by simpa [gi] using h3, ?_⟩
        rw [List.take_succ_cons, List.filter_cons, hx, ← h4]
        rfl

theorem deleteFunc_any (F : Nat) (lb : Array Value) (del : Int → Bool) (xs : List Int) (Inv : World → Prop) (G : Nat → Prop) (hT : Tells F lb del xs Inv G) (eg : ∀ args w, (callFunc F args).run Tryz.prog w = .ok (.enter F args) w) (base : Nat) (v : Value) (w : World) (HO : OwnI w base v xs) (hl : xs.length < 1099511627776)
    (hG : ∀ k, v.ownBlock = some k → ¬ G k) (hstab : ∀ W W', Inv W → Step (fun k => some k = v.ownBlock) W W' → Inv W') (hI : Inv w) :
    Calls Tryz.prog 121 #[v, .func (.func F) #[] lb] w fun e w' => (∃ u, e = .returned u ∧ OwnI w' base u (xs.filter fun x => !del x)) ∧ Inv w' ∧ Step (fun k => G k ∨ some k = v.ownBlock) w w' := by
  obtain ⟨A, c, rfl, hc, hr, ha⟩ := HO.read (by omega)
  have hIF := indexFunc_any F lb del xs Inv G hT eg A _ c w hr (fun a e h0 => hG _ (ha a e).2) hI
  rcases idxFFrom_spec del xs 0 with ⟨h1, h2⟩ | ⟨i0, h1, h2, h3, h4⟩
  · rw [h1] at hIF
    have hfil : Bx (xs.filter (fun x => !del x) = xs) := ⟨List.filter_eq_self.2 fun x hx => by simp [h2 x hx]⟩
    have HHO := Bx.mk HO
    have HGG := Bx.mk hG
    clear hr h1 h2 ha HO hG
    go_enter Tryz.func121, Tryz.ntmps121
    go_wp2_with (go_at_call 96; refine hIF.mono ?_; rintro e w1 ⟨rfl, hI1, hs1⟩)
    go_ret
    exact ⟨⟨_, rfl, by rw [hfil.out]; exact HHO.out.step hs1 HGG.out⟩, hI1, hs1.mono fun k _ h => .inl h⟩
  · rw [h2, Nat.zero_add] at hIF
    obtain ⟨g, cap, hv, -, hcap, hg1, hg2, -, -, -⟩ := HO.put h1
    cases hv
    have hne : (((i0 : Nat) : Int) == -1) = false := beq_eq_false_iff_ne.2 (by omega)
    have HHO := Bx.mk HO
    have HGG := Bx.mk hG
    have HST := Bx.mk hstab
    have H4 := Bx.mk h4
    have H3 := Bx.mk h3
    have HGg : Bx (¬ G g) := ⟨hG g rfl⟩
    clear hr h2 ha h3 h4 HO hG hstab
    go_enter Tryz.func121, Tryz.ntmps121
    go_wp2_with (go_at_call 96; refine hIF.mono ?_; rintro e w1 ⟨rfl, hI1, hs1⟩)
    go_loopw [5, 6] (fun iv jv wr => ∃ (i j : Nat) (cur : List Int), i < j ∧ j ≤ xs.length ∧ iv = .int .i64 i ∧ jv = .int .i64 j ∧ Bx (cur.length = xs.length) ∧ Bx (cur.take i = (xs.take j).filter fun x => !del x) ∧ Bx (∀ t, j ≤ t → gi cur t = gi xs t) ∧ OwnI wr base (.slice (some ⟨g, 0, none⟩) xs.length c) cur ∧ Inv wr ∧ Step (fun k => G k ∨ k = g) w wr) (fun _ jv _ => xs.length - (intOf jv).toNat)
    case atStart =>
      refine ⟨i0, i0 + 1, xs, by omega, by omega, rfl, by go_num, ⟨rfl⟩, ⟨?_⟩, ⟨fun _ _ => rfl⟩, HHO.out.step hs1 HGG.out, hI1, hs1.mono fun k _ h => .inl h⟩
      rw [List.take_succ_eq_append_getElem h1, List.filter_append, ← H4.out]
      have := H3.out
      rw [gi_eq h1] at this
      simp [this]
    case round =>
      obtain ⟨i, j, cur, hij, hj, rfl, rfl, hcl, htk, hrest, HOc, hIr, hsr⟩ := hrel
      have HOB := Bx.mk HOc
      by_cases hlt : j < xs.length
      · obtain ⟨g', cap', hv', hc1, hc2, hg1', hg2', hcells, -, -⟩ := HOc.put (i := j) (by rw [hcl.out]; exact hlt)
        rw [hcl.out] at hv'
        cases hv'
        have hcj := hcells j (by rw [hcl.out]; exact hlt)
        rw [hrest.out j (Nat.le_refl _)] at hcj
        have hq := hT.h _ (gi_mem hlt) wr hIr
        have HTK : Bx (xs.take (j + 1) = xs.take j ++ [gi xs j]) := ⟨by rw [List.take_succ_eq_append_getElem hlt, gi_eq hlt]⟩
        clear hcells HOc
        cases hdel : del (gi xs j) with
        | true =>
          rw [hdel] at hq
          go_wp2_with (refine hq.mono ?_; rintro e w3 ⟨rfl, hI3, hs3⟩)
          go_roundw
          case rel => exact ⟨i, j + 1, cur, by omega, hlt, rfl, by go_num, hcl, ⟨by rw [HTK.out, List.filter_append, htk.out]; simp [hdel]⟩, ⟨fun t ht => hrest.out t (by omega)⟩, HOB.out.step hs3 HGG.out, hI3, hsr.trans (hs3.mono fun k _ h => .inl h)⟩
          case measure => simp [intOf]; omega
        | false =>
          rw [hdel] at hq
          go_wp2_with (refine hq.mono ?_; rintro e w3 ⟨rfl, hI3, hs3⟩; have HO3 := HOB.out.step hs3 HGG.out; obtain ⟨g'', cap'', hv'', -, -, -, -, hcells, hfz, hput⟩ := HO3.put (i := i) (by rw [hcl.out]; omega); rw [hcl.out] at hv''; cases hv''; have hci := hcells i (by rw [hcl.out]; omega); clear hcells)
          have hst3 : Step (fun k => k = g) w3 (w3.setCell ⟨g, i, none⟩ (.int .i64 (gi xs j))) := Step.setCell (F := fun k => k = g) w3 (p := ⟨g, i, none⟩) rfl _
          go_roundw
          case rel =>
            refine ⟨i + 1, j + 1, cur.set i (gi xs j), by omega, hlt, by go_num, by go_num, ⟨by rw [List.length_set]; exact hcl.out⟩, ⟨?_⟩, ⟨fun t ht => ?_⟩, ?_, HST.out _ _ hI3 (hst3.mono fun k _ e => by rw [e]; rfl), (hsr.trans (hs3.mono fun k _ h => .inl h)).trans (hst3.mono fun k _ h => .inr h)⟩
            · rw [HTK.out, List.filter_append, ← htk.out, List.take_succ_eq_append_getElem (by rw [List.length_set, hcl.out]; omega), List.take_set_of_le (Nat.le_refl _)]
              simp [hdel]
            · rw [gi_set _ _ _ _ (by rw [hcl.out]; omega), if_neg (by omega)]
              exact hrest.out t (by omega)
            · exact hput (gi xs j)
          case measure => simp [intOf]; omega
      · have hje : j = xs.length := by omega
        subst hje
        have hin : i ≤ xs.length := by omega
        have hsl : ∀ W : World, (Instr.slice 25 (.slice (some ⟨g, 0, none⟩) xs.length c) (some (.int .i64 (i : Int))) none none).run Tryz.prog W = .ok (.slice (some ⟨g, i, none⟩) (xs.length - i) (c - i)) W := fun W => by
          rw [run_slice_l W 25 (some ⟨g, 0, none⟩) xs.length c under_ints .i64 (i : Int) (Int.natCast_nonneg _) (by omega), elem_ints, sizeOf_int]
          have : ¬ c = i := by omega
          simp [Result.andThen, sliced, addr_add, this]
        have hsh : ∀ W : World, (Instr.slice 25 (.slice (some ⟨g, 0, none⟩) xs.length c) none (some (.int .i64 (i : Int))) none).run Tryz.prog W = .ok (.slice (some ⟨g, 0, none⟩) i c) W := fun W => by
          rw [run_slice_h W 25 (some ⟨g, 0, none⟩) xs.length c under_ints .i64 (i : Int) (Int.natCast_nonneg _) (by omega), elem_ints, sizeOf_int]
          simp [Result.andThen, sliced, addr_add]
        obtain ⟨cur', k1, k2, k3⟩ := HOB.out.sets (xs.length - i) i wr cur (by rw [hcl.out]; omega)
        have hfin : Bx (OwnI (wr.setCells g i (List.replicate (xs.length - i) (.int .i64 0))) base (.slice (some ⟨g, 0, none⟩) i c) (xs.filter fun x => !del x)) := ⟨by
          have := k3.cut (i := i) (by rw [k1, hcl.out]; omega)
          rw [k2, htk.out, List.take_length] at this
          exact this⟩
        have hfz : ∀ t, wr.frozen? ⟨g, t, none⟩ = false := fun t => by
          rcases HOB.out.o.2 with ⟨hv, _⟩ | ⟨g', cap', cu, hv, hb, hg, _⟩
          · cases hv
          · rw [hcl.out] at hv; cases hv; exact frozen_of_row wr g t hg
        have hsome : ∀ t, t < xs.length → (wr.cell? ⟨g, t, none⟩).isSome = true := fun t ht => by
          obtain ⟨g', cap', hv', -, -, -, -, hcells, -, -⟩ := HOB.out.put (i := t) (by rw [hcl.out]; exact ht)
          rw [hcl.out] at hv'
          cases hv'
          rw [hcells t (by rw [hcl.out]; exact ht)]
          rfl
        have hclr : ∀ ty, (Builtin.clear_ #[25] ty #[.slice (some ⟨g, i, none⟩) (xs.length - i) (c - i)]).run Tryz.prog wr = .ok (.tuple #[]) (wr.setCells g i (List.replicate (xs.length - i) (.int .i64 0))) := fun ty =>
          Lib.run_clear_slice wr _ _ ty (.int .i64 0) Tryz.underlying25 zero_int rfl rfl g i _ _ (by omega) (fun t ht => hsome _ (by omega)) (fun t ht => hfz _)
        have hst := step_setCells g (List.replicate (xs.length - i) (.int .i64 0)) i wr
        have HI2 := HST.out _ _ hIr (hst.mono fun k _ e => by rw [e]; rfl)
        have hs2 := hsr.trans (hst.mono (G := fun k => G k ∨ k = g) fun k _ h => .inr h)
        clear hsome hfz k1 k2 k3 HOB HOc
        generalize (wr.setCells g i (List.replicate (xs.length - i) (.int .i64 0))) = w9 at *
        go_wp2
        go_ret
        exact ⟨⟨_, rfl, hfin.out⟩, HI2, hs2.mono fun k _ h => h.imp id fun e => by rw [e]; rfl⟩
end Go.Proofs.YtefhmlgepnlaoaaGreat
