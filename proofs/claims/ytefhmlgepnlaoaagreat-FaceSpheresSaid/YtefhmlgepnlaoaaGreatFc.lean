/- slices.SortFunc at []face.Walk by keys, in this seat's words. -/
import Derived.Test.YtefhmlgepnlaoaaGreatWw
import Derived.Test.YtefhmlgepnlaoaaGreatLb
set_option linter.unusedVariables false
set_option linter.unusedSimpArgs false
namespace Go.Proofs.YtefhmlgepnlaoaaGreat
open Go.RowKit Go.Sort Go.Lib

theorem flat2_get {α : Type} (enc : α → List Value) (hk : ∀ x, (enc x).length = 2) : ∀ (l : List α) (t : Nat), (l.flatMap enc)[t]? = (l[t / 2]?).bind fun x => (enc x)[t % 2]? := by
  intro l
  induction l with
  | nil => intro t; simp
  | cons x l ih =>
    intro t
    rw [List.flatMap_cons]
    by_cases h : t < 2
    · rw [List.getElem?_append_left (by rw [hk]; exact h), show t / 2 = 0 by omega, show t % 2 = t by omega]
      rfl
    · rw [List.getElem?_append_right (by rw [hk]; omega), hk, ih, show t / 2 = (t - 2) / 2 + 1 by omega, show t % 2 = (t - 2) % 2 by omega]
      rfl
theorem flatK_eq {α : Type} [Inhabited α] (enc : α → List Value) (hk : ∀ x, (enc x).length = 2) (d : Array α) : (flatK enc 2 d).toList = d.toList.flatMap enc := by
  apply List.ext_getElem?
  intro t
  rw [flat2_get enc hk]
  by_cases h : t < d.size * 2
  · have h2 : t / 2 < d.size := by omega
    have e1 : (flatK enc 2 d).toList[t]? = some ((flatK enc 2 d)[t]!) := by
      rw [Array.getElem?_toList, getElem!_pos _ t (by simpa using h)]
      exact Array.getElem?_eq_getElem (by simpa using h)
    rw [e1, get_flatK enc 2 d t h]
    have e2 : d.toList[t / 2]? = some (d[t / 2]!) := by
      rw [Array.getElem?_toList, getElem!_pos d (t / 2) h2]
      exact Array.getElem?_eq_getElem h2
    rw [e2, Option.bind_some]
    have h3 : t % 2 < (enc d[t / 2]!).length := by rw [hk]; omega
    rw [getElem!_pos (enc d[t / 2]!) (t % 2) h3, List.getElem?_eq_getElem h3]
  · rw [List.getElem?_eq_none (by simp; omega), List.getElem?_eq_none (by simp; omega)]
    rfl
theorem flat2_len {α : Type} (enc : α → List Value) (hk : ∀ x, (enc x).length = 2) (l : List α) : (l.flatMap enc).length = l.length * 2 := by
  induction l with
  | nil => rfl
  | cons x l ih => rw [List.flatMap_cons, List.length_append, hk, ih, List.length_cons]; omega

theorem compare_any (x y : Int) (w : World) : Calls Tryz.prog 56 #[.int .i64 x, .int .i64 y] w fun e w' => e = .returned (.int .i64 (Lib.compareInt x y)) ∧ w' = w := Any.cmp_Compare_int Tryz.lays122 x y w

def wCmp (x y : WP) : Int := Lib.compareInt x.1 y.1
theorem wLt (x y : WP) : ltOf wCmp x y = decide (x.1 < y.1) := by
  unfold ltOf wCmp Lib.compareInt
  by_cases h1 : x.1 < y.1
  · simp [h1]
  · by_cases h2 : y.1 < x.1 <;> simp [h1, h2]
theorem wSWO : SWO (ltOf wCmp) where
  irrefl x := by rw [wLt]; simp
  trans x y z h1 h2 := by rw [wLt] at *; simp at *; omega
  ntrans x y z h1 h2 := by rw [wLt] at *; simp at *; omega
theorem wClosure (x y : WP) (W : World) : Calls Tryz.prog 55 #[.agg (wpCells x).toArray, .agg (wpCells y).toArray] W fun e w' => e = .returned (.int .i64 (wCmp x y)) ∧ ∃ q os', w' = grow (W.drewN q) os' := by
  have hcon := fun W' => compare_any x.1 y.1 W'
  unfold wCmp
  generalize Lib.compareInt x.1 y.1 = r at hcon ⊢
  unfold wpCells
  go_enter Tryz.func55, Tryz.ntmps55
  go_wp2_with (go_at_call 56; refine (hcon _).mono ?_; rintro e w' ⟨rfl, rfl⟩)
  go_ret
  exact ⟨rfl, 0, _, by rw [alloc_eq_grow, alloc_eq_grow, grow_grow]; rfl⟩

/-- A list over which another lies is permuted with it. -/
theorem perm_over {α β : Type} (f : α → β) : ∀ {ys zs : List β}, ys.Perm zs → ∀ xs : List α, xs.map f = zs → ∃ us : List α, us.map f = ys ∧ us.Perm xs := by
  intro ys zs h
  induction h with
  | nil => intro xs hx; cases xs with | nil => exact ⟨[], rfl, List.Perm.nil⟩ | cons x xs => cases hx
  | @cons y l1 l2 h ih =>
    intro xs hx
    cases xs with
    | nil => cases hx
    | cons x xs =>
      simp only [List.map_cons, List.cons.injEq] at hx
      obtain ⟨us, h1, h2⟩ := ih xs hx.2
      exact ⟨x :: us, by rw [List.map_cons, h1, hx.1], h2.cons x⟩
  | swap y z l =>
    intro xs hx
    cases xs with
    | nil => cases hx
    | cons x xs =>
      cases xs with
      | nil => simp at hx
      | cons x' xs =>
        simp only [List.map_cons, List.cons.injEq] at hx
        obtain ⟨h1, h2, h3⟩ := hx
        exact ⟨x' :: x :: xs, by simp [h1, h2, h3], List.Perm.swap _ _ _⟩
  | trans h1 h2 ih1 ih2 =>
    intro xs hx
    obtain ⟨us, h3, h4⟩ := ih2 xs hx
    obtain ⟨vs, h5, h6⟩ := ih1 us h3
    exact ⟨vs, h5, h6.trans h4⟩

theorem heap_grow_mod {w : World} {g n : Nat} {os : Array Obj} {cur : Array Value} {e : TypeId} {fr : Nat × Nat} (d : Array Value) (hb : w.heap[g]? = some (.cells cur e fr)) :
    (grow (putRow id (Sort.ahead w n) g 0 d) os).heap[g]? = some (.cells (putCells id 0 d cur) e fr) := by
  have hg : g < w.heap.size := (Array.getElem?_eq_some_iff.1 hb).1
  rw [heap_grow_old _ _ (by simpa using hg)]
  simp [putRow, mapBlock, Sort.ahead, Array.getElem?_modify, hb, onCells]
theorem grownBy_mod {w : World} {g n : Nat} {os : Array Obj} (d : Array Value) : w.grownBy (grow (putRow id (Sort.ahead w n) g 0 d) os) (some g) := by
  refine ⟨rfl, rfl, rfl, by simp, fun k hk hne => ?_⟩
  rw [heap_grow_old _ _ (by simpa using hk)]
  have : g ≠ k := fun e => hne (by rw [e])
  simp [putRow, mapBlock, Sort.ahead, Array.getElem?_modify, this]
theorem take_putCells_id (cur ts : Array Value) (h : ts.size ≤ cur.size) : (putCells id 0 ts cur).toList.take ts.size = ts.toList := by
  apply List.ext_getElem?
  intro j
  by_cases hj : j < ts.size
  · rw [List.getElem?_take_of_lt hj, Array.getElem?_toList]
    have hc : j < cur.size := by omega
    simp [putCells, hc, hj]
  · rw [List.getElem?_eq_none (by simp; omega), List.getElem?_eq_none (by simpa using hj)]

theorem sortW_any (ws : List (Int × List Int)) (v : Value) (base : Nat) (w : World) (HO : OwnW w base v ws) (hl : ws.length < 1099511627776) :
    Calls Tryz.prog 54 #[v, .func (.func 55) #[] #[]] w fun e w' => e = .returned (.tuple #[]) ∧ (∃ us, us.Perm ws ∧ us.Pairwise (fun x y => x.1 ≤ y.1) ∧ OwnW w' base v us) ∧ Step (fun k => some k = v.ownBlock) w w' := by
  obtain ⟨zs, h0, h1, h2⟩ := HO.o
  rcases h1.2 with ⟨rfl, hn⟩ | ⟨g, cap, cur, rfl, hb, hg, hc, hm, hs, ht⟩
  · refine (AnyF.slices_SortFunc_none Tryz.sortW none 0 (.func (.func 55) #[] #[]) w).mono fun e w' h => ⟨h.1, ⟨ws, List.Perm.refl _, ?_, h.2 ▸ HO⟩, h.2 ▸ Step.refl _ _⟩
    rw [List.eq_nil_of_length_eq_zero hn]
    exact List.Pairwise.nil
  · have hzl : zs.length = ws.length := by rw [← h0, List.length_map]
    have hk : ∀ x : WP, (wpCells x).length = 2 := fun _ => rfl
    have eg : ∀ args w, (callFunc 55 args).run Tryz.prog w = .ok (.enter 55 args) w := enters_of Tryz.func55 (by kernel_rfl) rfl
    have hd : (zs.map Prod.fst).toArray.size = ws.length := by simp [hzl]
    have hfl : (flatK wpCells 2 (zs.map Prod.fst).toArray).toList = zs.flatMap fun z => wpCells z.1 := by
      rw [flatK_eq wpCells hk, List.flatMap_map]
    have hH : HoldsK wpCells 2 w g 0 (zs.map Prod.fst).toArray := by
      intro j hj
      rw [size_flatK, hd] at hj
      have e1 : (flatK wpCells 2 (zs.map Prod.fst).toArray)[j]? = (zs.flatMap fun z => wpCells z.1)[j]? := by rw [← hfl, Array.getElem?_toList]
      have hj2 : j < (flatK wpCells 2 (zs.map Prod.fst).toArray).size := by rw [size_flatK, hd]; exact hj
      rw [Nat.zero_add]
      refine ⟨?_, by simp [World.frozen?, hg]⟩
      rw [cell_of_row w g j cur _ _ hg, getElem!_pos _ j hj2]
      rw [Array.getElem?_eq_getElem hj2, ← ht, List.getElem?_take, if_pos (by omega), Array.getElem?_toList] at e1
      exact e1.symm
    have hcon := AnyQ.slices_SortFunc Tryz.sortW 2 Tryz.isAgg45 Tryz.sizeOf45 wpCells hk (fun x v hv => by simp [wpCells] at hv; rcases hv with rfl | rfl <;> rfl) wCmp wSWO 55 #[] g 0 cap (zs.map Prod.fst).toArray w eg (fun _ _ _ _ x y => wClosure x y _) hH (Array.getElem?_eq_some_iff.1 hg).1 (by rw [hd]; omega)
    rw [hd] at hcon
    refine hcon.mono fun e w' h => ?_
    obtain ⟨he, d', n, os, hp, hso, rfl⟩ := h
    have hpp : d'.toList.Perm (zs.map Prod.fst) := by
      have h3 := hp.2.2
      have e1 : d'.extract 0 ws.length = d' := by rw [← hd, ← hp.1]; exact Array.extract_size ..
      have e2 : (zs.map Prod.fst).toArray.extract 0 ws.length = (zs.map Prod.fst).toArray := by rw [← hd]; exact Array.extract_size ..
      rw [e1, e2] at h3
      simpa using h3
    obtain ⟨us, hu1, hu2⟩ := perm_over Prod.fst hpp zs rfl
    have hul : us.length = ws.length := by rw [hu2.length_eq, hzl]
    have hd' : d'.size = ws.length := by rw [hp.1, hd]
    have hW : sortWorldK wpCells 2 w g 0 n d' os = grow (putRow id (Sort.ahead w n) g 0 (flatK wpCells 2 d')) os := rfl
    have hstep : Step (fun k => some k = (Value.slice (some ⟨g, 0, none⟩) ws.length cap).ownBlock) w (sortWorldK wpCells 2 w g 0 n d' os) := by
      rw [hW]; exact Step.of_grown (grownBy_mod _)
    refine ⟨he, ⟨us.map Prod.snd, ?_, ?_, ⟨us, rfl, ?_, fun z hz => ?_⟩⟩, hstep⟩
    · rw [← h0]; exact hu2.map _
    · rw [List.pairwise_iff_getElem]
      intro i j hi hj hij
      rw [List.length_map] at hi hj
      have h4 := hso i j (Nat.zero_le _) hij (by omega)
      rw [wLt] at h4
      have hk1 : ∀ z ∈ us, z.1.1 = z.2.1 := fun z hz => (h2 z (hu2.mem_iff.1 hz)).1
      have e1 : ∀ t (h : t < us.length), d'[t]! = us[t].1 := fun t h => by
        rw [getElem!_pos _ t (by omega)]
        have : d'.toList[t]? = (us.map Prod.fst)[t]? := by rw [hu1]
        rw [Array.getElem?_toList, Array.getElem?_eq_getElem (by omega), List.getElem?_map, List.getElem?_eq_getElem h] at this
        simpa using this
      rw [e1 i hi, e1 j hj] at h4
      simp only [List.getElem_map]
      rw [← hk1 _ (List.getElem_mem hi), ← hk1 _ (List.getElem_mem hj)]
      simpa using h4
    · refine ⟨by rw [List.length_map, hul]; exact (flat2_len _ (fun z => hk z.1) us).trans (by rw [hul]), .inr ⟨g, cap, _, ?_, hb, by rw [hW]; exact heap_grow_mod _ hg, by rw [List.length_map, hul]; exact hc, hm, by simp [putCells, hs], ?_⟩⟩
      · rw [List.length_map, hul]
      · have hsz : (flatK wpCells 2 d').size = ws.length * 2 := by rw [size_flatK, hd']
        have h5 := take_putCells_id cur (flatK wpCells 2 d') (by rw [hsz, hs]; exact Nat.mul_le_mul_right _ hc)
        rw [hsz, flatK_eq wpCells hk, ← hu1, List.flatMap_map] at h5
        rw [List.length_map, hul]
        exact h5
    · obtain ⟨a1, a2, a3, a4⟩ := h2 z (hu2.mem_iff.1 hz)
      have hob : (Value.slice (some ⟨g, 0, none⟩) ws.length cap).ownBlock = some g := rfl
      refine ⟨a1, a2, a3.step hstep fun ad ha h0 hF => (a4 ad ha h0).2 hF.symm, a4⟩
end Go.Proofs.YtefhmlgepnlaoaaGreat
