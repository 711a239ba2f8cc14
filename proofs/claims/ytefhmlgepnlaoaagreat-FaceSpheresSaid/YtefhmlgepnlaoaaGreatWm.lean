/- Words: maps from int, as lists of pairs. -/
import Derived.Test.YtefhmlgepnlaoaaGreatWb
set_option linter.unusedVariables false
set_option linter.unusedSimpArgs false
namespace Go.Proofs.YtefhmlgepnlaoaaGreat
open Go.RowKit

/-- A pair's value put. -/
def upd (m : List (Int × Value)) (k : Int) (v : Value) : List (Int × Value) := if (m.lookup k).isSome then m.map (fun p => if p.1 = k then (k, v) else p) else m ++ [(k, v)]
theorem lookup_map_ne {m : List (Int × Value)} {k x : Int} {v : Value} (h : x ≠ k) : (m.map (fun p => if p.1 = k then (k, v) else p)).lookup x = m.lookup x := by
  induction m with
  | nil => rfl
  | cons p m ih =>
    obtain ⟨a, b⟩ := p
    simp only [List.map_cons]
    by_cases hk : a = k
    · subst hk
      have hxa : (x == a) = false := by simp [h]
      rw [if_pos rfl, List.lookup_cons, List.lookup_cons, hxa]
      exact ih
    · rw [if_neg hk, List.lookup_cons, List.lookup_cons, ih]
theorem lookup_map_eq {m : List (Int × Value)} {k : Int} {v : Value} (h : (m.lookup k).isSome) : (m.map (fun p => if p.1 = k then (k, v) else p)).lookup k = some v := by
  induction m with
  | nil => simp at h
  | cons p m ih =>
    obtain ⟨a, b⟩ := p
    simp only [List.map_cons]
    by_cases hk : a = k
    · subst hk
      rw [if_pos rfl, List.lookup_cons, beq_self_eq_true]
    · have hka : (k == a) = false := by simp [Ne.symm hk]
      rw [if_neg hk, List.lookup_cons, hka]
      rw [List.lookup_cons, hka] at h
      exact ih h
theorem lookup_upd (m : List (Int × Value)) (k x : Int) (v : Value) : (upd m k v).lookup x = if x = k then some v else m.lookup x := by
  unfold upd
  by_cases h : (m.lookup k).isSome
  · rw [if_pos h]
    by_cases hx : x = k
    · subst hx; rw [if_pos rfl, lookup_map_eq h]
    · rw [if_neg hx, lookup_map_ne hx]
  · rw [if_neg h, List.lookup_append]
    by_cases hx : x = k
    · subst hx
      rw [if_pos rfl]
      have : m.lookup x = none := by cases hx : m.lookup x with | none => rfl | some y => rw [hx] at h; exact absurd rfl h
      rw [this, List.lookup_cons, beq_self_eq_true]
      rfl
    · have hxk : (x == k) = false := by simp [hx]
      rw [if_neg hx, List.lookup_cons, hxk]
      cases m.lookup x <;> rfl
theorem lookup_none {m : List (Int × Value)} {k : Int} : m.lookup k = none ↔ k ∉ m.map Prod.fst := by
  induction m with
  | nil => simp
  | cons p m ih =>
    obtain ⟨a, b⟩ := p
    rw [List.lookup_cons]
    by_cases hk : k = a
    · subst hk; simp
    · have : (k == a) = false := by simp [hk]
      rw [this]
      simp only [List.map_cons, List.mem_cons, not_or]
      exact ⟨fun h => ⟨hk, ih.1 h⟩, fun h => ih.2 h.2⟩
theorem keys_map (m : List (Int × Value)) (k : Int) (v : Value) : (m.map (fun p => if p.1 = k then (k, v) else p)).map Prod.fst = m.map Prod.fst := by
  rw [List.map_map]
  apply List.map_congr_left
  intro p _
  simp only [Function.comp]
  split
  · rename_i h; exact h.symm
  · rfl
theorem keys_upd (m : List (Int × Value)) (k : Int) (v : Value) : (upd m k v).map Prod.fst = if k ∈ m.map Prod.fst then m.map Prod.fst else m.map Prod.fst ++ [k] := by
  unfold upd
  by_cases h : (m.lookup k).isSome
  · have : k ∈ m.map Prod.fst := Decidable.byContradiction fun hn => by rw [lookup_none.2 hn] at h; cases h
    rw [if_pos h, if_pos this, keys_map]
  · have : k ∉ m.map Prod.fst := lookup_none.1 (by cases hx : m.lookup k with | none => rfl | some y => rw [hx] at h; exact absurd rfl h)
    rw [if_neg h, if_neg this, List.map_append]
    rfl

/-- Block b is a map that holds the pairs m, no key twice. -/
structure MapAt (w : World) (b : Nat) (m : List (Int × Value)) : Prop where
  nd : (m.map Prod.fst).Nodup
  h : ∃ es clock, w.heap[b]? = some (.map es clock) ∧ es.toList.map (fun e => (e.key, e.val)) = m.map (fun p => (Value.int .i64 p.1, p.2)) ∧ (es.toList.map (·.born)).Nodup ∧ ∀ e ∈ es.toList, e.born < clock
theorem MapAt.lt {w : World} {b : Nat} {m : List (Int × Value)} (h : MapAt w b m) : b < w.heap.size := by
  obtain ⟨es, c, hb, _⟩ := h.h
  exact (Array.getElem?_eq_some_iff.1 hb).1
theorem MapAt.of {w w' : World} {b : Nat} {m : List (Int × Value)} (h : MapAt w b m) (hb : w'.heap[b]? = w.heap[b]?) : MapAt w' b m := ⟨h.nd, by rw [hb]; exact h.h⟩
theorem MapAt.step {F : Nat → Prop} {w w' : World} {b : Nat} {m : List (Int × Value)} (h : MapAt w b m) (hs : Step F w w') (hf : ¬ F b) : MapAt w' b m := h.of (hs.block b h.lt hf)
theorem MapAt.below {w w' : World} {b : Nat} {m : List (Int × Value)} (h : MapAt w b m) (hb : Below w.heap.size w w') : MapAt w' b m := h.of (hb.block b h.lt)
theorem MapAt.alloc {w : World} {b : Nat} {m : List (Int × Value)} (h : MapAt w b m) (o : Obj) : MapAt (w.alloc o) b m := h.of (Below.heap_alloc _ _ _ h.lt)
theorem MapAt.drawn {w : World} {b : Nat} {m : List (Int × Value)} (h : MapAt w b m) (n : Nat) : MapAt (w.drewN n) b m := h.of rfl
theorem MapAt.made (w : World) : MapAt (w.alloc (.map #[] 0)) w.heap.size [] := ⟨List.nodup_nil, #[], 0, heap_alloc_new w _, rfl, List.nodup_nil, fun e he => by cases he⟩

/-- Where a key stands. -/
def findIx (m : List (Int × Value)) (k : Int) : Nat → Option (Nat × Value) :=
  match m with
  | [] => fun _ => none
  | p :: ps => fun i => if k == p.1 then some (i, p.2) else findIx ps k (i + 1)
theorem findIx_lookup (m : List (Int × Value)) (k : Int) : ∀ i, (findIx m k i).map Prod.snd = m.lookup k := by
  induction m with
  | nil => intro i; rfl
  | cons p m ih =>
    intro i
    obtain ⟨a, b⟩ := p
    rw [List.lookup_cons]
    unfold findIx
    by_cases h : k == a
    · simp [h]
    · simp only [h, Bool.false_eq_true, if_false]
      exact ih (i + 1)
theorem findIx_some (m : List (Int × Value)) (k : Int) : ∀ i j v, findIx m k i = some (j, v) → i ≤ j ∧ m[j - i]? = some (k, v) := by
  induction m with
  | nil => intro i j v h; cases h
  | cons p m ih =>
    intro i j v h
    obtain ⟨a, b⟩ := p
    unfold findIx at h
    by_cases hk : k == a
    · simp only [hk, if_true, Option.some.injEq, Prod.mk.injEq] at h
      obtain ⟨rfl, rfl⟩ := h
      have := eq_of_beq hk
      subst this
      simp
    · simp only [hk, Bool.false_eq_true, if_false] at h
      obtain ⟨h1, h2⟩ := ih (i + 1) j v h
      refine ⟨by omega, ?_⟩
      rw [show j - i = (j - (i + 1)) + 1 by omega]
      simpa using h2

section
variable {P : Program}
theorem run_findKey (t : TypeId) (ht : P.underlying t = some (.int .i64)) (k : Int) (m : List (Int × Value)) (es : List MapEntry) (h : es.map (fun e => (e.key, e.val)) = m.map (fun p => (Value.int .i64 p.1, p.2))) (w : World) :
    (Instr.findKey t (.int .i64 k) es).run P w = .ok (findIx m k 0) w := by
  have key : ∀ (es : List MapEntry) (m : List (Int × Value)) (i : Nat), es.map (fun e => (e.key, e.val)) = m.map (fun p => (Value.int .i64 p.1, p.2)) → Instr.findNow (.int .i64) (.int .i64 k) es i = some (findIx m k i) := by
    intro es
    induction es with
    | nil =>
      intro m i h
      cases m with
      | nil => rfl
      | cons p m => cases h
    | cons e es ih =>
      intro m i h
      cases m with
      | nil => cases h
      | cons p m =>
        simp only [List.map_cons, List.cons.injEq, Prod.mk.injEq] at h
        obtain ⟨⟨h1, h2⟩, h3⟩ := h
        unfold Instr.findNow findIx
        rw [h1]
        simp only [Instr.sameNow, if_true]
        cases hk : k == p.1 with
        | true => simp [h2]
        | false => simpa using ih m (i + 1) h3
  unfold Instr.findKey
  simp [run_underlying ht, key es m 0 h]
theorem run_checkKey (e : Bool) (t : TypeId) (ht : P.underlying t = some (.int .i64)) (k : Int) (w : World) : (Instr.checkKey e 10000 t (.int .i64 k)).run P w = .ok () w := by
  unfold Instr.checkKey
  simp [run_underlying ht]
theorem run_lookup {w : World} {b : Nat} {m : List (Int × Value)} (hM : MapAt w b m) (t kt et : TypeId) (ht : P.underlying t = some (.map kt et)) (hk : P.underlying kt = some (.int .i64)) (z : Value) (hz : (zeroValue et).run P w = .ok z w) (k : Int) (ok : Bool) :
    (Instr.lookup t (.map (some b)) (.int .i64 k) ok).run P w = .ok (if ok then .tuple #[(m.lookup k).getD z, .bool (m.lookup k).isSome] else (m.lookup k).getD z) w := by
  obtain ⟨es, c, hb, he, hn, hc⟩ := hM.h
  have hfk := run_findKey (P := P) kt hk k m es.toList he w
  have hl := findIx_lookup m k 0
  unfold Instr.lookup
  have hgo : (getObj b).run P w = .ok (.map es c) w := by simp [getObj, Sem.run, hb]
  simp only [Sem.run_bind, run_underlying ht, Result.andThen_ok, hgo, run_checkKey _ kt hk, hfk, Sem.run_pure]
  rw [← hl]
  cases findIx m k 0 with
  | none => simp [hz]
  | some p => simp
theorem getElem?_of_maps {es : List MapEntry} {m : List (Int × Value)} (h : es.map (fun e => (e.key, e.val)) = m.map (fun p => (Value.int .i64 p.1, p.2))) {i : Nat} {k : Int} {v : Value} (hi : m[i]? = some (k, v)) : ∃ e, es[i]? = some e ∧ e.key = .int .i64 k ∧ e.val = v := by
  have h1 : (es.map (fun e => (e.key, e.val)))[i]? = some (.int .i64 k, v) := by rw [h, List.getElem?_map, hi]; rfl
  rw [List.getElem?_map] at h1
  obtain ⟨e, he, h2⟩ := Option.map_eq_some_iff.1 h1
  simp only [Prod.mk.injEq] at h2
  exact ⟨e, he, h2.1, h2.2⟩
theorem map_modify_val {es : List MapEntry} {m : List (Int × Value)} (h : es.map (fun e => (e.key, e.val)) = m.map (fun p => (Value.int .i64 p.1, p.2))) (hnd : (m.map Prod.fst).Nodup) {i : Nat} {k : Int} {v0 v : Value} (hi : m[i]? = some (k, v0)) :
    (es.modify i fun e => { e with key := .int .i64 k, val := v }).map (fun e => (e.key, e.val)) = (m.map (fun p => if p.1 = k then (k, v) else p)).map (fun p => (Value.int .i64 p.1, p.2)) := by
  apply List.ext_getElem?
  intro j
  have hj : (es.map (fun e => (e.key, e.val)))[j]? = (m.map (fun p => (Value.int .i64 p.1, p.2)))[j]? := by rw [h]
  simp only [List.getElem?_map] at hj
  simp only [List.getElem?_map, List.getElem?_modify]
  by_cases hij : i = j
  · subst hij
    obtain ⟨e, he, _⟩ := getElem?_of_maps h hi
    simp [he, hi]
  · simp only [hij, if_false, id_eq, Option.map_map]
    cases hm : m[j]? with
    | none => rw [hm] at hj; simpa using hj
    | some p =>
      rw [hm] at hj
      have hne : p.1 ≠ k := by
        intro e
        have hi' := (List.getElem?_eq_some_iff.1 hi)
        have hm' := (List.getElem?_eq_some_iff.1 hm)
        obtain ⟨a1, a2⟩ := hi'
        obtain ⟨b1, b2⟩ := hm'
        have hpw := List.pairwise_iff_getElem.1 hnd
        rcases Nat.lt_or_gt_of_ne hij with h1 | h1
        · have := hpw i j (by simpa using a1) (by simpa using b1) h1
          simp [a2, b2, e] at this
        · have := hpw j i (by simpa using b1) (by simpa using a1) h1
          simp [a2, b2, e] at this
      simp only [Function.comp, Option.map_some, if_neg hne]
      simpa using hj
/-- m[k] = v -/
theorem run_update {w : World} {b : Nat} {m : List (Int × Value)} (hM : MapAt w b m) (t kt et : TypeId) (ht : P.underlying t = some (.map kt et)) (hk : P.underlying kt = some (.int .i64)) (k : Int) (v : Value) :
    ∃ w', (Instr.mapUpdate t (.map (some b)) (.int .i64 k) v).run P w = .ok () w' ∧ MapAt w' b (upd m k v) ∧ Step (fun j => j = b) w w' := by
  obtain ⟨es, c, hb, he, hn, hc⟩ := hM.h
  have hfk := run_findKey (P := P) kt hk k m es.toList he w
  have hl := findIx_lookup m k 0
  have hgo : (getObj b).run P w = .ok (.map es c) w := by simp [getObj, Sem.run, hb]
  have hset : ∀ o, (setObj b o).run P w = .ok () { w with heap := w.heap.setIfInBounds b o } := fun o => by simp [setObj, Sem.run, hb]
  have hnd : ((upd m k v).map Prod.fst).Nodup := by
    rw [keys_upd]
    split
    · exact hM.nd
    · rename_i h; exact List.nodup_append.2 ⟨hM.nd, (by simp), fun x hx y hy => by simp at hy; subst hy; intro e; exact h (e ▸ hx)⟩
  have hbs := (Array.getElem?_eq_some_iff.1 hb).1
  have hstep : ∀ o, Step (fun j => j = b) w { w with heap := w.heap.setIfInBounds b o } := fun o =>
    ⟨rfl, rfl, rfl, by simp, fun j hj hne => by simp [Array.getElem?_setIfInBounds, Ne.symm hne]⟩
  cases hf : findIx m k 0 with
  | none =>
    rw [hf] at hfk hl
    simp only [Option.map_none] at hl
    refine ⟨_, ?_, ⟨hnd, es.push { key := .int .i64 k, val := v, born := c }, c + 1, ?_, ?_, ?_, ?_⟩, hstep (.map (es.push { key := .int .i64 k, val := v, born := c }) (c + 1))⟩
    · unfold Instr.mapUpdate
      simp only [Sem.run_bind, run_underlying ht, Result.andThen_ok, hgo, run_checkKey _ kt hk, hfk, hset]
    · simp [hbs]
    · have : upd m k v = m ++ [(k, v)] := by unfold upd; rw [if_neg (by rw [← hl]; simp)]
      rw [this, Array.toList_push, List.map_append, List.map_append, he]
      rfl
    · rw [Array.toList_push, List.map_append]
      refine List.nodup_append.2 ⟨hn, (by simp), fun x hx y hy => ?_⟩
      simp at hy
      obtain ⟨e, he1, he2⟩ := List.mem_map.1 hx
      have := hc e he1
      omega
    · intro e hx
      rw [Array.toList_push] at hx
      rcases List.mem_append.1 hx with hx | hx
      · have := hc e hx; omega
      · simp at hx; subst hx; simp
  | some p =>
    obtain ⟨i, v0⟩ := p
    rw [hf] at hfk hl
    simp only [Option.map_some] at hl
    obtain ⟨_, hi⟩ := findIx_some m k 0 i v0 hf
    rw [Nat.sub_zero] at hi
    obtain ⟨e0, he0, hk0, _⟩ := getElem?_of_maps he hi
    have hkey : (((es[i]?).map (·.key)).getD (.int .i64 k)) = .int .i64 k := by
      rw [← Array.getElem?_toList, he0]; simp [hk0]
    have hstay : (Instr.keyThatStays (.int .i64 k) (.int .i64 k)).run P w = .ok (.int .i64 k) w := by
      unfold Instr.keyThatStays
      simp [Instr.sameBits]
    refine ⟨_, ?_, ⟨hnd, es.modify i (fun e => { e with key := .int .i64 k, val := v }), c, ?_, ?_, ?_, ?_⟩, hstep (.map (es.modify i fun e => { e with key := .int .i64 k, val := v }) c)⟩
    · unfold Instr.mapUpdate
      simp only [Sem.run_bind, run_underlying ht, Result.andThen_ok, hgo, run_checkKey _ kt hk, hfk, hkey, hstay, hset]
    · simp [hbs]
    · have : upd m k v = m.map (fun p => if p.1 = k then (k, v) else p) := by unfold upd; rw [if_pos (by rw [← hl]; rfl)]
      rw [this, Array.toList_modify]
      exact map_modify_val he hM.nd hi
    · have : (es.toList.modify i fun e => { e with key := .int .i64 k, val := v }).map (·.born) = es.toList.map (·.born) := by
        apply List.ext_getElem?
        intro j
        simp only [List.getElem?_map, List.getElem?_modify]
        cases es.toList[j]? with
        | none => rfl
        | some e => by_cases hij : i = j <;> simp [hij]
      rw [Array.toList_modify, this]
      exact hn
    · intro e hx
      rw [Array.toList_modify] at hx
      obtain ⟨j, hj⟩ := List.mem_iff_getElem?.1 hx
      rw [List.getElem?_modify] at hj
      cases hq : es.toList[j]? with
      | none => rw [hq] at hj; cases hj
      | some e1 =>
        rw [hq] at hj
        have h1 := hc e1 (List.mem_of_getElem? hq)
        by_cases hij : i = j
        · simp [hij] at hj; subst hj; exact h1
        · simp [hij] at hj; subst hj; exact h1
end

section
variable {P : Program} {ops : Array Oper} {rest : List Oper} {o : Oper} {a : Act} {Q : Exit → Act → World → Prop} {w : World}
theorem arm_lookup {b : Nat} {m : List (Int × Value)} (hM : MapAt w b m) (z : Value) {t kt et : TypeId} (ht : P.underlying t = some (.map kt et)) (hk : P.underlying kt = some (.int .i64)) (hz : (zeroValue et).run P w = .ok z w) (hg : o.guard = none)
    {mo xo : Operand} (hop : o.op = .lookup t mo xo false) (hm : a.eval mo = .map (some b)) {k : Int} (hx : a.eval xo = .int .i64 k) (h : wpList P ops Q rest (a.put o.dst ((m.lookup k).getD z)) w) : wpList P ops Q (o :: rest) a w := by
  refine wpList_plain hg fun K hK => ?_
  have hr := run_lookup (P := P) hM t kt et ht hk z hz k false
  unfold Oper.wp
  simp [execOp, hop, hm, hx, hr, Result.andThen]
  exact hK _ _ h
theorem arm_lookup_ok {b : Nat} {m : List (Int × Value)} (hM : MapAt w b m) (z : Value) {t kt et : TypeId} (ht : P.underlying t = some (.map kt et)) (hk : P.underlying kt = some (.int .i64)) (hz : (zeroValue et).run P w = .ok z w) (hg : o.guard = none)
    {mo xo : Operand} (hop : o.op = .lookup t mo xo true) (hm : a.eval mo = .map (some b)) {k : Int} (hx : a.eval xo = .int .i64 k) (h : wpList P ops Q rest (a.put o.dst (.tuple #[(m.lookup k).getD z, .bool (m.lookup k).isSome])) w) : wpList P ops Q (o :: rest) a w := by
  refine wpList_plain hg fun K hK => ?_
  have hr := run_lookup (P := P) hM t kt et ht hk z hz k true
  unfold Oper.wp
  simp [execOp, hop, hm, hx, hr, Result.andThen]
  exact hK _ _ h
theorem arm_update {b : Nat} {m : List (Int × Value)} (hM : MapAt w b m) {t kt et : TypeId} (ht : P.underlying t = some (.map kt et)) (hk : P.underlying kt = some (.int .i64)) (hg : o.guard = none)
    {mo xo vo : Operand} (hop : o.op = .mapUpdate t mo xo vo) (hm : a.eval mo = .map (some b)) {k : Int} (hx : a.eval xo = .int .i64 k) {v : Value} (hv : a.eval vo = v)
    (h : ∀ w', MapAt w' b (upd m k v) → Step (fun j => j = b) w w' → wpList P ops Q rest (a.put o.dst undef) w') : wpList P ops Q (o :: rest) a w := by
  refine wpList_plain hg fun K hK => ?_
  obtain ⟨w', hr, h1, h2⟩ := run_update (P := P) hM t kt et ht hk k v
  unfold Oper.wp
  simp [execOp, hop, hm, hx, hv, hr, Result.andThen]
  exact hK _ _ (h w' h1 h2)
end
end Go.Proofs.YtefhmlgepnlaoaaGreat
