/- Words: inside a fence (rounds of a range over a function): maps; rows of walks of faces. -/
import Derived.Test.YtefhmlgepnlaoaaGreatWm
import Derived.OwnWalkIn
set_option linter.unusedVariables false
set_option linter.unusedSimpArgs false
namespace Go.Proofs.YtefhmlgepnlaoaaGreat
open Go.RowKit

def delK (m : List (Int × Value)) (k : Int) : List (Int × Value) := m.filter fun p => p.1 != k
theorem lookup_delK (m : List (Int × Value)) (k x : Int) : (delK m k).lookup x = if x = k then none else m.lookup x := by
  unfold delK
  induction m with
  | nil => simp
  | cons p m ih =>
    obtain ⟨a, b⟩ := p
    rw [List.filter_cons]
    by_cases ha : a = k
    · subst ha
      simp only [bne_self_eq_false, Bool.false_eq_true, if_false]
      rw [ih, List.lookup_cons]
      by_cases hx : x = a
      · simp [hx]
      · have : (x == a) = false := by simp [hx]
        rw [if_neg hx, if_neg hx, this]
    · have : (a != k) = true := by simp [ha]
      simp only [this, if_true]
      rw [List.lookup_cons, List.lookup_cons, ih]
      by_cases hx : x = a
      · subst hx
        simp [ha]
      · have : (x == a) = false := by simp [hx]
        rw [this]
theorem eraseIdx_filter {m : List (Int × Value)} (hnd : (m.map Prod.fst).Nodup) {i : Nat} {k : Int} {v : Value} (hi : m[i]? = some (k, v)) : m.eraseIdx i = delK m k := by
  induction m generalizing i with
  | nil => simp at hi
  | cons p m ih =>
    obtain ⟨a, b⟩ := p
    simp only [List.map_cons, List.nodup_cons] at hnd
    cases i with
    | zero =>
      simp only [List.getElem?_cons_zero, Option.some.injEq, Prod.mk.injEq] at hi
      obtain ⟨rfl, rfl⟩ := hi
      unfold delK
      rw [List.filter_cons]
      simp only [bne_self_eq_false, Bool.false_eq_true, if_false, List.eraseIdx_cons_zero]
      symm
      rw [List.filter_eq_self]
      intro q hq
      have : q.1 ≠ a := fun e => hnd.1 (e ▸ List.mem_map_of_mem hq)
      simpa using this
    | succ i =>
      simp only [List.getElem?_cons_succ] at hi
      have hak : a ≠ k := fun e => hnd.1 (e ▸ List.mem_map_of_mem (f := Prod.fst) (List.mem_of_getElem? hi))
      have : (a != k) = true := by simp [hak]
      unfold delK at ih ⊢
      rw [List.filter_cons]
      simp only [this, if_true, List.eraseIdx_cons_succ]
      rw [ih hnd.2 hi]

theorem eraseIdx_map' {α β : Type} (f : α → β) : ∀ (l : List α) (i : Nat), (l.map f).eraseIdx i = (l.eraseIdx i).map f := by
  intro l
  induction l with
  | nil => intro i; simp
  | cons x l ih =>
    intro i
    cases i with
    | zero => simp
    | succ i => simp [ih i]

section
variable {P : Program}
theorem run_delete {w : World} {b : Nat} {m : List (Int × Value)} (hM : MapAt w b m) (t kt et : TypeId) (ht : P.underlying t = some (.map kt et)) (hk : P.underlying kt = some (.int .i64)) (k : Int) (ty : TypeId) :
    ∃ w', (Builtin.delete_ #[t, kt] ty #[.map (some b), .int .i64 k]).run P w = .ok (.tuple #[]) w' ∧ MapAt w' b (delK m k) ∧ Step (fun j => j = b) w w' := by
  obtain ⟨es, c, hb, he, hn, hc⟩ := hM.h
  have hfk := run_findKey (P := P) kt hk k m es.toList he w
  have hl := findIx_lookup m k 0
  have hgo : (getObj b).run P w = .ok (.map es c) w := by simp [getObj, Sem.run, hb]
  have hset : ∀ o, (setObj b o).run P w = .ok () { w with heap := w.heap.setIfInBounds b o } := fun o => by simp [setObj, Sem.run, hb]
  have hnd : ((delK m k).map Prod.fst).Nodup := hM.nd.sublist ((List.filter_sublist).map _)
  have hbs := (Array.getElem?_eq_some_iff.1 hb).1
  have hstep : ∀ o, Step (fun j => j = b) w { w with heap := w.heap.setIfInBounds b o } := fun o =>
    ⟨rfl, rfl, rfl, by simp, fun j hj hne => by simp [Array.getElem?_setIfInBounds, Ne.symm hne]⟩
  cases hf : findIx m k 0 with
  | none =>
    rw [hf] at hfk hl
    simp only [Option.map_none] at hl
    have hd : delK m k = m := by
      unfold delK
      rw [List.filter_eq_self]
      intro q hq
      have : q.1 ≠ k := fun e => lookup_none.1 hl.symm (e ▸ List.mem_map_of_mem hq)
      simpa using this
    refine ⟨_, ?_, ⟨hnd, es, c, ?_, ?_, hn, hc⟩, hstep (.map es c)⟩
    · unfold Builtin.delete_
      simp [run_underlying ht, hgo, run_checkKey _ kt hk, hfk, hset]
    · simp [hbs]
    · rw [hd]; exact he
  | some p =>
    obtain ⟨i, v0⟩ := p
    rw [hf] at hfk hl
    obtain ⟨_, hi⟩ := findIx_some m k 0 i v0 hf
    rw [Nat.sub_zero] at hi
    have hes : i < es.size := by
      obtain ⟨e, he0, _⟩ := getElem?_of_maps he hi
      simpa using (List.getElem?_eq_some_iff.1 he0).1
    have htl : (es.eraseIdxIfInBounds i).toList = es.toList.eraseIdx i := by
      unfold Array.eraseIdxIfInBounds
      rw [dif_pos hes]
      simp
    refine ⟨_, ?_, ⟨hnd, es.eraseIdxIfInBounds i, c, ?_, ?_, ?_, ?_⟩, hstep (.map (es.eraseIdxIfInBounds i) c)⟩
    · unfold Builtin.delete_
      simp [run_underlying ht, hgo, run_checkKey _ kt hk, hfk, hset]
    · simp [hbs]
    · rw [htl, ← eraseIdx_filter hM.nd hi, ← eraseIdx_map', he, eraseIdx_map']
    · rw [htl, ← eraseIdx_map']
      exact hn.sublist (List.eraseIdx_sublist _ _)
    · intro e hx
      rw [htl] at hx
      exact hc e (List.mem_of_mem_eraseIdx hx)
end

section
variable {P : Program} {F : Fence} {n : Nat} {ops : Array Oper} {rest : List Oper} {o : Oper} {a : Act} {Q : Exit → Act → World → Prop} {w : World}
theorem armIn_value (hF : ∀ f, F.fn f) (hg : o.guard = none) (hd : ∀ c, o.op ≠ .defer c) {v : Value} {w' : World} (hr : (execOp a.eval o).run P w = .ok (.value v) w') (hk : wpListIn F n P ops Q rest (a.put o.dst v) w') : wpListIn F n P ops Q (o :: rest) a w := by
  refine wpListIn_plain hg fun K hK => ?_
  unfold Oper.wpIn
  refine ⟨fun f _ => hF f, ?_⟩
  rw [Oper.semAt_plain F _ _ hd, hr]
  exact hK _ _ hk
theorem armIn_skip (hF : ∀ f, F.fn f) (hg : o.guard = none) (hd : ∀ c, o.op ≠ .defer c) {w' : World} (hr : (execOp a.eval o).run P w = .ok .skip w') (hk : wpListIn F n P ops Q rest (a.put o.dst undef) w') : wpListIn F n P ops Q (o :: rest) a w := by
  refine wpListIn_plain hg fun K hK => ?_
  unfold Oper.wpIn
  refine ⟨fun f _ => hF f, ?_⟩
  rw [Oper.semAt_plain F _ _ hd, hr]
  exact hK _ _ hk
theorem armIn_update (hF : ∀ f, F.fn f) {b : Nat} {m : List (Int × Value)} (hM : MapAt w b m) {t kt et : TypeId} (ht : P.underlying t = some (.map kt et)) (hk : P.underlying kt = some (.int .i64)) (hg : o.guard = none)
    {mo xo vo : Operand} (hop : o.op = .mapUpdate t mo xo vo) (hm : a.eval mo = .map (some b)) {k : Int} (hx : a.eval xo = .int .i64 k) {v : Value} (hv : a.eval vo = v)
    (h : ∀ w', MapAt w' b (upd m k v) → Step (fun j => j = b) w w' → wpListIn F n P ops Q rest (a.put o.dst undef) w') : wpListIn F n P ops Q (o :: rest) a w := by
  obtain ⟨w', hr, h1, h2⟩ := run_update (P := P) hM t kt et ht hk k v
  refine armIn_skip hF hg (by rw [hop]; intro c hc; cases hc) (w' := w') ?_ (h w' h1 h2)
  simp [execOp, hop, hm, hx, hv, hr, Result.andThen]
theorem armIn_lookup (hF : ∀ f, F.fn f) {b : Nat} {m : List (Int × Value)} (hM : MapAt w b m) (z : Value) {t kt et : TypeId} (ht : P.underlying t = some (.map kt et)) (hk : P.underlying kt = some (.int .i64)) (hz : (zeroValue et).run P w = .ok z w) (hg : o.guard = none)
    {mo xo : Operand} (hop : o.op = .lookup t mo xo false) (hm : a.eval mo = .map (some b)) {k : Int} (hx : a.eval xo = .int .i64 k) (h : wpListIn F n P ops Q rest (a.put o.dst ((m.lookup k).getD z)) w) : wpListIn F n P ops Q (o :: rest) a w := by
  have hr := run_lookup (P := P) hM t kt et ht hk z hz k false
  refine armIn_value hF hg (by rw [hop]; intro c hc; cases hc) (w' := w) (v := (m.lookup k).getD z) ?_ h
  simp [execOp, hop, hm, hx, hr, Result.andThen]
theorem armIn_delete (hF : ∀ f, F.fn f) {b : Nat} {m : List (Int × Value)} (hM : MapAt w b m) {t kt et : TypeId} (ht : P.underlying t = some (.map kt et)) (hk : P.underlying kt = some (.int .i64)) (hg : o.guard = none)
    {mo xo : Operand} (hop : o.op = .call { callee := .builtin .delete, args := #[mo, xo], argTypes := #[t, kt] }) (hm : a.eval mo = .map (some b)) {k : Int} (hx : a.eval xo = .int .i64 k)
    (h : ∀ w', MapAt w' b (delK m k) → Step (fun j => j = b) w w' → wpListIn F n P ops Q rest (a.put o.dst (.tuple #[])) w') : wpListIn F n P ops Q (o :: rest) a w := by
  obtain ⟨w', hr, h1, h2⟩ := run_delete (P := P) hM t kt et ht hk k o.type
  refine armIn_value hF hg (by rw [hop]; intro c hc; cases hc) (w' := w') (v := .tuple #[]) ?_ (h w' h1 h2)
  simp [execOp, hop, resolve, invoke, builtin, hm, hx, hr, Result.andThen]
end

/-! Rows of walks of faces: two cells each, a key and a list. -/
theorem info_walk : (Tryz.prog.info? 45).map (fun i => (i.zero, i.size, i.bytes)) = some (some (.agg #[.int .i64 0, .slice none 0 0]), 2, 32) := by kernel_rfl
/-- A walk as it lies: its key, its list's slice. -/
abbrev WP := Int × Option Addr × Nat × Nat
def wpCells : WP → List Value := fun q => [.int .i64 q.1, .slice q.2.1 q.2.2.1 q.2.2.2]
/-- What a laid walk says: z.1 is laid, z.2 is said. -/
def WOk (w : World) (base : Nat) (v : Value) (z : WP × (Int × List Int)) : Prop :=
  z.1.1 = z.2.1 ∧ z.1.2.2.1 ≤ z.1.2.2.2 ∧ RI w z.1.2.1 z.1.2.2.1 z.2.2 ∧ ∀ ad, z.1.2.1 = some ad → 0 < z.1.2.2.1 → base ≤ ad.block ∧ v.ownBlock ≠ some ad.block
/-- A row of walks of the call's own. -/
structure OwnW (w : World) (base : Nat) (v : Value) (ws : List (Int × List Int)) : Prop where
  o : ∃ zs : List (WP × (Int × List Int)), zs.map Prod.snd = ws ∧ w.ownsRow base 45 2 v ws.length (zs.flatMap fun z => wpCells z.1) ∧ ∀ z ∈ zs, WOk w base v z
theorem OwnW.nil (w : World) (base : Nat) : OwnW w base (.slice none 0 0) [] := ⟨[], rfl, World.ownsRow_nil w base _ _, fun z hz => by cases hz⟩
theorem OwnW.step {F : Nat → Prop} {w w' : World} {base : Nat} {v : Value} {ws : List (Int × List Int)} (h : OwnW w base v ws) (hs : Step F w w') (hf : ∀ k cs e fr, base ≤ k → w.heap[k]? = some (.cells cs e fr) → ¬ F k) : OwnW w' base v ws := by
  obtain ⟨zs, h0, h1, h2⟩ := h.o
  refine ⟨zs, h0, ⟨h1.1, ?_⟩, fun z hz => ?_⟩
  · rcases h1.2 with h3 | ⟨g, cap, cur, rfl, hb, hg, hr⟩
    · exact .inl h3
    · exact .inr ⟨g, cap, cur, rfl, hb, (hs.block g (Array.getElem?_eq_some_iff.1 hg).1 (hf g _ _ _ hb hg)).trans hg, hr⟩
  · obtain ⟨a1, a2, a3, a4⟩ := h2 z hz
    refine ⟨a1, a2, a3.step hs fun ad ha h0 => ?_, a4⟩
    obtain ⟨b, off, e, hc⟩ := a3.at h0
    rw [ha] at e
    cases e
    have h5 := hc 0 h0
    unfold World.cell? at h5
    split at h5
    · rename_i cs e fr heq
      exact hf b _ _ _ (a4 _ ha h0).1 heq
    · cases h5
theorem OwnW.low {F : Nat → Prop} {w w' : World} {base : Nat} {v : Value} {ws : List (Int × List Int)} (h : OwnW w base v ws) (hs : Step F w w') (hf : ∀ k, base ≤ k → k < w.heap.size → ¬ F k) : OwnW w' base v ws :=
  h.step hs fun k _ _ _ hb hk => hf k hb (Array.getElem?_eq_some_iff.1 hk).1
theorem OwnW.below {w w' : World} {base : Nat} {v : Value} {ws : List (Int × List Int)} (h : OwnW w base v ws) (hb : Below w.heap.size w w') : OwnW w' base v ws :=
  h.low (Step.of_below hb) fun k _ hk hF => by omega
theorem OwnW.lt {w : World} {base : Nat} {v : Value} {ws : List (Int × List Int)} (h : OwnW w base v ws) : ∀ k, v.ownBlock = some k → base ≤ k ∧ k < w.heap.size := by
  obtain ⟨zs, h0, h1, h2⟩ := h.o
  exact h1.lt
theorem OwnW.shape {w : World} {base : Nat} {v : Value} {ws : List (Int × List Int)} (h : OwnW w base v ws) : ∃ A c, v = .slice A ws.length c ∧ ws.length ≤ c := by
  obtain ⟨zs, h0, h1, h2⟩ := h.o
  rcases h1.2 with ⟨rfl, hn⟩ | ⟨g, cap, cur, rfl, hb, hg, hc, _⟩
  · exact ⟨none, 0, by rw [hn], by omega⟩
  · exact ⟨_, cap, rfl, hc⟩

/-- append(out, w) of a walk: what the operation does. -/
theorem app_walk_run {a : Act} {o : Oper} {W : World} (base : Nat) (ws : List (Int × List Int)) (v : Value) (HO : OwnW W base v ws) (q : WP) (u : Int × List Int) (hu : WOk W base v (q, u)) {s x : Operand}
    (ho : o.op = .call { callee := .builtin .append, args := #[s, x], argTypes := #[37, 37] }) (hs : a.eval s = v) (hx : a.eval x = .slice (some ⟨W.heap.size, 0, none⟩) 1 1)
    (hbase : base ≤ W.heap.size) (hl : ws.length < 1099511627776) :
    ∃ v1 w1, (execOp a.eval o).run Tryz.prog (W.alloc (.cells #[.int .i64 q.1, .slice q.2.1 q.2.2.1 q.2.2.2] 45)) = .ok (.value v1) w1 ∧ OwnW w1 base v1 (ws ++ [u]) ∧ Step (fun k => some k = v.ownBlock) W w1 := by
  obtain ⟨zs, h0, h1, h2⟩ := HO.o
  obtain ⟨i0, hi, hzz⟩ := Option.map_eq_some_iff.1 info_walk
  simp only [Prod.mk.injEq] at hzz
  obtain ⟨hz0, hz1, hz2⟩ := hzz
  obtain ⟨v1, w1, hr, hown, hg, _, hat⟩ := run_append_own_at (P := Tryz.prog) (W.alloc (.cells #[.int .i64 q.1, .slice q.2.1 q.2.2.1 q.2.2.2] 45)) base 37 o.type 45 i0 _ 2 32 Tryz.underlying37 hi hz0 hz1 hz2 rfl (by decide) v ws.length _ (h1.alloc _) ⟨W.heap.size, 0, none⟩ 1 1 (wpCells q) rfl
    (World.news_of_block (cs := #[.int .i64 q.1, .slice q.2.1 q.2.2.1 q.2.2.2]) (t := 45) (fr := (0, 0)) (heap_alloc_new W _)) (by intro u hu; simp [wpCells] at hu; rcases hu with rfl | rfl <;> rfl) (by simp only [maxLen]; omega) (by omega) (by simp; omega)
  have hstep : Step (fun k => some k = v.ownBlock) W w1 := Step.of_grown (World.grownBy.trans (World.grownBy_alloc W (.cells #[.int .i64 q.1, .slice q.2.1 q.2.2.1 q.2.2.2] 45) v.ownBlock) hg)
  refine ⟨v1, w1, ?_, ⟨zs ++ [(q, u)], by rw [List.map_append, h0]; rfl, ?_, fun z hz => ?_⟩, hstep⟩
  · simp [execOp, ho, resolve, invoke, builtin, hs, hx, hr, Result.andThen]
  · rw [List.length_append, List.flatMap_append]
    simpa using hown
  · have hz' : WOk W base v z := by
      rcases List.mem_append.1 hz with hz | hz
      · exact h2 z hz
      · simp at hz; subst hz; exact hu
    obtain ⟨a1, a2, a3, a4⟩ := hz'
    refine ⟨a1, a2, a3.step hstep fun ad ha h0 hF => (a4 ad ha h0).2 hF.symm, fun ad ha h0 => ⟨(a4 ad ha h0).1, fun e => ?_⟩⟩
    rcases hat with hat | hat
    · exact (a4 ad ha h0).2 (hat ▸ e)
    · rw [hat] at e
      have := a3.blk ha h0
      simp at e
      omega
end Go.Proofs.YtefhmlgepnlaoaaGreat
