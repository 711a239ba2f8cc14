/- Walks: face.Walks. -/
import Derived.Test.YtefhmlgepnlaoaaGreatFd
import Derived.Maps.OwnIn
set_option linter.unusedVariables false
set_option linter.unusedSimpArgs false
namespace Go.Proofs.YtefhmlgepnlaoaaGreat
open Go.RowKit Go.Shelf
attribute [local go_sem] Oper.semAt_some

/-- face.Walks' answer, of a rota whose turns are tn, laid out by at_. -/
def WalksPost (g : Gr) (p : Pt) (tn : List (List Int)) (cyc : Int → List Int) (w : World) (e : Ending) (w' : World) : Prop :=
  (∃ u, e = .returned (.tuple #[u, .int .i64 (g.rotaErr p tn)]) ∧ (if g.rotaErr p tn = 0 then ∃ us, us.Perm (walksF cyc (tn.map firstR) p) ∧ us.Pairwise (fun x y => x.1 ≤ y.1) ∧ OwnW w' w.heap.size u us else u = .slice none 0 0)) ∧ Below w.heap.size w w'

section
variable {ops : Array Oper} {rest : List Oper} {o : Oper} {a : Act} {Q : Exit → Act → World → Prop}
theorem step_app_walk {K : Act → World → Prop} {E : Prop} {W : World} (base : Nat) (ws : List (Int × List Int)) (v : Value) (HO : OwnW W base v ws) (q : WP) (u : Int × List Int) (hu : WOk W base v (q, u)) {s x : Operand} (hgd : o.guard = none)
    (ho : o.op = .call { callee := .builtin .append, args := #[s, x], argTypes := #[37, 37] }) (hs : a.eval s = v) (hx : a.eval x = .slice (some ⟨W.heap.size, 0, none⟩) 1 1)
    (hbase : base ≤ W.heap.size) (hl : ws.length < 1099511627776)
    (h : ∀ v1 w1, OwnW w1 base v1 (ws ++ [u]) → Step (fun k => some k = v.ownBlock) W w1 → K (a.put o.dst v1) w1) :
    if Region.wanted o (yielded ops a.tmps) = true then Oper.wp Tryz.prog o a (W.alloc (.cells #[.int .i64 q.1, .slice q.2.1 q.2.2.1 q.2.2.2] 45)) K Q else E := by
  rw [if_pos (by simp [Region.wanted, hgd])]
  obtain ⟨v1, w1, hr, h1, h2⟩ := app_walk_run base ws v HO q u hu ho hs hx hbase hl
  unfold Oper.wp
  rw [hr]
  exact h v1 w1 h1 h2
end
theorem rotaErr_part {g : Gr} {p : Pt} {tn : List (List Int)} (h0 : g.rotaErr p tn = 0) : g.rightPart p = 0 ∧ (tn.length : Int) = g.N ∧ g.rowsOk p 0 tn = true := by
  unfold Gr.rotaErr at h0
  split at h0
  · contradiction
  · split at h0
    · cases h0
    · split at h0
      · rename_i a b c
        exact ⟨Decidable.byContradiction a, Decidable.byContradiction b, c⟩
      · cases h0
theorem verts_range {g : Gr} {p : Pt} {tn : List (List Int)} (h0 : g.rotaErr p tn = 0) : ∀ x ∈ p.V, 0 ≤ x ∧ x < 1048576 := by
  obtain ⟨h1, h2, _⟩ := Gr.rightPart_ok (rotaErr_part h0).1
  have := (Gr.right_ok h1)
  intro x hx
  have := (risesF_sound _ _ _ h2).2 x hx
  omega
theorem edges_range {g : Gr} {p : Pt} {tn : List (List Int)} (h0 : g.rotaErr p tn = 0) : ∀ x ∈ p.E, 0 ≤ x ∧ x < 1048576 := by
  obtain ⟨h1, _, h2, _⟩ := Gr.rightPart_ok (rotaErr_part h0).1
  have := (Gr.right_ok h1)
  intro x hx
  have := (risesF_sound _ _ _ h2).2 x hx
  omega
theorem verts_len {g : Gr} {p : Pt} {tn : List (List Int)} (h0 : g.rotaErr p tn = 0) : p.V.length ≤ 1024 ∧ p.E.length ≤ 1024 := by
  obtain ⟨h1, h2, h3, _⟩ := Gr.rightPart_ok (rotaErr_part h0).1
  have := (Gr.right_ok h1)
  have := risesF_len _ _ _ h2 (by omega)
  have := risesF_len _ _ _ h3 (by omega)
  omega
theorem atL_len {tn : List (List Int)} (h : ∀ l ∈ tn, l.length < 1099511627776) (v : Int) : (atL tn v).length ≤ 17592186044416 := by
  unfold atL
  split
  · have := h _ (gl_mem (xss := tn) (i := v.toNat) (by omega))
    omega
  · simp
def retPost (n : Nat) (P : Program) (fn : Func) (R : Ending → World → Prop) : Exit → Act → World → Prop
  | .normal, a, w | .ret, a, w => LeavesInM Fence.wide n P fn a.tmps R a.defers .returning w
  | _, _, _ => False
/-- A function's contract, where its body holds a range over a function, by a plain walk. -/
theorem calls_of_wp_marks {P : Program} (n : Nat) {f : FuncId} {fn : Func} {c : Code} {args : Array Value} {w : World} {R : Ending → World → Prop} (hf : P.funcs[f]? = some fn) (hb : fn.body = some c)
    (h : c.wp P (retPost n P fn R) { tmps := args ++ Array.replicate (fn.ntmps - args.size) undef, defers := [] } w) : Calls P f args w R :=
  (callsIn_wide (n := n)).1 (callsIn_of_wp_marks hf hb trivial (wpIn_wide.2 (wp_mono h fun e a w q => by
    cases e with
    | normal => exact q
    | ret => exact q
    | _ => exact q.elim)) rfl)
theorem OwnW.shape' {w : World} {base : Nat} {v : Value} {ws : List (Int × List Int)} (h : OwnW w base v ws) : ∃ A n c, v = .slice A n c := by
  obtain ⟨A, c, h1, _⟩ := h.shape
  exact ⟨A, _, c, h1⟩
theorem BB.ownW {w0 wr w1 : World} {base : Nat} {v : Value} {ws : List (Int × List Int)} (h : BB w0 wr) (HO : OwnW wr base v ws) (hb : w0.heap.size ≤ base) (hs : Step (fun k => some k = v.ownBlock) wr w1) : BB w0 w1 :=
  ⟨h.b.trans (hs.below h.size fun k hk e => by have := (HO.lt k e.symm).1; omega)⟩
/-- What the loops of face.Walks keep: the row of walks and its box; the map of what is left and its box. -/
structure WInv (W1 : World) (ob L M : Nat) (v : Value) (ws : List (Int × List Int)) (q : Int → Bool) (W : World) : Prop where
  bb : BB W1 W
  out : W.heap[ob]? = some (.cells #[v] 37 (0, 0))
  left : W.heap[L]? = some (.cells #[.map (some M)] 86 (0, 0))
  own : OwnW W (ob + 1) v ws
  map : ∃ m, MapAt W M m ∧ ∀ d, m.lookup d = if q d then some (.bool true) else none
theorem not_cells_ne {W : World} {b c : Nat} {o : Obj} {cs : Array Value} {e : TypeId} {fr : Nat × Nat} (hb : W.heap[b]? = some o) (ho : o.isCells = false) (hc : W.heap[c]? = some (.cells cs e fr)) : b ≠ c := by
  rintro rfl
  rw [hb] at hc
  cases hc
  simp [Obj.isCells] at ho
theorem WInv.grown {W1 : World} {ob L M : Nat} {v : Value} {ws : List (Int × List Int)} {q : Int → Bool} {W W' : World} {row : Option Nat} {B : Nat} (h : WInv W1 ob L M v ws q W) (hg : W.grownBy W' row) (hr : ∀ r, row = some r → B ≤ r ∧ ∃ o : Obj, W.heap[r]? = some o ∧ o.isCells = false) (h1 : W1.heap.size ≤ B) (h2 : M < B) : WInv W1 ob L M v ws q W' := by
  have hs := Step.of_grown hg
  have hne : ∀ {c : Nat} {cs : Array Value} {e : TypeId} {fr : Nat × Nat}, W.heap[c]? = some (.cells cs e fr) → ¬ some c = row := fun hc e => by
    obtain ⟨_, o, ho, hn⟩ := hr _ e.symm
    exact not_cells_ne ho hn hc rfl
  refine ⟨⟨h.bb.b.trans (hs.below h.bb.size fun k hk e => ?_)⟩, hs.heap h.out (hne h.out), hs.heap h.left (hne h.left), h.own.step hs fun k cs e fr _ hk => hne hk, ?_⟩
  · have := (hr _ e.symm).1
    omega
  · obtain ⟨m, h3, h4⟩ := h.map
    exact ⟨m, h3.step hs fun e => by have := (hr _ e.symm).1; omega, h4⟩
theorem ownFrom_winv {E : List Int} {W1 : World} {ob L M B : Nat} (h1 : W1.heap.size ≤ B) (h2 : M < B) (ws : List (Drt E) → List (Int × List Int)) (q : List (Drt E) → Int → Bool) : OwnFrom B (fun s W => ∃ v, WInv W1 ob L M v (ws s) (q s) W) := by
  rintro s W W' row ⟨v, h⟩ hg hr
  exact ⟨v, h.grown hg hr h1 h2⟩
theorem WInv.upd {W1 : World} {ob L M : Nat} {v : Value} {ws : List (Int × List Int)} {q q' : Int → Bool} {W W' : World} {m' : List (Int × Value)} (h : WInv W1 ob L M v ws q W) (hs : Step (fun k => k = M) W W') (hm : MapAt W' M m') (hl : ∀ d, m'.lookup d = if q' d then some (.bool true) else none) (h1 : W1.heap.size ≤ M) : WInv W1 ob L M v ws q' W' := by
  obtain ⟨m, hM, _⟩ := h.map
  obtain ⟨es, c, hb, _⟩ := hM.h
  have hne : ∀ {c : Nat} {cs : Array Value} {e : TypeId} {fr : Nat × Nat}, W.heap[c]? = some (.cells cs e fr) → ¬ c = M := fun hc e => not_cells_ne hb rfl hc e.symm
  exact ⟨⟨h.bb.b.trans (hs.below h.bb.size fun k hk e => by omega)⟩, hs.heap h.out (hne h.out), hs.heap h.left (hne h.left), h.own.step hs fun k cs e fr _ hk => hne hk, m', hm, hl⟩
theorem ownFrom_mark {α : Type} {B D : Nat} (h : D < B) : OwnFrom B (fun (_ : α) W => W.heap[D]? = some (.deferred (some []))) := by
  intro s W W' row hs hg hr
  exact (Step.of_grown hg).heap hs fun e => by have := (hr _ e.symm).1; omega
theorem zero_bool (w : World) : (zeroValue 4).run Tryz.prog w = .ok (.bool false) w := by kernel_rfl
theorem OwnW.cells {w : World} {base : Nat} {v : Value} {ws : List (Int × List Int)} (h : OwnW w base v ws) : ∀ k, v.ownBlock = some k → ∃ cs e fr, w.heap[k]? = some (.cells cs e fr) := by
  obtain ⟨zs, h0, h1, h2⟩ := h.o
  intro k hk
  rcases h1.2 with ⟨rfl, _⟩ | ⟨g, cap, cur, rfl, hb, hg, hr⟩
  · cases hk
  · cases hk
    exact ⟨_, _, _, hg⟩
theorem OwnW.mono {w : World} {base base' : Nat} {v : Value} {ws : List (Int × List Int)} (h : OwnW w base v ws) (hb : base' ≤ base) : OwnW w base' v ws := by
  obtain ⟨zs, h0, h1, h2⟩ := h.o
  refine ⟨zs, h0, ⟨h1.1, ?_⟩, fun z hz => ?_⟩
  · rcases h1.2 with h3 | ⟨g, cap, cur, hv, hb', hr⟩
    · exact .inl h3
    · exact .inr ⟨g, cap, cur, hv, Nat.le_trans hb hb', hr⟩
  · obtain ⟨a1, a2, a3, a4⟩ := h2 z hz
    exact ⟨a1, a2, a3, fun ad ha h0 => ⟨Nat.le_trans hb (a4 ad ha h0).1, (a4 ad ha h0).2⟩⟩
theorem OwnW.put {w : World} {base D : Nat} {v : Value} {ws : List (Int × List Int)} {o : Obj} (h : OwnW w base v ws) (hD : w.heap[D]? = some o) (ho : o.isCells = false) (o' : Obj) : OwnW (w.putObj D o') base v ws :=
  h.step (Step.of_grown (grownBy_putObj' w D o')) fun k cs e fr _ hk e' => not_cells_ne hD ho hk (by cases e'; rfl)
theorem OwnW.mark {w : World} {base D : Nat} {v : Value} {ws : List (Int × List Int)} {o : Obj} (h : OwnW w base v ws) (hD : w.heap[D]? = some o) (ho : o.isCells = false) : ¬ some D = v.ownBlock := fun e => by
  obtain ⟨cs, t, fr, hc⟩ := h.cells D e.symm
  exact not_cells_ne hD ho hc rfl
theorem heap_alloc_set (W : World) (x y v : Value) (t : TypeId) : ((W.alloc (.cells #[x, y] t)).setCell ⟨W.heap.size, 0, none⟩ v).heap[W.heap.size]? = some (.cells #[v, y] t (0, 0)) := by
  have := heap_setCell_own (W.alloc (.cells #[x, y] t)) W.heap.size 0 v (heap_alloc_new W _)
  simpa using this
theorem OwnW.cellsT {w : World} {base : Nat} {v : Value} {ws : List (Int × List Int)} (h : OwnW w base v ws) : ∀ k, v.ownBlock = some k → ∃ cs fr, w.heap[k]? = some (.cells cs 45 fr) := by
  obtain ⟨zs, h0, h1, h2⟩ := h.o
  intro k hk
  rcases h1.2 with ⟨rfl, _⟩ | ⟨g, cap, cur, rfl, hb, hg, hr⟩
  · cases hk
  · cases hk
    exact ⟨_, _, hg⟩
theorem WInv.below {W1 : World} {ob L M : Nat} {v : Value} {ws : List (Int × List Int)} {q : Int → Bool} {W W' : World} (h : WInv W1 ob L M v ws q W) (hb : Below W.heap.size W W') : WInv W1 ob L M v ws q W' := by
  have hs := Step.of_below hb
  have hlt : ∀ {k : Nat} {o : Obj}, W.heap[k]? = some o → ¬ W.heap.size ≤ k := fun hk => Nat.not_le.2 (Array.getElem?_eq_some_iff.1 hk).1
  obtain ⟨m, h3, h4⟩ := h.map
  exact ⟨h.bb.call hb, hs.heap h.out (hlt h.out), hs.heap h.left (hlt h.left), h.own.below hb, m, h3.below hb, h4⟩
theorem WInv.app {W1 : World} {ob L M : Nat} {v v' : Value} {ws ws' : List (Int × List Int)} {q : Int → Bool} {W W' : World} (h : WInv W1 ob L M v ws q W) (hob : W1.heap.size ≤ ob) (hs : Step (fun k => some k = v.ownBlock) W W') (ho : OwnW W' (ob + 1) v' ws') (hL : L ≠ ob) (hM : M ≠ ob) : WInv W1 ob L M v' ws' q (W'.setCell ⟨ob, 0, none⟩ v') := by
  have hlt := h.own.lt
  have hout := hs.heap h.out (fun e => by have := (hlt _ e.symm).1; omega)
  have hleft := hs.heap h.left (fun e => by
    obtain ⟨cs, fr, hc⟩ := h.own.cellsT _ e.symm
    rw [h.left] at hc
    cases hc)
  have hset := Step.setCell (F := fun k => k = ob) W' (p := ⟨ob, 0, none⟩) rfl v'
  obtain ⟨m, h3, h4⟩ := h.map
  obtain ⟨es, c, hb, _⟩ := h3.h
  exact ⟨(h.bb.ownW h.own (by omega) hs).set hob _, heap_setCell_own W' ob 0 v' hout, hset.heap hleft hL, ho.step hset fun k _ _ _ hk _ e => by omega, m, (h3.step hs (h.own.mark hb rfl)).step hset hM, h4⟩
theorem lookup_dels (l : List Int) : ∀ (m : List (Int × Value)) (d : Int), (l.foldl delK m).lookup d = if d ∈ l then none else m.lookup d := by
  induction l with
  | nil => intro m d; simp
  | cons x l ih =>
    intro m d
    rw [List.foldl_cons, ih, lookup_delK]
    by_cases h1 : d ∈ l
    · simp [h1]
    · by_cases h2 : d = x <;> simp [h1, h2]
theorem dels_take {m : List (Int × Value)} {l : List Int} {j : Nat} (h : j < l.length) : (l.take (j + 1)).foldl delK m = delK ((l.take j).foldl delK m) (gi l j) := by
  rw [List.take_succ_eq_append_getElem h, List.foldl_append, gi_eq h]
  rfl
theorem metW_app (ws : List (Int × List Int)) (k : Int) (l : List Int) (d : Int) : metW (ws ++ [(k, l)]) d = (metW ws d || l.contains d) := by
  unfold metW
  simp
section
variable {F : Fence} {n : Nat} {ops : Array Oper} {rest : List Oper} {o : Oper} {a : Act} {Q : Exit → Act → World → Prop}
theorem armIn_app_walk {W : World} (hF : ∀ f, F.fn f) (base : Nat) (ws : List (Int × List Int)) (v : Value) (HO : OwnW W base v ws) (q : WP) (u : Int × List Int) (hu : WOk W base v (q, u)) {s x : Operand} (hgd : o.guard = none)
    (ho : o.op = .call { callee := .builtin .append, args := #[s, x], argTypes := #[37, 37] }) (hs : a.eval s = v) (hx : a.eval x = .slice (some ⟨W.heap.size, 0, none⟩) 1 1)
    (hbase : base ≤ W.heap.size) (hl : ws.length < 1099511627776)
    (h : ∀ v1 w1, OwnW w1 base v1 (ws ++ [u]) → Step (fun k => some k = v.ownBlock) W w1 → wpListIn F n Tryz.prog ops Q rest (a.put o.dst v1) w1) :
    wpListIn F n Tryz.prog ops Q (o :: rest) a (W.alloc (.cells #[.int .i64 q.1, .slice q.2.1 q.2.2.1 q.2.2.2] 45)) := by
  obtain ⟨v1, w1, hr, h1, h2⟩ := app_walk_run base ws v HO q u hu ho hs hx hbase hl
  exact armIn_value hF hgd (by rw [ho]; intro c hc; cases hc) hr (h v1 w1 h1 h2)
end
theorem keepsFrom_step {B : Nat} {F : Nat → Prop} {W W' : World} (h : Step F W W') (hf : ∀ k o, B ≤ k → W.heap[k]? = some o → o.isCells = false → ¬ F k) : KeepsFrom B W W' :=
  ⟨h.size, fun k o hB hk ho => h.heap hk (hf k o hB hk ho)⟩
section
variable {P : Program} {n : Nat}
/-- A range over a function of one variable, in a frame that is the goal's own. -/
theorem wp_rangeFunc1 {α : Type} {g : Operand} (p q : Tmp) {assign body : Code} {Q : Exit → Act → World → Prop} {a : Act} {w : World}
    (h1 : 1 ≤ n) {gf : Nat} {lb : Array Value} (hg : a.eval g = .func (.func gf) #[] lb) (eg : ∀ args w, (callFunc gf args).run P w = .ok (.enter gf args) w)
    {e : α → Value} {n₀ : Nat} {S Sp : List α → Prop} {N : Nat} (hseq : SeqStopsK Fence.wide (n - 1) P gf lb (fun x => #[e x]) (Below n₀) S Sp N w) (hn₀ : n₀ ≤ w.heap.size)
    (I : List α → World → Prop) (hI : OwnFrom w.heap.size I) (h0 : I [] w)
    (hassign : ∀ (l : Nat) (x : α) (W : World) (K : Act → World → Prop), K { tmps := (a.tmps.setIfInBounds p (e x)).setIfInBounds q (e x), defers := [] } W →
      assign.wpIn (Fence.wide.inRound l) (n - 1 - 1) P (Exit.then K (fun _ _ _ => False)) { tmps := a.tmps.setIfInBounds p (e x), defers := [] } W)
    (hbody : ∀ (l : Nat) (pre : List α) (x : α) (W : World), I pre W → pre.length < N → body.wpIn (Fence.wide.inRound l) (n - 1 - 1) P (ownPostG w.heap.size (Below n₀) I (fun _ _ _ => False) (pre ++ [x]) W) { tmps := (a.tmps.setIfInBounds p (e x)).setIfInBounds q (e x), defers := [] } W)
    (hdone : ∀ (D : Nat) (xs : List α) (W : World), w.heap.size ≤ D → S xs → I xs W → W.heap[D]? = some (.deferred (some [])) → Q .normal { a with defers := { target := .collected D, args := #[] } :: a.defers } W) :
    (Code.rangeFunc g #[p] assign body).wp P Q a w :=
  wpIn_wide.1 (wpIn_rangeFunc_ownG (n := n) rfl h1 hg trivial eg hseq belowK_t (belowK_b hn₀) (Below.refl _ _) (fun _ => rfl) I (fun _ _ _ => False) hI (fun _ _ _ _ _ hs _ _ => hs) h0 _ (fun l x W K hK => by have := hassign l x W K hK; simpa using this) hbody hdone (fun _ _ _ _ _ _ h _ => h.elim))
end
theorem alloc2_new (w : World) (o o' : Obj) : ((w.alloc o).alloc o').heap[w.heap.size + 1]? = some o' := by
  have := heap_alloc_new (w.alloc o) o'
  simpa using this

set_option maxRecDepth 100000 in
set_option maxHeartbeats 4000000 in
theorem walks_any (g : Gr) (p : Pt) (tn : List (List Int)) (at_ : Int → Option Nat) (bound : Nat) (A A1 A2 A3 : Option Addr) (n c n1 c1 n2 c2 n3 c3 : Nat) (w : World) (hA : RE w A n g.E) (h1 : RI w A1 n1 p.V) (h2 : RI w A2 n2 p.E) (h3 : RL w A3 n3 tn) (hs3 : tn.length < 1099511627776) (hs : ∀ l ∈ tn, l.length < 1099511627776)
    (hat : ∀ d, (atTo tn tn.length).lookup d = (at_ d).map fun v : Nat => Value.int .i64 (v : Int))
    (hlt : g.rotaErr p tn = 0 → ∀ d v, at_ d = some v → v < tn.length ∧ 0 ≤ d ∧ d < 1048576)
    (hper : g.rotaErr p tn = 0 → ∀ d ∈ dartsAll p.E, ∃ n, 0 < n ∧ n ≤ bound ∧ it (nextD (tn.map firstR) at_) n d = d) (hbd : bound < 1048576) :
    Calls Tryz.prog 19 #[.agg #[.int .i64 g.N, .slice A n c], .agg #[.slice A1 n1 c1, .slice A2 n2 c2], .slice A3 n3 c3] w fun e w' =>
      WalksPost g p tn (cycN (nextD (tn.map firstR) at_) bound) w e w' := by
  have hlen := hA.len
  subst hlen
  have hlen1 := h1.len
  subst hlen1
  have hlen2 := h2.len
  subst hlen2
  have hlen3 := h3.len
  subst hlen3
  have HA := Bx.mk hA
  have H1 := Bx.mk h1
  have H2 := Bx.mk h2
  have H3 := Bx.mk h3
  have HAT := Bx.mk hat
  have HLT := Bx.mk hlt
  have HPER := Bx.mk hper
  have HS := Bx.mk hs
  clear hA h1 h2 h3 hat hlt hper hs
  have hmm := @run_makeMap Tryz.prog
  obtain ⟨N, hN⟩ : ∃ N : Nat, Bx (N = 10) := ⟨_, ⟨rfl⟩⟩
  have hN1 : 1 ≤ N := by have := hN.out; omega
  have hN3 : 3 ≤ N := by have := hN.out; omega
  have hfn : ∀ f, Fence.wide.fn f := fun _ => trivial
  have hfr : ∀ l f, (Fence.wide.inRound l).fn f := fun _ _ => trivial
  have hfd : Fence.wide.depth.isSome = false := rfl
  refine calls_of_wp_marks N Tryz.func19 rfl ?_
  simp only [Tryz.ntmps19, List.size_toArray, List.length_cons, List.length_nil, Nat.reduceAdd, Nat.reduceSub, Array.replicate_succ, Array.replicate_zero, List.push_toArray, List.append_toArray, List.nil_append, List.cons_append]
  have BA := BB.refl w |>.al (.cells #[.int .i64 g.N, .slice A g.E.length c] 24) |>.al (.cells #[.slice A1 p.V.length c1, .slice A2 p.E.length c2] 27)
  have CQ : Bx (((w.alloc (.cells #[.int .i64 g.N, .slice A g.E.length c] 24)).alloc (.cells #[.slice A1 p.V.length c1, .slice A2 p.E.length c2] 27)).cell? ⟨w.heap.size + 1, 0, none⟩ = some (.slice A1 p.V.length c1)) := ⟨box_cell2 w _ _ _ _ 0⟩
  by_cases h0 : g.rotaErr p tn = 0
  case neg =>
    have h0b : (g.rotaErr p tn != 0) = true := by simp [h0]
    go_wp2_with (go_at_call 49; refine (rotaNew_any g p tn A A1 A2 A3 g.E.length c p.V.length c1 p.E.length c2 tn.length c3 _ (BA.re HA.out) (BA.ri H1.out) (BA.ri H2.out) (BA.rl H3.out) hs3 HS.out).mono ?_; rintro e w1 ⟨⟨u, rfl, hu⟩, hb1⟩; rw [if_neg h0] at hu; obtain rfl := hu; have HB1 := BA.call hb1)
    exact ⟨_, results_tmp2 rfl _ _ _, ⟨_, rfl, by rw [if_neg h0]; rfl⟩, (HB1.al _).b⟩
  case pos =>
    have h0b : (g.rotaErr p tn != 0) = false := by simp [h0]
    go_wp2_with (go_at_call 49; refine (rotaNew_any g p tn A A1 A2 A3 g.E.length c p.V.length c1 p.E.length c2 tn.length c3 _ (BA.re HA.out) (BA.ri H1.out) (BA.ri H2.out) (BA.rl H3.out) hs3 HS.out).mono ?_; rintro e w1 ⟨⟨u, rfl, hu⟩, hb1⟩; rw [if_pos h0] at hu; have HU := Bx.mk hu; clear hu; obtain ⟨ad, rfl⟩ : ∃ ad, u = .pointer (some ad) := by { obtain ⟨R, _, _, _, _, _, _, _, _, _, _, _, _, _, rfl, _⟩ := HU.out.h; exact ⟨_, rfl⟩ }; have HB1 := BA.call hb1; have HP := Bx.mk (BB.al (BB.al (BB.mk hb1) (.cells #[.pointer (some ad)] 81)) (.cells #[.slice none 0 0] 37)); have hcp : ((w1.alloc (.cells #[.pointer (some ad)] 81)).alloc (.cells #[.slice none 0 0] 37)).cell? ⟨w.heap.size + 1, 0, none⟩ = some (.slice A1 p.V.length c1) := HP.out.cell CQ.out)
    have HVR : Bx (∀ x ∈ p.V, 0 ≤ x ∧ x < 1048576) := ⟨verts_range h0⟩
    have hle1 := H1.out.le
    have HU2 := HU.out
    rw [World.size_alloc, World.size_alloc] at HU2
    have HX : Bx (RotaX (w1.alloc (.cells #[.pointer (some ad)] 81)) (w.heap.size + 1 + 1) (.pointer (some ad)) g p (tn.map firstR) at_) := ⟨RotaX.below ⟨⟨_, HU2, HAT.out⟩, fun d v h => by rw [List.length_map]; exact HLT.out h0 d v h, ⟨by rw [List.length_map]; exact hs3, fun l hl => by obtain ⟨l', hl', rfl⟩ := List.mem_map.1 hl; rw [firstR_len]; exact HS.out _ hl'⟩⟩ (below_alloc (Nat.le_refl _) _)⟩
    clear HU2 hcp
    go_loopw [32] (fun i wr => ∃ (k : Nat) (v : Value), k ≤ p.V.length ∧ i = .int .i64 k ∧ wr.heap[w1.heap.size + 1]? = some (.cells #[v] 37 (0, 0)) ∧ OwnW wr (w1.heap.size + 2) v (lonesF (tn.map firstR) (p.V.take k)) ∧ BB (w1.alloc (.cells #[.pointer (some ad)] 81)) wr) (fun i _ => p.V.length - (intOf i).toNat)
    case atStart => exact ⟨0, _, Nat.zero_le _, rfl, alloc2_new _ _ _, OwnW.nil _ _, (BB.refl _).al _⟩
    case round =>
      obtain ⟨k, v, hk, rfl, hob, HO, HB⟩ := hrel
      have HBw := (HB1.al (.cells #[.pointer (some ad)] 81)).trans HB
      by_cases hlt : k < p.V.length
      · obtain ⟨b5, off5, ha5, hcl⟩ := (HBw.ri H1.out).at (by omega)
        have hck := hcl k hlt
        subst ha5
        clear hcl
        have hc8 : wr.cell? ⟨w1.heap.size, 0, none⟩ = some (.pointer (some ad)) := HB.cell (box_cell w1 _ _ _ 0)
        have HOB := Bx.mk hob
        have hvr := HVR.out _ (gi_mem hlt)
        have hvr0 := hvr.1
        have hvr1 := hvr.2
        have HLN := Bx.mk (lonesF_take (tn := tn.map firstR) hlt)
        have hz := HB.pos
        have HAL : Bx ((atL (tn.map firstR) (gi p.V k)).length ≤ 17592186044416) := ⟨atL_len HX.out.sz.2 _⟩
        clear hob hvr
        by_cases hempty : (atL (tn.map firstR) (gi p.V k)).length = 0
        · have hE := Bx.mk hempty
          go_wp2_with (go_at_call 50; refine (at_any g p (tn.map firstR) at_ (.pointer (some ad)) (gi p.V k) _ (HX.out.below HB.b)).mono ?_; rintro e w2 ⟨⟨u, rfl, HO2⟩, hb2⟩; obtain ⟨A6, c6, hu6, hc6, hr6, ha6⟩ := HO2.read HAL.out; rw [hE.out] at hu6; subst hu6; have HB2 := BB.mk hb2; clear HO2 hr6 ha6)
          have hob2 := (HB2.b.block _ (Array.getElem?_eq_some_iff.1 HOB.out).1).trans HOB.out
          have hso2 := (Array.getElem?_eq_some_iff.1 hob2).1
          have HOB2 := Bx.mk hob2
          have HO2 : Bx (OwnW (w2.drewN 1) (w1.heap.size + 2) v (lonesF (tn.map firstR) (p.V.take k))) := ⟨(HO.below HB2.b).low (Step.drewN (fun _ => False) _ 1) fun _ _ _ h => h⟩
          have hcA : w2.cell? ⟨w1.heap.size + 1, 0, none⟩ = some v := cell_of_row w2 _ 0 _ _ _ hob2
          have hcB : (w2.drewN 1).cell? ⟨w1.heap.size + 1, 0, none⟩ = some v := hcA
          have hcC : ((w2.drewN 1).alloc (.cells #[.int .i64 (-1 - gi p.V k), .slice none 0 0] 45)).cell? ⟨w1.heap.size + 1, 0, none⟩ = some v := Below.lt_cell (below_alloc (Nat.le_refl _) _) hcB
          have HNE : Bx (¬ some (w1.heap.size + 1) = v.ownBlock) := ⟨fun e => by have := (HO.lt _ e.symm).1; omega⟩
          have HLL : Bx ((lonesF (tn.map firstR) (p.V.take k)).length < 1099511627776) := ⟨by have := lonesF_len (tn.map firstR) (p.V.take k); rw [List.length_take] at this; have := (verts_len h0).1; omega⟩
          have HS2 : Bx (w1.heap.size + 2 ≤ (w2.drewN 1).heap.size) := ⟨hso2⟩
          have hcD : (w2.alloc (.cells #[.int .i64 (-1 - gi p.V k), .slice none 0 0] 45)).drew.cell? ⟨w1.heap.size + 1, 0, none⟩ = some v := hcC
          clear hob2 hso2
          go_region_law (first
            | (go_simp; go_at_call 51; refine (lone_any _ _ hvr0 hvr1).mono ?_; rintro e w3 ⟨rfl, rfl⟩)
            | (go_loud (refine step_app_walk (w1.heap.size + 2) _ v HO2.out ((-1 - gi p.V k), none, 0, 0) (-1 - gi p.V k, []) ⟨rfl, Nat.le_refl _, RI.nil _ _, fun _ h => by cases h⟩ rfl rfl rfl rfl HS2.out HLL.out ?_); intro v1 w3 ho3 hs3; obtain ⟨A7, n7, c7, hv7⟩ := ho3.shape'; subst hv7; have hob3 := Bx.mk (hs3.heap (b := w1.heap.size + 1) HOB2.out HNE.out); have hc3 : w3.cell? ⟨w1.heap.size + 1, 0, none⟩ = some v := cell_of_row w3 _ 0 _ _ _ hob3.out; have hf3 := frozen_of_row w3 (w1.heap.size + 1) 0 hob3.out))
          all_goals
            go_wp2
            go_roundw
            case rel => exact ⟨k + 1, _, hlt, by go_num, heap_setCell_own w3 (w1.heap.size + 1) 0 _ hob3.out, by rw [HLN.out, if_pos hempty]; exact ho3.step (Step.setCell (F := fun x => x = w1.heap.size + 1) w3 (p := ⟨w1.heap.size + 1, 0, none⟩) rfl _) (fun x _ _ _ hx _ e => by omega), ((((HB.trans HB2).drawn 1).ownW HO2.out (by simp) hs3).set (by simp) _)⟩
            case measure => simp [intOf]; omega
        · go_wp2_with (go_at_call 50; refine (at_any g p (tn.map firstR) at_ (.pointer (some ad)) (gi p.V k) _ (HX.out.below HB.b)).mono ?_; rintro e w2 ⟨⟨u, rfl, HO2⟩, hb2⟩; obtain ⟨A6, c6, rfl, hc6, hr6, ha6⟩ := HO2.read HAL.out; have HB2 := BB.mk hb2; clear HO2 hr6 ha6)
          go_roundw
          case rel => exact ⟨k + 1, v, hlt, by go_num, (hb2.block _ (Array.getElem?_eq_some_iff.1 HOB.out).1).trans HOB.out, by rw [HLN.out, if_neg hempty, List.append_nil]; exact HO.below hb2, HB.trans HB2⟩
          case measure => simp [intOf]; omega
      · have hkk : k = p.V.length := by omega
        subst hkk
        rw [List.take_length] at HO
        rename World => w4
        have hc8 : w4.cell? ⟨w1.heap.size, 0, none⟩ = some (.pointer (some ad)) := HB.cell (box_cell w1 _ _ _ 0)
        have hz := HB.pos
        have hzo := (Array.getElem?_eq_some_iff.1 hob).1
        have HOB := Bx.mk hob
        clear hob
        have hc81 : ((w4.alloc (.map #[] 0)).alloc (.cells #[.map (some w4.heap.size)] 86)).cell? ⟨w1.heap.size, 0, none⟩ = some (.pointer (some ad)) := ((BB.refl w4).al _ |>.al _).cell hc8
        go_wp2_with (go_at_call 52; refine (darts_iter (some ad) _).mono ?_; rintro e w2 ⟨rfl, rfl⟩)
        have HI0 : WInv (w1.alloc (.cells #[.pointer (some ad)] 81)) (w1.heap.size + 1) (w4.heap.size + 1) w4.heap.size v (lonesF (tn.map firstR) p.V) (fun _ => false) (((w4.alloc (.map #[] 0)).alloc (.cells #[.map (some w4.heap.size)] 86)).alloc (.cells #[.pointer (some ad)] 81)) :=
          ⟨((HB.al _).al _).al _, ((((BB.refl w4).al _).al _).al _).b.block _ hzo |>.trans HOB.out, (Below.heap_alloc _ _ _ (by simp)).trans (alloc2_new w4 _ _), HO.below ((((BB.refl w4).al _).al _).al _).b, [], ((MapAt.made w4).alloc _).alloc _, fun d => by simp⟩
        have hcD : (((w4.alloc (.map #[] 0)).alloc (.cells #[.map (some w4.heap.size)] 86)).alloc (.cells #[.pointer (some ad)] 81)).cell? ⟨w4.heap.size + 1 + 1, 0, none⟩ = some (.pointer (some ad)) := by
          have := box_cell ((w4.alloc (.map #[] 0)).alloc (.cells #[.map (some w4.heap.size)] 86)) #[.pointer (some ad)] 81 (0, 0) 0
          simpa using this
        have HX3 := HX.out.below HI0.bb.b
        have hz3 : (((w4.alloc (.map #[] 0)).alloc (.cells #[.map (some w4.heap.size)] 86)).alloc (.cells #[.pointer (some ad)] 81)).heap.size = w4.heap.size + 3 := by simp
        clear hc81 hc8 HO HOB
        generalize (((w4.alloc (.map #[] 0)).alloc (.cells #[.map (some w4.heap.size)] 86)).alloc (.cells #[.pointer (some ad)] 81)) = w3 at *
        have HZ3 := Bx.mk hz3
        have hz13 : w.heap.size + 2 ≤ w1.heap.size := by have := hb1.size; simpa using this
        have hz14 : w1.heap.size + 1 ≤ w4.heap.size := by have := HB.size; simpa using this
        have hER := edges_range h0
        refine wp_rangeFunc1 (n := N) 51 14 hN1 (gf := 100) (lb := #[.pointer (some ⟨w4.heap.size + 1 + 1, 0, none⟩)]) rfl (enters_of Tryz.func100 (by kernel_rfl) rfl)
          (darts_stops (N - 1) (by omega) (w4.heap.size + 1 + 1) (w.heap.size + 1 + 1) g p (tn.map firstR) at_ (.pointer (some ad)) w3 hER hcD HX3) (by have := HB.size; simp at this; omega)
          (fun pre W => ∃ v, WInv (w1.alloc (.cells #[.pointer (some ad)] 81)) (w1.heap.size + 1) (w4.heap.size + 1) w4.heap.size v (lonesF (tn.map firstR) p.V) (fun d => decide (d ∈ pre.map Subtype.val)) W)
          (ownFrom_winv (by simp; omega) (by omega) (fun _ => lonesF (tn.map firstR) p.V) (fun pre d => decide (d ∈ pre.map Subtype.val)))
          ⟨v, by simpa using HI0⟩ ?assign ?body ?done
        case assign =>
          intro l x W K hK
          gi_wp2
          exact hK
        case body =>
          rintro l pre x W ⟨v', HI⟩ hlt
          obtain ⟨m, HM, hm⟩ := HI.map
          have hcL : W.cell? ⟨w4.heap.size + 1, 0, none⟩ = some (.map (some w4.heap.size)) := cell_of_row W _ 0 _ _ _ HI.left
          have HBI := Bx.mk HI
          have HMM := Bx.mk hm
          clear HI hm
          simp only [List.setIfInBounds_toArray, List.set_cons_succ, List.set_cons_zero]
          gi_wp2_with (gi_at_mapUpdate; refine armIn_update (v := .bool true) (fun _ => trivial) HM Tryz.underlying86 Tryz.underlying3 rfl rfl rfl rfl rfl ?_; intro W2 hm2 hs2)
          refine ⟨keepsFrom_step hs2 (fun k o hB hk ho e => by omega), hs2.below (by have := HM.lt; omega) (fun k hk e => by omega), v', HBI.out.upd hs2 hm2 (fun d => ?_) (by simp; omega)⟩
          rw [lookup_upd, HMM.out d, List.map_append]
          by_cases hd : d = x.1
          · simp [hd]
          · simp [hd]
        case done =>
          rintro D xs W hD hxs ⟨v', HI⟩ hK
          have HBI := Bx.mk HI
          have hc8 : W.cell? ⟨w1.heap.size, 0, none⟩ = some (.pointer (some ad)) := HI.bb.cell (box_cell w1 _ _ _ 0)
          have HK := Bx.mk hK
          have HXS := Bx.mk hxs
          clear HI hK hxs
          go_wp2_with (go_at_call 52; refine (darts_iter (some ad) _).mono ?_; rintro e w2 ⟨rfl, rfl⟩)
          have HI1 := HBI.out.grown (World.grownBy_alloc W (.cells #[.pointer (some ad)] 81) none) (B := w3.heap.size) (fun r e => by cases e) (by simp; omega) (by omega)
          have HK1 : Bx ((W.alloc (.cells #[.pointer (some ad)] 81)).heap[D]? = some (.deferred (some []))) := ⟨(Below.heap_alloc _ _ _ (Array.getElem?_eq_some_iff.1 HK.out).1).trans HK.out⟩
          have HDW := (Array.getElem?_eq_some_iff.1 HK.out).1
          have hcD1 : (W.alloc (.cells #[.pointer (some ad)] 81)).cell? ⟨W.heap.size, 0, none⟩ = some (.pointer (some ad)) := box_cell W _ _ _ 0
          have hzW : (W.alloc (.cells #[.pointer (some ad)] 81)).heap.size = W.heap.size + 1 := by simp
          clear hc8 HBI HK
          generalize (W.alloc (.cells #[.pointer (some ad)] 81)) = w5 at *
          have HXS2 := HXS.out
          rw [HXS2] at HI1
          have HX5 := HX.out.below HI1.bb.b
          obtain ⟨cyc, hcyc⟩ : ∃ cyc, Bx (cyc = cycN (nextD (tn.map firstR) at_) bound) := ⟨_, ⟨rfl⟩⟩
          clear HXS2
          refine wp_rangeFunc1 (n := N) 56 15 hN1 (gf := 100) (lb := #[.pointer (some ⟨W.heap.size, 0, none⟩)]) rfl (enters_of Tryz.func100 (by kernel_rfl) rfl)
            (darts_stops (N - 1) (by omega) W.heap.size (w.heap.size + 1 + 1) g p (tn.map firstR) at_ (.pointer (some ad)) w5 hER hcD1 HX5) (by omega)
            (fun pre W => (∃ v, WInv (w1.alloc (.cells #[.pointer (some ad)] 81)) (w1.heap.size + 1) (w4.heap.size + 1) w4.heap.size v ((pre.map Subtype.val).foldl (addW cyc) (lonesF (tn.map firstR) p.V)) (fun d => decide (d ∈ dartsAll p.E) && !metW ((pre.map Subtype.val).foldl (addW cyc) (lonesF (tn.map firstR) p.V)) d) W) ∧ W.heap[D]? = some (.deferred (some [])))
            (OwnFrom.and (ownFrom_winv (by simp; omega) (by omega) (fun pre => (pre.map Subtype.val).foldl (addW cyc) (lonesF (tn.map firstR) p.V)) (fun pre d => decide (d ∈ dartsAll p.E) && !metW ((pre.map Subtype.val).foldl (addW cyc) (lonesF (tn.map firstR) p.V)) d)) (ownFrom_mark (by omega)))
            ⟨⟨v', by simpa [lonesF_met] using HI1⟩, HK1.out⟩ ?assign ?body ?done
          case assign =>
            intro l x W K hK
            gi_wp2
            exact hK
          case body =>
            rintro l pre x W6 ⟨⟨v6, HI⟩, hDm⟩ hlt
            have hlW := foldW_len cyc (pre.map Subtype.val) (lonesF (tn.map firstR) p.V)
            obtain ⟨ws, hws⟩ : ∃ ws, Bx ((pre.map Subtype.val).foldl (addW cyc) (lonesF (tn.map firstR) p.V) = ws) := ⟨_, ⟨rfl⟩⟩
            rw [hws.out] at HI hlW
            have hnx : Bx (((pre ++ [x]).map Subtype.val).foldl (addW cyc) (lonesF (tn.map firstR) p.V) = addW cyc ws x.1) := ⟨by rw [List.map_append, List.foldl_append, hws.out]; rfl⟩
            obtain ⟨m, HM, hm⟩ := HI.map
            have hcL : W6.cell? ⟨w4.heap.size + 1, 0, none⟩ = some (.map (some w4.heap.size)) := cell_of_row W6 _ 0 _ _ _ HI.left
            have hcR : W6.cell? ⟨w1.heap.size, 0, none⟩ = some (.pointer (some ad)) := HI.bb.cell (box_cell w1 _ _ _ 0)
            have HBI := Bx.mk HI
            have HMM := Bx.mk hm
            have HDM := Bx.mk hDm
            have hxl := hm x.1
            have hxd : decide (x.1 ∈ dartsAll p.E) = true := decide_eq_true x.2
            rw [hxd, Bool.true_and] at hxl
            clear HI hm hDm hxd
            simp only [List.setIfInBounds_toArray, List.set_cons_succ, List.set_cons_zero]
            cases hmet : metW ws x.1 with
            | true =>
              have HMET := Bx.mk hmet
              rw [hmet] at hxl
              have hxl' : (List.lookup x.1 m).getD (.bool false) = .bool false := by rw [hxl]; rfl
              clear hmet hxl
              gi_wp2_with (gi_at_lookup; refine armIn_lookup (fun _ => trivial) HM (.bool false) Tryz.underlying86 Tryz.underlying3 (zero_bool _) rfl rfl rfl rfl ?_)
              refine ⟨KeepsFrom.refl _ _, Below.refl _ _, ⟨v6, ?_⟩, HDM.out⟩
              rw [hnx.out]
              unfold addW
              rw [if_pos HMET.out]
              exact HBI.out
            | false =>
              have HMET := Bx.mk hmet
              rw [hmet] at hxl
              have hxl' : (List.lookup x.1 m).getD (.bool false) = .bool true := by rw [hxl]; rfl
              clear hmet hxl
              obtain ⟨hp0, hp1, hp2, hp3⟩ := perN_spec (HPER.out h0 x.1 x.2)
              have hcx : Bx (cyc x.1 = firstR (orbL (nextD (tn.map firstR) at_) (perN (nextD (tn.map firstR) at_) bound x.1) x.1)) := ⟨by rw [hcyc.out]; rfl⟩
              have hcl : Bx ((cyc x.1).length = perN (nextD (tn.map firstR) at_) bound x.1) := ⟨by rw [hcx.out, firstR_len, orbL_len]⟩
              have hcp : 0 < (cyc x.1).length := by rw [hcl.out]; exact hp0
              have hcs : (cyc x.1).length < 1048576 := by rw [hcl.out]; omega
              have HP2 := Bx.mk hp2
              have HP3 := Bx.mk hp3
              clear hp2 hp3
              gi_wp2_with (first
                | (gi_at_lookup; refine armIn_lookup (fun _ => trivial) HM (.bool false) Tryz.underlying86 Tryz.underlying3 (zero_bool _) rfl rfl rfl rfl ?_)
                | (gi_at_call 53; refine (CallsIn.inRound l (callsIn_wide.2 (round_any g p (tn.map firstR) at_ (.pointer (some ad)) x.1 (perN (nextD (tn.map firstR) at_) bound x.1) _ (HX.out.below HBI.out.bb.b) hp0 (by omega) HP2.out HP3.out))).mono ?_; rintro e W8 ⟨⟨u, rfl, HO1⟩, hb8⟩; rw [← hcx.out] at HO1; obtain ⟨A5, c5, rfl, hc5, hr5, ha5⟩ := HO1.read (by rw [hcl.out]; omega); obtain ⟨b5, off5, hA5, hcl5⟩ := hr5.at hcp; subst hA5; have hk0 := Below.lt_cell (below_alloc (Nat.le_refl _) (.cells #[.int .i64 0, .slice (some ⟨b5, off5, none⟩) (cyc x.1).length c5] 45)) (hcl5 0 hcp); rw [Nat.add_zero] at hk0; have hf0 := frozen_of_row (W8.alloc (.cells #[.int .i64 0, .slice (some ⟨b5, off5, none⟩) (cyc x.1).length c5] 45)) W8.heap.size 0 (heap_alloc_new W8 _); clear hcl5))
              have hB69 : BB W6 (W8.alloc (.cells #[.int .i64 (gi (cyc x.1) 0), .slice (some ⟨b5, off5, none⟩) (cyc x.1).length c5] 45)) := (BB.mk hb8).al _
              have hr9 := ((BB.refl W8).al (.cells #[.int .i64 (gi (cyc x.1) 0), .slice (some ⟨b5, off5, none⟩) (cyc x.1).length c5] 45)).ri hr5
              have hx9 := Bx.mk (heap_alloc_new W8 (.cells #[.int .i64 (gi (cyc x.1) 0), .slice (some ⟨b5, off5, none⟩) (cyc x.1).length c5] 45))
              have hb56 : W6.heap.size ≤ b5 := (ha5 _ rfl).1
              have hb58 := hr5.blk rfl hcp
              have hz8 := hb8.size
              have hm9 := HM.below hB69.b
              have hMlt := HM.lt
              have HI9 := Bx.mk (HBI.out.below hB69.b)
              clear hk0 hf0 hr5 ha5
              dsimp only at hb58
              generalize (W8.alloc (.cells #[.int .i64 (gi (cyc x.1) 0), .slice (some ⟨b5, off5, none⟩) (cyc x.1).length c5] 45)) = W9 at *
              have HR9 := Bx.mk hr9
              clear hr9
              gi_loopw [73] (fun i wr => ∃ j : Nat, j ≤ (cyc x.1).length ∧ i = .int .i64 j ∧ MapAt wr w4.heap.size (((cyc x.1).take j).foldl delK m) ∧ Step (fun k => k = w4.heap.size) W9 wr) (fun i _ => (cyc x.1).length - (intOf i).toNat)
              case atStart => exact ⟨0, Nat.zero_le _, rfl, hm9, Step.refl _ _⟩
              case round =>
                obtain ⟨j, hj, rfl, HMj, HSj⟩ := hrel
                by_cases hjl : j < (cyc x.1).length
                · have HRj := HR9.out.step HSj (fun ad ha h0 e => by cases ha; dsimp only at e; omega)
                  obtain ⟨b6, off6, hA6, hcl6⟩ := HRj.at hcp
                  cases hA6
                  have hck6 := hcl6 j hjl
                  have HIj := Bx.mk (HI9.out.left)
                  have hlj := HSj.heap HI9.out.left (by omega)
                  have hcLj : wr.cell? ⟨w4.heap.size + 1, 0, none⟩ = some (.map (some w4.heap.size)) := cell_of_row wr _ 0 _ _ _ hlj
                  have hDT := Bx.mk (dels_take (m := m) hjl)
                  clear hcl6 HRj hlj
                  gi_wp2_with (refine armIn_delete (fun _ => trivial) HMj Tryz.underlying86 Tryz.underlying3 rfl rfl rfl rfl ?_; intro Wj hmj hsj)
                  go_roundw
                  case rel => exact ⟨j + 1, hjl, by go_num, by rw [hDT.out]; exact hmj, HSj.trans hsj⟩
                  case measure => simp [intOf]; omega
                · have hje : j = (cyc x.1).length := by omega
                  subst hje
                  rw [List.take_length] at HMj
                  have hadd : Bx (addW cyc ws x.1 = ws ++ [(gi (cyc x.1) 0, cyc x.1)]) := ⟨by unfold addW; rw [HMET.out]; rfl⟩
                  have HI10 := Bx.mk (HI9.out.upd (q' := fun d => decide (d ∈ dartsAll p.E) && !metW (ws ++ [(gi (cyc x.1) 0, cyc x.1)]) d) HSj HMj (fun d => by
                    rw [lookup_dels, HMM.out d, metW_app]
                    by_cases hd : d ∈ cyc x.1
                    · simp [hd]
                    · simp [hd]) (by simp; omega))
                  have hcO : wr.cell? ⟨w1.heap.size + 1, 0, none⟩ = some v6 := cell_of_row wr _ 0 _ _ _ HI10.out.out
                  have hxb := HSj.heap hx9.out (by omega)
                  have hxc0 := cell_of_row wr _ 0 _ _ _ hxb
                  have hxc1 := cell_of_row wr _ 1 _ _ _ hxb
                  simp only [List.getElem?_toArray, List.getElem?_cons_succ, List.getElem?_cons_zero] at hxc0 hxc1
                  have HR10 := Bx.mk (HR9.out.step HSj (fun ad ha h0 e => by cases ha; dsimp only at e; omega))
                  have hown6 := HBI.out.own.lt
                  have hwo : Bx (WOk wr (w1.heap.size + 1 + 1) v6 ((gi (cyc x.1) 0, some ⟨b5, off5, none⟩, (cyc x.1).length, c5), (gi (cyc x.1) 0, cyc x.1))) := ⟨rfl, hc5, HR10.out, fun ad ha h0 => by cases ha; exact ⟨by dsimp only; omega, fun e => by have := (hown6 _ e).2; dsimp only at this; omega⟩⟩
                  have hbs : Bx (w1.heap.size + 1 + 1 ≤ wr.heap.size) := ⟨by have := (Array.getElem?_eq_some_iff.1 HI10.out.out).1; omega⟩
                  have hlw : Bx (ws.length < 1099511627776) := ⟨by
                    have h1 := lonesF_len (tn.map firstR) p.V
                    have h2 := verts_len h0
                    have h3 := dartsAll_len p.E
                    rw [List.length_map] at hlW
                    omega⟩
                  have HSJ := Bx.mk HSj
                  have hNE6 : Bx (∀ k, v6.ownBlock = some k → w1.heap.size + 2 ≤ k) := ⟨fun k hk => (hown6 k hk).1⟩
                  clear hxb hown6 HSj
                  gi_wp2_with (gi_at_builtin; refine armIn_app_walk (fun _ => trivial) (w1.heap.size + 1 + 1) ws v6 HI10.out.own (gi (cyc x.1) 0, some ⟨b5, off5, none⟩, (cyc x.1).length, c5) (gi (cyc x.1) 0, cyc x.1) hwo.out rfl rfl rfl rfl hbs.out hlw.out ?_; intro v1 w11 ho11 hs11; obtain ⟨A7, n7, c7, hv7⟩ := ho11.shape'; subst hv7; have hob11 := Bx.mk (hs11.heap HI10.out.out (fun e => by have := hNE6.out _ e.symm; omega)); have hc11 : w11.cell? ⟨w1.heap.size + 1, 0, none⟩ = some v6 := cell_of_row w11 _ 0 _ _ _ hob11.out; have hf11 := frozen_of_row w11 (w1.heap.size + 1) 0 hob11.out)
                  have hset := Step.setCell (F := fun k => k = w1.heap.size + 1) w11 (p := ⟨w1.heap.size + 1, 0, none⟩) rfl (.slice A7 n7 c7)
                  have hfin := HI10.out.app (by simp) hs11 ho11 (by omega) (by omega)
                  have hmk := HI10.out.own
                  have hz95 := HSJ.out.size
                  refine ⟨?_, ?_, ⟨.slice A7 n7 c7, ?_⟩, ?_⟩
                  · refine KeepsFrom.trans (keepsFrom_step (Step.of_below hB69.b) fun k o hB hk ho e => by have := (Array.getElem?_eq_some_iff.1 hk).1; omega) ?_
                    refine KeepsFrom.trans (keepsFrom_step HSJ.out fun k o hB hk ho e => by omega) ?_
                    refine KeepsFrom.trans (keepsFrom_step hs11 fun k o hB hk ho => hmk.mark hk ho) ?_
                    exact keepsFrom_step hset fun k o hB hk ho e => by omega
                  · have hzz := hB69.size
                    refine (hB69.b.mono (by omega)).trans ((HSJ.out.below (by omega) fun k hk e => by omega).trans ((hs11.below (by omega) fun k hk e => by have := hNE6.out _ e.symm; omega).trans (hset.below ?_ fun k hk e => by omega)))
                    have := hs11.size
                    omega
                  · rw [hnx.out, hadd.out]
                    exact hfin
                  · have hd9 := hB69.b.block D (Array.getElem?_eq_some_iff.1 HDM.out).1
                    have hd10 := HSJ.out.heap (hd9.trans HDM.out) (by omega)
                    exact hset.heap (hs11.heap hd10 (hmk.mark hd10 rfl)) (by omega)
          case done =>
            rintro D2 xs2 W7 hD2 hxs2 ⟨⟨v7, HI⟩, hDm⟩ hK2
            have hws : Bx (((xs2.map Subtype.val).foldl (addW cyc) (lonesF (tn.map firstR) p.V)).length < 1099511627776) := ⟨by
              rw [hxs2]
              have h1 := foldW_len cyc (dartsAll p.E) (lonesF (tn.map firstR) p.V)
              have h2 := lonesF_len (tn.map firstR) p.V
              have h3 := verts_len h0
              have h4 := dartsAll_len p.E
              omega⟩
            have hcO : W7.cell? ⟨w1.heap.size + 1, 0, none⟩ = some v7 := cell_of_row W7 _ 0 _ _ _ HI.out
            have HNE7 : Bx (∀ k, v7.ownBlock = some k → w1.heap.size + 2 ≤ k) := ⟨fun k hk => (HI.own.lt k hk).1⟩
            have HBI := Bx.mk HI
            have HK2 := Bx.mk hK2
            have HDm := Bx.mk hDm
            clear HI hK2 hDm
            go_wp2_with (go_at_call 54; refine (sortW_any _ v7 _ _ HBI.out.own hws.out).mono ?_; rintro e w8 ⟨rfl, ⟨us, hus1, hus2, hus3⟩, hs8⟩; have hob8 := Bx.mk (hs8.heap HBI.out.out (fun e => by have := HNE7.out _ e.symm; omega)); have hc8 : w8.cell? ⟨w1.heap.size + 1, 0, none⟩ = some v7 := cell_of_row w8 _ 0 _ _ _ hob8.out)
            have hk8 := hs8.heap HK2.out (HBI.out.own.mark HK2.out rfl)
            have hd8 := hs8.heap HDm.out (HBI.out.own.mark HDm.out rfl)
            have hDD : D ≠ D2 := by omega
            have hbb : BB (w1.alloc (.cells #[.pointer (some ad)] 81)) w8 := HBI.out.bb.ownW HBI.out.own (by simp) hs8
            have hd9 : (w8.putObj D2 (.deferred none)).heap[D]? = some (.deferred (some [])) := (World.putObj_heap_other (by omega)).trans hd8
            refine ⟨by simp, .inl ⟨_, _, rfl, run_takeDeferred hk8, by simp, .inl ⟨_, _, rfl, run_takeDeferred hd9, ?_⟩⟩⟩
            refine ⟨_, results_tmp2 rfl _ _ _, ⟨v7, ret_pair_i h0.symm, ?_⟩, ?_⟩
            · rw [if_pos h0]
              rw [hxs2] at hus1
              rw [hcyc.out] at hus1
              exact ⟨us, hus1, hus2, (((hus3.put hk8 rfl _).put hd9 rfl _).mono (by omega))⟩
            · exact ((HB1.al _).trans hbb).b.trans ((belowK_b (w := w) (Nat.le_refl _) w8 D2 _ _ (by omega) hk8 rfl rfl).trans (belowK_b (w := w) (Nat.le_refl _) _ D _ _ (by omega) hd9 rfl rfl))
end Go.Proofs.YtefhmlgepnlaoaaGreat
