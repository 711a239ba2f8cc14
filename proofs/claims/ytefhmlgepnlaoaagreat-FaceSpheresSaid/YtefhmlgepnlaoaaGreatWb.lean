/- Words: rows of the call's own, over this seat's program; append. -/
import Derived.Test.YtefhmlgepnlaoaaGreatProg
import Derived.Test.YtefhmlgepnlaoaaGreatWa
import Derived.Deep.AppendLies
set_option linter.unusedVariables false
set_option linter.unusedSimpArgs false
namespace Go.Proofs.YtefhmlgepnlaoaaGreat
open Go.RowKit

theorem info_int : (Tryz.prog.info? 3).map (fun i => (i.zero, i.size, i.bytes)) = some (some (.int .i64 0), 1, 8) := by kernel_rfl
theorem info_ints : (Tryz.prog.info? 25).map (fun i => (i.zero, i.size, i.bytes)) = some (some (.slice none 0 0), 1, 24) := by kernel_rfl

/-- A row of whole numbers of the call's own, in a block from base on. -/
structure OwnI (w : World) (base : Nat) (v : Value) (xs : List Int) : Prop where
  o : w.ownsRow base 3 1 v xs.length (xs.map (Value.int .i64))
theorem OwnI.nil (w : World) (base : Nat) : OwnI w base (.slice none 0 0) [] := ⟨World.ownsRow_nil w base _ _⟩
theorem OwnI.lit0 (w : World) (base : Nat) (hb : base ≤ w.heap.size) : OwnI (w.alloc (.cells #[] 3)) base (.slice (some ⟨w.heap.size, 0, none⟩) 0 0) [] :=
  ⟨World.ownsRow_made w #[] 0 hb (by simp [maxLen]) rfl⟩
theorem OwnI.step {F : Nat → Prop} {w w' : World} {base : Nat} {v : Value} {xs : List Int} (h : OwnI w base v xs) (hs : Step F w w') (hf : ∀ k, v.ownBlock = some k → ¬ F k) : OwnI w' base v xs := by
  obtain ⟨h1, h2⟩ := h.o
  refine ⟨h1, ?_⟩
  rcases h2 with h2 | ⟨g, cap, cur, rfl, hb, hg, hr⟩
  · exact .inl h2
  · exact .inr ⟨g, cap, cur, rfl, hb, (hs.block g (Array.getElem?_eq_some_iff.1 hg).1 (hf g rfl)).trans hg, hr⟩
theorem OwnI.lt {w : World} {base : Nat} {v : Value} {xs : List Int} (h : OwnI w base v xs) : ∀ k, v.ownBlock = some k → base ≤ k ∧ k < w.heap.size := h.o.lt
theorem OwnI.below {w w' : World} {base : Nat} {v : Value} {xs : List Int} (h : OwnI w base v xs) (hb : Below w.heap.size w w') : OwnI w' base v xs :=
  h.step (Step.of_below hb) fun k hk => by have := h.lt k hk; omega
theorem OwnI.alloc {w : World} {base : Nat} {v : Value} {xs : List Int} (h : OwnI w base v xs) (o : Obj) : OwnI (w.alloc o) base v xs := ⟨h.o.alloc o⟩
theorem OwnI.drawn {w : World} {base : Nat} {v : Value} {xs : List Int} (h : OwnI w base v xs) (n : Nat) : OwnI (w.drewN n) base v xs := h.step (Step.drewN (fun _ => False) w n) fun _ _ h => h
theorem OwnI.mono {w : World} {base base' : Nat} {v : Value} {xs : List Int} (h : OwnI w base v xs) (hb : base' ≤ base) : OwnI w base' v xs := by
  obtain ⟨h1, h2⟩ := h.o
  refine ⟨h1, ?_⟩
  rcases h2 with h2 | ⟨g, cap, cur, rfl, hb', hr⟩
  · exact .inl h2
  · exact .inr ⟨g, cap, cur, rfl, by omega, hr⟩
/-- What is owned is a slice that is read. -/
theorem OwnI.read {w : World} {base : Nat} {v : Value} {xs : List Int} (h : OwnI w base v xs) (hl : xs.length ≤ 17592186044416) :
    ∃ A c, v = .slice A xs.length c ∧ xs.length ≤ c ∧ RI w A xs.length xs ∧ (∀ a, A = some a → base ≤ a.block ∧ v.ownBlock = some a.block) := by
  rcases h.o.2 with ⟨rfl, hn⟩ | ⟨g, cap, cur, rfl, hb, hg, hc, hm, hs, ht⟩
  · have : xs = [] := List.eq_nil_of_length_eq_zero hn
    subst this
    exact ⟨none, 0, rfl, Nat.le_refl _, RI.nil w none, fun a ha => by cases ha⟩
  · refine ⟨_, cap, rfl, hc, ⟨rfl, hl, fun h0 => ⟨g, 0, rfl, fun j hj => ?_⟩⟩, fun a ha => by cases ha; exact ⟨hb, rfl⟩⟩
    rw [Nat.zero_add, cell_of_row w g j cur _ _ hg, ← ht, List.getElem?_take, if_pos (by simpa using hj)]
    simp

theorem elem_ints : Tryz.prog.elem 25 = 3 := by kernel_rfl
theorem under_ints : Tryz.prog.underlying 25 = some (.slice (Tryz.prog.elem 25)) := by rw [elem_ints]; exact Tryz.underlying25
theorem sizeOf_int (W : World) : (sizeOf 3).run Tryz.prog W = .ok 1 W := by
  obtain ⟨i0, hi, hzz⟩ := Option.map_eq_some_iff.1 info_int
  simp only [Prod.mk.injEq] at hzz
  simp [sizeOf, typeInfo, hi, hzz.2.1]
/-- xs[m:] -/
theorem cut_l (A : Option Addr) (n c m : Nat) (hm : m ≤ n) (hnc : n ≤ c) :
    ∃ A' : Option Addr, (∀ W : World, (Instr.slice 25 (.slice A n c) (some (.int .i64 (m : Int))) none none).run Tryz.prog W = .ok (.slice A' (n - m) (c - m)) W) ∧
      (∀ (w : World) (xs : List Int), RI w A n xs → RI w A' (n - m) (xs.drop m)) ∧ (∀ a, A' = some a → ∃ a0, A = some a0 ∧ a0.block = a.block) := by
  refine ⟨if c = m then A else A.map (·.add m), fun W => ?_, fun w xs h => h.drop m hm fun hlt => if_neg (by omega), fun a ha => ?_⟩
  · rw [run_slice_l W 25 A n c under_ints .i64 (m : Int) (Int.natCast_nonneg _) (by omega), elem_ints, sizeOf_int]
    simp [Result.andThen, sliced]
  · split at ha
    · exact ⟨a, ha, rfl⟩
    · cases A with
      | none => cases ha
      | some a0 =>
        refine ⟨a0, rfl, ?_⟩
        cases ha
        unfold Addr.add
        split <;> rfl
/-- xs[:m:m] -/
theorem cut_hm (A : Option Addr) (n c m : Nat) (hm : m ≤ n) (hnc : n ≤ c) (W : World) : (Instr.slice 25 (.slice A n c) none (some (.int .i64 (m : Int))) (some (.int .i64 (m : Int)))).run Tryz.prog W = .ok (.slice (if m = 0 then A else A.map (·.add 0)) m m) W := by
  rw [run_slice_hm W 25 A n c under_ints .i64 .i64 (m : Int) (m : Int) (Int.natCast_nonneg _) (by omega) (by omega), elem_ints, sizeOf_int]
  simp [Result.andThen, sliced]

section
variable {ops : Array Oper} {rest : List Oper} {o : Oper} {a : Act} {Q : Exit → Act → World → Prop}

/-- append(v, y) behind the box of y, elements of any size: what the operation does. -/
theorem app_own_wp {K : Act → World → Prop} {W : World} (base : Nat) (e : TypeId) (size bytes : Nat) (z : Value) (hinfo : (Tryz.prog.info? e).map (fun i => (i.zero, i.size, i.bytes)) = some (some z, size, bytes)) (hz : z.cells.size = size) (hs0 : 0 < size) (hb0 : 0 < bytes) (hb1 : bytes ≤ 64)
    {s x : Operand} {t : TypeId} (ht : Tryz.prog.underlying t = some (.slice e)) (ho : o.op = .call { callee := .builtin .append, args := #[s, x], argTypes := #[t, t] })
    (v : Value) (n : Nat) (xs : List Value) (ys : Array Value) (hs : a.eval s = v) (hx : a.eval x = .slice (some ⟨W.heap.size, 0, none⟩) 1 1) (hys : ys.size = size) (h1 : ∀ u ∈ ys.toList, u.oneCell' = true)
    (HO : W.ownsRow base e size v n xs) (hbase : base ≤ W.heap.size) (hl : n < 1099511627776)
    (h : ∀ v1 w1, w1.ownsRow base e size v1 (n + 1) (xs ++ ys.toList) → Step (fun k => some k = v.ownBlock) W w1 → (v1.ownBlock = v.ownBlock ∨ ∃ b, v1.ownBlock = some b ∧ W.heap.size ≤ b) → K (a.put o.dst v1) w1) :
    o.wp Tryz.prog a (W.alloc (.cells ys e)) K Q := by
  obtain ⟨i0, hi, hzz⟩ := Option.map_eq_some_iff.1 hinfo
  simp only [Prod.mk.injEq] at hzz
  obtain ⟨hz0, hz1, hz2⟩ := hzz
  have hbb : (n + 1) * bytes ≤ 140737488355328 := Nat.le_trans (Nat.mul_le_mul (show n + 1 ≤ 1099511627776 by omega) hb1) (by decide)
  obtain ⟨v1, w1, hr, hown, hg, _, hat⟩ := run_append_own_at (P := Tryz.prog) (W.alloc (.cells ys e)) base t o.type e i0 z size bytes ht hi hz0 hz1 hz2 hz hs0 v n xs (HO.alloc _) ⟨W.heap.size, 0, none⟩ 1 1 ys.toList (by simp [hys])
    (World.news_of_block (cs := ys) (t := e) (fr := (0, 0)) (heap_alloc_new W _)) h1 (by simp only [maxLen]; omega) hbb (by simp; omega)
  unfold Oper.wp execOp
  simp only [ho, resolve, invoke, builtin, Sem.run_bind, Sem.run_pure, Result.andThen_ok, List.map_toArray, List.map_cons, List.map_nil, hs, hx, hr]
  refine h v1 w1 hown ?_ ?_
  · exact Step.of_grown (World.grownBy.trans (World.grownBy_alloc W (.cells ys e) v.ownBlock) hg)
  · rcases hat with hat | hat
    · exact .inl hat
    · exact .inr ⟨_, hat, by simp⟩
/-- The same for whole numbers. -/
theorem app_int {W : World} (base : Nat) (xs : List Int) (v : Value) (HO : OwnI W base v xs) (y : Int) {s x : Operand} (hgd : o.guard = none)
    (ho : o.op = .call { callee := .builtin .append, args := #[s, x], argTypes := #[25, 25] }) (hs : a.eval s = v) (hx : a.eval x = .slice (some ⟨W.heap.size, 0, none⟩) 1 1)
    (hbase : base ≤ W.heap.size) (hl : xs.length < 1099511627776)
    (h : ∀ v1 w1, OwnI w1 base v1 (xs ++ [y]) → Step (fun k => some k = v.ownBlock) W w1 → (v1.ownBlock = v.ownBlock ∨ ∃ b, v1.ownBlock = some b ∧ W.heap.size ≤ b) → wpList Tryz.prog ops Q rest (a.put o.dst v1) w1) :
    wpList Tryz.prog ops Q (o :: rest) a (W.alloc (.cells #[.int .i64 y] 3)) :=
  wpList_plain hgd fun K hK => app_own_wp base _ 1 8 _ info_int rfl (by decide) (by decide) (by decide) Tryz.underlying25 ho v xs.length (xs.map (Value.int .i64)) #[.int .i64 y] hs hx rfl (by simp [Value.oneCell']) HO.o hbase hl
    fun v1 w1 h1 h2 h3 => hK _ _ (h v1 w1 ⟨by simpa using h1⟩ h2 h3)
/-- append(v, ys...), ys a slice of whole numbers that is read. -/
theorem app_row_wp {K : Act → World → Prop} {W : World} (base : Nat) (xs : List Int) (v : Value) (HO : OwnI W base v xs) (ys : List Int) (A : Option Addr) (m c : Nat) (HR : RI W A m ys) {s x : Operand} 
    (ho : o.op = .call { callee := .builtin .append, args := #[s, x], argTypes := #[25, 25] }) (hs : a.eval s = v) (hx : a.eval x = .slice A m c)
    (hbase : base ≤ W.heap.size) (hl : xs.length + ys.length < 1099511627776)
    (h : ∀ v1 w1, OwnI w1 base v1 (xs ++ ys) → Step (fun k => some k = v.ownBlock) W w1 → (v1.ownBlock = v.ownBlock ∨ ∃ b, v1.ownBlock = some b ∧ W.heap.size ≤ b) → K (a.put o.dst v1) w1) : o.wp Tryz.prog a W K Q := by
  obtain ⟨i0, hi, hzz⟩ := Option.map_eq_some_iff.1 info_int
  simp only [Prod.mk.injEq] at hzz
  obtain ⟨hz0, hz1, hz2⟩ := hzz
  have hm : ys.length = m := HR.len
  have ht : Tryz.prog.underlying 25 = some (.slice 3) := Tryz.underlying25
  have hrun : ∃ v1 w1, (Builtin.append_ #[25, 25] o.type #[v, .slice A m c]).run Tryz.prog W = .ok v1 w1 ∧ OwnI w1 base v1 (xs ++ ys) ∧ W.grownBy w1 v.ownBlock ∧ (v1.ownBlock = v.ownBlock ∨ v1.ownBlock = some W.heap.size) := by
    rcases Nat.eq_zero_or_pos m with h0 | h0
    · subst h0
      have hys : ys = [] := List.eq_nil_of_length_eq_zero hm
      subst hys
      refine ⟨v, W, ?_, by simpa using HO, World.grownBy.refl W _, .inl rfl⟩
      rcases HO.o.2 with ⟨rfl, hn⟩ | ⟨g, cap, cur, rfl, hb, hg, hnc, _⟩
      · cases A <;> simp [Builtin.append_, run_underlying ht, sizeOf, typeInfo, hi, Builtin.lenOf, Builtin.firstCells, loadCells, loadCellsFrom]
      · cases A <;> simp [Builtin.append_, run_underlying ht, sizeOf, typeInfo, hi, Builtin.lenOf, Builtin.firstCells, hnc, storeCells, loadCells, loadCellsFrom]
    · obtain ⟨b, off, rfl, hc⟩ := HR.rc (by simpa [hm] using h0)
      have hcells : ∀ j u, (ys.map (Value.int .i64))[j]? = some u → W.cell? ((⟨b, off, none⟩ : Addr).add j) = some u := by
        intro j u hu
        have hj := (List.getElem?_eq_some_iff.1 hu).1
        rw [Addr.add_lit, hc j hj, hu]
      have hb := HO.o
      obtain ⟨v1, w1, hr, h2, h3, _, h5⟩ := run_append_own_at (P := Tryz.prog) W base 25 o.type 3 i0 (.int .i64 0) 1 8 ht hi hz0 hz1 hz2 rfl (by omega) v xs.length (xs.map (Value.int .i64)) hb ⟨b, off, none⟩ m c (ys.map (Value.int .i64)) (by simp [hm]) hcells
        (by intro u hu; obtain ⟨q, _, rfl⟩ := List.mem_map.1 hu; rfl) (by simp only [maxLen]; omega) (by omega) hbase
      exact ⟨v1, w1, hr, ⟨by simpa [hm] using h2⟩, h3, h5⟩
  obtain ⟨v1, w1, hr, hown, hg, hat⟩ := hrun
  unfold Oper.wp execOp
  simp only [ho, resolve, invoke, builtin, Sem.run_bind, Sem.run_pure, Result.andThen_ok, List.map_toArray, List.map_cons, List.map_nil, hs, hx, hr]
  refine h v1 w1 hown (Step.of_grown hg) ?_
  rcases hat with hat | hat
  · exact .inl hat
  · exact .inr ⟨_, hat, Nat.le_refl _⟩
theorem app_row {W : World} (base : Nat) (xs : List Int) (v : Value) (HO : OwnI W base v xs) (ys : List Int) (A : Option Addr) (m c : Nat) (HR : RI W A m ys) {s x : Operand} (hgd : o.guard = none)
    (ho : o.op = .call { callee := .builtin .append, args := #[s, x], argTypes := #[25, 25] }) (hs : a.eval s = v) (hx : a.eval x = .slice A m c)
    (hbase : base ≤ W.heap.size) (hl : xs.length + ys.length < 1099511627776)
    (h : ∀ v1 w1, OwnI w1 base v1 (xs ++ ys) → Step (fun k => some k = v.ownBlock) W w1 → (v1.ownBlock = v.ownBlock ∨ ∃ b, v1.ownBlock = some b ∧ W.heap.size ≤ b) → wpList Tryz.prog ops Q rest (a.put o.dst v1) w1) :
    wpList Tryz.prog ops Q (o :: rest) a W :=
  wpList_plain hgd fun K hK => app_row_wp base xs v HO ys A m c HR ho hs hx hbase hl fun v1 w1 h1 h2 h3 => hK _ _ (h v1 w1 h1 h2 h3)
/-- The same as one step of a region that draws. -/
theorem step_app_row {K : Act → World → Prop} {E : Prop} {W : World} (base : Nat) (xs : List Int) (v : Value) (HO : OwnI W base v xs) (ys : List Int) (A : Option Addr) (m c : Nat) (HR : RI W A m ys) {s x : Operand} (hgd : o.guard = none)
    (ho : o.op = .call { callee := .builtin .append, args := #[s, x], argTypes := #[25, 25] }) (hs : a.eval s = v) (hx : a.eval x = .slice A m c)
    (hbase : base ≤ W.heap.size) (hl : xs.length + ys.length < 1099511627776)
    (h : ∀ v1 w1, OwnI w1 base v1 (xs ++ ys) → Step (fun k => some k = v.ownBlock) W w1 → (v1.ownBlock = v.ownBlock ∨ ∃ b, v1.ownBlock = some b ∧ W.heap.size ≤ b) → K (a.put o.dst v1) w1) :
    if Region.wanted o (yielded ops a.tmps) = true then Oper.wp Tryz.prog o a W K Q else E := by
  rw [if_pos (by simp [Region.wanted, hgd])]
  exact app_row_wp base xs v HO ys A m c HR ho hs hx hbase hl h
end

/-- A later world of w0 behind a write to a row of the call's own. -/
theorem BB.own {w0 wr w1 : World} {base : Nat} {v : Value} {xs : List Int} (h : BB w0 wr) (HO : OwnI wr base v xs) (hb : w0.heap.size ≤ base) (hs : Step (fun k => some k = v.ownBlock) wr w1) : BB w0 w1 :=
  ⟨h.b.trans (hs.below h.size fun k hk hF => by have := HO.lt k hF.symm; omega)⟩

/-- A row of lists of the call's own; the lists lie in blocks from base on, none of them in the row's block. -/
structure OwnL (w : World) (base : Nat) (v : Value) (xss : List (List Int)) : Prop where
  o : ∃ vs, w.ownsRow base 25 1 v xss.length vs ∧ ∀ j, j < xss.length → ∃ a m c, vs[j]? = some (.slice a m c) ∧ m ≤ c ∧ RI w a m (xss.getD j []) ∧ ∀ ad, a = some ad → 0 < m → base ≤ ad.block ∧ v.ownBlock ≠ some ad.block
theorem OwnL.nil (w : World) (base : Nat) : OwnL w base (.slice none 0 0) [] := ⟨[], World.ownsRow_nil w base _ _, fun j hj => by simp at hj⟩
theorem RI.blk {w : World} {A : Option Addr} {n : Nat} {xs : List Int} (h : RI w A n xs) {a : Addr} (ha : A = some a) (h0 : 0 < n) : a.block < w.heap.size := h.rc.lt ha (by rw [List.length_map, h.len]; exact h0)
theorem OwnL.step {F : Nat → Prop} {w w' : World} {base : Nat} {v : Value} {xss : List (List Int)} (h : OwnL w base v xss) (hs : Step F w w') (hf : ∀ k, base ≤ k → k < w.heap.size → ¬ F k) : OwnL w' base v xss := by
  obtain ⟨vs, h1, h2⟩ := h.o
  refine ⟨vs, ⟨h1.1, ?_⟩, fun j hj => ?_⟩
  · rcases h1.2 with h3 | ⟨g, cap, cur, rfl, hb, hg, hr⟩
    · exact .inl h3
    · have hlt := (Array.getElem?_eq_some_iff.1 hg).1
      exact .inr ⟨g, cap, cur, rfl, hb, (hs.block g hlt (hf g hb hlt)).trans hg, hr⟩
  · obtain ⟨a, m, c, h4, h5, h6, h7⟩ := h2 j hj
    exact ⟨a, m, c, h4, h5, h6.step hs fun ad ha h0 => hf _ (h7 ad ha h0).1 (h6.blk ha h0), h7⟩
theorem OwnL.below {w w' : World} {base : Nat} {v : Value} {xss : List (List Int)} (h : OwnL w base v xss) (hb : Below w.heap.size w w') : OwnL w' base v xss :=
  h.step (Step.of_below hb) fun k _ hk hF => by omega
theorem OwnL.read {w : World} {base : Nat} {v : Value} {xss : List (List Int)} (h : OwnL w base v xss) (hl : xss.length ≤ 17592186044416) :
    ∃ A c, v = .slice A xss.length c ∧ xss.length ≤ c ∧ RL w A xss.length xss ∧ (∀ a, A = some a → base ≤ a.block ∧ v.ownBlock = some a.block) := by
  obtain ⟨vs, h1, h2⟩ := h.o
  have hvl : vs.length = xss.length := by have := h1.1; omega
  have h2' : ∀ j, j < xss.length → ∃ a m c, vs[j]? = some (.slice a m c) ∧ m ≤ c ∧ RI w a m (xss.getD j []) := fun j hj => by
    obtain ⟨a, m, c, h4, h5, h6, _⟩ := h2 j hj
    exact ⟨a, m, c, h4, h5, h6⟩
  rcases h1.2 with ⟨rfl, hn⟩ | ⟨g, cap, cur, rfl, hb, hg, hc, hm, hs, ht⟩
  · have : xss = [] := List.eq_nil_of_length_eq_zero hn
    subst this
    exact ⟨none, 0, rfl, Nat.le_refl _, ⟨rfl, by simp, vs, hvl, fun h0 => by simp [hvl] at h0, h2'⟩, fun a ha => by cases ha⟩
  · refine ⟨_, cap, rfl, hc, ⟨rfl, hl, vs, hvl, fun h0 => ⟨g, 0, rfl, fun j hj => ?_⟩, h2'⟩, fun a ha => by cases ha; exact ⟨hb, rfl⟩⟩
    rw [Nat.zero_add, cell_of_row w g j cur _ _ hg, ← ht, List.getElem?_take, if_pos (by omega)]
    simp
theorem OwnL.lt {w : World} {base : Nat} {v : Value} {xss : List (List Int)} (h : OwnL w base v xss) : ∀ k, v.ownBlock = some k → base ≤ k ∧ k < w.heap.size := by
  obtain ⟨vs, h1, h2⟩ := h.o
  exact h1.lt
theorem BB.ownL {w0 wr w1 : World} {base : Nat} {v : Value} {xss : List (List Int)} (h : BB w0 wr) (HO : OwnL wr base v xss) (hb : w0.heap.size ≤ base) (hs : Step (fun k => some k = v.ownBlock) wr w1) : BB w0 w1 :=
  ⟨h.b.trans (hs.below h.size fun k hk hF => by have := HO.lt k hF.symm; omega)⟩

section
variable {ops : Array Oper} {rest : List Oper} {o : Oper} {a : Act} {Q : Exit → Act → World → Prop}
/-- append(v, l), l a list that is read, in a block from base on that isn't the row's. -/
theorem app_list_wp {K : Act → World → Prop} {W : World} (base : Nat) (xss : List (List Int)) (v : Value) (HO : OwnL W base v xss) (ys : List Int) (A : Option Addr) (m c : Nat) (hmc : m ≤ c) (HR : RI W A m ys) (hne : ∀ ad, A = some ad → 0 < m → base ≤ ad.block ∧ v.ownBlock ≠ some ad.block) {s x : Operand}
    (ho : o.op = .call { callee := .builtin .append, args := #[s, x], argTypes := #[28, 28] }) (hs : a.eval s = v) (hx : a.eval x = .slice (some ⟨W.heap.size, 0, none⟩) 1 1)
    (hbase : base ≤ W.heap.size) (hl : xss.length < 1099511627776)
    (h : ∀ v1 w1, OwnL w1 base v1 (xss ++ [ys]) → Step (fun k => some k = v.ownBlock) W w1 → (v1.ownBlock = v.ownBlock ∨ ∃ b, v1.ownBlock = some b ∧ W.heap.size ≤ b) → K (a.put o.dst v1) w1) :
    o.wp Tryz.prog a (W.alloc (.cells #[.slice A m c] 25)) K Q := by
  obtain ⟨vs, h1, h2⟩ := HO.o
  have hvl : vs.length = xss.length := by have := h1.1; omega
  refine app_own_wp base _ 1 24 _ info_ints rfl (by decide) (by decide) (by decide) Tryz.underlying28 ho v xss.length vs #[.slice A m c] hs hx rfl (by simp [Value.oneCell']) h1 hbase hl fun v1 w1 h3 h4 h5 => h v1 w1 ⟨vs ++ [.slice A m c], by simpa using h3, fun j hj => ?_⟩ h4 h5
  have new : ∀ ad : Addr, ad.block < W.heap.size → v.ownBlock ≠ some ad.block → v1.ownBlock ≠ some ad.block := fun ad hlt hn e => by
    rcases h5 with h5 | ⟨b, h5, hb⟩
    · exact hn (h5 ▸ e)
    · rw [h5] at e; cases e; omega
  rw [List.length_append, List.length_singleton] at hj
  rcases Nat.lt_or_eq_of_le (Nat.le_of_lt_succ hj) with hj | hj
  · obtain ⟨a', m', c', h6, h7, h8, h9⟩ := h2 j hj
    refine ⟨a', m', c', by rw [List.getElem?_append_left (by omega)]; exact h6, h7, ?_, fun ad ha h0 => ⟨(h9 ad ha h0).1, new ad (h8.blk ha h0) (h9 ad ha h0).2⟩⟩
    have e : (xss ++ [ys]).getD j [] = xss.getD j [] := by simp [List.getD_eq_getElem?_getD, List.getElem?_append_left hj]
    rw [e]
    exact h8.step h4 fun ad ha h0 hF => (h9 ad ha h0).2 hF.symm
  · subst hj
    refine ⟨A, m, c, by rw [List.getElem?_append_right (by omega), hvl]; simp, hmc, ?_, fun ad ha h0 => ⟨(hne ad ha h0).1, new ad (HR.blk ha h0) (hne ad ha h0).2⟩⟩
    have e : (xss ++ [ys]).getD xss.length [] = ys := by simp [List.getD_eq_getElem?_getD]
    rw [e]
    exact HR.step h4 fun ad ha h0 hF => (hne ad ha h0).2 hF.symm
theorem app_list {W : World} (base : Nat) (xss : List (List Int)) (v : Value) (HO : OwnL W base v xss) (ys : List Int) (A : Option Addr) (m c : Nat) (hmc : m ≤ c) (HR : RI W A m ys) (hne : ∀ ad, A = some ad → 0 < m → base ≤ ad.block ∧ v.ownBlock ≠ some ad.block) {s x : Operand} (hgd : o.guard = none)
    (ho : o.op = .call { callee := .builtin .append, args := #[s, x], argTypes := #[28, 28] }) (hs : a.eval s = v) (hx : a.eval x = .slice (some ⟨W.heap.size, 0, none⟩) 1 1)
    (hbase : base ≤ W.heap.size) (hl : xss.length < 1099511627776)
    (h : ∀ v1 w1, OwnL w1 base v1 (xss ++ [ys]) → Step (fun k => some k = v.ownBlock) W w1 → (v1.ownBlock = v.ownBlock ∨ ∃ b, v1.ownBlock = some b ∧ W.heap.size ≤ b) → wpList Tryz.prog ops Q rest (a.put o.dst v1) w1) :
    wpList Tryz.prog ops Q (o :: rest) a (W.alloc (.cells #[.slice A m c] 25)) :=
  wpList_plain hgd fun K hK => app_list_wp base xss v HO ys A m c hmc HR hne ho hs hx hbase hl fun v1 w1 h1 h2 h3 => hK _ _ (h v1 w1 h1 h2 h3)
theorem step_app_list {K : Act → World → Prop} {E : Prop} {W : World} (base : Nat) (xss : List (List Int)) (v : Value) (HO : OwnL W base v xss) (ys : List Int) (A : Option Addr) (m c : Nat) (hmc : m ≤ c) (HR : RI W A m ys) (hne : ∀ ad, A = some ad → 0 < m → base ≤ ad.block ∧ v.ownBlock ≠ some ad.block) {s x : Operand} (hgd : o.guard = none)
    (ho : o.op = .call { callee := .builtin .append, args := #[s, x], argTypes := #[28, 28] }) (hs : a.eval s = v) (hx : a.eval x = .slice (some ⟨W.heap.size, 0, none⟩) 1 1)
    (hbase : base ≤ W.heap.size) (hl : xss.length < 1099511627776)
    (h : ∀ v1 w1, OwnL w1 base v1 (xss ++ [ys]) → Step (fun k => some k = v.ownBlock) W w1 → (v1.ownBlock = v.ownBlock ∨ ∃ b, v1.ownBlock = some b ∧ W.heap.size ≤ b) → K (a.put o.dst v1) w1) :
    if Region.wanted o (yielded ops a.tmps) = true then Oper.wp Tryz.prog o a (W.alloc (.cells #[.slice A m c] 25)) K Q else E := by
  rw [if_pos (by simp [Region.wanted, hgd])]
  exact app_list_wp base xss v HO ys A m c hmc HR hne ho hs hx hbase hl h
end
end Go.Proofs.YtefhmlgepnlaoaaGreat
