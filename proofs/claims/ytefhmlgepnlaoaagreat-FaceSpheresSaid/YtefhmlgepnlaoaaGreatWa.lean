/- Words: data that is read (slices of whole numbers, of edges, of lists, structs), worlds that differ in few blocks. No program. -/
import Derived.WalkKit
import Derived.Test.YtefhmlgepnlaoaaGreatMa
import Derived.KernelRfl
import Derived.Deep.QuietTactic
import Derived.BigQuiet
import Derived.Maps.AppendAt
set_option linter.unusedVariables false
set_option linter.unusedSimpArgs false
namespace Go.Proofs.YtefhmlgepnlaoaaGreat
open Go.RowKit

/-- A fact that the walk's simp doesn't look into. -/
structure Bx (p : Prop) : Prop where
  out : p


/-- w' is w, but for blocks of F and new ones. -/
structure Step (F : Nat → Prop) (w w' : World) : Prop where
  os : w'.os = w.os
  tape : w'.tape = w.tape
  output : w'.output = w.output
  size : w.heap.size ≤ w'.heap.size
  block : ∀ k, k < w.heap.size → ¬ F k → w'.heap[k]? = w.heap[k]?

theorem Step.refl (F : Nat → Prop) (w : World) : Step F w w := ⟨rfl, rfl, rfl, Nat.le_refl _, fun _ _ _ => rfl⟩
theorem Step.trans {F : Nat → Prop} {a b c : World} (h : Step F a b) (k : Step F b c) : Step F a c :=
  ⟨k.os.trans h.os, k.tape.trans h.tape, k.output.trans h.output, Nat.le_trans h.size k.size, fun i hi hf => (k.block i (Nat.lt_of_lt_of_le hi h.size) hf).trans (h.block i hi hf)⟩
theorem Step.mono {F G : Nat → Prop} {a b : World} (h : Step F a b) (hg : ∀ k, k < a.heap.size → F k → G k) : Step G a b :=
  ⟨h.os, h.tape, h.output, h.size, fun i hi hf => h.block i hi fun hF => hf (hg i hi hF)⟩
/-- Two steps; what the second may turn beyond G is new since the first's begin. -/
theorem Step.then {F G : Nat → Prop} {a b c : World} (h : Step G a b) (k : Step F b c) (hf : ∀ i, i < a.heap.size → F i → G i) : Step G a c :=
  ⟨k.os.trans h.os, k.tape.trans h.tape, k.output.trans h.output, Nat.le_trans h.size k.size, fun i hi hg => (k.block i (Nat.lt_of_lt_of_le hi h.size) fun hF => hg (hf i hi hF)).trans (h.block i hi hg)⟩
theorem Step.of_below {B : Nat} {w w' : World} (h : Below B w w') : Step (fun k => B ≤ k) w w' := ⟨h.os, h.tape, h.output, h.size, fun k _ hk => h.block k (by omega)⟩
theorem Step.below {F : Nat → Prop} {B : Nat} {w w' : World} (h : Step F w w') (hB : B ≤ w.heap.size) (hF : ∀ k, k < B → ¬ F k) : Below B w w' := ⟨h.os, h.tape, h.output, h.size, fun k hk => h.block k (by omega) (hF k hk)⟩
theorem Step.of_grown {w w' : World} {row : Option Nat} (h : w.grownBy w' row) : Step (fun k => some k = row) w w' := ⟨h.os, h.tape, h.output, h.size, fun k hk hr => h.block k hk hr⟩
theorem Step.grown {w w' : World} {row : Option Nat} (h : Step (fun k => some k = row) w w') : w.grownBy w' row := ⟨h.os, h.tape, h.output, h.size, fun k hk hr => h.block k hk hr⟩
theorem Step.drew (F : Nat → Prop) (w : World) : Step F w w.drew := ⟨rfl, rfl, rfl, Nat.le_refl _, fun _ _ _ => rfl⟩
theorem Step.drewN (F : Nat → Prop) (w : World) (n : Nat) : Step F w (w.drewN n) := ⟨rfl, rfl, rfl, Nat.le_refl _, fun _ _ _ => rfl⟩
theorem Step.alloc (F : Nat → Prop) (w : World) (o : Obj) : Step F w (w.alloc o) := ⟨rfl, rfl, rfl, by simp, fun k hk _ => Below.heap_alloc _ _ _ hk⟩
theorem Step.setCell {F : Nat → Prop} (w : World) {p : Addr} (hp : F p.block) (u : Value) : Step F w (w.setCell p u) :=
  ⟨rfl, rfl, rfl, by simp [World.setCell], fun k hk hf => Below.heap_setCell _ _ _ _ (fun e => hf (e ▸ hp))⟩
theorem Step.cell {F : Nat → Prop} {w w' : World} (h : Step F w w') {a : Addr} {v : Value} (hc : w.cell? a = some v) (hf : ¬ F a.block) : w'.cell? a = some v :=
  (World.cell?_of_block (w := w) (h.block a.block (World.block_lt_of_cell? w a hc) hf)).trans hc

theorem setCell_size (w : World) (a : Addr) (v : Value) : (w.setCell a v).heap.size = w.heap.size := by simp [World.setCell]
theorem Below.lt_cell {w w' : World} (h : Below w.heap.size w w') {a : Addr} {v : Value} (hc : w.cell? a = some v) : w'.cell? a = some v :=
  (h.cell (World.block_lt_of_cell? w a hc)).trans hc
theorem below_any {B : Nat} {w w' : World} (h : Below w.heap.size w w') (hB : B ≤ w.heap.size) : Below B w w' := h.mono hB
theorem below_then {B : Nat} {w w1 w2 : World} (h : Below B w w1) (hB : B ≤ w1.heap.size) (k : Below w1.heap.size w1 w2) : Below B w w2 := h.trans (k.mono hB)
theorem below_alloc {B : Nat} {w : World} (hB : B ≤ w.heap.size) (o : Obj) : Below B w (w.alloc o) := (Below.refl _ _).alloc hB o
theorem below_drewN {B : Nat} {w W : World} (h : Below B w W) (n : Nat) : Below B w (W.drewN n) := ⟨h.os, h.tape, h.output, h.size, h.block⟩

/-- Cells that are read: element j (of sz cells each) of a slice begins at cell off + j * sz. -/
def RC (w : World) (A : Option Addr) (cs : List Value) : Prop :=
  0 < cs.length → ∃ b off, A = some ⟨b, off, none⟩ ∧ ∀ j, j < cs.length → w.cell? ⟨b, off + j, none⟩ = cs[j]?

theorem RC.step {F : Nat → Prop} {w w' : World} {A : Option Addr} {cs : List Value} (h : RC w A cs) (hs : Step F w w') (hf : ∀ a, A = some a → 0 < cs.length → ¬ F a.block) : RC w' A cs := by
  intro h0
  obtain ⟨b, off, rfl, hc⟩ := h h0
  refine ⟨b, off, rfl, fun j hj => ?_⟩
  have h1 := hc j hj
  rw [List.getElem?_eq_getElem hj] at h1 ⊢
  exact hs.cell h1 (show ¬ F b from hf ⟨b, off, none⟩ rfl h0)
theorem RC.lt {w : World} {A : Option Addr} {cs : List Value} (h : RC w A cs) {a : Addr} (ha : A = some a) (h0 : 0 < cs.length) : a.block < w.heap.size := by
  obtain ⟨b, off, e, hc⟩ := h h0
  have h1 := hc 0 h0
  rw [List.getElem?_eq_getElem h0] at h1
  have := World.block_lt_of_cell? w _ h1
  rw [ha] at e
  cases e
  exact this
theorem RC.below {w w' : World} {A : Option Addr} {cs : List Value} (h : RC w A cs) (hb : Below w.heap.size w w') : RC w' A cs :=
  h.step (Step.of_below hb) fun a ha h0 => by have := h.lt ha h0; omega
theorem RC.nil (w : World) (A : Option Addr) : RC w A [] := fun h => absurd h (by simp)

/-- A slice of whole numbers that is read. -/
structure RI (w : World) (A : Option Addr) (n : Nat) (xs : List Int) : Prop where
  len : xs.length = n
  le : n ≤ 17592186044416
  rc : RC w A (xs.map (Value.int .i64))
theorem RI.below {w w' : World} {A : Option Addr} {n : Nat} {xs : List Int} (h : RI w A n xs) (hb : Below w.heap.size w w') : RI w' A n xs := ⟨h.len, h.le, h.rc.below hb⟩
theorem RI.step {F : Nat → Prop} {w w' : World} {A : Option Addr} {n : Nat} {xs : List Int} (h : RI w A n xs) (hs : Step F w w') (hf : ∀ a, A = some a → 0 < n → ¬ F a.block) : RI w' A n xs :=
  ⟨h.len, h.le, h.rc.step hs fun a ha h0 => hf a ha (by simpa [h.len] using h0)⟩
theorem RI.at {w : World} {A : Option Addr} {n : Nat} {xs : List Int} (h : RI w A n xs) (h0 : 0 < n) : ∃ b off, A = some ⟨b, off, none⟩ ∧ ∀ j, j < n → w.cell? ⟨b, off + j, none⟩ = some (.int .i64 (gi xs j)) := by
  obtain ⟨b, off, e, hc⟩ := h.rc (by simpa [h.len] using h0)
  refine ⟨b, off, e, fun j hj => ?_⟩
  have hj' : j < xs.length := by rw [h.len]; exact hj
  rw [hc j (by simpa using hj')]
  simp [gi, hj', List.getD_eq_getElem?_getD]
theorem RI.nil (w : World) (A : Option Addr) : RI w A 0 [] := ⟨rfl, by omega, RC.nil w A⟩

theorem RI.take {w : World} {A : Option Addr} {n : Nat} {xs : List Int} (h : RI w A n xs) (m : Nat) (hm : m ≤ n) : RI w A m (xs.take m) := by
  have hl := h.len
  refine ⟨by rw [List.length_take]; omega, by have := h.le; omega, fun h0 => ?_⟩
  simp only [List.length_map, List.length_take] at h0
  obtain ⟨b, off, e, hc⟩ := h.rc (by rw [List.length_map]; omega)
  refine ⟨b, off, e, fun j hj => ?_⟩
  simp only [List.length_map, List.length_take] at hj
  rw [hc j (by rw [List.length_map]; omega), List.map_take, List.getElem?_take, if_pos (by omega)]
theorem addr_add (b off j : Nat) : (⟨b, off, none⟩ : Addr).add j = ⟨b, off + j, none⟩ := by
  unfold Addr.add
  split <;> simp_all
theorem RI.drop {w : World} {A : Option Addr} {n : Nat} {xs : List Int} (h : RI w A n xs) (m : Nat) (hm : m ≤ n) {A' : Option Addr} (hA : m < n → A' = A.map (·.add m)) : RI w A' (n - m) (xs.drop m) := by
  have hl := h.len
  refine ⟨by rw [List.length_drop]; omega, by have := h.le; omega, fun h0 => ?_⟩
  simp only [List.length_map, List.length_drop] at h0
  obtain ⟨b, off, e, hc⟩ := h.rc (by rw [List.length_map]; omega)
  subst e
  refine ⟨b, off + m, by rw [hA (by omega), Option.map_some, addr_add], fun j hj => ?_⟩
  simp only [List.length_map, List.length_drop] at hj
  have h1 := hc (m + j) (by rw [List.length_map]; omega)
  rw [Nat.add_assoc, h1, List.map_drop, List.getElem?_drop]

/-- A graph's edges: two cells each. -/
def edgeCells (es : List (Int × Int)) : List Value := es.flatMap fun e => [.int .i64 e.1, .int .i64 e.2]
theorem edgeCells_length (es : List (Int × Int)) : (edgeCells es).length = 2 * es.length := by
  induction es with
  | nil => rfl
  | cons e es ih => simp only [edgeCells, List.flatMap_cons, List.length_append, List.length_cons, List.length_nil] at ih ⊢; omega
theorem edgeCells_get (es : List (Int × Int)) : ∀ j (hj : j < es.length), (edgeCells es)[2 * j]? = some (.int .i64 es[j].1) ∧ (edgeCells es)[2 * j + 1]? = some (.int .i64 es[j].2) := by
  induction es with
  | nil => intro j hj; simp at hj
  | cons e es ih =>
    intro j hj
    cases j with
    | zero => simp [edgeCells]
    | succ j =>
      have := ih j (by simpa using hj)
      have h1 : edgeCells (e :: es) = .int .i64 e.1 :: .int .i64 e.2 :: edgeCells es := by simp [edgeCells]
      rw [h1, show 2 * (j + 1) = 2 * j + 1 + 1 by omega]
      simpa using this
/-- A slice of edges that is read. -/
structure RE (w : World) (A : Option Addr) (n : Nat) (es : List (Int × Int)) : Prop where
  len : es.length = n
  le : n ≤ 17592186044416
  rc : RC w A (edgeCells es)
theorem RE.below {w w' : World} {A : Option Addr} {n : Nat} {es : List (Int × Int)} (h : RE w A n es) (hb : Below w.heap.size w w') : RE w' A n es := ⟨h.len, h.le, h.rc.below hb⟩
theorem RE.at {w : World} {A : Option Addr} {n : Nat} {es : List (Int × Int)} (h : RE w A n es) (h0 : 0 < n) :
    ∃ b off, A = some ⟨b, off, none⟩ ∧ ∀ j, j < n → w.cell? ⟨b, off + j * 2, none⟩ = some (.int .i64 (ge es j).1) ∧ w.cell? ⟨b, off + j * 2 + 1, none⟩ = some (.int .i64 (ge es j).2) := by
  obtain ⟨b, off, e, hc⟩ := h.rc (by rw [edgeCells_length, h.len]; omega)
  refine ⟨b, off, e, fun j hj => ?_⟩
  have hj' : j < es.length := by rw [h.len]; exact hj
  have h1 := edgeCells_get es j hj'
  have e1 : ge es j = es[j] := by simp [ge, hj', List.getD_eq_getElem?_getD]
  rw [e1, Nat.mul_comm j 2, Nat.add_assoc]
  exact ⟨(hc _ (by rw [edgeCells_length]; omega)).trans h1.1, (hc _ (by rw [edgeCells_length]; omega)).trans h1.2⟩

/-- A slice of lists that is read. -/
structure RL (w : World) (A : Option Addr) (n : Nat) (xss : List (List Int)) : Prop where
  len : xss.length = n
  le : n ≤ 17592186044416
  rc : ∃ vs : List Value, vs.length = n ∧ RC w A vs ∧ ∀ j, j < n → ∃ a m c, vs[j]? = some (.slice a m c) ∧ m ≤ c ∧ RI w a m (xss.getD j [])
theorem RL.below {w w' : World} {A : Option Addr} {n : Nat} {xss : List (List Int)} (h : RL w A n xss) (hb : Below w.heap.size w w') : RL w' A n xss := by
  obtain ⟨vs, h1, h2, h3⟩ := h.rc
  refine ⟨h.len, h.le, vs, h1, h2.below hb, fun j hj => ?_⟩
  obtain ⟨a, m, c, h4, h5, h6⟩ := h3 j hj
  exact ⟨a, m, c, h4, h5, h6.below hb⟩
theorem RL.at {w : World} {A : Option Addr} {n : Nat} {xss : List (List Int)} (h : RL w A n xss) {j : Nat} (hj : j < n) :
    ∃ b off a m c, A = some ⟨b, off, none⟩ ∧ w.cell? ⟨b, off + j, none⟩ = some (.slice a m c) ∧ m ≤ c ∧ RI w a m (xss.getD j []) := by
  obtain ⟨vs, h1, h2, h3⟩ := h.rc
  obtain ⟨b, off, e, hc⟩ := h2 (by omega)
  obtain ⟨a, m, c, h4, h5, h6⟩ := h3 j hj
  exact ⟨b, off, a, m, c, e, (hc j (by omega)).trans h4, h5, h6⟩

theorem bcell {w w1 : World} (hb : Below w.heap.size w w1) : (∀ b o, b < w.heap.size → w1.cell? ⟨b, o, none⟩ = w.cell? ⟨b, o, none⟩) ∧ (∀ b o, b < w.heap.size → w1.frozen? ⟨b, o, none⟩ = w.frozen? ⟨b, o, none⟩) :=
  ⟨fun b o h => hb.cell (p := ⟨b, o, none⟩) h, fun b o h => hb.frozen (p := ⟨b, o, none⟩) h⟩
/-- wr is a later world of w0: nothing that lay in w0 has turned. -/
structure BB (w0 wr : World) : Prop where
  b : Below w0.heap.size w0 wr
theorem BB.trans {a b c : World} (h : BB a b) (k : BB b c) : BB a c := ⟨h.b.trans (k.b.mono h.b.size)⟩
theorem BB.refl (w : World) : BB w w := ⟨Below.refl _ _⟩
theorem BB.cell {w0 wr : World} (h : BB w0 wr) {a : Addr} {v : Value} (hc : w0.cell? a = some v) : wr.cell? a = some v := Below.lt_cell h.b hc
theorem BB.size {w0 wr : World} (h : BB w0 wr) : w0.heap.size ≤ wr.heap.size := h.b.size
theorem BB.call {w0 wr w1 : World} (h : BB w0 wr) (k : Below wr.heap.size wr w1) : BB w0 w1 := ⟨h.b.trans (k.mono h.b.size)⟩
theorem BB.al {w0 wr : World} (h : BB w0 wr) (o : Obj) : BB w0 (wr.alloc o) := ⟨h.b.alloc h.b.size o⟩
theorem BB.call1 {w0 wr w1 : World} {o : Obj} (h : BB w0 wr) (k : Below (wr.alloc o).heap.size (wr.alloc o) w1) : BB w0 w1 := (h.al o).call k
theorem BB.call2 {w0 wr w1 : World} {o o' : Obj} (h : BB w0 wr) (k : Below ((wr.alloc o).alloc o').heap.size ((wr.alloc o).alloc o') w1) : BB w0 w1 := ((h.al o).al o').call k
theorem BB.set {w0 wr : World} (h : BB w0 wr) {a : Addr} (ha : w0.heap.size ≤ a.block) (v : Value) : BB w0 (wr.setCell a v) := ⟨h.b.setCell ha v⟩
theorem BB.drawn {w0 wr : World} (h : BB w0 wr) (n : Nat) : BB w0 (wr.drewN n) := ⟨below_drewN h.b n⟩
theorem BB.under {w wr : World} {o : Obj} (h : BB (w.alloc o) wr) : BB w wr := ⟨(below_alloc (Nat.le_refl _) o).trans (h.b.mono (by simp))⟩
theorem BB.pos {w wr : World} {o : Obj} (h : BB (w.alloc o) wr) : w.heap.size < wr.heap.size := by have := h.b.size; simp at this; omega
theorem BB.pos2 {w wr : World} {o o' : Obj} (h : BB ((w.alloc o).alloc o') wr) : w.heap.size + 1 < wr.heap.size := by have := h.b.size; simp at this; omega
theorem BB.ri {w0 wr : World} (h : BB w0 wr) {A : Option Addr} {n : Nat} {xs : List Int} (k : RI w0 A n xs) : RI wr A n xs := k.below h.b
theorem BB.re {w0 wr : World} (h : BB w0 wr) {A : Option Addr} {n : Nat} {xs : List (Int × Int)} (k : RE w0 A n xs) : RE wr A n xs := k.below h.b
theorem BB.rl {w0 wr : World} (h : BB w0 wr) {A : Option Addr} {n : Nat} {xs : List (List Int)} (k : RL w0 A n xs) : RL wr A n xs := k.below h.b
theorem box_cell (w : World) (vs : Array Value) (t : TypeId) (fr : Nat × Nat) (j : Nat) : (w.alloc (.cells vs t fr)).cell? ⟨w.heap.size, j, none⟩ = vs[j]? :=
  cell_of_row (w.alloc (.cells vs t fr)) w.heap.size j vs t fr (heap_alloc_new w _)
theorem box_cell1 (w : World) (vs : Array Value) (t : TypeId) (fr : Nat × Nat) (o : Obj) (j : Nat) : ((w.alloc (.cells vs t fr)).alloc o).cell? ⟨w.heap.size, j, none⟩ = vs[j]? := by
  rw [← box_cell w vs t fr j]
  exact (below_alloc (Nat.le_refl _) o).cell (p := ⟨w.heap.size, j, none⟩) (by simp)
theorem box_cell2 (w : World) (vs : Array Value) (t : TypeId) (fr : Nat × Nat) (o : Obj) (j : Nat) : ((w.alloc o).alloc (.cells vs t fr)).cell? ⟨w.heap.size + 1, j, none⟩ = vs[j]? := by
  have := box_cell (w.alloc o) vs t fr j
  simpa using this
theorem ret_bool {a b : Bool} (h : a = b) : Ending.returned (.bool a) = .returned (.bool b) := by rw [h]
theorem ret_pair_b {p : Value} {a b : Bool} (h : a = b) : Ending.returned (.tuple #[p, .bool a]) = .returned (.tuple #[p, .bool b]) := by rw [h]
theorem ret_pair_i {p : Value} {k : IntKind} {a b : Int} (h : a = b) : Ending.returned (.tuple #[p, .int k a]) = .returned (.tuple #[p, .int k b]) := by rw [h]
theorem ret_int {k : IntKind} {a b : Int} (h : a = b) : Ending.returned (.int k a) = .returned (.int k b) := by rw [h]
end Go.Proofs.YtefhmlgepnlaoaaGreat
