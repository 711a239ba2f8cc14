/- Plain: graphs, parts, what is right. No program. -/
namespace Go.Proofs.YtefhmlgepnlaoaaGreat

/-- Element number i of a list. -/
def gi (xs : List Int) (i : Nat) : Int := xs.getD i 0
def ge (es : List (Int × Int)) (i : Nat) : Int × Int := es.getD i (0, 0)
theorem gi_eq {xs : List Int} {i : Nat} (h : i < xs.length) : gi xs i = xs[i] := by simp [gi, h, List.getD_eq_getElem?_getD]
theorem ge_eq {es : List (Int × Int)} {i : Nat} (h : i < es.length) : ge es i = es[i] := by simp [ge, h, List.getD_eq_getElem?_getD]
theorem gi_mem {xs : List Int} {i : Nat} (h : i < xs.length) : gi xs i ∈ xs := by rw [gi_eq h]; exact List.getElem_mem h

theorem nodup_inj {α : Type} {l : List α} (hn : l.Nodup) {i j : Nat} (hi : i < l.length) (hj : j < l.length) (h : l[i] = l[j]) : i = j := by
  have hp := List.pairwise_iff_getElem.1 (List.nodup_iff_pairwise_ne.1 hn)
  rcases Nat.lt_trichotomy i j with h1 | h1 | h1
  · exact absurd h (hp i j hi hj h1)
  · exact h1
  · exact absurd h.symm (hp j i hj hi h1)

/-- The first place of x; -1. -/
def idxFrom (k : Nat) : List Int → Int → Int
  | [], _ => -1
  | y :: ys, x => if x = y then k else idxFrom (k + 1) ys x
def idx (xs : List Int) (x : Int) : Int := idxFrom 0 xs x
theorem idxFrom_drop {xs : List Int} {x : Int} {k : Nat} (h : k < xs.length) : idxFrom k (xs.drop k) x = if x = gi xs k then (k : Int) else idxFrom (k + 1) (xs.drop (k + 1)) x := by
  rw [List.drop_eq_getElem_cons h, gi_eq h]; rfl
/-- The least of the first k, k from 1 on. -/
def minTo (xs : List Int) : Nat → Int
  | 0 => gi xs 0
  | 1 => gi xs 0
  | k + 2 => if gi xs (k + 1) < minTo xs (k + 1) then gi xs (k + 1) else minTo xs (k + 1)
def minL (xs : List Int) : Int := minTo xs xs.length
theorem minTo_succ (xs : List Int) (k : Nat) (hk : 1 ≤ k) : minTo xs (k + 1) = if gi xs k < minTo xs k then gi xs k else minTo xs k := by
  obtain ⟨j, rfl⟩ : ∃ j, k = j + 1 := ⟨k - 1, by omega⟩
  rfl

theorem idxFrom_mem (x : Int) : ∀ (xs : List Int) (k : Nat), x ∈ xs → (k : Int) ≤ idxFrom k xs x ∧ idxFrom k xs x < k + xs.length := by
  intro xs
  induction xs with
  | nil => intro k h; cases h
  | cons y ys ih =>
    intro k h
    unfold idxFrom
    split
    · simp only [List.length_cons]; omega
    · rename_i hne
      have := ih (k + 1) (by rcases List.mem_cons.1 h with h | h; exact absurd h hne; exact h)
      simp only [List.length_cons]; omega
theorem idx_mem {xs : List Int} {x : Int} (h : x ∈ xs) : 0 ≤ idx xs x ∧ idx xs x < xs.length := by
  have := idxFrom_mem x xs 0 h
  unfold idx; omega
theorem minTo_mem (xs : List Int) : ∀ k, 1 ≤ k → k ≤ xs.length → minTo xs k ∈ xs := by
  intro k
  induction k with
  | zero => intro h; omega
  | succ k ih =>
    intro _ h
    rcases Nat.eq_zero_or_pos k with hk | hk
    · subst hk; exact gi_mem (by omega)
    · rw [minTo_succ xs k hk]
      split
      · exact gi_mem (by omega)
      · exact ih hk (by omega)
theorem minL_mem {xs : List Int} (h : 0 < xs.length) : minL xs ∈ xs := minTo_mem xs _ h (Nat.le_refl _)
/-- ring.First -/
def rot (xs : List Int) (m : Nat) : List Int := xs.drop m ++ xs.take m
def firstR (xs : List Int) : List Int := rot xs (idx xs (minL xs)).toNat

structure Gr where
  N : Int
  E : List (Int × Int)
structure Pt where
  V : List Int
  E : List Int

/-- Rising from above 'last' on, below 'limit'. -/
def risesF (limit : Int) : Int → List Int → Bool
  | _, [] => true
  | last, x :: xs => if x ≤ last ∨ limit ≤ x then false else risesF limit x xs
def Gr.inside (g : Gr) (v : Int) : Bool := decide (0 ≤ v) && decide (v < g.N)
def Gr.endsOk (g : Gr) : List (Int × Int) → Bool
  | [] => true
  | e :: es => g.inside e.1 && (g.inside e.2 && g.endsOk es)
/-- graph.Right -/
def Gr.right (g : Gr) : Int :=
  if g.N < 0 then 3 else if 1024 < g.N ∨ 1024 - g.N < (g.E.length : Int) then 2 else if g.endsOk g.E then 0 else 3
def Gr.edge (g : Gr) (e : Int) : Int × Int := g.E.getD e.toNat (0, 0)
def Gr.partEnds (g : Gr) (V : List Int) : List Int → Bool
  | [] => true
  | e :: es => (decide ((g.edge e).1 ∈ V)) && (decide ((g.edge e).2 ∈ V) && g.partEnds V es)
/-- graph.RightPart -/
def Gr.rightPart (g : Gr) (p : Pt) : Int :=
  if g.right ≠ 0 then g.right else if risesF g.N (-1) p.V = false ∨ risesF g.E.length (-1) p.E = false then 4 else if g.partEnds p.V p.E then 0 else 4
/-- graph.Darts, of a right part -/
def Gr.dartsOf (g : Gr) (v : Int) : List Int → List Int
  | [] => []
  | e :: es => (if (g.edge e).1 = v then [2 * e] else []) ++ (if (g.edge e).2 = v then [2 * e + 1] else []) ++ g.dartsOf v es
def Gr.darts (g : Gr) (p : Pt) (v : Int) : List Int := if g.rightPart p ≠ 0 then [] else g.dartsOf v p.E

theorem risesF_sound (limit : Int) : ∀ (xs : List Int) (last : Int), risesF limit last xs = true → xs.Pairwise (· < ·) ∧ ∀ x ∈ xs, last < x ∧ x < limit := by
  intro xs
  induction xs with
  | nil => intro last _; simp
  | cons x xs ih =>
    intro last h
    unfold risesF at h
    split at h
    · cases h
    · rename_i hc
      obtain ⟨h1, h2⟩ := ih x h
      refine ⟨List.pairwise_cons.2 ⟨fun y hy => (h2 y hy).1, h1⟩, fun y hy => ?_⟩
      rcases List.mem_cons.1 hy with rfl | hy
      · omega
      · have := h2 y hy; omega
theorem risesF_len (limit : Int) : ∀ (xs : List Int) (last : Int), risesF limit last xs = true → last < limit → (xs.length : Int) ≤ limit - last - 1 := by
  intro xs
  induction xs with
  | nil => intro last _ h; simp; omega
  | cons x xs ih =>
    intro last h hl
    unfold risesF at h
    split at h
    · cases h
    · rename_i hc
      have := ih x h (by omega)
      simp only [List.length_cons]
      omega
theorem risesF_complete (limit : Int) : ∀ (xs : List Int) (last : Int), xs.Pairwise (· < ·) → (∀ x ∈ xs, last < x ∧ x < limit) → risesF limit last xs = true := by
  intro xs
  induction xs with
  | nil => intros; rfl
  | cons x xs ih =>
    intro last h1 h2
    unfold risesF
    have := h2 x (List.mem_cons_self ..)
    rw [if_neg (by omega)]
    refine ih x (List.pairwise_cons.1 h1).2 fun y hy => ⟨(List.pairwise_cons.1 h1).1 y hy, (h2 y (List.mem_cons_of_mem _ hy)).2⟩
theorem risesF_drop {limit y : Int} {xs : List Int} {k : Nat} (h : k < xs.length) : risesF limit y (xs.drop k) = if gi xs k ≤ y ∨ limit ≤ gi xs k then false else risesF limit (gi xs k) (xs.drop (k + 1)) := by
  rw [List.drop_eq_getElem_cons h, gi_eq h]; rfl
theorem Gr.endsOk_drop {g : Gr} {xs : List (Int × Int)} {k : Nat} (h : k < xs.length) : g.endsOk (xs.drop k) = (g.inside (ge xs k).1 && (g.inside (ge xs k).2 && g.endsOk (xs.drop (k + 1)))) := by
  rw [List.drop_eq_getElem_cons h, ge_eq h]; rfl
theorem Gr.partEnds_drop {g : Gr} {V : List Int} {xs : List Int} {k : Nat} (h : k < xs.length) : g.partEnds V (xs.drop k) = ((decide ((g.edge (gi xs k)).1 ∈ V)) && (decide ((g.edge (gi xs k)).2 ∈ V) && g.partEnds V (xs.drop (k + 1)))) := by
  rw [List.drop_eq_getElem_cons h, gi_eq h]; rfl
theorem Gr.dartsOf_append (g : Gr) (v : Int) (xs ys : List Int) : g.dartsOf v (xs ++ ys) = g.dartsOf v xs ++ g.dartsOf v ys := by
  induction xs with
  | nil => rfl
  | cons x xs ih => simp only [List.cons_append, Gr.dartsOf, ih, List.append_assoc]
theorem Gr.endsOk_all (g : Gr) : ∀ es : List (Int × Int), g.endsOk es = true ↔ ∀ e ∈ es, g.inside e.1 = true ∧ g.inside e.2 = true := by
  intro es
  induction es with
  | nil => simp [Gr.endsOk]
  | cons e es ih => simp [Gr.endsOk, ih, and_assoc]
theorem Gr.right_ok {g : Gr} (h : g.right = 0) : 0 ≤ g.N ∧ g.N + g.E.length ≤ 1024 ∧ g.endsOk g.E = true := by
  unfold Gr.right at h
  split at h
  · cases h
  · split at h
    · cases h
    · split at h
      · refine ⟨by omega, by omega, by assumption⟩
      · cases h
theorem Gr.rightPart_ok {g : Gr} {p : Pt} (h : g.rightPart p = 0) : g.right = 0 ∧ risesF g.N (-1) p.V = true ∧ risesF g.E.length (-1) p.E = true ∧ g.partEnds p.V p.E = true := by
  unfold Gr.rightPart at h
  split at h
  · omega
  · split at h
    · cases h
    · split at h
      · rename_i h1 h2 h3
        refine ⟨by omega, ?_, ?_, h3⟩
        · cases hx : risesF g.N (-1) p.V
          · exact absurd (.inl hx) h2
          · rfl
        · cases hx : risesF (g.E.length : Int) (-1) p.E
          · exact absurd (.inr hx) h2
          · rfl
      · cases h
end Go.Proofs.YtefhmlgepnlaoaaGreat
