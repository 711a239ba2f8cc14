/- Plain: sets of numbers joined along pairs; cycles of maps one to one; Euler's inequality. -/
import Derived.Test.YtefhmlgepnlaoaaSa
set_option linter.unusedVariables false
set_option linter.unusedSimpArgs false
namespace Go.Proofs.Ytefhmlgepnlaoaa

/-! Sets of numbers, joined along pairs. -/
/-- A set's word is its least number. -/
def RepOk (rep : Nat → Nat) : Prop := ∀ j, rep j ≤ j ∧ rep (rep j) = rep j
theorem RepOk.join {rep : Nat → Nat} (h : RepOk rep) (i k : Nat) : RepOk (joinRep rep i k) := by
  intro j
  have hj := h j
  have hi := h i
  have hk := h k
  unfold joinRep
  by_cases h1 : rep j = max (rep i) (rep k)
  · rw [if_pos h1]
    refine ⟨by omega, ?_⟩
    rcases Nat.le_total (rep i) (rep k) with hl | hl
    · rw [Nat.min_eq_left hl, hi.2]
      split <;> omega
    · rw [Nat.min_eq_right hl, hk.2]
      split <;> omega
  · rw [if_neg h1]
    refine ⟨hj.1, ?_⟩
    rw [hj.2, if_neg h1]
def joinL (L : List (Nat × Nat)) : Nat → Nat := L.foldl (fun rep e => joinRep rep e.1 e.2) fun j => j
theorem joinL_snoc (L : List (Nat × Nat)) (e : Nat × Nat) : joinL (L ++ [e]) = joinRep (joinL L) e.1 e.2 := by
  unfold joinL; rw [List.foldl_append]; rfl
theorem snoc_ind {α : Type} {P : List α → Prop} (h0 : P []) (h1 : ∀ L e, P L → P (L ++ [e])) : ∀ L, P L := by
  have : ∀ L : List α, P L.reverse := by
    intro L
    induction L with
    | nil => exact h0
    | cons e L ih => rw [List.reverse_cons]; exact h1 _ _ ih
  intro L
  have := this L.reverse
  rwa [List.reverse_reverse] at this
theorem joinL_ok : ∀ L, RepOk (joinL L) := by
  refine snoc_ind ?_ ?_
  · intro j; exact ⟨Nat.le_refl _, rfl⟩
  · intro L e h; rw [joinL_snoc]; exact h.join _ _
theorem joinRep_both (rep : Nat → Nat) (i k : Nat) : joinRep rep i k i = joinRep rep i k k := by
  unfold joinRep
  split <;> split <;> omega
theorem joinRep_same {rep : Nat → Nat} (i k : Nat) {a b : Nat} (h : rep a = rep b) : joinRep rep i k a = joinRep rep i k b := by
  unfold joinRep; rw [h]
/-- A pair is of one set. -/
theorem joinL_mem : ∀ L, ∀ e ∈ L, joinL L e.1 = joinL L e.2 := by
  refine snoc_ind ?_ ?_
  · intro e he; cases he
  · intro L e h f hf
    rw [joinL_snoc]
    rcases List.mem_append.1 hf with hf | hf
    · exact joinRep_same _ _ (h f hf)
    · rw [List.mem_singleton] at hf; subst hf; exact joinRep_both _ _ _
/-- What holds on along each pair holds on in each set. -/
theorem joinL_least {P : Nat → Nat → Prop} (hr : ∀ i, P i i) (hs : ∀ i j, P i j → P j i) (ht : ∀ i j k, P i j → P j k → P i k) : ∀ L, (∀ e ∈ L, P e.1 e.2) → ∀ i j, joinL L i = joinL L j → P i j := by
  refine snoc_ind ?_ ?_
  · intro _ i j h
    have : i = j := h
    subst this
    exact hr i
  · intro L e ih hL i j h
    have ih := ih fun f hf => hL f (List.mem_append_left _ hf)
    have he := hL e (List.mem_append_right _ (List.mem_singleton.2 rfl))
    rw [joinL_snoc] at h
    unfold joinRep at h
    have one : ∀ i, joinL L i = joinL L e.1 ∨ joinL L i = joinL L e.2 → P i e.1 := by
      intro i ho
      rcases ho with ho | ho
      · exact ih i _ ho
      · exact ht _ _ _ (ih i _ ho) (hs _ _ he)
    by_cases h1 : joinL L i = max (joinL L e.1) (joinL L e.2)
    · rw [if_pos h1] at h
      by_cases h2 : joinL L j = max (joinL L e.1) (joinL L e.2)
      · exact ih i j (h1.trans h2.symm)
      · rw [if_neg h2] at h
        exact ht _ _ _ (one i (by omega)) (hs _ _ (one j (by omega)))
    · rw [if_neg h1] at h
      by_cases h2 : joinL L j = max (joinL L e.1) (joinL L e.2)
      · rw [if_pos h2] at h
        exact ht _ _ _ (one i (by omega)) (hs _ _ (one j (by omega)))
      · rw [if_neg h2] at h
        exact ih i j h
theorem joinL_le {L : List (Nat × Nat)} {i j : Nat} (h : joinL L i = joinL L j) : joinL L i ≤ j := by
  rw [h]; exact (joinL_ok L j).1
/-- Sets that hold each other's pairs are the same. -/
theorem joinL_fine {L M : List (Nat × Nat)} (h : ∀ e ∈ L, joinL M e.1 = joinL M e.2) {i j : Nat} (hij : joinL L i = joinL L j) : joinL M i = joinL M j :=
  joinL_least (P := fun i j => joinL M i = joinL M j) (fun _ => rfl) (fun _ _ h => h.symm) (fun _ _ _ h1 h2 => h1.trans h2) L h i j hij
theorem joinL_eq {L M : List (Nat × Nat)} (h1 : ∀ e ∈ L, joinL M e.1 = joinL M e.2) (h2 : ∀ e ∈ M, joinL L e.1 = joinL L e.2) : joinL L = joinL M := by
  funext j
  have a1 : joinL L (joinL L j) = joinL L j := (joinL_ok L j).2
  have a2 : joinL M (joinL M j) = joinL M j := (joinL_ok M j).2
  have b1 := joinL_fine h1 a1
  have b2 := joinL_fine h2 a2
  have c1 : joinL M j ≤ joinL L j := by rw [← b1]; exact (joinL_ok M _).1
  have c2 : joinL L j ≤ joinL M j := by rw [← b2]; exact (joinL_ok L _).1
  omega

/-! How many sets. -/
def cntR (rep : Nat → Nat) (n : Nat) : Nat := ((List.range n).filter fun j => decide (rep j = j)).length
theorem filter_drop_one {p q : Nat → Bool} {m : Nat} (hp : p m = true) (hq : q m = false) (h : ∀ j, j ≠ m → p j = q j) : ∀ n, m < n → ((List.range n).filter p).length = ((List.range n).filter q).length + 1 := by
  have low : ∀ n, n ≤ m → ((List.range n).filter p).length = ((List.range n).filter q).length := by
    intro n hn
    congr 1
    apply List.filter_congr
    intro x hx
    exact h x (by have := List.mem_range.1 hx; omega)
  intro n
  induction n with
  | zero => intro h; omega
  | succ n ih =>
    intro hn
    rw [List.range_succ, List.filter_append, List.filter_append, List.length_append, List.length_append]
    rcases Nat.lt_or_ge m n with hm | hm
    · rw [ih hm, List.filter_cons, List.filter_cons, h n (by omega)]
      cases q n <;> simp <;> omega
    · have : n = m := by omega
      subst this
      rw [low n (Nat.le_refl _), List.filter_cons, List.filter_cons, hp, hq]
      simp
/-- One pair more: of two sets one. -/
theorem cnt_join {rep : Nat → Nat} (h : RepOk rep) {i k n : Nat} (hi : i < n) (hk : k < n) : cntR (joinRep rep i k) n + (if rep i = rep k then 0 else 1) = cntR rep n := by
  have hi1 := h i
  have hk1 := h k
  by_cases he : rep i = rep k
  · rw [if_pos he]
    have : joinRep rep i k = rep := by
      funext j
      unfold joinRep
      split <;> omega
    rw [this]
    rfl
  · rw [if_neg he]
    unfold cntR
    symm
    have hmx : rep (max (rep i) (rep k)) = max (rep i) (rep k) := by
      rcases Nat.le_total (rep i) (rep k) with hl | hl
      · rw [Nat.max_eq_right hl]; exact hk1.2
      · rw [Nat.max_eq_left hl]; exact hi1.2
    refine filter_drop_one (m := max (rep i) (rep k)) (decide_eq_true hmx) (decide_eq_false ?_) (fun j hj => ?_) n (by omega)
    · unfold joinRep
      rw [if_pos hmx]
      omega
    · rw [decide_eq_decide]
      unfold joinRep
      have hj1 := h j
      split
      · rename_i hc
        constructor
        · intro e; omega
        · intro e; 
          exfalso
          have : rep j = j := by
            rcases Nat.le_total (rep i) (rep k) with hl | hl
            · have : j = rep i := by omega
              rw [this]; exact hi1.2
            · have : j = rep k := by omega
              rw [this]; exact hk1.2
          omega
      · exact Iff.rfl
def cntL (L : List (Nat × Nat)) (n : Nat) : Nat := cntR (joinL L) n
theorem cntL_snoc (L : List (Nat × Nat)) {e : Nat × Nat} {n : Nat} (h1 : e.1 < n) (h2 : e.2 < n) : cntL (L ++ [e]) n + (if joinL L e.1 = joinL L e.2 then 0 else 1) = cntL L n := by
  unfold cntL
  rw [joinL_snoc]
  exact cnt_join (joinL_ok L) h1 h2

/-! Maps one to one on the first n numbers; their cycles. -/
structure PermN (n : Nat) (f : Nat → Nat) : Prop where
  lt : ∀ x, x < n → f x < n
  inj : ∀ x y, x < n → y < n → f x = f y → x = y
def itN (f : Nat → Nat) : Nat → Nat → Nat
  | 0, x => x
  | k + 1, x => f (itN f k x)
theorem itN_add (f : Nat → Nat) (i : Nat) : ∀ k x, itN f (k + i) x = itN f k (itN f i x) := by
  intro k
  induction k with
  | zero => intro x; rw [Nat.zero_add]; rfl
  | succ k ih => intro x; rw [Nat.succ_add]; unfold itN; rw [ih]
/-- The first time that a number is met. -/
theorem first_met {P : Nat → Prop} : (∃ k, P k) → ∃ k, P k ∧ ∀ j, j < k → ¬ P j := by
  rintro ⟨k, hk⟩
  induction k using Nat.strongRecOn with
  | _ k ih =>
    by_cases h : ∃ j, j < k ∧ P j
    · obtain ⟨j, hj, hp⟩ := h
      exact ih j hj hp
    · exact ⟨k, hk, fun j hj hp => h ⟨j, hj, hp⟩⟩
/-- Along a way whose pairs are all there. -/
theorem PermN.chain {f : Nat → Nat} {L : List (Nat × Nat)} {x : Nat} : ∀ k, (∀ j, j < k → (itN f j x, itN f (j + 1) x) ∈ L) → joinL L x = joinL L (itN f k x) := by
  intro k
  induction k with
  | zero => intro _; rfl
  | succ k ih =>
    intro h
    exact (ih fun j hj => h j (by omega)).trans (joinL_mem L _ (h k (by omega)))
section
variable {n : Nat} {f : Nat → Nat} (hf : PermN n f)
include hf
theorem PermN.it_lt {x : Nat} (hx : x < n) : ∀ k, itN f k x < n := by
  intro k
  induction k with
  | zero => exact hx
  | succ k ih => exact hf.lt _ ih
theorem PermN.it_inj {x y : Nat} (hx : x < n) (hy : y < n) : ∀ k, itN f k x = itN f k y → x = y := by
  intro k
  induction k with
  | zero => intro h; exact h
  | succ k ih => intro h; exact ih (hf.inj _ _ (hf.it_lt hx k) (hf.it_lt hy k) h)
/-- Each number comes again. -/
theorem PermN.again {x : Nat} (hx : x < n) : ∃ k, 0 < k ∧ itN f k x = x := by
  have hnd : ¬ ((List.range (n + 1)).map fun k => itN f k x).Nodup := by
    intro h
    have := h.length_le_of_subset (l₂ := List.range n) fun y hy => by
      obtain ⟨k, _, rfl⟩ := List.mem_map.1 hy
      exact List.mem_range.2 (hf.it_lt hx k)
    rw [List.length_map, List.length_range, List.length_range] at this
    omega
  have : ∃ i j, i < j ∧ itN f i x = itN f j x := by
    refine Classical.byContradiction fun hc => hnd ?_
    rw [List.nodup_iff_pairwise_ne, List.pairwise_map]
    refine List.Pairwise.imp_of_mem ?_ List.pairwise_lt_range
    intro a b _ _ hab he
    exact hc ⟨a, b, hab, he⟩
  obtain ⟨i, j, hij, he⟩ := this
  refine ⟨j - i, by omega, ?_⟩
  have e1 : j = i + (j - i) := by omega
  rw [e1, Nat.add_comm, Nat.add_comm (j - i) i] at he
  rw [itN_add f (j - i) i x] at he
  exact (hf.it_inj hx (hf.it_lt hx _) i he).symm
end
def pairsN (n : Nat) (f : Nat → Nat) : List (Nat × Nat) := (List.range n).map fun x => (x, f x)
def cycC (n : Nat) (f : Nat → Nat) : Nat := cntL (pairsN n f) n
theorem mem_pairsN {n : Nat} {f : Nat → Nat} {e : Nat × Nat} : e ∈ pairsN n f ↔ e.1 < n ∧ e.2 = f e.1 := by
  unfold pairsN
  rw [List.mem_map]
  constructor
  · rintro ⟨x, hx, rfl⟩; exact ⟨List.mem_range.1 hx, rfl⟩
  · rintro ⟨h1, h2⟩; exact ⟨e.1, List.mem_range.2 h1, by rw [← h2]⟩
/-- All pairs but those of two numbers. -/
def pairs2 (n : Nat) (f : Nat → Nat) (a b : Nat) : List (Nat × Nat) := (pairsN n f).filter fun e => decide (e.1 ≠ a) && decide (e.1 ≠ b)
theorem mem_pairs2 {n : Nat} {f : Nat → Nat} {a b : Nat} {e : Nat × Nat} : e ∈ pairs2 n f a b ↔ e.1 < n ∧ e.2 = f e.1 ∧ e.1 ≠ a ∧ e.1 ≠ b := by
  unfold pairs2
  rw [List.mem_filter, mem_pairsN, Bool.and_eq_true, decide_eq_true_eq, decide_eq_true_eq]
  constructor
  · rintro ⟨⟨h1, h2⟩, h3, h4⟩; exact ⟨h1, h2, h3, h4⟩
  · rintro ⟨h1, h2, h3, h4⟩; exact ⟨⟨h1, h2⟩, h3, h4⟩
def swapN (a b : Nat) (f : Nat → Nat) : Nat → Nat := fun x => if x = a then f b else if x = b then f a else f x
theorem PermN.swap {n : Nat} {f : Nat → Nat} (hf : PermN n f) {a b : Nat} (ha : a < n) (hb : b < n) : PermN n (swapN a b f) := by
  have hl := hf.lt
  refine ⟨fun x hx => ?_, fun x y hx hy h => ?_⟩
  · unfold swapN
    split
    · exact hl b hb
    · split
      · exact hl a ha
      · exact hl x hx
  · unfold swapN at h
    by_cases h1 : x = a
    · rw [if_pos h1] at h
      by_cases h3 : y = a
      · rw [h1, h3]
      · rw [if_neg h3] at h
        by_cases h4 : y = b
        · rw [if_pos h4] at h
          have := hf.inj _ _ hb ha h
          omega
        · rw [if_neg h4] at h
          have := hf.inj _ _ hb hy h
          omega
    · rw [if_neg h1] at h
      by_cases h2 : x = b
      · rw [if_pos h2] at h
        by_cases h3 : y = a
        · rw [if_pos h3] at h
          have := hf.inj _ _ ha hb h
          omega
        · rw [if_neg h3] at h
          by_cases h4 : y = b
          · rw [h2, h4]
          · rw [if_neg h4] at h
            have := hf.inj _ _ ha hy h
            omega
      · rw [if_neg h2] at h
        by_cases h3 : y = a
        · rw [if_pos h3] at h
          have := hf.inj _ _ hx hb h
          omega
        · rw [if_neg h3] at h
          by_cases h4 : y = b
          · rw [if_pos h4] at h
            have := hf.inj _ _ hx ha h
            omega
          · rw [if_neg h4] at h
            exact hf.inj _ _ hx hy h
theorem swap_pairs2 (n : Nat) (f : Nat → Nat) (a b : Nat) : ∀ e, e ∈ pairs2 n (swapN a b f) a b ↔ e ∈ pairs2 n f a b := by
  intro e
  rw [mem_pairs2, mem_pairs2]
  unfold swapN
  constructor
  · rintro ⟨h1, h2, h3, h4⟩; rw [if_neg h3, if_neg h4] at h2; exact ⟨h1, h2, h3, h4⟩
  · rintro ⟨h1, h2, h3, h4⟩; exact ⟨h1, by rw [if_neg h3, if_neg h4]; exact h2, h3, h4⟩
section
variable {n : Nat} {f : Nat → Nat} (hf : PermN n f) {a b : Nat} (ha : a < n) (hb : b < n) (hab : a ≠ b)
include hf ha hb hab
omit hab in
/-- A cycle hangs together without one of its pairs. -/
theorem joinL_less : joinL (pairsN n f) = joinL (pairs2 n f a b ++ [(a, f a)]) := by
  refine joinL_eq (fun e he => ?_) (fun e he => ?_)
  · obtain ⟨h1, h2⟩ := mem_pairsN.1 he
    by_cases h3 : e.1 = b
    · rw [h2, h3]
      obtain ⟨k, ⟨hk0, hk⟩, hmin⟩ := first_met (hf.again hb)
      have hch := PermN.chain (f := f) (L := pairs2 n f a b ++ [(a, f a)]) (x := f b) (k - 1) (fun j hj => ?_)
      · have e1 : itN f (k - 1) (f b) = b := by
          have := itN_add f 1 (k - 1) b
          rw [show k - 1 + 1 = k by omega, hk] at this
          exact this.symm
        rw [e1] at hch
        exact hch.symm
      · have e2 : ∀ i, itN f i (f b) = itN f (i + 1) b := fun i => (itN_add f 1 i b).symm
        have h4 : itN f j (f b) ≠ b := by rw [e2]; intro h; exact hmin (j + 1) (by omega) ⟨by omega, h⟩
        by_cases h5 : itN f j (f b) = a
        · refine List.mem_append_right _ (List.mem_singleton.2 ?_)
          show (itN f j (f b), f (itN f j (f b))) = _
          rw [h5]
        · exact List.mem_append_left _ (mem_pairs2.2 ⟨hf.it_lt (hf.lt b hb) j, rfl, h5, h4⟩)
    · by_cases h4 : e.1 = a
      · rw [h2, h4]
        exact joinL_mem _ (a, f a) (List.mem_append_right _ (List.mem_singleton.2 rfl))
      · exact joinL_mem _ e (List.mem_append_left _ (mem_pairs2.2 ⟨h1, h2, h4, h3⟩))
  · rcases List.mem_append.1 he with he | he
    · obtain ⟨h1, h2, _, _⟩ := mem_pairs2.1 he
      exact joinL_mem _ _ (mem_pairsN.2 ⟨h1, h2⟩)
    · rw [List.mem_singleton] at he
      subst he
      exact joinL_mem _ _ (mem_pairsN.2 ⟨ha, rfl⟩)
omit hab in
theorem cyc_less : cycC n f + (if joinL (pairs2 n f a b) a = joinL (pairs2 n f a b) (f a) then 0 else 1) = cntL (pairs2 n f a b) n := by
  have := cntL_snoc (pairs2 n f a b) (e := (a, f a)) ha (hf.lt a ha)
  unfold cycC
  unfold cntL at this ⊢
  rw [joinL_less hf ha hb]
  exact this
omit ha hb hab in
/-- On the same cycle: one comes to the other. -/
theorem cyc_reach {x y : Nat} (h : joinL (pairsN n f) x = joinL (pairsN n f) y) : ∃ k, itN f k x = y := by
  have back : ∀ {i j : Nat}, i < n → (∃ k, itN f k i = j) → ∃ k, itN f k j = i := by
    rintro i j hi ⟨k, rfl⟩
    obtain ⟨q, hq0, hq⟩ := hf.again hi
    have hm : ∀ m, itN f (m * q) i = i := by
      intro m
      induction m with
      | zero => rw [Nat.zero_mul]; rfl
      | succ m ih => rw [Nat.succ_mul, itN_add, hq, ih]
    have hkq : k ≤ k * q := Nat.le_mul_of_pos_right _ hq0
    refine ⟨k * q - k, ?_⟩
    rw [← itN_add, Nat.sub_add_cancel hkq]
    exact hm k
  have := joinL_least (P := fun i j => i = j ∨ (i < n ∧ j < n ∧ ∃ k, itN f k i = j)) (fun i => .inl rfl) (fun i j h => ?_) (fun i j k h1 h2 => ?_) (pairsN n f) (fun e he => ?_) x y h
  · rcases this with rfl | ⟨_, _, h⟩
    · exact ⟨0, rfl⟩
    · exact h
  · rcases h with rfl | ⟨h1, h2, h3⟩
    · exact .inl rfl
    · exact .inr ⟨h2, h1, back h1 h3⟩
  · rcases h1 with rfl | ⟨a1, a2, q1, a3⟩
    · exact h2
    · rcases h2 with rfl | ⟨b1, b2, q2, b3⟩
      · exact .inr ⟨a1, a2, q1, a3⟩
      · exact .inr ⟨a1, b2, q2 + q1, by rw [itN_add, a3, b3]⟩
  · obtain ⟨h1, h2⟩ := mem_pairsN.1 he
    exact .inr ⟨h1, by rw [h2]; exact hf.lt _ h1, 1, h2.symm⟩
omit ha hb hab in
theorem it_same {x : Nat} (hx : x < n) (k : Nat) : joinL (pairsN n f) x = joinL (pairsN n f) (itN f k x) :=
  PermN.chain (f := f) k fun j _ => mem_pairsN.2 ⟨hf.it_lt hx j, rfl⟩
omit ha in
/-- On the same cycle: from the one's next to the other, without either's pair. -/
theorem arc_joined (h : joinL (pairsN n f) a = joinL (pairsN n f) b) : joinL (pairs2 n f a b) (f b) = joinL (pairs2 n f a b) a ∧ joinL (pairs2 n f a b) a ≠ joinL (pairs2 n f a b) b := by
  obtain ⟨k, hk, hmin⟩ := first_met (cyc_reach hf h.symm)
  have hk0 : 0 < k := by
    refine Nat.pos_of_ne_zero fun h0 => ?_
    subst h0
    exact hab hk.symm
  have hnb : ∀ j, 0 < j → j ≤ k → itN f j b ≠ b := by
    intro j hj hjk he
    have : itN f (k - j) b = a := by
      have := itN_add f j (k - j) b
      rw [Nat.sub_add_cancel hjk, hk, he] at this
      exact this.symm
    exact hmin (k - j) (by omega) this
  constructor
  · have hch := PermN.chain (f := f) (L := pairs2 n f a b) (x := f b) (k - 1) (fun j hj => ?_)
    · have e1 : itN f (k - 1) (f b) = a := by
        have := itN_add f 1 (k - 1) b
        rw [Nat.sub_add_cancel hk0, hk] at this
        exact this.symm
      rw [e1] at hch
      exact hch
    · have e2 : itN f j (f b) = itN f (j + 1) b := (itN_add f 1 j b).symm
      exact mem_pairs2.2 ⟨hf.it_lt (hf.lt b hb) j, rfl, by rw [e2]; exact hmin (j + 1) (by omega), by rw [e2]; exact hnb (j + 1) (by omega) (by omega)⟩
  · intro he
    have := joinL_least (P := fun i j => (∃ m, 0 < m ∧ m ≤ k ∧ itN f m b = i) ↔ (∃ m, 0 < m ∧ m ≤ k ∧ itN f m b = j)) (fun _ => Iff.rfl) (fun _ _ h => h.symm) (fun _ _ _ h1 h2 => h1.trans h2) (pairs2 n f a b) (fun e he => ?_) a b he
    · obtain ⟨m, h1, h2, h3⟩ := this.1 ⟨k, hk0, Nat.le_refl _, hk⟩
      exact hnb m h1 h2 h3
    · obtain ⟨h1, h2, h3, h4⟩ := mem_pairs2.1 he
      constructor
      · rintro ⟨m, m1, m2, m3⟩
        have : m ≠ k := fun e => h3 (by rw [← m3, e, hk])
        exact ⟨m + 1, by omega, by omega, by rw [h2, ← m3]; rfl⟩
      · rintro ⟨m, m1, m2, m3⟩
        obtain ⟨m', rfl⟩ : ∃ m', m = m' + 1 := ⟨m - 1, by omega⟩
        have e1 : itN f m' b = e.1 := hf.inj _ _ (hf.it_lt hb m') h1 (by rw [← h2]; exact m3)
        refine ⟨m', Nat.pos_of_ne_zero fun h0 => ?_, by omega, e1⟩
        subst h0
        exact h4 e1.symm
end
/-- Two numbers' nexts changed: one cycle more, or one less. -/
theorem swap_cyc {n : Nat} {f : Nat → Nat} (hf : PermN n f) {a b : Nat} (ha : a < n) (hb : b < n) (hab : a ≠ b) :
    (joinL (pairsN n f) a = joinL (pairsN n f) b → cycC n (swapN a b f) = cycC n f + 1) ∧ (joinL (pairsN n f) a ≠ joinL (pairsN n f) b → cycC n (swapN a b f) + 1 = cycC n f) := by
  have h1 := cyc_less hf ha hb
  have h2 := cyc_less (hf.swap ha hb) ha hb
  have hsame : joinL (pairs2 n (swapN a b f) a b) = joinL (pairs2 n f a b) :=
    joinL_eq (fun e he => joinL_mem _ _ ((swap_pairs2 n f a b e).1 he)) (fun e he => joinL_mem _ _ ((swap_pairs2 n f a b e).2 he))
  have e1 : swapN a b f a = f b := by unfold swapN; rw [if_pos rfl]
  unfold cntL at h1 h2
  rw [hsame, e1, ← h1] at h2
  constructor
  · intro h
    obtain ⟨k1, k2⟩ := arc_joined hf hb hab h
    obtain ⟨k3, k4⟩ := arc_joined hf ha (Ne.symm hab) h.symm
    have hsw : joinL (pairs2 n f b a) = joinL (pairs2 n f a b) :=
      joinL_eq (fun e he => joinL_mem _ _ (by obtain ⟨q1, q2, q3, q4⟩ := mem_pairs2.1 he; exact mem_pairs2.2 ⟨q1, q2, q4, q3⟩)) (fun e he => joinL_mem _ _ (by obtain ⟨q1, q2, q3, q4⟩ := mem_pairs2.1 he; exact mem_pairs2.2 ⟨q1, q2, q4, q3⟩))
    rw [hsw] at k3 k4
    rw [if_pos k1.symm, if_neg (fun e => k2 (e.trans k3))] at h2
    omega
  · intro h
    have k1 : joinL (pairs2 n f a b) a = joinL (pairs2 n f a b) (f a) := by
      obtain ⟨k, ⟨hk0, hk⟩, hmin⟩ := first_met (hf.again ha)
      have hch := PermN.chain (f := f) (L := pairs2 n f a b) (x := f a) (k - 1) (fun j hj => ?_)
      · have e1 : itN f (k - 1) (f a) = a := by
          have := itN_add f 1 (k - 1) a
          rw [Nat.sub_add_cancel hk0, hk] at this
          exact this.symm
        rw [e1] at hch
        exact hch.symm
      · have e2 : itN f j (f a) = itN f (j + 1) a := (itN_add f 1 j a).symm
        refine mem_pairs2.2 ⟨hf.it_lt (hf.lt a ha) j, rfl, by rw [e2]; exact fun he => hmin (j + 1) (by omega) ⟨by omega, he⟩, fun he => h ?_⟩
        rw [← he, e2]
        exact it_same hf ha (j + 1)
    have k2 : joinL (pairs2 n f a b) a ≠ joinL (pairs2 n f a b) (f b) := by
      intro he
      have h3 := joinL_fine (L := pairs2 n f a b) (M := pairsN n f) (fun e he => by obtain ⟨q1, q2, _, _⟩ := mem_pairs2.1 he; exact joinL_mem _ _ (mem_pairsN.2 ⟨q1, q2⟩)) he
      exact h (h3.trans (it_same hf hb 1).symm)
    rw [if_pos k1, if_neg k2] at h2
    omega
/-! Euler's inequality, and what is even. -/
def phiT (s : Nat → Nat) (T : List (Nat × Nat)) : Nat → Nat := T.foldl (fun f e => swapN e.1 e.2 f) s
theorem phiT_snoc (s : Nat → Nat) (T : List (Nat × Nat)) (e : Nat × Nat) : phiT s (T ++ [e]) = swapN e.1 e.2 (phiT s T) := by
  unfold phiT; rw [List.foldl_append]; rfl
theorem joinL_more {L : List (Nat × Nat)} (e : Nat × Nat) {i j : Nat} (h : joinL L i = joinL L j) : joinL (L ++ [e]) i = joinL (L ++ [e]) j := by
  rw [joinL_snoc]; exact joinRep_same _ _ h
theorem euler_T {n : Nat} {s : Nat → Nat} (hs : PermN n s) : ∀ T : List (Nat × Nat), (∀ e ∈ T, e.1 < n ∧ e.2 < n ∧ e.1 ≠ e.2) → PermN n (phiT s T) ∧ (∀ x, x < n → joinL (pairsN n s ++ T) x = joinL (pairsN n s ++ T) (phiT s T x)) ∧ cycC n (phiT s T) + cycC n s ≤ 2 * cntL (pairsN n s ++ T) n + T.length ∧ (cycC n (phiT s T) + cycC n s + T.length) % 2 = 0 := by
  refine snoc_ind ?_ ?_
  · intro _
    refine ⟨hs, fun x hx => ?_, ?_, ?_⟩
    · rw [List.append_nil]
      exact joinL_mem _ (x, s x) (mem_pairsN.2 ⟨hx, rfl⟩)
    · rw [List.append_nil]
      show cycC n s + cycC n s ≤ 2 * cycC n s + 0
      omega
    · show (cycC n s + cycC n s + 0) % 2 = 0
      omega
  · intro T e ih hT
    obtain ⟨i1, i2, i3, i4⟩ := ih fun f hf => hT f (List.mem_append_left _ hf)
    obtain ⟨ha, hb, hab⟩ := hT e (List.mem_append_right _ (List.mem_singleton.2 rfl))
    rw [phiT_snoc, ← List.append_assoc, List.length_append, List.length_singleton]
    obtain ⟨q1, q2⟩ := swap_cyc i1 ha hb hab
    have hc := cntL_snoc (pairsN n s ++ T) (e := e) ha hb
    have hee : joinL (pairsN n s ++ T ++ [e]) e.1 = joinL (pairsN n s ++ T ++ [e]) e.2 := joinL_mem _ e (List.mem_append_right _ (List.mem_singleton.2 rfl))
    have hsub : joinL (pairsN n (phiT s T)) e.1 = joinL (pairsN n (phiT s T)) e.2 → joinL (pairsN n s ++ T) e.1 = joinL (pairsN n s ++ T) e.2 := fun h =>
      joinL_fine (fun f hf => by obtain ⟨h1, h2⟩ := mem_pairsN.1 hf; rw [h2]; exact i2 _ h1) h
    refine ⟨i1.swap ha hb, fun x hx => ?_, ?_, ?_⟩
    · unfold swapN
      split
      · rename_i h
        rw [h, hee]
        exact joinL_more e (i2 _ hb)
      · split
        · rename_i h
          rw [h, ← hee]
          exact joinL_more e (i2 _ ha)
        · exact joinL_more e (i2 _ hx)
    · by_cases h : joinL (pairsN n (phiT s T)) e.1 = joinL (pairsN n (phiT s T)) e.2
      · rw [if_pos (hsub h)] at hc
        have := q1 h
        omega
      · have := q2 h
        split at hc <;> omega
    · by_cases h : joinL (pairsN n (phiT s T)) e.1 = joinL (pairsN n (phiT s T)) e.2
      · have := q1 h
        omega
      · have := q2 h
        omega
/-! Counts within a set of numbers. -/
theorem cnt_split {rep : Nat → Nat} {inD : Nat → Bool} : ∀ {n : Nat}, (∀ x, x < n → inD x = false → rep x = x) → cntR rep n = ((List.range n).filter fun x => !inD x).length + ((List.range n).filter fun x => inD x && decide (rep x = x)).length := by
  intro n
  induction n with
  | zero => intro _; rfl
  | succ n ih =>
    intro h
    have ih := ih fun x hx => h x (by omega)
    have hn := h n (by omega)
    unfold cntR at ih ⊢
    rw [List.range_succ, List.filter_append, List.filter_append, List.filter_append, List.length_append, List.length_append, List.length_append, ih]
    cases hd : inD n with
    | false => simp [List.filter_cons, hd, hn hd]; omega
    | true => simp only [List.filter_cons, hd, Bool.true_and, Bool.not_true, Bool.false_eq_true, if_false, List.filter_nil, List.length_nil]; omega
/-- The words of the sets within a set of numbers. -/
def wordsIn (rep : Nat → Nat) (inD : Nat → Bool) (n : Nat) : Nat := ((List.range n).filter fun x => inD x && decide (rep x = x)).length
theorem filter_two {p : Nat → Bool} {n : Nat} (h : ∀ x y, x < n → y < n → p x = true → p y = true → x = y) : ((List.range n).filter p).length ≤ 1 := by
  have hn : ((List.range n).filter p).Nodup := List.Pairwise.sublist List.filter_sublist List.nodup_range
  match hl : (List.range n).filter p with
  | [] => simp
  | [a] => simp
  | a :: b :: l =>
    exfalso
    rw [hl] at hn
    have ha : a ∈ (List.range n).filter p := by rw [hl]; simp
    have hb : b ∈ (List.range n).filter p := by rw [hl]; simp
    obtain ⟨a1, a2⟩ := List.mem_filter.1 ha
    obtain ⟨b1, b2⟩ := List.mem_filter.1 hb
    have := h a b (List.mem_range.1 a1) (List.mem_range.1 b1) a2 b2
    subst this
    simp at hn
theorem fixed_alone {n : Nat} {f : Nat → Nat} (hf : PermN n f) {T : List (Nat × Nat)} {x : Nat} (hx : x < n) (hfx : f x = x) (hT : ∀ e ∈ T, e.1 ≠ x ∧ e.2 ≠ x) : joinL (pairsN n f ++ T) x = x := by
  have h := (joinL_ok (pairsN n f ++ T) x).2
  have := joinL_least (P := fun i j => i = x ↔ j = x) (fun _ => Iff.rfl) (fun _ _ h => h.symm) (fun _ _ _ h1 h2 => h1.trans h2) (pairsN n f ++ T) (fun e he => ?_) x _ h.symm
  · exact this.1 rfl
  · rcases List.mem_append.1 he with he | he
    · obtain ⟨h1, h2⟩ := mem_pairsN.1 he
      exact ⟨fun h => by rw [h2, h, hfx], fun h => hf.inj _ _ h1 hx (by rw [← h2, h, hfx])⟩
    · have := hT e he
      exact ⟨fun h => absurd h this.1, fun h => absurd h this.2⟩
theorem phiT_fixed {s : Nat → Nat} {x : Nat} (hx : s x = x) : ∀ T : List (Nat × Nat), (∀ e ∈ T, e.1 ≠ x ∧ e.2 ≠ x) → phiT s T x = x := by
  refine snoc_ind (fun _ => hx) ?_
  intro T e ih h
  have h1 := h e (List.mem_append_right _ (List.mem_singleton.2 rfl))
  rw [phiT_snoc]
  unfold swapN
  rw [if_neg (Ne.symm h1.1), if_neg (Ne.symm h1.2)]
  exact ih fun f hf => h f (List.mem_append_left _ hf)
/-- A word is the least of its cycle. -/
theorem word_least {n : Nat} {f : Nat → Nat} (hf : PermN n f) {x : Nat} (hx : x < n) : joinL (pairsN n f) x = x ↔ ∀ k, x ≤ itN f k x := by
  constructor
  · intro h k
    have h1 := it_same hf hx k
    have h2 := joinL_le h1
    omega
  · intro h
    have h1 := (joinL_ok (pairsN n f) x).2
    obtain ⟨k, hk⟩ := cyc_reach hf h1.symm
    have h2 := h k
    have h3 := (joinL_ok (pairsN n f) x).1
    omega
/-- Euler's inequality of one piece, by what its darts do. -/
theorem euler_in {n : Nat} {s : Nat → Nat} {T : List (Nat × Nat)} {inD : Nat → Bool} (hs : PermN n s) (hT : ∀ e ∈ T, e.1 < n ∧ e.2 < n ∧ e.1 ≠ e.2 ∧ inD e.1 = true ∧ inD e.2 = true) (hfix : ∀ x, x < n → inD x = false → s x = x)
    (hone : ∀ x y, x < n → y < n → inD x = true → inD y = true → joinL (pairsN n s ++ T) x = joinL (pairsN n s ++ T) y) :
    PermN n (phiT s T) ∧ wordsIn (joinL (pairsN n (phiT s T))) inD n + wordsIn (joinL (pairsN n s)) inD n ≤ 2 + T.length ∧ (wordsIn (joinL (pairsN n (phiT s T))) inD n + wordsIn (joinL (pairsN n s)) inD n + T.length) % 2 = 0 := by
  obtain ⟨h1, _, h3, h4⟩ := euler_T hs T fun e he => ⟨(hT e he).1, (hT e he).2.1, (hT e he).2.2.1⟩
  have hout : ∀ x, inD x = false → ∀ e ∈ T, e.1 ≠ x ∧ e.2 ≠ x := fun x hx e he => by
    have := hT e he
    exact ⟨fun h => by rw [h] at this; rw [hx] at this; simp at this, fun h => by rw [h] at this; rw [hx] at this; simp at this⟩
  have c1 := cnt_split (rep := joinL (pairsN n (phiT s T))) (inD := inD) (n := n) fun x hx hd => by
    have := fixed_alone h1 (T := []) hx (phiT_fixed (hfix x hx hd) T (hout x hd)) (by simp)
    rwa [List.append_nil] at this
  have c2 := cnt_split (rep := joinL (pairsN n s)) (inD := inD) (n := n) fun x hx hd => by
    have := fixed_alone hs (T := []) hx (hfix x hx hd) (by simp)
    rwa [List.append_nil] at this
  have c3 := cnt_split (rep := joinL (pairsN n s ++ T)) (inD := inD) (n := n) fun x hx hd => fixed_alone hs hx (hfix x hx hd) (hout x hd)
  have c4 : ((List.range n).filter fun x => inD x && decide (joinL (pairsN n s ++ T) x = x)).length ≤ 1 := filter_two fun x y hx hy h1 h2 => by
    simp only [Bool.and_eq_true, decide_eq_true_eq] at h1 h2
    have := hone x y hx hy h1.1 h2.1
    omega
  unfold cycC cntL at h3 h4
  unfold wordsIn
  refine ⟨h1, ?_, ?_⟩ <;> omega
end Go.Proofs.Ytefhmlgepnlaoaa
