/- Plain: the document's pieces (spreading out) are the pieces by sets. -/
import Derived.Test.YtefhmlgepnlaoaaGe
set_option linter.unusedVariables false
set_option linter.unusedSimpArgs false
namespace Go.Proofs.Ytefhmlgepnlaoaa

/-! Spreading out. -/
/-- One way along one edge. -/
def spr1 (but x : Int) (met : List Int) (a b : Int) : List Int := if a = x ∧ b ≠ but ∧ b ∉ met then met ++ [b] else met
def sprE (g : Gr) (but x : Int) (met : List Int) (e : Int) : List Int := spr1 but x (spr1 but x met (ge g.E e.toNat).1 (ge g.E e.toNat).2) (ge g.E e.toNat).2 (ge g.E e.toNat).1
def sprX (g : Gr) (E : List Int) (but x : Int) (met : List Int) : List Int := E.foldl (sprE g but x) met
def sprTo (g : Gr) (E : List Int) (but : Int) (l0 : List Int) : Nat → List Int
  | 0 => l0
  | k + 1 => if k < (sprTo g E but l0 k).length then sprX g E but (gi (sprTo g E but l0 k) k) (sprTo g E but l0 k) else sprTo g E but l0 k
theorem sprTo_succ (g : Gr) (E : List Int) (but : Int) (l0 : List Int) (k : Nat) : sprTo g E but l0 (k + 1) = if k < (sprTo g E but l0 k).length then sprX g E but (gi (sprTo g E but l0 k) k) (sprTo g E but l0 k) else sprTo g E but l0 k := rfl
/-- Spread -/
def sprF (g : Gr) (p : Pt) (but : Int) (l0 : List Int) : List Int := sprTo g p.E but l0 p.V.length
theorem spr1_pre (but x : Int) (met : List Int) (a b : Int) : ∃ t, spr1 but x met a b = met ++ t := by
  unfold spr1
  split
  · exact ⟨_, rfl⟩
  · exact ⟨[], by simp⟩
theorem sprE_pre (g : Gr) (but x : Int) (met : List Int) (e : Int) : ∃ t, sprE g but x met e = met ++ t := by
  obtain ⟨t, ht⟩ := spr1_pre but x met (ge g.E e.toNat).1 (ge g.E e.toNat).2
  obtain ⟨s, hs⟩ := spr1_pre but x (spr1 but x met (ge g.E e.toNat).1 (ge g.E e.toNat).2) (ge g.E e.toNat).2 (ge g.E e.toNat).1
  exact ⟨t ++ s, by unfold sprE; rw [hs, ht, List.append_assoc]⟩
theorem sprX_pre (g : Gr) (but x : Int) : ∀ (E : List Int) (met : List Int), ∃ t, sprX g E but x met = met ++ t := by
  intro E
  induction E with
  | nil => intro met; exact ⟨[], by simp [sprX]⟩
  | cons e E ih =>
    intro met
    obtain ⟨t, ht⟩ := sprE_pre g but x met e
    obtain ⟨s, hs⟩ := ih (sprE g but x met e)
    refine ⟨t ++ s, ?_⟩
    unfold sprX at hs ⊢
    rw [List.foldl_cons, hs, ht, List.append_assoc]
theorem sprTo_pre1 (g : Gr) (E : List Int) (but : Int) (l0 : List Int) (k : Nat) : ∃ t, sprTo g E but l0 (k + 1) = sprTo g E but l0 k ++ t := by
  rw [sprTo_succ]
  split
  · exact sprX_pre ..
  · exact ⟨[], by simp⟩
theorem sprTo_pre (g : Gr) (E : List Int) (but : Int) (l0 : List Int) (k : Nat) : ∀ m, ∃ t, sprTo g E but l0 (k + m) = sprTo g E but l0 k ++ t := by
  intro m
  induction m with
  | zero => exact ⟨[], by simp⟩
  | succ m ih =>
    obtain ⟨t, ht⟩ := ih
    obtain ⟨s, hs⟩ := sprTo_pre1 g E but l0 (k + m)
    exact ⟨t ++ s, by rw [← Nat.add_assoc, hs, ht, List.append_assoc]⟩
theorem sprTo_still (g : Gr) (E : List Int) (but : Int) (l0 : List Int) (k : Nat) (h : (sprTo g E but l0 k).length ≤ k) : ∀ m, sprTo g E but l0 (k + m) = sprTo g E but l0 k := by
  intro m
  induction m with
  | zero => rfl
  | succ m ih =>
    rw [← Nat.add_assoc, sprTo_succ, ih, if_neg (by omega)]
/-- What all in the spread list are, holds on. -/
theorem spr_all {g : Gr} {p : Pt} {but : Int} {P : Int → Prop} (hE : ∀ e ∈ p.E, (P (ge g.E e.toNat).1 ↔ P (ge g.E e.toNat).2)) {l0 : List Int} (h0 : ∀ x ∈ l0, P x) : ∀ k, ∀ x ∈ sprTo g p.E but l0 k, P x := by
  have step : ∀ (E : List Int), (∀ e ∈ E, (P (ge g.E e.toNat).1 ↔ P (ge g.E e.toNat).2)) → ∀ (x : Int) (met : List Int), P x → (∀ y ∈ met, P y) → ∀ y ∈ sprX g E but x met, P y := by
    intro E
    induction E with
    | nil => intro _ x met _ hm; exact hm
    | cons e E ih =>
      intro hE x met hx hm
      have one : ∀ (met : List Int) (a b : Int), (P a → P b) → (∀ y ∈ met, P y) → ∀ y ∈ spr1 but x met a b, P y := by
        intro met a b hab hm y hy
        unfold spr1 at hy
        split at hy
        · rename_i hc
          rcases List.mem_append.1 hy with hy | hy
          · exact hm y hy
          · rw [List.mem_singleton] at hy
            subst hy
            exact hab (hc.1 ▸ hx)
        · exact hm y hy
      have he := hE e (List.mem_cons_self ..)
      exact ih (fun e he => hE e (List.mem_cons_of_mem _ he)) x (sprE g but x met e) hx (one _ _ _ he.2 (one _ _ _ he.1 hm))
  intro k
  induction k with
  | zero => exact h0
  | succ k ih =>
    unfold sprTo
    split
    · rename_i hlt
      exact step p.E hE _ _ (ih _ (gi_mem hlt)) ih
    · exact ih
theorem sprX_nodup (g : Gr) (but x : Int) : ∀ (E : List Int) (met : List Int), met.Nodup → (sprX g E but x met).Nodup := by
  have one : ∀ (met : List Int) (a b : Int), met.Nodup → (spr1 but x met a b).Nodup := by
    intro met a b hm
    unfold spr1
    split
    · rename_i hc
      exact List.nodup_append.2 ⟨hm, by simp, fun y hy z hz e => by rw [List.mem_singleton] at hz; subst hz; exact hc.2.2 (e ▸ hy)⟩
    · exact hm
  intro E
  induction E with
  | nil => intro met h; exact h
  | cons e E ih => intro met h; exact ih _ (one _ _ _ (one _ _ _ h))
theorem sprTo_nodup (g : Gr) (E : List Int) (but : Int) {l0 : List Int} (h0 : l0.Nodup) : ∀ k, (sprTo g E but l0 k).Nodup := by
  intro k
  induction k with
  | zero => exact h0
  | succ k ih =>
    unfold sprTo
    split
    · exact sprX_nodup g but _ E _ ih
    · exact ih
theorem sprX_has (g : Gr) (but x : Int) : ∀ (E : List Int) (met : List Int), ∀ e ∈ E, ((ge g.E e.toNat).1 = x → (ge g.E e.toNat).2 ≠ but → (ge g.E e.toNat).2 ∈ sprX g E but x met) ∧ ((ge g.E e.toNat).2 = x → (ge g.E e.toNat).1 ≠ but → (ge g.E e.toNat).1 ∈ sprX g E but x met) := by
  have one : ∀ (met : List Int) (a b : Int), a = x → b ≠ but → b ∈ spr1 but x met a b := by
    intro met a b ha hb
    unfold spr1
    by_cases hm : b ∈ met
    · rw [if_neg fun h => h.2.2 hm]; exact hm
    · rw [if_pos ⟨ha, hb, hm⟩]; simp
  intro E
  induction E with
  | nil => intro _ e he; cases he
  | cons e E ih =>
    intro met f hf
    rcases List.mem_cons.1 hf with rfl | hf
    · obtain ⟨t, ht⟩ := sprX_pre g but x E (sprE g but x met f)
      have e0 : sprX g (f :: E) but x met = sprX g E but x (sprE g but x met f) := rfl
      rw [e0, ht]
      obtain ⟨s, hs⟩ := spr1_pre but x (spr1 but x met (ge g.E f.toNat).1 (ge g.E f.toNat).2) (ge g.E f.toNat).2 (ge g.E f.toNat).1
      refine ⟨fun h1 h2 => List.mem_append_left _ ?_, fun h1 h2 => List.mem_append_left _ ?_⟩
      · unfold sprE
        rw [hs]
        exact List.mem_append_left _ (one _ _ _ h1 h2)
      · unfold sprE
        exact one _ _ _ h1 h2
    · exact ih (sprE g but x met e) f hf
/-- Lengths stay within the vertices. -/
theorem spr_len {g : Gr} {p : Pt} (h0 : g.rightPart p = 0) {but : Int} {l0 : List Int} (hn : l0.Nodup) (hl : ∀ x ∈ l0, x ∈ p.V) (k : Nat) : (sprTo g p.E but l0 k).length ≤ p.V.length := by
  have hE := edges_ok h0
  have hall := spr_all (g := g) (p := p) (but := but) (P := fun x => x ∈ p.V) (fun e he => ⟨fun _ => (hE e he).2.2.2, fun _ => (hE e he).2.2.1⟩) hl k
  exact (sprTo_nodup g p.E but hn k).length_le_of_subset hall
/-- Where the loop stops is the whole. -/
theorem sprF_eq {g : Gr} {p : Pt} (h0 : g.rightPart p = 0) {but : Int} {l0 : List Int} (hn : l0.Nodup) (hl : ∀ x ∈ l0, x ∈ p.V) {k : Nat} (hk : (sprTo g p.E but l0 k).length = k) : sprF g p but l0 = sprTo g p.E but l0 k := by
  have := spr_len h0 (but := but) hn hl k
  obtain ⟨m, hm⟩ : ∃ m, p.V.length = k + m := ⟨p.V.length - k, by omega⟩
  unfold sprF
  rw [hm]
  exact sprTo_still g p.E but l0 k (by omega) m
theorem sprF_closed {g : Gr} {p : Pt} (h0 : g.rightPart p = 0) {but : Int} {l0 : List Int} (hn : l0.Nodup) (hl : ∀ x ∈ l0, x ∈ p.V) : ∀ e ∈ p.E, ((ge g.E e.toNat).1 ∈ sprF g p but l0 → (ge g.E e.toNat).2 ≠ but → (ge g.E e.toNat).2 ∈ sprF g p but l0) ∧ ((ge g.E e.toNat).2 ∈ sprF g p but l0 → (ge g.E e.toNat).1 ≠ but → (ge g.E e.toNat).1 ∈ sprF g p but l0) := by
  have hlen := spr_len h0 (but := but) hn hl
  have key : ∀ x ∈ sprF g p but l0, ∃ met t, sprF g p but l0 = sprX g p.E but x met ++ t := by
    intro x hx
    obtain ⟨i, hi, rfl⟩ := List.getElem_of_mem hx
    have hi2 : i < p.V.length := Nat.lt_of_lt_of_le hi (hlen _)
    obtain ⟨m, hm⟩ : ∃ m, p.V.length = i + m := ⟨p.V.length - i, by omega⟩
    obtain ⟨t, ht⟩ := sprTo_pre g p.E but l0 i m
    have hii : i < (sprTo g p.E but l0 i).length := by
      refine Nat.lt_of_not_le fun hc => ?_
      have := sprTo_still g p.E but l0 i hc m
      unfold sprF at hi
      rw [hm, this] at hi
      omega
    have hget : (sprF g p but l0)[i] = gi (sprTo g p.E but l0 i) i := by
      rw [gi_eq hii]
      have e1 : sprF g p but l0 = sprTo g p.E but l0 i ++ t := by unfold sprF; rw [hm]; exact ht
      simp only [e1]
      rw [List.getElem_append_left hii]
    rw [hget]
    obtain ⟨m2, hm2⟩ : ∃ m, p.V.length = (i + 1) + m := ⟨p.V.length - (i + 1), by omega⟩
    obtain ⟨t2, ht2⟩ := sprTo_pre g p.E but l0 (i + 1) m2
    refine ⟨sprTo g p.E but l0 i, t2, ?_⟩
    have e2 : sprTo g p.E but l0 (i + 1) = sprX g p.E but (gi (sprTo g p.E but l0 i) i) (sprTo g p.E but l0 i) := by
      rw [sprTo_succ, if_pos hii]
    rw [← e2]
    unfold sprF
    rw [hm2]
    exact ht2
  intro e he
  refine ⟨fun h1 h2 => ?_, fun h1 h2 => ?_⟩
  · obtain ⟨met, t, ht⟩ := key _ h1
    rw [ht]
    exact List.mem_append_left _ ((sprX_has g but _ p.E met e he).1 rfl h2)
  · obtain ⟨met, t, ht⟩ := key _ h1
    rw [ht]
    exact List.mem_append_left _ ((sprX_has g but _ p.E met e he).2 rfl h2)

/-! Sets and spreading. -/
theorem idxFrom_at (x : Int) : ∀ (xs : List Int) (k : Nat), x ∈ xs → gi xs (idxFrom k xs x - k).toNat = x := by
  intro xs
  induction xs with
  | nil => intro k h; cases h
  | cons y ys ih =>
    intro k h
    unfold idxFrom
    split
    · rename_i he
      rw [show ((k : Int) - k).toNat = 0 by omega]
      simp [gi, he]
    · rename_i hne
      have hm : x ∈ ys := by rcases List.mem_cons.1 h with h | h; exact absurd h hne; exact h
      have := ih (k + 1) hm
      have hp := idxFrom_mem x ys (k + 1) hm
      obtain ⟨j, hj⟩ : ∃ j : Nat, (idxFrom (k + 1) ys x - ((k + 1 : Nat) : Int)).toNat = j := ⟨_, rfl⟩
      rw [hj] at this
      rw [show (idxFrom (k + 1) ys x - (k : Int)).toNat = j + 1 by omega]
      simpa [gi] using this
theorem gi_posN {xs : List Int} {x : Int} (h : x ∈ xs) : gi xs (posN xs x) = x := by
  have := idxFrom_at x xs 0 h
  unfold posN idx
  simpa using this
theorem posN_gi {xs : List Int} (hn : xs.Nodup) {k : Nat} (hk : k < xs.length) : posN xs (gi xs k) = k := by
  have h1 := posN_lt (gi_mem hk)
  have h2 := gi_posN (gi_mem hk)
  exact nodup_inj hn h1 hk (by rw [← gi_eq h1, ← gi_eq hk]; exact h2)
theorem joinRep_at (rep : Nat → Nat) (i k : Nat) : joinRep rep i k i = min (rep i) (rep k) ∧ joinRep rep i k k = min (rep i) (rep k) := by
  unfold joinRep
  constructor <;> split <;> omega
theorem joinRep_cong {rep : Nat → Nat} (i k : Nat) {a b : Nat} (h : rep a = rep b) : joinRep rep i k a = joinRep rep i k b := by
  unfold joinRep; rw [h]
/-- An edge's ends are of one set. -/
theorem joinTo_edge (g : Gr) (p : Pt) : ∀ k, ∀ j, j < k → joinTo g p k (posN p.V (ge g.E (gi p.E j).toNat).1) = joinTo g p k (posN p.V (ge g.E (gi p.E j).toNat).2) := by
  intro k
  induction k with
  | zero => intro j hj; omega
  | succ k ih =>
    intro j hj
    unfold joinTo
    rcases Nat.lt_or_ge j k with h | h
    · exact joinRep_cong _ _ (ih j h)
    · have : j = k := by omega
      subst this
      rw [(joinRep_at _ _ _).1, (joinRep_at _ _ _).2]
theorem repE_edge {g : Gr} {p : Pt} {e : Int} (he : e ∈ p.E) : repE g p (posN p.V (ge g.E e.toNat).1) = repE g p (posN p.V (ge g.E e.toNat).2) := by
  obtain ⟨j, hj, rfl⟩ := List.getElem_of_mem he
  have := joinTo_edge g p p.E.length j hj
  rw [gi_eq hj] at this
  exact this
/-- What holds on over each edge, holds on in each set. -/
theorem joinTo_least {g : Gr} {p : Pt} {P : Int → Prop} (hE : ∀ e ∈ p.E, (ge g.E e.toNat).1 ∈ p.V ∧ (ge g.E e.toNat).2 ∈ p.V ∧ (P (ge g.E e.toNat).1 ↔ P (ge g.E e.toNat).2)) : ∀ k, k ≤ p.E.length → ∀ i j, i < p.V.length → j < p.V.length → joinTo g p k i = joinTo g p k j → (P (gi p.V i) ↔ P (gi p.V j)) := by
  intro k
  induction k with
  | zero => intro _ i j _ _ h; unfold joinTo at h; subst h; exact Iff.rfl
  | succ k ih =>
    intro hk i j hi hj h
    have ih := ih (by omega)
    obtain ⟨ha, hb, hab⟩ := hE _ (gi_mem (xs := p.E) (i := k) (by omega))
    unfold joinTo joinRep at h
    generalize (ge g.E (gi p.E k).toNat).1 = a at *
    generalize (ge g.E (gi p.E k).toNat).2 = b at *
    have pa := posN_lt ha
    have pb := posN_lt hb
    have ga := gi_posN ha
    have gb := gi_posN hb
    have hAB : P (gi p.V (posN p.V a)) ↔ P (gi p.V (posN p.V b)) := by rw [ga, gb]; exact hab
    have one : ∀ i, i < p.V.length → (joinTo g p k i = joinTo g p k (posN p.V a) ∨ joinTo g p k i = joinTo g p k (posN p.V b)) → (P (gi p.V i) ↔ P (gi p.V (posN p.V a))) := by
      intro i hi ho
      rcases ho with ho | ho
      · exact ih i _ hi pa ho
      · exact (ih i _ hi pb ho).trans hAB.symm
    by_cases h1 : joinTo g p k i = max (joinTo g p k (posN p.V a)) (joinTo g p k (posN p.V b))
    · have oi := one i hi (by omega)
      rw [if_pos h1] at h
      by_cases h2 : joinTo g p k j = max (joinTo g p k (posN p.V a)) (joinTo g p k (posN p.V b))
      · exact oi.trans (one j hj (by omega)).symm
      · rw [if_neg h2] at h
        exact oi.trans (one j hj (by omega)).symm
    · rw [if_neg h1] at h
      by_cases h2 : joinTo g p k j = max (joinTo g p k (posN p.V a)) (joinTo g p k (posN p.V b))
      · rw [if_pos h2] at h
        exact (one i hi (by omega)).trans (one j hj (by omega)).symm
      · rw [if_neg h2] at h
        exact ih i j hi hj h
theorem verts_pos {g : Gr} {p : Pt} (h0 : g.rightPart p = 0) : ∀ v ∈ p.V, 0 ≤ v ∧ v < g.N := fun v hv => by
  have := (risesF_sound _ _ _ (Gr.rightPart_ok h0).2.1).2 v hv
  omega
theorem verts_nodup {g : Gr} {p : Pt} (h0 : g.rightPart p = 0) : p.V.Nodup := by
  have := (risesF_sound _ _ _ (Gr.rightPart_ok h0).2.1).1
  exact List.nodup_iff_pairwise_ne.2 (this.imp fun h => by omega)
/-- Spreading out from a vertex meets its set. -/
theorem spread_mem {g : Gr} {p : Pt} (h0 : g.rightPart p = 0) {v : Int} (hv : v ∈ p.V) (x : Int) : x ∈ sprF g p (-1) [v] ↔ x ∈ p.V ∧ repE g p (posN p.V x) = repE g p (posN p.V v) := by
  have hE := edges_ok h0
  have hn1 : ([v] : List Int).Nodup := by simp
  have hl1 : ∀ x ∈ [v], x ∈ p.V := fun x hx => by rw [List.mem_singleton] at hx; subst hx; exact hv
  constructor
  · intro hx
    exact spr_all (g := g) (p := p) (but := -1) (P := fun x => x ∈ p.V ∧ repE g p (posN p.V x) = repE g p (posN p.V v)) (fun e he => by
      have h1 := hE e he
      have h2 := repE_edge (g := g) he
      exact ⟨fun h => ⟨h1.2.2.2, h2 ▸ h.2⟩, fun h => ⟨h1.2.2.1, h2 ▸ h.2⟩⟩) (fun x hx => by rw [List.mem_singleton] at hx; subst hx; exact ⟨hv, rfl⟩) _ x hx
  · rintro ⟨hx, hr⟩
    have hcl := sprF_closed h0 (but := -1) hn1 hl1
    have := joinTo_least (g := g) (p := p) (P := fun x => x ∈ sprF g p (-1) [v]) (fun e he => by
      have h1 := hE e he
      have h2 := hcl e he
      have n1 : (ge g.E e.toNat).1 ≠ -1 := by have := verts_pos h0 _ h1.2.2.1; omega
      have n2 : (ge g.E e.toNat).2 ≠ -1 := by have := verts_pos h0 _ h1.2.2.2; omega
      exact ⟨h1.2.2.1, h1.2.2.2, fun h => h2.1 h n2, fun h => h2.2 h n1⟩) p.E.length (Nat.le_refl _) (posN p.V x) (posN p.V v) (posN_lt hx) (posN_lt hv) hr
    rw [gi_posN hx, gi_posN hv] at this
    refine this.2 ?_
    obtain ⟨t, ht⟩ := sprTo_pre g p.E (-1) [v] 0 p.V.length
    unfold sprF
    rw [Nat.zero_add] at ht
    rw [ht]
    exact List.mem_append_left _ (List.mem_singleton.2 rfl)

/-! The pieces in their order. -/
/-- Sub -/
def Gr.sub (g : Gr) (p : Pt) (l : List Int) : List Int × List Int := (p.V.filter fun x => decide (x ∈ l), p.E.filter fun e => decide ((ge g.E e.toNat).1 ∈ l) && decide ((ge g.E e.toNat).2 ∈ l))
/-- The vertices done and the pieces told, behind the first k vertices. -/
def piecesTo (g : Gr) (p : Pt) : Nat → List Int × List (List Int × List Int)
  | 0 => ([], [])
  | k + 1 => if gi p.V k ∈ (piecesTo g p k).1 then piecesTo g p k else ((piecesTo g p k).1 ++ sprF g p (-1) [gi p.V k], (piecesTo g p k).2 ++ [g.sub p (sprF g p (-1) [gi p.V k])])
def grpTo (all : List Int) (rep : Nat → Nat) (t : Int) : Nat → List Int
  | 0 => []
  | k + 1 => if ((rep k : Nat) : Int) = t then grpTo all rep t k ++ [gi all k] else grpTo all rep t k
theorem groupsTo_map (all : List Int) (rep : Nat → Nat) : ∀ k, (groupsTo all rep k).2 = (groupsTo all rep k).1.map (fun t => grpTo all rep t k) ∧ (∀ t, t ∉ (groupsTo all rep k).1 → grpTo all rep t k = []) := by
  intro k
  induction k with
  | zero => exact ⟨rfl, fun _ _ => rfl⟩
  | succ k ih =>
    obtain ⟨h1, h2⟩ := ih
    obtain ⟨hl, hn, -, -⟩ := groupsTo_ok all rep k
    unfold groupsTo addG
    generalize hst : groupsTo all rep k = st at *
    obtain ⟨ks, gs⟩ := st
    dsimp only at h1 h2 hl hn ⊢
    by_cases hm : ((rep k : Nat) : Int) ∈ ks
    · rw [if_pos hm]
      dsimp only
      have hp := posN_lt hm
      have hg := gi_posN hm
      refine ⟨?_, fun t ht => ?_⟩
      · apply List.ext_getElem
        · simp [hl]
        · intro i hi1 hi2
          have hik : i < ks.length := by simpa using hi2
          have hig : i < gs.length := by omega
          have hgi : gs[i] = grpTo all rep ks[i] k := by simp only [h1, List.getElem_map]
          rw [List.getElem_set, List.getElem_map]
          conv => rhs; unfold grpTo
          by_cases hi : posN ks ((rep k : Nat) : Int) = i
          · rw [if_pos hi]
            have e1 : ks[i] = ((rep k : Nat) : Int) := by rw [← gi_eq hik, ← hi, hg]
            rw [e1, if_pos rfl, List.getD_eq_getElem?_getD, hi, List.getElem?_eq_getElem hig, Option.getD_some, hgi, e1]
          · rw [if_neg hi, if_neg, hgi]
            intro e
            apply hi
            exact nodup_inj hn hp hik (by rw [← gi_eq hp, hg]; exact e)
      · unfold grpTo
        rw [if_neg fun e : ((rep k : Nat) : Int) = t => ht (e ▸ hm)]
        exact h2 t ht
    · rw [if_neg hm]
      dsimp only
      refine ⟨?_, fun t ht => ?_⟩
      · rw [List.map_append, h1]
        congr 1
        · apply List.map_congr_left
          intro t ht
          conv => rhs; unfold grpTo
          rw [if_neg fun e : ((rep k : Nat) : Int) = t => hm (e ▸ ht)]
        · rw [List.map_cons, List.map_nil]
          conv => rhs; unfold grpTo
          rw [if_pos rfl, h2 _ hm]
          rfl
      · have ht1 : t ∉ ks := fun h => ht (List.mem_append_left _ h)
        have ht2 : t ≠ ((rep k : Nat) : Int) := fun h => ht (List.mem_append_right _ (by rw [h]; exact List.mem_singleton.2 rfl))
        unfold grpTo
        rw [if_neg fun e : ((rep k : Nat) : Int) = t => ht2 e.symm]
        exact h2 t ht1
theorem grpTo_filter {all : List Int} (hn : all.Nodup) (rep : Nat → Nat) (t : Int) : grpTo all rep t all.length = all.filter fun x => decide (((rep (posN all x) : Nat) : Int) = t) := by
  have : ∀ k, k ≤ all.length → grpTo all rep t k = (all.take k).filter fun x => decide (((rep (posN all x) : Nat) : Int) = t) := by
    intro k
    induction k with
    | zero => intro _; rfl
    | succ k ih =>
      intro hk
      have hp := posN_gi hn (k := k) (by omega)
      rw [List.take_succ_eq_append_getElem (by omega), List.filter_append, ← gi_eq (by omega)]
      unfold grpTo
      rw [ih (by omega)]
      by_cases h : ((rep k : Nat) : Int) = t
      · rw [if_pos h, List.filter_cons_of_pos (by rw [hp]; simpa using h)]
        rfl
      · rw [if_neg h, List.filter_cons_of_neg (by rw [hp]; simpa using h)]
        simp
  rw [this _ (Nat.le_refl _), List.take_length]
/-- The piece whose representative is t. -/
def pieceT (g : Gr) (p : Pt) (t : Int) : List Int × List Int := (p.V.filter fun x => decide (((repE g p (posN p.V x) : Nat) : Int) = t), p.E.filter fun e => decide (((repE g p (posN p.V (ge g.E e.toNat).1) : Nat) : Int) = t))
theorem piecesTo_spec {g : Gr} {p : Pt} (h0 : g.rightPart p = 0) : ∀ k, k ≤ p.V.length → (∀ x, x ∈ (piecesTo g p k).1 ↔ x ∈ p.V ∧ ((repE g p (posN p.V x) : Nat) : Int) ∈ (groupsTo p.V (repE g p) k).1) ∧ (piecesTo g p k).2 = (groupsTo p.V (repE g p) k).1.map (pieceT g p) := by
  have hE := edges_ok h0
  intro k
  induction k with
  | zero => intro _; exact ⟨fun x => by simp [piecesTo, groupsTo], rfl⟩
  | succ k ih =>
    intro hk
    obtain ⟨i1, i2⟩ := ih (by omega)
    have hp := posN_gi (verts_nodup h0) (k := k) (by omega)
    have hv : gi p.V k ∈ p.V := gi_mem (by omega)
    have hk1 := i1 (gi p.V k)
    rw [hp] at hk1
    unfold piecesTo groupsTo addG
    by_cases hm : ((repE g p k : Nat) : Int) ∈ (groupsTo p.V (repE g p) k).1
    · rw [if_pos hm, if_pos (hk1.2 ⟨hv, hm⟩)]
      exact ⟨i1, i2⟩
    · rw [if_neg hm, if_neg fun h => hm (hk1.1 h).2]
      dsimp only
      refine ⟨fun x => ?_, ?_⟩
      · rw [List.mem_append, i1, spread_mem h0 hv, hp, List.mem_append, List.mem_singleton]
        constructor
        · rintro (⟨h1, h2⟩ | ⟨h1, h2⟩)
          · exact ⟨h1, .inl h2⟩
          · exact ⟨h1, .inr (by rw [h2])⟩
        · rintro ⟨h1, h2 | h2⟩
          · exact .inl ⟨h1, h2⟩
          · exact .inr ⟨h1, by omega⟩
      · rw [i2, List.map_append]
        congr 1
        rw [List.map_cons, List.map_nil]
        congr 1
        unfold Gr.sub pieceT
        have hmem := spread_mem h0 hv
        rw [hp] at hmem
        refine Prod.ext (List.filter_congr fun x hx => ?_) (List.filter_congr fun e he => ?_)
        · rw [decide_eq_decide, hmem]
          exact ⟨fun h => by rw [h.2], fun h => ⟨hx, by omega⟩⟩
        · have h1 := hE e he
          have h2 := repE_edge (g := g) he
          rw [← Bool.decide_and, decide_eq_decide, hmem, hmem]
          exact ⟨fun h => by rw [h.1.2], fun h => ⟨⟨h1.2.2.1, by omega⟩, ⟨h1.2.2.2, by rw [← h2]; omega⟩⟩⟩
/-- The document's pieces are the program's. -/
theorem piecesTo_eq {g : Gr} {p : Pt} (h0 : g.rightPart p = 0) : (piecesTo g p p.V.length).2 = piecesF g p := by
  rw [(piecesTo_spec h0 _ (Nat.le_refl _)).2]
  unfold piecesF groupsF
  have hgm := groupsTo_map p.V (repE g p) p.V.length
  have hmem := groupsTo_mem p.V (repE g p) p.V.length (Nat.le_refl _)
  rw [hgm.1, List.map_map]
  apply List.map_congr_left
  intro t ht
  have hin : grpTo p.V (repE g p) t p.V.length ∈ (groupsTo p.V (repE g p) p.V.length).2 := by rw [hgm.1]; exact List.mem_map.2 ⟨t, ht, rfl⟩
  have hpos := (hmem _ hin).1
  have hfirst := gi_mem hpos
  have hfil := grpTo_filter (verts_nodup h0) (repE g p) t
  rw [Function.comp_apply]
  unfold pieceT pieceOf
  rw [hfil] at hfirst ⊢
  refine Prod.ext rfl (List.filter_congr fun e he => ?_)
  rw [hfil] at hpos
  have ht2 := of_decide_eq_true (List.mem_filter.1 hfirst).2
  unfold sameR
  rw [decide_eq_decide]
  exact ⟨fun h => by omega, fun h => by rw [h]; omega⟩
end Go.Proofs.Ytefhmlgepnlaoaa
