/- Plain: the document's pieces (spreading out) are the pieces by sets. Plain: sets of numbers joined along pairs; cycles of maps one to one; Euler's inequality. Plain: of each piece of right turns: vertices less edges and walks are two or less, and even. No program. Plain: Euler's inequality of the pieces of right turns, joined. No program. -/
import Derived.Test.YtefhmlgepnlaoaaGreatGe
import Derived.Test.YtefhmlgepnlaoaaGreatSa
import Derived.Test.YtefhmlgepnlaoaaGreatEj
set_option linter.unusedVariables false
set_option linter.unusedSimpArgs false
namespace Go.Proofs.YtefhmlgepnlaoaaGreat
open Go.RowKit

/-! Spreading out. -/
/-- One way along one edge. -/
def spr1 (but x : Int) (met : List Int) (a b : Int) : List Int := if a = x ∧ b ≠ but ∧ b ∉ met then met ++ [b] else met
def sprE (g : Gr) (but x : Int) (met : List Int) (e : Int) : List Int := spr1 but x (spr1 but x met (ge g.E e.toNat).1 (ge g.E e.toNat).2) (ge g.E e.toNat).2 (ge g.E e.toNat).1
def sprX (g : Gr) (E : List Int) (but x : Int) (met : List Int) : List Int := E.foldl (sprE g but x) met
def sprTo (g : Gr) (E : List Int) (but : Int) (l0 : List Int) : Nat → List Int
  | 0 => l0
  | k + 1 => if k < (sprTo g E but l0 k).length then sprX g E but (gi (sprTo g E but l0 k) k) (sprTo g E but l0 k) else sprTo g E but l0 k
theorem sprTo_succ (g : Gr) (E : List Int) (but : Int) (l0 : List Int) (k : Nat) : sprTo g E but l0 (k + 1) = if k < (sprTo g E but l0 k).length then sprX g E but (gi (sprTo g E but l0 k) k) (sprTo g E but l0 k) else sprTo g E but l0 k := rfl
/-- Spread -/
def sprF (g : Gr) (p : Pt) (but : Int) (l0 : List Int) : List Int := sprTo g p.E but l0 p.V.length
theorem spr1_pre (but x : Int) (met : List Int) (a b : Int) : ∃ t, spr1 but x met a b = met ++ t := by
  unfold spr1
  split
  · exact ⟨_, rfl⟩
  · exact ⟨[], by simp⟩
theorem sprE_pre (g : Gr) (but x : Int) (met : List Int) (e : Int) : ∃ t, sprE g but x met e = met ++ t := by
  obtain ⟨t, ht⟩ := spr1_pre but x met (ge g.E e.toNat).1 (ge g.E e.toNat).2
  obtain ⟨s, hs⟩ := spr1_pre but x (spr1 but x met (ge g.E e.toNat).1 (ge g.E e.toNat).2) (ge g.E e.toNat).2 (ge g.E e.toNat).1
  exact ⟨t ++ s, by unfold sprE; rw [hs, ht, List.append_assoc]⟩
theorem sprX_pre (g : Gr) (but x : Int) : ∀ (E : List Int) (met : List Int), ∃ t, sprX g E but x met = met ++ t := by
  intro E
  induction E with
  | nil => intro met; exact ⟨[], by simp [sprX]⟩
  | cons e E ih =>
    intro met
    obtain ⟨t, ht⟩ := sprE_pre g but x met e
    obtain ⟨s, hs⟩ := ih (sprE g but x met e)
    refine ⟨t ++ s, ?_⟩
    unfold sprX at hs ⊢
    rw [List.foldl_cons, hs, ht, List.append_assoc]
theorem sprTo_pre1 (g : Gr) (E : List Int) (but : Int) (l0 : List Int) (k : Nat) : ∃ t, sprTo g E but l0 (k + 1) = sprTo g E but l0 k ++ t := by
  rw [sprTo_succ]
  split
  · exact sprX_pre ..
  · exact ⟨[], by simp⟩
theorem sprTo_pre (g : Gr) (E : List Int) (but : Int) (l0 : List Int) (k : Nat) : ∀ m, ∃ t, sprTo g E but l0 (k + m) = sprTo g E but l0 k ++ t := by
  intro m
  induction m with
  | zero => exact ⟨[], by simp⟩
  | succ m ih =>
    obtain ⟨t, ht⟩ := ih
    obtain ⟨s, hs⟩ := sprTo_pre1 g E but l0 (k + m)
    exact ⟨t ++ s, by rw [← Nat.add_assoc, hs, ht, List.append_assoc]⟩
theorem sprTo_still (g : Gr) (E : List Int) (but : Int) (l0 : List Int) (k : Nat) (h : (sprTo g E but l0 k).length ≤ k) : ∀ m, sprTo g E but l0 (k + m) = sprTo g E but l0 k := by
  intro m
  induction m with
  | zero => rfl
  | succ m ih =>
    rw [← Nat.add_assoc, sprTo_succ, ih, if_neg (by omega)]
/-- What all in the spread list are, holds on. -/
theorem spr_all {g : Gr} {p : Pt} {but : Int} {P : Int → Prop} (hE : ∀ e ∈ p.E, (P (ge g.E e.toNat).1 ↔ P (ge g.E e.toNat).2)) {l0 : List Int} (h0 : ∀ x ∈ l0, P x) : ∀ k, ∀ x ∈ sprTo g p.E but l0 k, P x := by
  have step : ∀ (E : List Int), (∀ e ∈ E, (P (ge g.E e.toNat).1 ↔ P (ge g.E e.toNat).2)) → ∀ (x : Int) (met : List Int), P x → (∀ y ∈ met, P y) → ∀ y ∈ sprX g E but x met, P y := by
    intro E
    induction E with
    | nil => intro _ x met _ hm; exact hm
    | cons e E ih =>
      intro hE x met hx hm
      have one : ∀ (met : List Int) (a b : Int), (P a → P b) → (∀ y ∈ met, P y) → ∀ y ∈ spr1 but x met a b, P y := by
        intro met a b hab hm y hy
        unfold spr1 at hy
        split at hy
        · rename_i hc
          rcases List.mem_append.1 hy with hy | hy
          · exact hm y hy
          · rw [List.mem_singleton] at hy
            subst hy
            exact hab (hc.1 ▸ hx)
        · exact hm y hy
      have he := hE e (List.mem_cons_self ..)
      exact ih (fun e he => hE e (List.mem_cons_of_mem _ he)) x (sprE g but x met e) hx (one _ _ _ he.2 (one _ _ _ he.1 hm))
  intro k
  induction k with
  | zero => exact h0
  | succ k ih =>
    unfold sprTo
    split
    · rename_i hlt
      exact step p.E hE _ _ (ih _ (gi_mem hlt)) ih
    · exact ih
theorem sprX_nodup (g : Gr) (but x : Int) : ∀ (E : List Int) (met : List Int), met.Nodup → (sprX g E but x met).Nodup := by
  have one : ∀ (met : List Int) (a b : Int), met.Nodup → (spr1 but x met a b).Nodup := by
    intro met a b hm
    unfold spr1
    split
    · rename_i hc
      exact List.nodup_append.2 ⟨hm, by simp, fun y hy z hz e => by rw [List.mem_singleton] at hz; subst hz; exact hc.2.2 (e ▸ hy)⟩
    · exact hm
  intro E
  induction E with
  | nil => intro met h; exact h
  | cons e E ih => intro met h; exact ih _ (one _ _ _ (one _ _ _ h))
theorem sprTo_nodup (g : Gr) (E : List Int) (but : Int) {l0 : List Int} (h0 : l0.Nodup) : ∀ k, (sprTo g E but l0 k).Nodup := by
  intro k
  induction k with
  | zero => exact h0
  | succ k ih =>
    unfold sprTo
    split
    · exact sprX_nodup g but _ E _ ih
    · exact ih
theorem sprX_has (g : Gr) (but x : Int) : ∀ (E : List Int) (met : List Int), ∀ e ∈ E, ((ge g.E e.toNat).1 = x → (ge g.E e.toNat).2 ≠ but → (ge g.E e.toNat).2 ∈ sprX g E but x met) ∧ ((ge g.E e.toNat).2 = x → (ge g.E e.toNat).1 ≠ but → (ge g.E e.toNat).1 ∈ sprX g E but x met) := by
  have one : ∀ (met : List Int) (a b : Int), a = x → b ≠ but → b ∈ spr1 but x met a b := by
    intro met a b ha hb
    unfold spr1
    by_cases hm : b ∈ met
    · rw [if_neg fun h => h.2.2 hm]; exact hm
    · rw [if_pos ⟨ha, hb, hm⟩]; simp
  intro E
  induction E with
  | nil => intro _ e he; cases he
  | cons e E ih =>
    intro met f hf
    rcases List.mem_cons.1 hf with rfl | hf
    · obtain ⟨t, ht⟩ := sprX_pre g but x E (sprE g but x met f)
      have e0 : sprX g (f :: E) but x met = sprX g E but x (sprE g but x met f) := rfl
      rw [e0, ht]
      obtain ⟨s, hs⟩ := spr1_pre but x (spr1 but x met (ge g.E f.toNat).1 (ge g.E f.toNat).2) (ge g.E f.toNat).2 (ge g.E f.toNat).1
      refine ⟨fun h1 h2 => List.mem_append_left _ ?_, fun h1 h2 => List.mem_append_left _ ?_⟩
      · unfold sprE
        rw [hs]
        exact List.mem_append_left _ (one _ _ _ h1 h2)
      · unfold sprE
        exact one _ _ _ h1 h2
    · exact ih (sprE g but x met e) f hf
/-- Lengths stay within the vertices. -/
theorem spr_len {g : Gr} {p : Pt} (h0 : g.rightPart p = 0) {but : Int} {l0 : List Int} (hn : l0.Nodup) (hl : ∀ x ∈ l0, x ∈ p.V) (k : Nat) : (sprTo g p.E but l0 k).length ≤ p.V.length := by
  have hE := edges_ok h0
  have hall := spr_all (g := g) (p := p) (but := but) (P := fun x => x ∈ p.V) (fun e he => ⟨fun _ => (hE e he).2.2.2, fun _ => (hE e he).2.2.1⟩) hl k
  exact (sprTo_nodup g p.E but hn k).length_le_of_subset hall
/-- Where the loop stops is the whole. -/
theorem sprF_eq {g : Gr} {p : Pt} (h0 : g.rightPart p = 0) {but : Int} {l0 : List Int} (hn : l0.Nodup) (hl : ∀ x ∈ l0, x ∈ p.V) {k : Nat} (hk : (sprTo g p.E but l0 k).length = k) : sprF g p but l0 = sprTo g p.E but l0 k := by
  have := spr_len h0 (but := but) hn hl k
  obtain ⟨m, hm⟩ : ∃ m, p.V.length = k + m := ⟨p.V.length - k, by omega⟩
  unfold sprF
  rw [hm]
  exact sprTo_still g p.E but l0 k (by omega) m
theorem sprF_closed {g : Gr} {p : Pt} (h0 : g.rightPart p = 0) {but : Int} {l0 : List Int} (hn : l0.Nodup) (hl : ∀ x ∈ l0, x ∈ p.V) : ∀ e ∈ p.E, ((ge g.E e.toNat).1 ∈ sprF g p but l0 → (ge g.E e.toNat).2 ≠ but → (ge g.E e.toNat).2 ∈ sprF g p but l0) ∧ ((ge g.E e.toNat).2 ∈ sprF g p but l0 → (ge g.E e.toNat).1 ≠ but → (ge g.E e.toNat).1 ∈ sprF g p but l0) := by
  have hlen := spr_len h0 (but := but) hn hl
  have key : ∀ x ∈ sprF g p but l0, ∃ met t, sprF g p but l0 = sprX g p.E but x met ++ t := by
    intro x hx
    obtain ⟨i, hi, rfl⟩ := List.getElem_of_mem hx
    have hi2 : i < p.V.length := Nat.lt_of_lt_of_le hi (hlen _)
    obtain ⟨m, hm⟩ : ∃ m, p.V.length = i + m := ⟨p.V.length - i, by omega⟩
    obtain ⟨t, ht⟩ := sprTo_pre g p.E but l0 i m
    have hii : i < (sprTo g p.E but l0 i).length := by
      refine Nat.lt_of_not_le fun hc => ?_
      have := sprTo_still g p.E but l0 i hc m
      unfold sprF at hi
      rw [hm, this] at hi
      omega
    have hget : (sprF g p but l0)[i] = gi (sprTo g p.E but l0 i) i := by
      rw [gi_eq hii]
      have e1 : sprF g p but l0 = sprTo g p.E but l0 i ++ t := by unfold sprF; rw [hm]; exact ht
      simp only [e1]
      rw [List.getElem_append_left hii]
    rw [hget]
    obtain ⟨m2, hm2⟩ : ∃ m, p.V.length = (i + 1) + m := ⟨p.V.length - (i + 1), by omega⟩
    obtain ⟨t2, ht2⟩ := sprTo_pre g p.E but l0 (i + 1) m2
    refine ⟨sprTo g p.E but l0 i, t2, ?_⟩
    have e2 : sprTo g p.E but l0 (i + 1) = sprX g p.E but (gi (sprTo g p.E but l0 i) i) (sprTo g p.E but l0 i) := by
      rw [sprTo_succ, if_pos hii]
    rw [← e2]
    unfold sprF
    rw [hm2]
    exact ht2
  intro e he
  refine ⟨fun h1 h2 => ?_, fun h1 h2 => ?_⟩
  · obtain ⟨met, t, ht⟩ := key _ h1
    rw [ht]
    exact List.mem_append_left _ ((sprX_has g but _ p.E met e he).1 rfl h2)
  · obtain ⟨met, t, ht⟩ := key _ h1
    rw [ht]
    exact List.mem_append_left _ ((sprX_has g but _ p.E met e he).2 rfl h2)

/-! Sets and spreading. -/
theorem idxFrom_at (x : Int) : ∀ (xs : List Int) (k : Nat), x ∈ xs → gi xs (idxFrom k xs x - k).toNat = x := by
  intro xs
  induction xs with
  | nil => intro k h; cases h
  | cons y ys ih =>
    intro k h
    unfold idxFrom
    split
    · rename_i he
      rw [show ((k : Int) - k).toNat = 0 by omega]
      simp [gi, he]
    · rename_i hne
      have hm : x ∈ ys := by rcases List.mem_cons.1 h with h | h; exact absurd h hne; exact h
      have := ih (k + 1) hm
      have hp := idxFrom_mem x ys (k + 1) hm
      obtain ⟨j, hj⟩ : ∃ j : Nat, (idxFrom (k + 1) ys x - ((k + 1 : Nat) : Int)).toNat = j := ⟨_, rfl⟩
      rw [hj] at this
      rw [show (idxFrom (k + 1) ys x - (k : Int)).toNat = j + 1 by omega]
      simpa [gi] using this
theorem gi_posN {xs : List Int} {x : Int} (h : x ∈ xs) : gi xs (posN xs x) = x := by
  have := idxFrom_at x xs 0 h
  unfold posN idx
  simpa using this
theorem posN_gi {xs : List Int} (hn : xs.Nodup) {k : Nat} (hk : k < xs.length) : posN xs (gi xs k) = k := by
  have h1 := posN_lt (gi_mem hk)
  have h2 := gi_posN (gi_mem hk)
  exact nodup_inj hn h1 hk (by rw [← gi_eq h1, ← gi_eq hk]; exact h2)
theorem joinRep_at (rep : Nat → Nat) (i k : Nat) : joinRep rep i k i = min (rep i) (rep k) ∧ joinRep rep i k k = min (rep i) (rep k) := by
  unfold joinRep
  constructor <;> split <;> omega
theorem joinRep_cong {rep : Nat → Nat} (i k : Nat) {a b : Nat} (h : rep a = rep b) : joinRep rep i k a = joinRep rep i k b := by
  unfold joinRep; rw [h]
/-- An edge's ends are of one set. -/
theorem joinTo_edge (g : Gr) (p : Pt) : ∀ k, ∀ j, j < k → joinTo g p k (posN p.V (ge g.E (gi p.E j).toNat).1) = joinTo g p k (posN p.V (ge g.E (gi p.E j).toNat).2) := by
  intro k
  induction k with
  | zero => intro j hj; omega
  | succ k ih =>
    intro j hj
    unfold joinTo
    rcases Nat.lt_or_ge j k with h | h
    · exact joinRep_cong _ _ (ih j h)
    · have : j = k := by omega
      subst this
      rw [(joinRep_at _ _ _).1, (joinRep_at _ _ _).2]
theorem repE_edge {g : Gr} {p : Pt} {e : Int} (he : e ∈ p.E) : repE g p (posN p.V (ge g.E e.toNat).1) = repE g p (posN p.V (ge g.E e.toNat).2) := by
  obtain ⟨j, hj, rfl⟩ := List.getElem_of_mem he
  have := joinTo_edge g p p.E.length j hj
  rw [gi_eq hj] at this
  exact this
/-- What holds on over each edge, holds on in each set. -/
theorem joinTo_least {g : Gr} {p : Pt} {P : Int → Prop} (hE : ∀ e ∈ p.E, (ge g.E e.toNat).1 ∈ p.V ∧ (ge g.E e.toNat).2 ∈ p.V ∧ (P (ge g.E e.toNat).1 ↔ P (ge g.E e.toNat).2)) : ∀ k, k ≤ p.E.length → ∀ i j, i < p.V.length → j < p.V.length → joinTo g p k i = joinTo g p k j → (P (gi p.V i) ↔ P (gi p.V j)) := by
  intro k
  induction k with
  | zero => intro _ i j _ _ h; unfold joinTo at h; subst h; exact Iff.rfl
  | succ k ih =>
    intro hk i j hi hj h
    have ih := ih (by omega)
    obtain ⟨ha, hb, hab⟩ := hE _ (gi_mem (xs := p.E) (i := k) (by omega))
    unfold joinTo joinRep at h
    generalize (ge g.E (gi p.E k).toNat).1 = a at *
    generalize (ge g.E (gi p.E k).toNat).2 = b at *
    have pa := posN_lt ha
    have pb := posN_lt hb
    have ga := gi_posN ha
    have gb := gi_posN hb
    have hAB : P (gi p.V (posN p.V a)) ↔ P (gi p.V (posN p.V b)) := by rw [ga, gb]; exact hab
    have one : ∀ i, i < p.V.length → (joinTo g p k i = joinTo g p k (posN p.V a) ∨ joinTo g p k i = joinTo g p k (posN p.V b)) → (P (gi p.V i) ↔ P (gi p.V (posN p.V a))) := by
      intro i hi ho
      rcases ho with ho | ho
      · exact ih i _ hi pa ho
      · exact (ih i _ hi pb ho).trans hAB.symm
    by_cases h1 : joinTo g p k i = max (joinTo g p k (posN p.V a)) (joinTo g p k (posN p.V b))
    · have oi := one i hi (by omega)
      rw [if_pos h1] at h
      by_cases h2 : joinTo g p k j = max (joinTo g p k (posN p.V a)) (joinTo g p k (posN p.V b))
      · exact oi.trans (one j hj (by omega)).symm
      · rw [if_neg h2] at h
        exact oi.trans (one j hj (by omega)).symm
    · rw [if_neg h1] at h
      by_cases h2 : joinTo g p k j = max (joinTo g p k (posN p.V a)) (joinTo g p k (posN p.V b))
      · rw [if_pos h2] at h
        exact (one i hi (by omega)).trans (one j hj (by omega)).symm
      · rw [if_neg h2] at h
        exact ih i j hi hj h
theorem verts_pos {g : Gr} {p : Pt} (h0 : g.rightPart p = 0) : ∀ v ∈ p.V, 0 ≤ v ∧ v < g.N := fun v hv => by
  have := (risesF_sound _ _ _ (Gr.rightPart_ok h0).2.1).2 v hv
  omega
theorem verts_nodup {g : Gr} {p : Pt} (h0 : g.rightPart p = 0) : p.V.Nodup := by
  have := (risesF_sound _ _ _ (Gr.rightPart_ok h0).2.1).1
  exact List.nodup_iff_pairwise_ne.2 (this.imp fun h => by omega)
/-- Spreading out from a vertex meets its set. -/
theorem spread_mem {g : Gr} {p : Pt} (h0 : g.rightPart p = 0) {v : Int} (hv : v ∈ p.V) (x : Int) : x ∈ sprF g p (-1) [v] ↔ x ∈ p.V ∧ repE g p (posN p.V x) = repE g p (posN p.V v) := by
  have hE := edges_ok h0
  have hn1 : ([v] : List Int).Nodup := by simp
  have hl1 : ∀ x ∈ [v], x ∈ p.V := fun x hx => by rw [List.mem_singleton] at hx; subst hx; exact hv
  constructor
  · intro hx
    exact spr_all (g := g) (p := p) (but := -1) (P := fun x => x ∈ p.V ∧ repE g p (posN p.V x) = repE g p (posN p.V v)) (fun e he => by
      have h1 := hE e he
      have h2 := repE_edge (g := g) he
      exact ⟨fun h => ⟨h1.2.2.2, h2 ▸ h.2⟩, fun h => ⟨h1.2.2.1, h2 ▸ h.2⟩⟩) (fun x hx => by rw [List.mem_singleton] at hx; subst hx; exact ⟨hv, rfl⟩) _ x hx
  · rintro ⟨hx, hr⟩
    have hcl := sprF_closed h0 (but := -1) hn1 hl1
    have := joinTo_least (g := g) (p := p) (P := fun x => x ∈ sprF g p (-1) [v]) (fun e he => by
      have h1 := hE e he
      have h2 := hcl e he
      have n1 : (ge g.E e.toNat).1 ≠ -1 := by have := verts_pos h0 _ h1.2.2.1; omega
      have n2 : (ge g.E e.toNat).2 ≠ -1 := by have := verts_pos h0 _ h1.2.2.2; omega
      exact ⟨h1.2.2.1, h1.2.2.2, fun h => h2.1 h n2, fun h => h2.2 h n1⟩) p.E.length (Nat.le_refl _) (posN p.V x) (posN p.V v) (posN_lt hx) (posN_lt hv) hr
    rw [gi_posN hx, gi_posN hv] at this
    refine this.2 ?_
    obtain ⟨t, ht⟩ := sprTo_pre g p.E (-1) [v] 0 p.V.length
    unfold sprF
    rw [Nat.zero_add] at ht
    rw [ht]
    exact List.mem_append_left _ (List.mem_singleton.2 rfl)

/-! The pieces in their order. -/
/-- Sub -/
def Gr.sub (g : Gr) (p : Pt) (l : List Int) : List Int × List Int := (p.V.filter fun x => decide (x ∈ l), p.E.filter fun e => decide ((ge g.E e.toNat).1 ∈ l) && decide ((ge g.E e.toNat).2 ∈ l))
/-- The vertices done and the pieces told, behind the first k vertices. -/
def piecesTo (g : Gr) (p : Pt) : Nat → List Int × List (List Int × List Int)
  | 0 => ([], [])
  | k + 1 => if gi p.V k ∈ (piecesTo g p k).1 then piecesTo g p k else ((piecesTo g p k).1 ++ sprF g p (-1) [gi p.V k], (piecesTo g p k).2 ++ [g.sub p (sprF g p (-1) [gi p.V k])])
def grpTo (all : List Int) (rep : Nat → Nat) (t : Int) : Nat → List Int
  | 0 => []
  | k + 1 => if ((rep k : Nat) : Int) = t then grpTo all rep t k ++ [gi all k] else grpTo all rep t k
theorem groupsTo_map (all : List Int) (rep : Nat → Nat) : ∀ k, (groupsTo all rep k).2 = (groupsTo all rep k).1.map (fun t => grpTo all rep t k) ∧ (∀ t, t ∉ (groupsTo all rep k).1 → grpTo all rep t k = []) := by
  intro k
  induction k with
  | zero => exact ⟨rfl, fun _ _ => rfl⟩
  | succ k ih =>
    obtain ⟨h1, h2⟩ := ih
    obtain ⟨hl, hn, -, -⟩ := groupsTo_ok all rep k
    unfold groupsTo addG
    generalize hst : groupsTo all rep k = st at *
    obtain ⟨ks, gs⟩ := st
    dsimp only at h1 h2 hl hn ⊢
    by_cases hm : ((rep k : Nat) : Int) ∈ ks
    · rw [if_pos hm]
      dsimp only
      have hp := posN_lt hm
      have hg := gi_posN hm
      refine ⟨?_, fun t ht => ?_⟩
      · apply List.ext_getElem
        · simp [hl]
        · intro i hi1 hi2
          have hik : i < ks.length := by simpa using hi2
          have hig : i < gs.length := by omega
          have hgi : gs[i] = grpTo all rep ks[i] k := by simp only [h1, List.getElem_map]
          rw [List.getElem_set, List.getElem_map]
          conv => rhs; unfold grpTo
          by_cases hi : posN ks ((rep k : Nat) : Int) = i
          · rw [if_pos hi]
            have e1 : ks[i] = ((rep k : Nat) : Int) := by rw [← gi_eq hik, ← hi, hg]
            rw [e1, if_pos rfl, List.getD_eq_getElem?_getD, hi, List.getElem?_eq_getElem hig, Option.getD_some, hgi, e1]
          · rw [if_neg hi, if_neg, hgi]
            intro e
            apply hi
            exact nodup_inj hn hp hik (by rw [← gi_eq hp, hg]; exact e)
      · unfold grpTo
        rw [if_neg fun e : ((rep k : Nat) : Int) = t => ht (e ▸ hm)]
        exact h2 t ht
    · rw [if_neg hm]
      dsimp only
      refine ⟨?_, fun t ht => ?_⟩
      · rw [List.map_append, h1]
        congr 1
        · apply List.map_congr_left
          intro t ht
          conv => rhs; unfold grpTo
          rw [if_neg fun e : ((rep k : Nat) : Int) = t => hm (e ▸ ht)]
        · rw [List.map_cons, List.map_nil]
          conv => rhs; unfold grpTo
          rw [if_pos rfl, h2 _ hm]
          rfl
      · have ht1 : t ∉ ks := fun h => ht (List.mem_append_left _ h)
        have ht2 : t ≠ ((rep k : Nat) : Int) := fun h => ht (List.mem_append_right _ (by rw [h]; exact List.mem_singleton.2 rfl))
        unfold grpTo
        rw [if_neg fun e : ((rep k : Nat) : Int) = t => ht2 e.symm]
        exact h2 t ht1
theorem grpTo_filter {all : List Int} (hn : all.Nodup) (rep : Nat → Nat) (t : Int) : grpTo all rep t all.length = all.filter fun x => decide (((rep (posN all x) : Nat) : Int) = t) := by
  have : ∀ k, k ≤ all.length → grpTo all rep t k = (all.take k).filter fun x => decide (((rep (posN all x) : Nat) : Int) = t) := by
    intro k
    induction k with
    | zero => intro _; rfl
    | succ k ih =>
      intro hk
      have hp := posN_gi hn (k := k) (by omega)
      rw [List.take_succ_eq_append_getElem (by omega), List.filter_append, ← gi_eq (by omega)]
      unfold grpTo
      rw [ih (by omega)]
      by_cases h : ((rep k : Nat) : Int) = t
      · rw [if_pos h, List.filter_cons_of_pos (by rw [hp]; simpa using h)]
        rfl
      · rw [if_neg h, List.filter_cons_of_neg (by rw [hp]; simpa using h)]
        simp
  rw [this _ (Nat.le_refl _), List.take_length]
/-- The piece whose representative is t. -/
def pieceT (g : Gr) (p : Pt) (t : Int) : List Int × List Int := (p.V.filter fun x => decide (((repE g p (posN p.V x) : Nat) : Int) = t), p.E.filter fun e => decide (((repE g p (posN p.V (ge g.E e.toNat).1) : Nat) : Int) = t))
theorem piecesTo_spec {g : Gr} {p : Pt} (h0 : g.rightPart p = 0) : ∀ k, k ≤ p.V.length → (∀ x, x ∈ (piecesTo g p k).1 ↔ x ∈ p.V ∧ ((repE g p (posN p.V x) : Nat) : Int) ∈ (groupsTo p.V (repE g p) k).1) ∧ (piecesTo g p k).2 = (groupsTo p.V (repE g p) k).1.map (pieceT g p) := by
  have hE := edges_ok h0
  intro k
  induction k with
  | zero => intro _; exact ⟨fun x => by simp [piecesTo, groupsTo], rfl⟩
  | succ k ih =>
    intro hk
    obtain ⟨i1, i2⟩ := ih (by omega)
    have hp := posN_gi (verts_nodup h0) (k := k) (by omega)
    have hv : gi p.V k ∈ p.V := gi_mem (by omega)
    have hk1 := i1 (gi p.V k)
    rw [hp] at hk1
    unfold piecesTo groupsTo addG
    by_cases hm : ((repE g p k : Nat) : Int) ∈ (groupsTo p.V (repE g p) k).1
    · rw [if_pos hm, if_pos (hk1.2 ⟨hv, hm⟩)]
      exact ⟨i1, i2⟩
    · rw [if_neg hm, if_neg fun h => hm (hk1.1 h).2]
      dsimp only
      refine ⟨fun x => ?_, ?_⟩
      · rw [List.mem_append, i1, spread_mem h0 hv, hp, List.mem_append, List.mem_singleton]
        constructor
        · rintro (⟨h1, h2⟩ | ⟨h1, h2⟩)
          · exact ⟨h1, .inl h2⟩
          · exact ⟨h1, .inr (by rw [h2])⟩
        · rintro ⟨h1, h2 | h2⟩
          · exact .inl ⟨h1, h2⟩
          · exact .inr ⟨h1, by omega⟩
      · rw [i2, List.map_append]
        congr 1
        rw [List.map_cons, List.map_nil]
        congr 1
        unfold Gr.sub pieceT
        have hmem := spread_mem h0 hv
        rw [hp] at hmem
        refine Prod.ext (List.filter_congr fun x hx => ?_) (List.filter_congr fun e he => ?_)
        · rw [decide_eq_decide, hmem]
          exact ⟨fun h => by rw [h.2], fun h => ⟨hx, by omega⟩⟩
        · have h1 := hE e he
          have h2 := repE_edge (g := g) he
          rw [← Bool.decide_and, decide_eq_decide, hmem, hmem]
          exact ⟨fun h => by rw [h.1.2], fun h => ⟨⟨h1.2.2.1, by omega⟩, ⟨h1.2.2.2, by rw [← h2]; omega⟩⟩⟩
/-- The document's pieces are the program's. -/
theorem piecesTo_eq {g : Gr} {p : Pt} (h0 : g.rightPart p = 0) : (piecesTo g p p.V.length).2 = piecesF g p := by
  rw [(piecesTo_spec h0 _ (Nat.le_refl _)).2]
  unfold piecesF groupsF
  have hgm := groupsTo_map p.V (repE g p) p.V.length
  have hmem := groupsTo_mem p.V (repE g p) p.V.length (Nat.le_refl _)
  rw [hgm.1, List.map_map]
  apply List.map_congr_left
  intro t ht
  have hin : grpTo p.V (repE g p) t p.V.length ∈ (groupsTo p.V (repE g p) p.V.length).2 := by rw [hgm.1]; exact List.mem_map.2 ⟨t, ht, rfl⟩
  have hpos := (hmem _ hin).1
  have hfirst := gi_mem hpos
  have hfil := grpTo_filter (verts_nodup h0) (repE g p) t
  rw [Function.comp_apply]
  unfold pieceT pieceOf
  rw [hfil] at hfirst ⊢
  refine Prod.ext rfl (List.filter_congr fun e he => ?_)
  rw [hfil] at hpos
  have ht2 := of_decide_eq_true (List.mem_filter.1 hfirst).2
  unfold sameR
  rw [decide_eq_decide]
  exact ⟨fun h => by omega, fun h => by rw [h]; omega⟩

/-! Sets of numbers, joined along pairs. -/
/-- A set's word is its least number. -/
def RepOk (rep : Nat → Nat) : Prop := ∀ j, rep j ≤ j ∧ rep (rep j) = rep j
theorem RepOk.join {rep : Nat → Nat} (h : RepOk rep) (i k : Nat) : RepOk (joinRep rep i k) := by
  intro j
  have hj := h j
  have hi := h i
  have hk := h k
  unfold joinRep
  by_cases h1 : rep j = max (rep i) (rep k)
  · rw [if_pos h1]
    refine ⟨by omega, ?_⟩
    rcases Nat.le_total (rep i) (rep k) with hl | hl
    · rw [Nat.min_eq_left hl, hi.2]
      split <;> omega
    · rw [Nat.min_eq_right hl, hk.2]
      split <;> omega
  · rw [if_neg h1]
    refine ⟨hj.1, ?_⟩
    rw [hj.2, if_neg h1]
def joinL (L : List (Nat × Nat)) : Nat → Nat := L.foldl (fun rep e => joinRep rep e.1 e.2) fun j => j
theorem joinL_snoc (L : List (Nat × Nat)) (e : Nat × Nat) : joinL (L ++ [e]) = joinRep (joinL L) e.1 e.2 := by
  unfold joinL; rw [List.foldl_append]; rfl
theorem snoc_ind {α : Type} {P : List α → Prop} (h0 : P []) (h1 : ∀ L e, P L → P (L ++ [e])) : ∀ L, P L := by
  have : ∀ L : List α, P L.reverse := by
    intro L
    induction L with
    | nil => exact h0
    | cons e L ih => rw [List.reverse_cons]; exact h1 _ _ ih
  intro L
  have := this L.reverse
  rwa [List.reverse_reverse] at this
theorem joinL_ok : ∀ L, RepOk (joinL L) := by
  refine snoc_ind ?_ ?_
  · intro j; exact ⟨Nat.le_refl _, rfl⟩
  · intro L e h; rw [joinL_snoc]; exact h.join _ _
theorem joinRep_both (rep : Nat → Nat) (i k : Nat) : joinRep rep i k i = joinRep rep i k k := by
  unfold joinRep
  split <;> split <;> omega
theorem joinRep_same {rep : Nat → Nat} (i k : Nat) {a b : Nat} (h : rep a = rep b) : joinRep rep i k a = joinRep rep i k b := by
  unfold joinRep; rw [h]
/-- A pair is of one set. -/
theorem joinL_mem : ∀ L, ∀ e ∈ L, joinL L e.1 = joinL L e.2 := by
  refine snoc_ind ?_ ?_
  · intro e he; cases he
  · intro L e h f hf
    rw [joinL_snoc]
    rcases List.mem_append.1 hf with hf | hf
    · exact joinRep_same _ _ (h f hf)
    · rw [List.mem_singleton] at hf; subst hf; exact joinRep_both _ _ _
/-- What holds on along each pair holds on in each set. -/
theorem joinL_least {P : Nat → Nat → Prop} (hr : ∀ i, P i i) (hs : ∀ i j, P i j → P j i) (ht : ∀ i j k, P i j → P j k → P i k) : ∀ L, (∀ e ∈ L, P e.1 e.2) → ∀ i j, joinL L i = joinL L j → P i j := by
  refine snoc_ind ?_ ?_
  · intro _ i j h
    have : i = j := h
    subst this
    exact hr i
  · intro L e ih hL i j h
    have ih := ih fun f hf => hL f (List.mem_append_left _ hf)
    have he := hL e (List.mem_append_right _ (List.mem_singleton.2 rfl))
    rw [joinL_snoc] at h
    unfold joinRep at h
    have one : ∀ i, joinL L i = joinL L e.1 ∨ joinL L i = joinL L e.2 → P i e.1 := by
      intro i ho
      rcases ho with ho | ho
      · exact ih i _ ho
      · exact ht _ _ _ (ih i _ ho) (hs _ _ he)
    by_cases h1 : joinL L i = max (joinL L e.1) (joinL L e.2)
    · rw [if_pos h1] at h
      by_cases h2 : joinL L j = max (joinL L e.1) (joinL L e.2)
      · exact ih i j (h1.trans h2.symm)
      · rw [if_neg h2] at h
        exact ht _ _ _ (one i (by omega)) (hs _ _ (one j (by omega)))
    · rw [if_neg h1] at h
      by_cases h2 : joinL L j = max (joinL L e.1) (joinL L e.2)
      · rw [if_pos h2] at h
        exact ht _ _ _ (one i (by omega)) (hs _ _ (one j (by omega)))
      · rw [if_neg h2] at h
        exact ih i j h
theorem joinL_le {L : List (Nat × Nat)} {i j : Nat} (h : joinL L i = joinL L j) : joinL L i ≤ j := by
  rw [h]; exact (joinL_ok L j).1
/-- Sets that hold each other's pairs are the same. -/
theorem joinL_fine {L M : List (Nat × Nat)} (h : ∀ e ∈ L, joinL M e.1 = joinL M e.2) {i j : Nat} (hij : joinL L i = joinL L j) : joinL M i = joinL M j :=
  joinL_least (P := fun i j => joinL M i = joinL M j) (fun _ => rfl) (fun _ _ h => h.symm) (fun _ _ _ h1 h2 => h1.trans h2) L h i j hij
theorem joinL_eq {L M : List (Nat × Nat)} (h1 : ∀ e ∈ L, joinL M e.1 = joinL M e.2) (h2 : ∀ e ∈ M, joinL L e.1 = joinL L e.2) : joinL L = joinL M := by
  funext j
  have a1 : joinL L (joinL L j) = joinL L j := (joinL_ok L j).2
  have a2 : joinL M (joinL M j) = joinL M j := (joinL_ok M j).2
  have b1 := joinL_fine h1 a1
  have b2 := joinL_fine h2 a2
  have c1 : joinL M j ≤ joinL L j := by rw [← b1]; exact (joinL_ok M _).1
  have c2 : joinL L j ≤ joinL M j := by rw [← b2]; exact (joinL_ok L _).1
  omega

/-! How many sets. -/
def cntR (rep : Nat → Nat) (n : Nat) : Nat := ((List.range n).filter fun j => decide (rep j = j)).length
theorem filter_drop_one {p q : Nat → Bool} {m : Nat} (hp : p m = true) (hq : q m = false) (h : ∀ j, j ≠ m → p j = q j) : ∀ n, m < n → ((List.range n).filter p).length = ((List.range n).filter q).length + 1 := by
  have low : ∀ n, n ≤ m → ((List.range n).filter p).length = ((List.range n).filter q).length := by
    intro n hn
    congr 1
    apply List.filter_congr
    intro x hx
    exact h x (by have := List.mem_range.1 hx; omega)
  intro n
  induction n with
  | zero => intro h; omega
  | succ n ih =>
    intro hn
    rw [List.range_succ, List.filter_append, List.filter_append, List.length_append, List.length_append]
    rcases Nat.lt_or_ge m n with hm | hm
    · rw [ih hm, List.filter_cons, List.filter_cons, h n (by omega)]
      cases q n <;> simp <;> omega
    · have : n = m := by omega
      subst this
      rw [low n (Nat.le_refl _), List.filter_cons, List.filter_cons, hp, hq]
      simp
/-- One pair more: of two sets one. -/
theorem cnt_join {rep : Nat → Nat} (h : RepOk rep) {i k n : Nat} (hi : i < n) (hk : k < n) : cntR (joinRep rep i k) n + (if rep i = rep k then 0 else 1) = cntR rep n := by
  have hi1 := h i
  have hk1 := h k
  by_cases he : rep i = rep k
  · rw [if_pos he]
    have : joinRep rep i k = rep := by
      funext j
      unfold joinRep
      split <;> omega
    rw [this]
    rfl
  · rw [if_neg he]
    unfold cntR
    symm
    have hmx : rep (max (rep i) (rep k)) = max (rep i) (rep k) := by
      rcases Nat.le_total (rep i) (rep k) with hl | hl
      · rw [Nat.max_eq_right hl]; exact hk1.2
      · rw [Nat.max_eq_left hl]; exact hi1.2
    refine filter_drop_one (m := max (rep i) (rep k)) (decide_eq_true hmx) (decide_eq_false ?_) (fun j hj => ?_) n (by omega)
    · unfold joinRep
      rw [if_pos hmx]
      omega
    · rw [decide_eq_decide]
      unfold joinRep
      have hj1 := h j
      split
      · rename_i hc
        constructor
        · intro e; omega
        · intro e; 
          exfalso
          have : rep j = j := by
            rcases Nat.le_total (rep i) (rep k) with hl | hl
            · have : j = rep i := by omega
              rw [this]; exact hi1.2
            · have : j = rep k := by omega
              rw [this]; exact hk1.2
          omega
      · exact Iff.rfl
def cntL (L : List (Nat × Nat)) (n : Nat) : Nat := cntR (joinL L) n
theorem cntL_snoc (L : List (Nat × Nat)) {e : Nat × Nat} {n : Nat} (h1 : e.1 < n) (h2 : e.2 < n) : cntL (L ++ [e]) n + (if joinL L e.1 = joinL L e.2 then 0 else 1) = cntL L n := by
  unfold cntL
  rw [joinL_snoc]
  exact cnt_join (joinL_ok L) h1 h2

/-! Maps one to one on the first n numbers; their cycles. -/
structure PermN (n : Nat) (f : Nat → Nat) : Prop where
  lt : ∀ x, x < n → f x < n
  inj : ∀ x y, x < n → y < n → f x = f y → x = y
def itN (f : Nat → Nat) : Nat → Nat → Nat
  | 0, x => x
  | k + 1, x => f (itN f k x)
theorem itN_add (f : Nat → Nat) (i : Nat) : ∀ k x, itN f (k + i) x = itN f k (itN f i x) := by
  intro k
  induction k with
  | zero => intro x; rw [Nat.zero_add]; rfl
  | succ k ih => intro x; rw [Nat.succ_add]; unfold itN; rw [ih]
/-- The first time that a number is met. -/
theorem first_met {P : Nat → Prop} : (∃ k, P k) → ∃ k, P k ∧ ∀ j, j < k → ¬ P j := by
  rintro ⟨k, hk⟩
  induction k using Nat.strongRecOn with
  | _ k ih =>
    by_cases h : ∃ j, j < k ∧ P j
    · obtain ⟨j, hj, hp⟩ := h
      exact ih j hj hp
    · exact ⟨k, hk, fun j hj hp => h ⟨j, hj, hp⟩⟩
/-- Along a way whose pairs are all there. -/
theorem PermN.chain {f : Nat → Nat} {L : List (Nat × Nat)} {x : Nat} : ∀ k, (∀ j, j < k → (itN f j x, itN f (j + 1) x) ∈ L) → joinL L x = joinL L (itN f k x) := by
  intro k
  induction k with
  | zero => intro _; rfl
  | succ k ih =>
    intro h
    exact (ih fun j hj => h j (by omega)).trans (joinL_mem L _ (h k (by omega)))
section
variable {n : Nat} {f : Nat → Nat} (hf : PermN n f)
include hf
theorem PermN.it_lt {x : Nat} (hx : x < n) : ∀ k, itN f k x < n := by
  intro k
  induction k with
  | zero => exact hx
  | succ k ih => exact hf.lt _ ih
theorem PermN.it_inj {x y : Nat} (hx : x < n) (hy : y < n) : ∀ k, itN f k x = itN f k y → x = y := by
  intro k
  induction k with
  | zero => intro h; exact h
  | succ k ih => intro h; exact ih (hf.inj _ _ (hf.it_lt hx k) (hf.it_lt hy k) h)
/-- Each number comes again. -/
theorem PermN.again {x : Nat} (hx : x < n) : ∃ k, 0 < k ∧ itN f k x = x := by
  have hnd : ¬ ((List.range (n + 1)).map fun k => itN f k x).Nodup := by
    intro h
    have := h.length_le_of_subset (l₂ := List.range n) fun y hy => by
      obtain ⟨k, _, rfl⟩ := List.mem_map.1 hy
      exact List.mem_range.2 (hf.it_lt hx k)
    rw [List.length_map, List.length_range, List.length_range] at this
    omega
  have : ∃ i j, i < j ∧ itN f i x = itN f j x := by
    refine Classical.byContradiction fun hc => hnd ?_
    rw [List.nodup_iff_pairwise_ne, List.pairwise_map]
    refine List.Pairwise.imp_of_mem ?_ List.pairwise_lt_range
    intro a b _ _ hab he
    exact hc ⟨a, b, hab, he⟩
  obtain ⟨i, j, hij, he⟩ := this
  refine ⟨j - i, by omega, ?_⟩
  have e1 : j = i + (j - i) := by omega
  rw [e1, Nat.add_comm, Nat.add_comm (j - i) i] at he
  rw [itN_add f (j - i) i x] at he
  exact (hf.it_inj hx (hf.it_lt hx _) i he).symm
end
def pairsN (n : Nat) (f : Nat → Nat) : List (Nat × Nat) := (List.range n).map fun x => (x, f x)
def cycC (n : Nat) (f : Nat → Nat) : Nat := cntL (pairsN n f) n
theorem mem_pairsN {n : Nat} {f : Nat → Nat} {e : Nat × Nat} : e ∈ pairsN n f ↔ e.1 < n ∧ e.2 = f e.1 := by
  unfold pairsN
  rw [List.mem_map]
  constructor
  · rintro ⟨x, hx, rfl⟩; exact ⟨List.mem_range.1 hx, rfl⟩
  · rintro ⟨h1, h2⟩; exact ⟨e.1, List.mem_range.2 h1, by rw [← h2]⟩
/-- All pairs but those of two numbers. -/
def pairs2 (n : Nat) (f : Nat → Nat) (a b : Nat) : List (Nat × Nat) := (pairsN n f).filter fun e => decide (e.1 ≠ a) && decide (e.1 ≠ b)
theorem mem_pairs2 {n : Nat} {f : Nat → Nat} {a b : Nat} {e : Nat × Nat} : e ∈ pairs2 n f a b ↔ e.1 < n ∧ e.2 = f e.1 ∧ e.1 ≠ a ∧ e.1 ≠ b := by
  unfold pairs2
  rw [List.mem_filter, mem_pairsN, Bool.and_eq_true, decide_eq_true_eq, decide_eq_true_eq]
  constructor
  · rintro ⟨⟨h1, h2⟩, h3, h4⟩; exact ⟨h1, h2, h3, h4⟩
  · rintro ⟨h1, h2, h3, h4⟩; exact ⟨⟨h1, h2⟩, h3, h4⟩
def swapN (a b : Nat) (f : Nat → Nat) : Nat → Nat := fun x => if x = a then f b else if x = b then f a else f x
theorem PermN.swap {n : Nat} {f : Nat → Nat} (hf : PermN n f) {a b : Nat} (ha : a < n) (hb : b < n) : PermN n (swapN a b f) := by
  have hl := hf.lt
  refine ⟨fun x hx => ?_, fun x y hx hy h => ?_⟩
  · unfold swapN
    split
    · exact hl b hb
    · split
      · exact hl a ha
      · exact hl x hx
  · unfold swapN at h
    by_cases h1 : x = a
    · rw [if_pos h1] at h
      by_cases h3 : y = a
      · rw [h1, h3]
      · rw [if_neg h3] at h
        by_cases h4 : y = b
        · rw [if_pos h4] at h
          have := hf.inj _ _ hb ha h
          omega
        · rw [if_neg h4] at h
          have := hf.inj _ _ hb hy h
          omega
    · rw [if_neg h1] at h
      by_cases h2 : x = b
      · rw [if_pos h2] at h
        by_cases h3 : y = a
        · rw [if_pos h3] at h
          have := hf.inj _ _ ha hb h
          omega
        · rw [if_neg h3] at h
          by_cases h4 : y = b
          · rw [h2, h4]
          · rw [if_neg h4] at h
            have := hf.inj _ _ ha hy h
            omega
      · rw [if_neg h2] at h
        by_cases h3 : y = a
        · rw [if_pos h3] at h
          have := hf.inj _ _ hx hb h
          omega
        · rw [if_neg h3] at h
          by_cases h4 : y = b
          · rw [if_pos h4] at h
            have := hf.inj _ _ hx ha h
            omega
          · rw [if_neg h4] at h
            exact hf.inj _ _ hx hy h
theorem swap_pairs2 (n : Nat) (f : Nat → Nat) (a b : Nat) : ∀ e, e ∈ pairs2 n (swapN a b f) a b ↔ e ∈ pairs2 n f a b := by
  intro e
  rw [mem_pairs2, mem_pairs2]
  unfold swapN
  constructor
  · rintro ⟨h1, h2, h3, h4⟩; rw [if_neg h3, if_neg h4] at h2; exact ⟨h1, h2, h3, h4⟩
  · rintro ⟨h1, h2, h3, h4⟩; exact ⟨h1, by rw [if_neg h3, if_neg h4]; exact h2, h3, h4⟩
section
variable {n : Nat} {f : Nat → Nat} (hf : PermN n f) {a b : Nat} (ha : a < n) (hb : b < n) (hab : a ≠ b)
include hf ha hb hab
omit hab in
/-- A cycle hangs together without one of its pairs. -/
theorem joinL_less : joinL (pairsN n f) = joinL (pairs2 n f a b ++ [(a, f a)]) := by
  refine joinL_eq (fun e he => ?_) (fun e he => ?_)
  · obtain ⟨h1, h2⟩ := mem_pairsN.1 he
    by_cases h3 : e.1 = b
    · rw [h2, h3]
      obtain ⟨k, ⟨hk0, hk⟩, hmin⟩ := first_met (hf.again hb)
      have hch := PermN.chain (f := f) (L := pairs2 n f a b ++ [(a, f a)]) (x := f b) (k - 1) (fun j hj => ?_)
      · have e1 : itN f (k - 1) (f b) = b := by
          have := itN_add f 1 (k - 1) b
          rw [show k - 1 + 1 = k by omega, hk] at this
          exact this.symm
        rw [e1] at hch
        exact hch.symm
      · have e2 : ∀ i, itN f i (f b) = itN f (i + 1) b := fun i => (itN_add f 1 i b).symm
        have h4 : itN f j (f b) ≠ b := by rw [e2]; intro h; exact hmin (j + 1) (by omega) ⟨by omega, h⟩
        by_cases h5 : itN f j (f b) = a
        · refine List.mem_append_right _ (List.mem_singleton.2 ?_)
          show (itN f j (f b), f (itN f j (f b))) = _
          rw [h5]
        · exact List.mem_append_left _ (mem_pairs2.2 ⟨hf.it_lt (hf.lt b hb) j, rfl, h5, h4⟩)
    · by_cases h4 : e.1 = a
      · rw [h2, h4]
        exact joinL_mem _ (a, f a) (List.mem_append_right _ (List.mem_singleton.2 rfl))
      · exact joinL_mem _ e (List.mem_append_left _ (mem_pairs2.2 ⟨h1, h2, h4, h3⟩))
  · rcases List.mem_append.1 he with he | he
    · obtain ⟨h1, h2, _, _⟩ := mem_pairs2.1 he
      exact joinL_mem _ _ (mem_pairsN.2 ⟨h1, h2⟩)
    · rw [List.mem_singleton] at he
      subst he
      exact joinL_mem _ _ (mem_pairsN.2 ⟨ha, rfl⟩)
omit hab in
theorem cyc_less : cycC n f + (if joinL (pairs2 n f a b) a = joinL (pairs2 n f a b) (f a) then 0 else 1) = cntL (pairs2 n f a b) n := by
  have := cntL_snoc (pairs2 n f a b) (e := (a, f a)) ha (hf.lt a ha)
  unfold cycC
  unfold cntL at this ⊢
  rw [joinL_less hf ha hb]
  exact this
omit ha hb hab in
/-- On the same cycle: one comes to the other. -/
theorem cyc_reach {x y : Nat} (h : joinL (pairsN n f) x = joinL (pairsN n f) y) : ∃ k, itN f k x = y := by
  have back : ∀ {i j : Nat}, i < n → (∃ k, itN f k i = j) → ∃ k, itN f k j = i := by
    rintro i j hi ⟨k, rfl⟩
    obtain ⟨q, hq0, hq⟩ := hf.again hi
    have hm : ∀ m, itN f (m * q) i = i := by
      intro m
      induction m with
      | zero => rw [Nat.zero_mul]; rfl
      | succ m ih => rw [Nat.succ_mul, itN_add, hq, ih]
    have hkq : k ≤ k * q := Nat.le_mul_of_pos_right _ hq0
    refine ⟨k * q - k, ?_⟩
    rw [← itN_add, Nat.sub_add_cancel hkq]
    exact hm k
  have := joinL_least (P := fun i j => i = j ∨ (i < n ∧ j < n ∧ ∃ k, itN f k i = j)) (fun i => .inl rfl) (fun i j h => ?_) (fun i j k h1 h2 => ?_) (pairsN n f) (fun e he => ?_) x y h
  · rcases this with rfl | ⟨_, _, h⟩
    · exact ⟨0, rfl⟩
    · exact h
  · rcases h with rfl | ⟨h1, h2, h3⟩
    · exact .inl rfl
    · exact .inr ⟨h2, h1, back h1 h3⟩
  · rcases h1 with rfl | ⟨a1, a2, q1, a3⟩
    · exact h2
    · rcases h2 with rfl | ⟨b1, b2, q2, b3⟩
      · exact .inr ⟨a1, a2, q1, a3⟩
      · exact .inr ⟨a1, b2, q2 + q1, by rw [itN_add, a3, b3]⟩
  · obtain ⟨h1, h2⟩ := mem_pairsN.1 he
    exact .inr ⟨h1, by rw [h2]; exact hf.lt _ h1, 1, h2.symm⟩
omit ha hb hab in
theorem it_same {x : Nat} (hx : x < n) (k : Nat) : joinL (pairsN n f) x = joinL (pairsN n f) (itN f k x) :=
  PermN.chain (f := f) k fun j _ => mem_pairsN.2 ⟨hf.it_lt hx j, rfl⟩
omit ha in
/-- On the same cycle: from the one's next to the other, without either's pair. -/
theorem arc_joined (h : joinL (pairsN n f) a = joinL (pairsN n f) b) : joinL (pairs2 n f a b) (f b) = joinL (pairs2 n f a b) a ∧ joinL (pairs2 n f a b) a ≠ joinL (pairs2 n f a b) b := by
  obtain ⟨k, hk, hmin⟩ := first_met (cyc_reach hf h.symm)
  have hk0 : 0 < k := by
    refine Nat.pos_of_ne_zero fun h0 => ?_
    subst h0
    exact hab hk.symm
  have hnb : ∀ j, 0 < j → j ≤ k → itN f j b ≠ b := by
    intro j hj hjk he
    have : itN f (k - j) b = a := by
      have := itN_add f j (k - j) b
      rw [Nat.sub_add_cancel hjk, hk, he] at this
      exact this.symm
    exact hmin (k - j) (by omega) this
  constructor
  · have hch := PermN.chain (f := f) (L := pairs2 n f a b) (x := f b) (k - 1) (fun j hj => ?_)
    · have e1 : itN f (k - 1) (f b) = a := by
        have := itN_add f 1 (k - 1) b
        rw [Nat.sub_add_cancel hk0, hk] at this
        exact this.symm
      rw [e1] at hch
      exact hch
    · have e2 : itN f j (f b) = itN f (j + 1) b := (itN_add f 1 j b).symm
      exact mem_pairs2.2 ⟨hf.it_lt (hf.lt b hb) j, rfl, by rw [e2]; exact hmin (j + 1) (by omega), by rw [e2]; exact hnb (j + 1) (by omega) (by omega)⟩
  · intro he
    have := joinL_least (P := fun i j => (∃ m, 0 < m ∧ m ≤ k ∧ itN f m b = i) ↔ (∃ m, 0 < m ∧ m ≤ k ∧ itN f m b = j)) (fun _ => Iff.rfl) (fun _ _ h => h.symm) (fun _ _ _ h1 h2 => h1.trans h2) (pairs2 n f a b) (fun e he => ?_) a b he
    · obtain ⟨m, h1, h2, h3⟩ := this.1 ⟨k, hk0, Nat.le_refl _, hk⟩
      exact hnb m h1 h2 h3
    · obtain ⟨h1, h2, h3, h4⟩ := mem_pairs2.1 he
      constructor
      · rintro ⟨m, m1, m2, m3⟩
        have : m ≠ k := fun e => h3 (by rw [← m3, e, hk])
        exact ⟨m + 1, by omega, by omega, by rw [h2, ← m3]; rfl⟩
      · rintro ⟨m, m1, m2, m3⟩
        obtain ⟨m', rfl⟩ : ∃ m', m = m' + 1 := ⟨m - 1, by omega⟩
        have e1 : itN f m' b = e.1 := hf.inj _ _ (hf.it_lt hb m') h1 (by rw [← h2]; exact m3)
        refine ⟨m', Nat.pos_of_ne_zero fun h0 => ?_, by omega, e1⟩
        subst h0
        exact h4 e1.symm
end
/-- Two numbers' nexts changed: one cycle more, or one less. -/
theorem swap_cyc {n : Nat} {f : Nat → Nat} (hf : PermN n f) {a b : Nat} (ha : a < n) (hb : b < n) (hab : a ≠ b) :
    (joinL (pairsN n f) a = joinL (pairsN n f) b → cycC n (swapN a b f) = cycC n f + 1) ∧ (joinL (pairsN n f) a ≠ joinL (pairsN n f) b → cycC n (swapN a b f) + 1 = cycC n f) := by
  have h1 := cyc_less hf ha hb
  have h2 := cyc_less (hf.swap ha hb) ha hb
  have hsame : joinL (pairs2 n (swapN a b f) a b) = joinL (pairs2 n f a b) :=
    joinL_eq (fun e he => joinL_mem _ _ ((swap_pairs2 n f a b e).1 he)) (fun e he => joinL_mem _ _ ((swap_pairs2 n f a b e).2 he))
  have e1 : swapN a b f a = f b := by unfold swapN; rw [if_pos rfl]
  unfold cntL at h1 h2
  rw [hsame, e1, ← h1] at h2
  constructor
  · intro h
    obtain ⟨k1, k2⟩ := arc_joined hf hb hab h
    obtain ⟨k3, k4⟩ := arc_joined hf ha (Ne.symm hab) h.symm
    have hsw : joinL (pairs2 n f b a) = joinL (pairs2 n f a b) :=
      joinL_eq (fun e he => joinL_mem _ _ (by obtain ⟨q1, q2, q3, q4⟩ := mem_pairs2.1 he; exact mem_pairs2.2 ⟨q1, q2, q4, q3⟩)) (fun e he => joinL_mem _ _ (by obtain ⟨q1, q2, q3, q4⟩ := mem_pairs2.1 he; exact mem_pairs2.2 ⟨q1, q2, q4, q3⟩))
    rw [hsw] at k3 k4
    rw [if_pos k1.symm, if_neg (fun e => k2 (e.trans k3))] at h2
    omega
  · intro h
    have k1 : joinL (pairs2 n f a b) a = joinL (pairs2 n f a b) (f a) := by
      obtain ⟨k, ⟨hk0, hk⟩, hmin⟩ := first_met (hf.again ha)
      have hch := PermN.chain (f := f) (L := pairs2 n f a b) (x := f a) (k - 1) (fun j hj => ?_)
      · have e1 : itN f (k - 1) (f a) = a := by
          have := itN_add f 1 (k - 1) a
          rw [Nat.sub_add_cancel hk0, hk] at this
          exact this.symm
        rw [e1] at hch
        exact hch.symm
      · have e2 : itN f j (f a) = itN f (j + 1) a := (itN_add f 1 j a).symm
        refine mem_pairs2.2 ⟨hf.it_lt (hf.lt a ha) j, rfl, by rw [e2]; exact fun he => hmin (j + 1) (by omega) ⟨by omega, he⟩, fun he => h ?_⟩
        rw [← he, e2]
        exact it_same hf ha (j + 1)
    have k2 : joinL (pairs2 n f a b) a ≠ joinL (pairs2 n f a b) (f b) := by
      intro he
      have h3 := joinL_fine (L := pairs2 n f a b) (M := pairsN n f) (fun e he => by obtain ⟨q1, q2, _, _⟩ := mem_pairs2.1 he; exact joinL_mem _ _ (mem_pairsN.2 ⟨q1, q2⟩)) he
      exact h (h3.trans (it_same hf hb 1).symm)
    rw [if_pos k1, if_neg k2] at h2
    omega
/-! Euler's inequality, and what is even. -/
def phiT (s : Nat → Nat) (T : List (Nat × Nat)) : Nat → Nat := T.foldl (fun f e => swapN e.1 e.2 f) s
theorem phiT_snoc (s : Nat → Nat) (T : List (Nat × Nat)) (e : Nat × Nat) : phiT s (T ++ [e]) = swapN e.1 e.2 (phiT s T) := by
  unfold phiT; rw [List.foldl_append]; rfl
theorem joinL_more {L : List (Nat × Nat)} (e : Nat × Nat) {i j : Nat} (h : joinL L i = joinL L j) : joinL (L ++ [e]) i = joinL (L ++ [e]) j := by
  rw [joinL_snoc]; exact joinRep_same _ _ h
theorem euler_T {n : Nat} {s : Nat → Nat} (hs : PermN n s) : ∀ T : List (Nat × Nat), (∀ e ∈ T, e.1 < n ∧ e.2 < n ∧ e.1 ≠ e.2) → PermN n (phiT s T) ∧ (∀ x, x < n → joinL (pairsN n s ++ T) x = joinL (pairsN n s ++ T) (phiT s T x)) ∧ cycC n (phiT s T) + cycC n s ≤ 2 * cntL (pairsN n s ++ T) n + T.length ∧ (cycC n (phiT s T) + cycC n s + T.length) % 2 = 0 := by
  refine snoc_ind ?_ ?_
  · intro _
    refine ⟨hs, fun x hx => ?_, ?_, ?_⟩
    · rw [List.append_nil]
      exact joinL_mem _ (x, s x) (mem_pairsN.2 ⟨hx, rfl⟩)
    · rw [List.append_nil]
      show cycC n s + cycC n s ≤ 2 * cycC n s + 0
      omega
    · show (cycC n s + cycC n s + 0) % 2 = 0
      omega
  · intro T e ih hT
    obtain ⟨i1, i2, i3, i4⟩ := ih fun f hf => hT f (List.mem_append_left _ hf)
    obtain ⟨ha, hb, hab⟩ := hT e (List.mem_append_right _ (List.mem_singleton.2 rfl))
    rw [phiT_snoc, ← List.append_assoc, List.length_append, List.length_singleton]
    obtain ⟨q1, q2⟩ := swap_cyc i1 ha hb hab
    have hc := cntL_snoc (pairsN n s ++ T) (e := e) ha hb
    have hee : joinL (pairsN n s ++ T ++ [e]) e.1 = joinL (pairsN n s ++ T ++ [e]) e.2 := joinL_mem _ e (List.mem_append_right _ (List.mem_singleton.2 rfl))
    have hsub : joinL (pairsN n (phiT s T)) e.1 = joinL (pairsN n (phiT s T)) e.2 → joinL (pairsN n s ++ T) e.1 = joinL (pairsN n s ++ T) e.2 := fun h =>
      joinL_fine (fun f hf => by obtain ⟨h1, h2⟩ := mem_pairsN.1 hf; rw [h2]; exact i2 _ h1) h
    refine ⟨i1.swap ha hb, fun x hx => ?_, ?_, ?_⟩
    · unfold swapN
      split
      · rename_i h
        rw [h, hee]
        exact joinL_more e (i2 _ hb)
      · split
        · rename_i h
          rw [h, ← hee]
          exact joinL_more e (i2 _ ha)
        · exact joinL_more e (i2 _ hx)
    · by_cases h : joinL (pairsN n (phiT s T)) e.1 = joinL (pairsN n (phiT s T)) e.2
      · rw [if_pos (hsub h)] at hc
        have := q1 h
        omega
      · have := q2 h
        split at hc <;> omega
    · by_cases h : joinL (pairsN n (phiT s T)) e.1 = joinL (pairsN n (phiT s T)) e.2
      · have := q1 h
        omega
      · have := q2 h
        omega
/-! Counts within a set of numbers. -/
theorem cnt_split {rep : Nat → Nat} {inD : Nat → Bool} : ∀ {n : Nat}, (∀ x, x < n → inD x = false → rep x = x) → cntR rep n = ((List.range n).filter fun x => !inD x).length + ((List.range n).filter fun x => inD x && decide (rep x = x)).length := by
  intro n
  induction n with
  | zero => intro _; rfl
  | succ n ih =>
    intro h
    have ih := ih fun x hx => h x (by omega)
    have hn := h n (by omega)
    unfold cntR at ih ⊢
    rw [List.range_succ, List.filter_append, List.filter_append, List.filter_append, List.length_append, List.length_append, List.length_append, ih]
    cases hd : inD n with
    | false => simp [List.filter_cons, hd, hn hd]; omega
    | true => simp only [List.filter_cons, hd, Bool.true_and, Bool.not_true, Bool.false_eq_true, if_false, List.filter_nil, List.length_nil]; omega
/-- The words of the sets within a set of numbers. -/
def wordsIn (rep : Nat → Nat) (inD : Nat → Bool) (n : Nat) : Nat := ((List.range n).filter fun x => inD x && decide (rep x = x)).length
theorem filter_two {p : Nat → Bool} {n : Nat} (h : ∀ x y, x < n → y < n → p x = true → p y = true → x = y) : ((List.range n).filter p).length ≤ 1 := by
  have hn : ((List.range n).filter p).Nodup := List.Pairwise.sublist List.filter_sublist List.nodup_range
  match hl : (List.range n).filter p with
  | [] => simp
  | [a] => simp
  | a :: b :: l =>
    exfalso
    rw [hl] at hn
    have ha : a ∈ (List.range n).filter p := by rw [hl]; simp
    have hb : b ∈ (List.range n).filter p := by rw [hl]; simp
    obtain ⟨a1, a2⟩ := List.mem_filter.1 ha
    obtain ⟨b1, b2⟩ := List.mem_filter.1 hb
    have := h a b (List.mem_range.1 a1) (List.mem_range.1 b1) a2 b2
    subst this
    simp at hn
theorem fixed_alone {n : Nat} {f : Nat → Nat} (hf : PermN n f) {T : List (Nat × Nat)} {x : Nat} (hx : x < n) (hfx : f x = x) (hT : ∀ e ∈ T, e.1 ≠ x ∧ e.2 ≠ x) : joinL (pairsN n f ++ T) x = x := by
  have h := (joinL_ok (pairsN n f ++ T) x).2
  have := joinL_least (P := fun i j => i = x ↔ j = x) (fun _ => Iff.rfl) (fun _ _ h => h.symm) (fun _ _ _ h1 h2 => h1.trans h2) (pairsN n f ++ T) (fun e he => ?_) x _ h.symm
  · exact this.1 rfl
  · rcases List.mem_append.1 he with he | he
    · obtain ⟨h1, h2⟩ := mem_pairsN.1 he
      exact ⟨fun h => by rw [h2, h, hfx], fun h => hf.inj _ _ h1 hx (by rw [← h2, h, hfx])⟩
    · have := hT e he
      exact ⟨fun h => absurd h this.1, fun h => absurd h this.2⟩
theorem phiT_fixed {s : Nat → Nat} {x : Nat} (hx : s x = x) : ∀ T : List (Nat × Nat), (∀ e ∈ T, e.1 ≠ x ∧ e.2 ≠ x) → phiT s T x = x := by
  refine snoc_ind (fun _ => hx) ?_
  intro T e ih h
  have h1 := h e (List.mem_append_right _ (List.mem_singleton.2 rfl))
  rw [phiT_snoc]
  unfold swapN
  rw [if_neg (Ne.symm h1.1), if_neg (Ne.symm h1.2)]
  exact ih fun f hf => h f (List.mem_append_left _ hf)
/-- A word is the least of its cycle. -/
theorem word_least {n : Nat} {f : Nat → Nat} (hf : PermN n f) {x : Nat} (hx : x < n) : joinL (pairsN n f) x = x ↔ ∀ k, x ≤ itN f k x := by
  constructor
  · intro h k
    have h1 := it_same hf hx k
    have h2 := joinL_le h1
    omega
  · intro h
    have h1 := (joinL_ok (pairsN n f) x).2
    obtain ⟨k, hk⟩ := cyc_reach hf h1.symm
    have h2 := h k
    have h3 := (joinL_ok (pairsN n f) x).1
    omega
/-- Euler's inequality of one piece, by what its darts do. -/
theorem euler_in {n : Nat} {s : Nat → Nat} {T : List (Nat × Nat)} {inD : Nat → Bool} (hs : PermN n s) (hT : ∀ e ∈ T, e.1 < n ∧ e.2 < n ∧ e.1 ≠ e.2 ∧ inD e.1 = true ∧ inD e.2 = true) (hfix : ∀ x, x < n → inD x = false → s x = x)
    (hone : ∀ x y, x < n → y < n → inD x = true → inD y = true → joinL (pairsN n s ++ T) x = joinL (pairsN n s ++ T) y) :
    PermN n (phiT s T) ∧ wordsIn (joinL (pairsN n (phiT s T))) inD n + wordsIn (joinL (pairsN n s)) inD n ≤ 2 + T.length ∧ (wordsIn (joinL (pairsN n (phiT s T))) inD n + wordsIn (joinL (pairsN n s)) inD n + T.length) % 2 = 0 := by
  obtain ⟨h1, _, h3, h4⟩ := euler_T hs T fun e he => ⟨(hT e he).1, (hT e he).2.1, (hT e he).2.2.1⟩
  have hout : ∀ x, inD x = false → ∀ e ∈ T, e.1 ≠ x ∧ e.2 ≠ x := fun x hx e he => by
    have := hT e he
    exact ⟨fun h => by rw [h] at this; rw [hx] at this; simp at this, fun h => by rw [h] at this; rw [hx] at this; simp at this⟩
  have c1 := cnt_split (rep := joinL (pairsN n (phiT s T))) (inD := inD) (n := n) fun x hx hd => by
    have := fixed_alone h1 (T := []) hx (phiT_fixed (hfix x hx hd) T (hout x hd)) (by simp)
    rwa [List.append_nil] at this
  have c2 := cnt_split (rep := joinL (pairsN n s)) (inD := inD) (n := n) fun x hx hd => by
    have := fixed_alone hs (T := []) hx (hfix x hx hd) (by simp)
    rwa [List.append_nil] at this
  have c3 := cnt_split (rep := joinL (pairsN n s ++ T)) (inD := inD) (n := n) fun x hx hd => fixed_alone hs hx (hfix x hx hd) (hout x hd)
  have c4 : ((List.range n).filter fun x => inD x && decide (joinL (pairsN n s ++ T) x = x)).length ≤ 1 := filter_two fun x y hx hy h1 h2 => by
    simp only [Bool.and_eq_true, decide_eq_true_eq] at h1 h2
    have := hone x y hx hy h1.1 h2.1
    omega
  unfold cycC cntL at h3 h4
  unfold wordsIn
  refine ⟨h1, ?_, ?_⟩ <;> omega

/-- The dart ahead in its turn. -/
def backD (tn : List (List Int)) (d : Int) : Int := nextD (tn.map firstR) (atF tn) (twinI d)
theorem twinI_twin (d : Int) : twinI (twinI d) = d := by unfold twinI; split <;> split <;> omega
theorem nodup_same_len {α : Type} {xs ys : List α} (hx : xs.Nodup) (hy : ys.Nodup) (h1 : ∀ x ∈ xs, x ∈ ys) (h2 : ∀ y ∈ ys, y ∈ xs) : xs.length = ys.length :=
  Nat.le_antisymm (hx.length_le_of_subset h1) (hy.length_le_of_subset h2)
section
variable {g : Gr} {p : Pt} {tn : List (List Int)} (ht : Turns g p tn)
include ht
theorem Turns.back {d : Int} (hd : d ∈ dartsAll p.E) : ∃ j : Nat, j < (firstR (gl tn (tailD g d).toNat)).length ∧ gi (firstR (gl tn (tailD g d).toNat)) j = d ∧
    backD tn d = gi (firstR (gl tn (tailD g d).toNat)) (if j = 0 then (firstR (gl tn (tailD g d).toNat)).length - 1 else j - 1) := by
  have := ht.next (twinI_mem hd)
  rw [twinI_twin] at this
  exact this
theorem Turns.back_ok {d : Int} (hd : d ∈ dartsAll p.E) : backD tn d ∈ dartsAll p.E ∧ tailD g (backD tn d) = tailD g d := by
  obtain ⟨j, h1, h2, h3⟩ := ht.back hd
  have h4 := ht.tail d hd
  have h5 : backD tn d ∈ gl tn (tailD g d).toNat := by
    rw [h3]
    exact (firstR_perm _).mem_iff.1 (gi_mem (by split <;> omega))
  have h6 := (ht.mem (by omega)).1 h5
  exact ⟨h6.1, by omega⟩
theorem Turns.back_it {d : Int} (hd : d ∈ dartsAll p.E) : ∀ k, it (backD tn) k d ∈ dartsAll p.E ∧ tailD g (it (backD tn) k d) = tailD g d := by
  intro k
  induction k with
  | zero => exact ⟨hd, rfl⟩
  | succ k ih => obtain ⟨h1, h2⟩ := ht.back_ok ih.1; exact ⟨h1, h2.trans ih.2⟩
/-- Two darts of one vertex: from the one to the other. -/
theorem Turns.back_reach {d e : Int} (hd : d ∈ dartsAll p.E) (he : e ∈ dartsAll p.E) (hv : tailD g d = tailD g e) : ∃ k, it (backD tn) k d = e := by
  have h4 := ht.tail d hd
  have hk : (tailD g d).toNat < tn.length := by omega
  obtain ⟨R, hR⟩ : ∃ R, firstR (gl tn (tailD g d).toNat) = R := ⟨_, rfl⟩
  have hmem : ∀ x, x ∈ R ↔ x ∈ dartsAll p.E ∧ tailD g x = tailD g d := fun x => by
    rw [← hR, (firstR_perm _).mem_iff, ht.mem hk]
    constructor
    · rintro ⟨a, b⟩; exact ⟨a, by omega⟩
    · rintro ⟨a, b⟩; exact ⟨a, by omega⟩
  have hnd : R.Nodup := by rw [← hR]; exact (ht.own hd).2.2
  have one : ∀ j, j < R.length → backD tn (gi R j) = gi R (if j = 0 then R.length - 1 else j - 1) := fun j hj => by
    have hx := (hmem _).1 (gi_mem hj)
    obtain ⟨i, h1, h2, h3⟩ := ht.back hx.1
    rw [hx.2, hR] at h1 h2 h3
    have : i = j := nodup_inj hnd h1 hj (by rw [← gi_eq h1, ← gi_eq hj, h2])
    rw [h3, this]
  have down : ∀ j, j < R.length → ∀ k, k ≤ j → it (backD tn) k (gi R j) = gi R (j - k) := by
    intro j hj k
    induction k with
    | zero => intro _; rfl
    | succ k ih =>
      intro hk
      show backD tn (it (backD tn) k (gi R j)) = _
      rw [ih (by omega), one (j - k) (by omega), if_neg (by omega)]
      congr 1
  obtain ⟨j, _, hj, hjd, _⟩ := gi_idx ((hmem d).2 ⟨hd, rfl⟩)
  obtain ⟨i, _, hi, hie, _⟩ := gi_idx ((hmem e).2 ⟨he, hv.symm⟩)
  refine ⟨(R.length - 1 - i) + (1 + j), ?_⟩
  have e1 : it (backD tn) j d = gi R 0 := by rw [← hjd, down j hj j (Nat.le_refl _), Nat.sub_self]
  have e2 : it (backD tn) (1 + j) d = gi R (R.length - 1) := by
    rw [it_add, e1]
    show backD tn (gi R 0) = _
    rw [one 0 (by omega), if_pos rfl]
  rw [it_add, e2, down (R.length - 1) (by omega) _ (by omega), ← hie]
  congr 1
  omega
end
/-! Classes of vertices. -/
def clsD (g : Gr) (p : Pt) (d : Int) : Int := ((repE g p (posN p.V (tailD g d)) : Nat) : Int)
theorem cls_ends {g : Gr} {p : Pt} {e : Int} (he : e ∈ p.E) : clsD g p (2 * e) = ((repE g p (posN p.V (ge g.E e.toNat).1) : Nat) : Int) ∧ clsD g p (2 * e + 1) = ((repE g p (posN p.V (ge g.E e.toNat).1) : Nat) : Int) := by
  have h2 := repE_edge (g := g) he
  unfold clsD tailD
  constructor
  · rw [if_pos (by omega), show 2 * e / 2 = e by omega]; rfl
  · rw [if_neg (by omega), show (2 * e + 1) / 2 = e by omega, h2]; rfl
theorem cls_twin {g : Gr} {p : Pt} {d : Int} (hd : d ∈ dartsAll p.E) : clsD g p (twinI d) = clsD g p d := by
  obtain ⟨e, he, rfl | rfl⟩ := mem_dartsAll'.1 hd
  · have := cls_ends (g := g) he
    rw [show twinI (2 * e) = 2 * e + 1 by unfold twinI; rw [if_pos (by omega)], this.1, this.2]
  · have := cls_ends (g := g) he
    rw [show twinI (2 * e + 1) = 2 * e by unfold twinI; rw [if_neg (by omega)]; omega, this.1, this.2]
theorem mem_pieceD {g : Gr} {p : Pt} {t d : Int} : d ∈ dartsAll (pieceT g p t).2 ↔ d ∈ dartsAll p.E ∧ clsD g p d = t := by
  rw [mem_dartsAll', mem_dartsAll']
  unfold pieceT
  constructor
  · rintro ⟨e, he, h⟩
    obtain ⟨h1, h2⟩ := List.mem_filter.1 he
    have h3 := cls_ends (g := g) h1
    have h4 := of_decide_eq_true h2
    refine ⟨⟨e, h1, h⟩, ?_⟩
    rcases h with rfl | rfl
    · rw [h3.1, h4]
    · rw [h3.2, h4]
  · rintro ⟨⟨e, he, h⟩, hc⟩
    have h3 := cls_ends (g := g) he
    refine ⟨e, List.mem_filter.2 ⟨he, decide_eq_true ?_⟩, h⟩
    rcases h with rfl | rfl
    · rw [← h3.1, hc]
    · rw [← h3.2, hc]
theorem mem_pieceV {g : Gr} {p : Pt} {t v : Int} : v ∈ (pieceT g p t).1 ↔ v ∈ p.V ∧ ((repE g p (posN p.V v) : Nat) : Int) = t := by
  unfold pieceT
  rw [List.mem_filter, decide_eq_true_eq]
theorem tail_mem {g : Gr} {p : Pt} (h0 : g.rightPart p = 0) {d : Int} (hd : d ∈ dartsAll p.E) : tailD g d ∈ p.V := by
  obtain ⟨e, he, h⟩ := mem_dartsAll'.1 hd
  have := edges_ok h0 e he
  unfold tailD
  rcases h with rfl | rfl
  · rw [if_pos (by omega), show 2 * e / 2 = e by omega]; exact this.2.2.1
  · rw [if_neg (by omega), show (2 * e + 1) / 2 = e by omega]; exact this.2.2.2

/-! The darts of one piece, as numbers. -/
def inP (g : Gr) (p : Pt) (t : Int) (x : Nat) : Bool := decide ((x : Int) ∈ dartsAll p.E) && decide (clsD g p (x : Int) = t)
theorem inP_iff {g : Gr} {p : Pt} {t : Int} {x : Nat} : inP g p t x = true ↔ (x : Int) ∈ dartsAll p.E ∧ clsD g p (x : Int) = t := by
  unfold inP; rw [Bool.and_eq_true, decide_eq_true_eq, decide_eq_true_eq]
def backN (g : Gr) (p : Pt) (tn : List (List Int)) (t : Int) (x : Nat) : Nat := if inP g p t x then (backD tn (x : Int)).toNat else x
def pairsE (E : List Int) : List (Nat × Nat) := E.map fun e => ((2 * e).toNat, (2 * e + 1).toNat)
theorem phi_pairs (S : Nat → Nat) : ∀ E : List Int, E.Nodup → (∀ e ∈ E, 0 ≤ e) → ∀ x : Nat, phiT S (pairsE E) x = if (x : Int) ∈ dartsAll E then S (twinI (x : Int)).toNat else S x := by
  refine snoc_ind (fun _ _ x => rfl) ?_
  intro E e ih hn h0 x
  obtain ⟨n1, -, n2⟩ := List.nodup_append.1 hn
  have he : e ∉ E := fun h => n2 e h e (List.mem_singleton.2 rfl) rfl
  have he0 := h0 e (List.mem_append_right _ (List.mem_singleton.2 rfl))
  have ih := ih n1 fun f hf => h0 f (List.mem_append_left _ hf)
  have e1 : pairsE (E ++ [e]) = pairsE E ++ [((2 * e).toNat, (2 * e + 1).toNat)] := by unfold pairsE; rw [List.map_append]; rfl
  have hno : ∀ z : Int, (z = 2 * e ∨ z = 2 * e + 1) → z ∉ dartsAll E := fun z hz hm => by
    obtain ⟨f, hf, hz2⟩ := mem_dartsAll'.1 hm
    exact he (by rw [show e = f by omega]; exact hf)
  have hmem : ((x : Int) ∈ dartsAll (E ++ [e])) ↔ (x : Int) ∈ dartsAll E ∨ (x : Int) = 2 * e ∨ (x : Int) = 2 * e + 1 := by
    rw [mem_dartsAll', mem_dartsAll']
    constructor
    · rintro ⟨f, hf, h⟩
      rcases List.mem_append.1 hf with hf | hf
      · exact .inl ⟨f, hf, h⟩
      · rw [List.mem_singleton] at hf; subst hf; exact .inr h
    · rintro (⟨f, hf, h⟩ | h)
      · exact ⟨f, List.mem_append_left _ hf, h⟩
      · exact ⟨e, List.mem_append_right _ (List.mem_singleton.2 rfl), h⟩
  rw [e1, phiT_snoc]
  unfold swapN
  dsimp only
  by_cases h1 : x = (2 * e).toNat
  · rw [if_pos h1, ih, if_neg (hno _ (.inr (by omega))), if_pos (hmem.2 (.inr (.inl (by omega))))]
    congr 1
    unfold twinI
    split <;> omega
  · rw [if_neg h1]
    by_cases h2 : x = (2 * e + 1).toNat
    · rw [if_pos h2, ih, if_neg (hno _ (.inl (by omega))), if_pos (hmem.2 (.inr (.inr (by omega))))]
      congr 1
      unfold twinI
      split <;> omega
    · rw [if_neg h2, ih]
      by_cases h3 : (x : Int) ∈ dartsAll E
      · rw [if_pos h3, if_pos (hmem.2 (.inl h3))]
      · rw [if_neg h3, if_neg fun h => by rcases hmem.1 h with h | h | h; exact h3 h; omega; omega]
section
variable {g : Gr} {p : Pt} {tn : List (List Int)} (h0 : g.rotaErr p tn = 0) (t : Int)
include h0
theorem back_cls {d : Int} (hd : d ∈ dartsAll p.E) : clsD g p (backD tn d) = clsD g p d := by
  unfold clsD
  rw [((turns_of h0).back_ok hd).2]
theorem backN_in {x : Nat} (hx : inP g p t x = true) : ((backN g p tn t x : Nat) : Int) = backD tn (x : Int) ∧ inP g p t (backN g p tn t x) = true := by
  obtain ⟨h1, h2⟩ := inP_iff.1 hx
  have h3 := ((turns_of h0).back_ok h1).1
  have h4 := (turns_of h0).pos _ h3
  have h5 : ((backN g p tn t x : Nat) : Int) = backD tn (x : Int) := by unfold backN; rw [if_pos hx]; omega
  exact ⟨h5, inP_iff.2 (by rw [h5]; exact ⟨h3, by rw [back_cls h0 h1]; exact h2⟩)⟩
theorem backN_perm : PermN 2048 (backN g p tn t) := by
  have ht := turns_of h0
  refine ⟨fun x hx => ?_, fun x y hx hy h => ?_⟩
  · cases hi : inP g p t x with
    | true =>
      have := ht.pos _ (inP_iff.1 (backN_in h0 t hi).2).1
      omega
    | false => unfold backN; rw [hi]; exact hx
  · cases hix : inP g p t x with
    | true =>
      cases hiy : inP g p t y with
      | true =>
        have h1 := backN_in h0 t hix
        have h2 := backN_in h0 t hiy
        rw [h] at h1
        have h3 : backD tn (x : Int) = backD tn (y : Int) := h1.1.symm.trans h2.1
        have h4 := twinI_inj (ht.perm1.inj _ (twinI_mem (inP_iff.1 hix).1) _ (twinI_mem (inP_iff.1 hiy).1) h3)
        omega
      | false =>
        have h1 := (backN_in h0 t hix).2
        have h2 : backN g p tn t y = y := by unfold backN; rw [hiy]; rfl
        rw [h, h2, hiy] at h1
        cases h1
    | false =>
      cases hiy : inP g p t y with
      | true =>
        have h1 := (backN_in h0 t hiy).2
        have h2 : backN g p tn t x = x := by unfold backN; rw [hix]; rfl
        rw [← h, h2, hix] at h1
        cases h1
      | false =>
        unfold backN at h
        rw [hix, hiy] at h
        exact h
theorem backN_it {x : Nat} (hx : inP g p t x = true) : ∀ k, ((itN (backN g p tn t) k x : Nat) : Int) = it (backD tn) k (x : Int) ∧ inP g p t (itN (backN g p tn t) k x) = true := by
  intro k
  induction k with
  | zero => exact ⟨rfl, hx⟩
  | succ k ih =>
    have := backN_in h0 t ih.2
    exact ⟨by show ((backN g p tn t (itN (backN g p tn t) k x) : Nat) : Int) = backD tn (it (backD tn) k (x : Int)); rw [this.1, ih.1], this.2⟩
/-- The faces' map, as numbers. -/
def phiN (g : Gr) (p : Pt) (tn : List (List Int)) (t : Int) : Nat → Nat := phiT (backN g p tn t) (pairsE (pieceT g p t).2)
theorem pieceE_ok : (pieceT g p t).2.Nodup ∧ ∀ e ∈ (pieceT g p t).2, 0 ≤ e ∧ e ∈ p.E := by
  have hr := rotaErr_part h0
  have hE := edges_ok hr.1
  have hs := (risesF_sound _ _ _ (Gr.rightPart_ok hr.1).2.2.1).1
  have hn : p.E.Nodup := List.nodup_iff_pairwise_ne.2 (hs.imp fun h => by omega)
  exact ⟨hn.sublist List.filter_sublist, fun e he => ⟨(hE e (List.mem_filter.1 he).1).1, (List.mem_filter.1 he).1⟩⟩
theorem phiN_in {x : Nat} (hx : inP g p t x = true) : ((phiN g p tn t x : Nat) : Int) = nextD (tn.map firstR) (atF tn) (x : Int) ∧ inP g p t (phiN g p tn t x) = true := by
  obtain ⟨h1, h2⟩ := inP_iff.1 hx
  obtain ⟨k1, k2⟩ := pieceE_ok h0 t
  have h3 := twinI_mem h1
  have h4 := (turns_of h0).pos _ h3
  have h5 : ((twinI (x : Int)).toNat : Int) = twinI (x : Int) := by omega
  have h6 : inP g p t (twinI (x : Int)).toNat = true := inP_iff.2 (by rw [h5]; exact ⟨h3, by rw [cls_twin h1]; exact h2⟩)
  have h7 : phiN g p tn t x = backN g p tn t (twinI (x : Int)).toNat := by
    unfold phiN
    rw [phi_pairs _ _ k1 (fun e he => (k2 e he).1), if_pos (mem_pieceD.2 ⟨h1, h2⟩)]
  have h8 := backN_in h0 t h6
  rw [h7]
  refine ⟨?_, h8.2⟩
  rw [h8.1, h5]
  unfold backD
  rw [twinI_twin]
theorem phiN_it {x : Nat} (hx : inP g p t x = true) : ∀ k, ((itN (phiN g p tn t) k x : Nat) : Int) = it (nextD (tn.map firstR) (atF tn)) k (x : Int) ∧ inP g p t (itN (phiN g p tn t) k x) = true := by
  intro k
  induction k with
  | zero => exact ⟨rfl, hx⟩
  | succ k ih =>
    have := phiN_in h0 t ih.2
    exact ⟨by show ((phiN g p tn t (itN (phiN g p tn t) k x) : Nat) : Int) = nextD (tn.map firstR) (atF tn) (it (nextD (tn.map firstR) (atF tn)) k (x : Int)); rw [this.1, ih.1], this.2⟩
/-- All darts of a piece hang together. -/
theorem piece_one : ∀ x y, x < 2048 → y < 2048 → inP g p t x = true → inP g p t y = true → joinL (pairsN 2048 (backN g p tn t) ++ pairsE (pieceT g p t).2) x = joinL (pairsN 2048 (backN g p tn t) ++ pairsE (pieceT g p t).2) y := by
  intro x y hx hy hix hiy
  have ht := turns_of h0
  have hr := (rotaErr_part h0).1
  have hE := edges_ok hr
  have hpm := backN_perm h0 t
  obtain ⟨L, hL⟩ : ∃ L, pairsN 2048 (backN g p tn t) ++ pairsE (pieceT g p t).2 = L := ⟨_, rfl⟩
  have row : ∀ a b : Nat, a < 2048 → inP g p t a = true → inP g p t b = true → tailD g (a : Int) = tailD g (b : Int) → joinL L a = joinL L b := fun a b ha hia hib hab => by
    obtain ⟨k, hk⟩ := ht.back_reach (inP_iff.1 hia).1 (inP_iff.1 hib).1 hab
    have h1 := (backN_it h0 t hia k).1
    have h2 : itN (backN g p tn t) k a = b := by omega
    have h3 := PermN.chain (f := backN g p tn t) (L := L) (x := a) k fun j hj => by
      rw [← hL]
      exact List.mem_append_left _ (mem_pairsN.2 ⟨hpm.it_lt ha j, rfl⟩)
    rw [h3, h2]
  have edge : ∀ e ∈ (pieceT g p t).2, joinL L (2 * e).toNat = joinL L (2 * e + 1).toNat := fun e he => by
    rw [← hL]
    exact joinL_mem _ ((2 * e).toNat, (2 * e + 1).toNat) (List.mem_append_right _ (List.mem_map.2 ⟨e, he, rfl⟩))
  rw [hL]
  have key := joinTo_least (g := g) (p := p) (P := fun v => ∀ z : Nat, z < 2048 → inP g p t z = true → tailD g (z : Int) = v → joinL L z = joinL L x) (fun e he => ?_) p.E.length (Nat.le_refl _) (posN p.V (tailD g (x : Int))) (posN p.V (tailD g (y : Int))) (posN_lt (tail_mem hr (inP_iff.1 hix).1)) (posN_lt (tail_mem hr (inP_iff.1 hiy).1)) (by
    have h1 := (inP_iff.1 hix).2
    have h2 := (inP_iff.1 hiy).2
    unfold clsD repE at h1 h2
    omega)
  · rw [gi_posN (tail_mem hr (inP_iff.1 hix).1), gi_posN (tail_mem hr (inP_iff.1 hiy).1)] at key
    exact (key.1 (fun z hz hiz hzt => (row x z hx hix hiz hzt.symm).symm) y hy hiy rfl).symm
  · have h1 := hE e he
    have ea : ((2 * e).toNat : Int) = 2 * e := by omega
    have eb : ((2 * e + 1).toNat : Int) = 2 * e + 1 := by omega
    have da : 2 * e ∈ dartsAll p.E := mem_dartsAll'.2 ⟨e, he, .inl rfl⟩
    have db : 2 * e + 1 ∈ dartsAll p.E := mem_dartsAll'.2 ⟨e, he, .inr rfl⟩
    have ta : tailD g (2 * e) = (ge g.E e.toNat).1 := by unfold tailD; rw [if_pos (by omega), show 2 * e / 2 = e by omega]; rfl
    have tb : tailD g (2 * e + 1) = (ge g.E e.toNat).2 := by unfold tailD; rw [if_neg (by omega), show (2 * e + 1) / 2 = e by omega]; rfl
    have pa := ht.pos _ da
    have pb := ht.pos _ db
    have hc := cls_ends (g := g) he
    refine ⟨h1.2.2.1, h1.2.2.2, fun hP z hz hiz hzt => ?_, fun hP z hz hiz hzt => ?_⟩
    · have hcz := (inP_iff.1 hiz).2
      have hcb : clsD g p (2 * e + 1) = t := by
        rw [← hcz]; unfold clsD; rw [tb, hzt]
      have hca : clsD g p (2 * e) = t := by rw [hc.1, ← hc.2]; exact hcb
      have hia : inP g p t (2 * e).toNat = true := inP_iff.2 (by rw [ea]; exact ⟨da, hca⟩)
      have hib : inP g p t (2 * e + 1).toNat = true := inP_iff.2 (by rw [eb]; exact ⟨db, hcb⟩)
      have heE : e ∈ (pieceT g p t).2 := by
        unfold pieceT
        exact List.mem_filter.2 ⟨he, decide_eq_true (by rw [← hc.1]; exact hca)⟩
      rw [row z _ hz hiz hib (by rw [eb, tb, hzt]), ← edge e heE]
      exact hP _ (by omega) hia (by rw [ea]; exact ta)
    · have hcz := (inP_iff.1 hiz).2
      have hca : clsD g p (2 * e) = t := by
        rw [← hcz]; unfold clsD; rw [ta, hzt]
      have hcb : clsD g p (2 * e + 1) = t := by rw [hc.2, ← hc.1]; exact hca
      have hia : inP g p t (2 * e).toNat = true := inP_iff.2 (by rw [ea]; exact ⟨da, hca⟩)
      have hib : inP g p t (2 * e + 1).toNat = true := inP_iff.2 (by rw [eb]; exact ⟨db, hcb⟩)
      have heE : e ∈ (pieceT g p t).2 := by
        unfold pieceT
        exact List.mem_filter.2 ⟨he, decide_eq_true (by rw [← hc.1]; exact hca)⟩
      rw [row z _ hz hiz hia (by rw [ea, ta, hzt]), edge e heE]
      exact hP _ (by omega) hib (by rw [eb]; exact tb)
/-- The vertices of a piece whose vertices all have darts: one least dart each. -/
theorem piece_verts (hrow : ∀ v ∈ (pieceT g p t).1, 0 < (gl tn v.toNat).length) : wordsIn (joinL (pairsN 2048 (backN g p tn t))) (inP g p t) 2048 = (pieceT g p t).1.length := by
  have ht := turns_of h0
  have hr := (rotaErr_part h0).1
  have hpm := backN_perm h0 t
  have hword : ∀ x, x < 2048 → inP g p t x = true → (joinL (pairsN 2048 (backN g p tn t)) x = x ↔ ∀ y : Nat, inP g p t y = true → tailD g (x : Int) = tailD g (y : Int) → x ≤ y) := fun x hx hix => by
    rw [word_least hpm hx]
    constructor
    · intro h y hiy hv
      obtain ⟨k, hk⟩ := ht.back_reach (inP_iff.1 hix).1 (inP_iff.1 hiy).1 hv
      have h1 := (backN_it h0 t hix k).1
      have h2 := h k
      omega
    · intro h k
      have h1 := backN_it h0 t hix k
      exact h _ h1.2 (by rw [h1.1]; exact ((ht.back_it (inP_iff.1 hix).1 k).2).symm)
  have hm : ∀ x, x ∈ (List.range 2048).filter (fun x => inP g p t x && decide (joinL (pairsN 2048 (backN g p tn t)) x = x)) ↔ x < 2048 ∧ inP g p t x = true ∧ ∀ y : Nat, inP g p t y = true → tailD g (x : Int) = tailD g (y : Int) → x ≤ y := fun x => by
    rw [List.mem_filter, List.mem_range, Bool.and_eq_true, decide_eq_true_eq]
    constructor
    · rintro ⟨a, b, c⟩; exact ⟨a, b, (hword x a b).1 c⟩
    · rintro ⟨a, b, c⟩; exact ⟨a, b, (hword x a b).2 c⟩
  unfold wordsIn
  rw [← List.length_map (f := fun x : Nat => tailD g (x : Int))]
  refine nodup_same_len ?_ ?_ (fun v hv => ?_) (fun v hv => ?_)
  · rw [List.nodup_iff_pairwise_ne, List.pairwise_map]
    have hnr : ((List.range 2048).filter (fun x => inP g p t x && decide (joinL (pairsN 2048 (backN g p tn t)) x = x))).Nodup := List.nodup_range.sublist List.filter_sublist
    refine List.Pairwise.imp_of_mem ?_ (List.nodup_iff_pairwise_ne.1 hnr)
    intro a b ha hb hab he
    obtain ⟨a1, a2, a3⟩ := (hm a).1 ha
    obtain ⟨b1, b2, b3⟩ := (hm b).1 hb
    have := a3 b b2 he
    have := b3 a a2 he.symm
    omega
  · exact (verts_nodup hr).sublist List.filter_sublist
  · obtain ⟨x, hx, rfl⟩ := List.mem_map.1 hv
    obtain ⟨a1, a2, a3⟩ := (hm x).1 hx
    exact mem_pieceV.2 ⟨tail_mem hr (inP_iff.1 a2).1, (inP_iff.1 a2).2⟩
  · obtain ⟨hv1, hv2⟩ := mem_pieceV.1 hv
    have hvr := verts_pos hr v hv1
    have hN := (rotaErr_part h0).2.1
    have hk : v.toNat < tn.length := by omega
    have hmn := minL_mem (hrow v hv)
    obtain ⟨hd, hdt⟩ := (ht.mem hk).1 hmn
    have hp := ht.pos _ hd
    have ex : ((minL (gl tn v.toNat)).toNat : Int) = minL (gl tn v.toNat) := by omega
    have hdt2 : tailD g (minL (gl tn v.toNat)) = v := by omega
    refine List.mem_map.2 ⟨(minL (gl tn v.toNat)).toNat, (hm _).2 ⟨by omega, inP_iff.2 ?_, fun y hy hyt => ?_⟩, by rw [ex]; exact hdt2⟩
    · rw [ex]
      refine ⟨hd, ?_⟩
      unfold clsD
      rw [hdt2]
      exact hv2
    · rw [ex, hdt2] at hyt
      have := minL_le ((ht.mem hk).2 ⟨(inP_iff.1 hy).1, by omega⟩ : (y : Int) ∈ gl tn v.toNat)
      omega
end

/-- What pieces are. -/
theorem mem_pieces {g : Gr} {p : Pt} (hr : g.rightPart p = 0) {x : List Int × List Int} (hx : x ∈ piecesF g p) : 0 < x.1.length ∧ ∃ t ∈ (groupsTo p.V (repE g p) p.V.length).1, x = pieceT g p t := by
  constructor
  · unfold piecesF at hx
    obtain ⟨l, hl, rfl⟩ := List.mem_map.1 hx
    exact (groupsTo_mem _ _ _ (Nat.le_refl _) l hl).1
  · rw [← piecesTo_eq hr, (piecesTo_spec hr _ (Nat.le_refl _)).2] at hx
    obtain ⟨t, ht, rfl⟩ := List.mem_map.1 hx
    exact ⟨t, ht, rfl⟩
theorem mem_docW {p : Pt} {tn : List (List Int)} {nx : Int → Int} {u : Int × List Int} : u ∈ docW nx tn p ↔ (∃ v ∈ p.V, (atL tn v).length = 0 ∧ u = (-1 - v, [])) ∨ ∃ d ∈ dartsAll p.E, LT4 nx d (perN nx 2048 d - 1) = true ∧ u = (d, orbL nx (perN nx 2048 d) d) := by
  unfold docW
  rw [List.mem_append, mem_lonesF, List.mem_flatMap]
  simp only [List.mem_reverse, mem_oneD]
section
variable {g : Gr} {p : Pt} {tn : List (List Int)} (h0 : g.rotaErr p tn = 0)
include h0
theorem endsF_tail {d : Int} (hd : d ∈ dartsAll p.E) : (g.endsF d).1 = tailD g d ∧ (g.endsF d).2.2 = true := by
  obtain ⟨e, he, hd2⟩ := mem_dartsAll'.1 hd
  have hr := (rotaErr_part h0).1
  have hE := edges_ok hr e he
  have hg := (Gr.rightPart_ok hr).1
  have hp := (turns_of h0).pos d hd
  unfold Gr.endsF tailD
  rw [if_neg (by rw [hg]; omega)]
  by_cases h : d % 2 = 1
  · rw [if_pos h, if_neg (by omega)]; exact ⟨rfl, rfl⟩
  · rw [if_neg h, if_pos (by omega)]; exact ⟨rfl, rfl⟩
theorem corner_dart {u : Int × List Int} (hu : ∀ d ∈ u.2, d ∈ dartsAll p.E) (hne : u.2 ≠ []) : cornerF g u = tailD g (gi u.2 0) := by
  have hl : 0 < u.2.length := List.length_pos_iff.2 hne
  unfold cornerF Gr.corners
  rw [if_neg (fun h => by omega), tails_ok g u.2 (fun d hd => (endsF_tail h0 (hu d hd)).2), Option.getD_some]
  rw [gi_eq (by rw [List.length_map]; exact hl), gi_eq hl, List.getElem_map]
  exact (endsF_tail h0 (hu _ (List.getElem_mem hl))).1
theorem corner_dart' {d : Int} {l : List Int} (hu : ∀ x ∈ l, x ∈ dartsAll p.E) (hne : l ≠ []) (hg : gi l 0 = d) : cornerF g (d, l) = tailD g d := by
  have := corner_dart h0 (u := (d, l)) hu hne
  rw [this]
  show tailD g (gi l 0) = _
  rw [hg]
theorem corner_lone {v : Int} (hv : v ∈ p.V) : cornerF g (-1 - v, []) = v := by
  have hvr := verts_pos (rotaErr_part h0).1 v hv
  unfold cornerF Gr.corners
  rw [if_pos ⟨by dsimp only; omega, by dsimp only; omega, rfl⟩]
  show (-1 - (-1 - v) : Int) = v
  omega
theorem orb_sub {d : Int} (hd : d ∈ dartsAll p.E) : ∀ x ∈ orbL (nextD (tn.map firstR) (atF tn)) (perN (nextD (tn.map firstR) (atF tn)) 2048 d) d, x ∈ dartsAll p.E := fun x hx => by
  obtain ⟨i, _, rfl⟩ := List.mem_map.1 hx
  exact (turns_of h0).perm1.it_mem hd i
theorem orb_head {d : Int} (hd : d ∈ dartsAll p.E) : orbL (nextD (tn.map firstR) (atF tn)) (perN (nextD (tn.map firstR) (atF tn)) 2048 d) d ≠ [] ∧ gi (orbL (nextD (tn.map firstR) (atF tn)) (perN (nextD (tn.map firstR) (atF tn)) 2048 d) d) 0 = d := by
  have h1 := (perN_spec ((turns_of h0).perm1.period' hd (turns_of h0).len)).1
  exact ⟨fun e => by have := congrArg List.length e; rw [orbL_len] at this; simp at this; omega, by rw [gi_orb h1]; rfl⟩
/-- The faces of a piece whose vertices all have darts. -/
theorem piece_faces (t : Int) (hrow : ∀ v ∈ (pieceT g p t).1, 0 < (gl tn v.toNat).length) (hphi : PermN 2048 (phiN g p tn t)) (hkeys : (docW (nextD (tn.map firstR) (atF tn)) tn p).Pairwise fun x y => x.1 ≠ y.1) : wordsIn (joinL (pairsN 2048 (phiN g p tn t))) (inP g p t) 2048 = facesF g (docW (nextD (tn.map firstR) (atF tn)) tn p) (pieceT g p t).1 := by
  have ht := turns_of h0
  have hr := (rotaErr_part h0).1
  have hword : ∀ x, x < 2048 → inP g p t x = true → (joinL (pairsN 2048 (phiN g p tn t)) x = x ↔ LT4 (nextD (tn.map firstR) (atF tn)) (x : Int) (perN (nextD (tn.map firstR) (atF tn)) 2048 (x : Int) - 1) = true) := fun x hx hix => by
    have hd := (inP_iff.1 hix).1
    rw [word_least hphi hx, ht.perm1.least ht.len hd]
    constructor
    · intro h y hy
      obtain ⟨k, rfl⟩ := (ht.perm1.mem_orb hd ht.len).1 hy
      have h1 := (phiN_it h0 t hix k).1
      have h2 := h k
      omega
    · intro h k
      have h1 := (phiN_it h0 t hix k).1
      have h2 := h _ ((ht.perm1.mem_orb hd ht.len).2 ⟨k, rfl⟩)
      omega
  have hm : ∀ x, x ∈ (List.range 2048).filter (fun x => inP g p t x && decide (joinL (pairsN 2048 (phiN g p tn t)) x = x)) ↔ x < 2048 ∧ inP g p t x = true ∧ LT4 (nextD (tn.map firstR) (atF tn)) (x : Int) (perN (nextD (tn.map firstR) (atF tn)) 2048 (x : Int) - 1) = true := fun x => by
    rw [List.mem_filter, List.mem_range, Bool.and_eq_true, decide_eq_true_eq]
    constructor
    · rintro ⟨a, b, c⟩; exact ⟨a, b, (hword x a b).1 c⟩
    · rintro ⟨a, b, c⟩; exact ⟨a, b, (hword x a b).2 c⟩
  unfold wordsIn facesF
  rw [← List.length_map (f := fun x : Nat => (x : Int))]
  refine Eq.trans ?_ (List.length_map (Prod.fst : Int × List Int → Int))
  refine nodup_same_len ?_ ?_ (fun z hz => ?_) (fun z hz => ?_)
  · rw [List.nodup_iff_pairwise_ne, List.pairwise_map]
    have hnr : ((List.range 2048).filter (fun x => inP g p t x && decide (joinL (pairsN 2048 (phiN g p tn t)) x = x))).Nodup := List.nodup_range.sublist List.filter_sublist
    exact (List.nodup_iff_pairwise_ne.1 hnr).imp fun h => by omega
  · rw [List.nodup_iff_pairwise_ne, List.pairwise_map]
    exact hkeys.sublist List.filter_sublist
  · obtain ⟨x, hx, rfl⟩ := List.mem_map.1 hz
    obtain ⟨a1, a2, a3⟩ := (hm x).1 hx
    obtain ⟨d1, d2⟩ := inP_iff.1 a2
    obtain ⟨o1, o2⟩ := orb_head h0 d1
    refine List.mem_map.2 ⟨((x : Int), orbL (nextD (tn.map firstR) (atF tn)) (perN (nextD (tn.map firstR) (atF tn)) 2048 (x : Int)) (x : Int)), List.mem_filter.2 ⟨mem_docW.2 (.inr ⟨_, d1, a3, rfl⟩), decide_eq_true ?_⟩, rfl⟩
    rw [corner_dart' h0 (orb_sub h0 d1) o1 o2]
    exact mem_pieceV.2 ⟨tail_mem hr d1, d2⟩
  · obtain ⟨u, hu, rfl⟩ := List.mem_map.1 hz
    obtain ⟨u1, u2⟩ := List.mem_filter.1 hu
    have u3 := of_decide_eq_true u2
    rcases mem_docW.1 u1 with ⟨v, hv, hl, rfl⟩ | ⟨d, hd, hl, rfl⟩
    · exfalso
      rw [corner_lone h0 hv] at u3
      have h1 := hrow v u3
      have hvr := verts_pos hr v hv
      have hN := (rotaErr_part h0).2.1
      unfold atL at hl
      rw [if_pos ⟨hvr.1, by omega⟩] at hl
      omega
    · obtain ⟨o1, o2⟩ := orb_head h0 hd
      rw [corner_dart' h0 (orb_sub h0 hd) o1 o2] at u3
      have hp := ht.pos d hd
      have ed : ((d.toNat : Nat) : Int) = d := by omega
      refine List.mem_map.2 ⟨d.toNat, (hm _).2 ⟨by omega, inP_iff.2 ?_, by rw [ed]; exact hl⟩, ed⟩
      rw [ed]
      exact ⟨hd, (mem_pieceV.1 u3).2⟩
/-- A vertex without darts is a piece by itself. -/
theorem piece_alone {v : Int} (hv : v ∈ p.V) (hno : ∀ d ∈ dartsAll p.E, tailD g d ≠ v) {w : Int} (hw : w ∈ p.V) (hc : repE g p (posN p.V w) = repE g p (posN p.V v)) : w = v := by
  have hr := (rotaErr_part h0).1
  have hE := edges_ok hr
  have := joinTo_least (g := g) (p := p) (P := fun x => x = v) (fun e he => by
    have h1 := hE e he
    have ta : tailD g (2 * e) = (ge g.E e.toNat).1 := by unfold tailD; rw [if_pos (by omega), show 2 * e / 2 = e by omega]; rfl
    have tb : tailD g (2 * e + 1) = (ge g.E e.toNat).2 := by unfold tailD; rw [if_neg (by omega), show (2 * e + 1) / 2 = e by omega]; rfl
    have da := hno _ (mem_dartsAll'.2 ⟨e, he, .inl rfl⟩)
    have db := hno _ (mem_dartsAll'.2 ⟨e, he, .inr rfl⟩)
    rw [ta] at da
    rw [tb] at db
    exact ⟨h1.2.2.1, h1.2.2.2, fun h => absurd h da, fun h => absurd h db⟩) p.E.length (Nat.le_refl _) (posN p.V w) (posN p.V v) (posN_lt hw) (posN_lt hv) hc
  rw [gi_posN hw, gi_posN hv] at this
  exact this.2 rfl
theorem docW_keys {us : List (Int × List Int)} (hu : us.Perm (wF p tn)) (hk : WalksOk p us) : (docW (nextD (tn.map firstR) (atF tn)) tn p).Pairwise fun x y => x.1 ≠ y.1 := by
  have := hk.keys
  rw [doc_eq h0 hu hk] at this
  exact this.imp fun h => by omega
/-- A piece without edges is one vertex, with one walk. -/
theorem piece_lone (hkeys : (docW (nextD (tn.map firstR) (atF tn)) tn p).Pairwise fun x y => x.1 ≠ y.1) {t : Int} (hpos : 0 < (pieceT g p t).1.length) (hm : (pieceT g p t).2 = []) : (pieceT g p t).1.length = 1 ∧ facesF g (docW (nextD (tn.map firstR) (atF tn)) tn p) (pieceT g p t).1 = 1 := by
  have ht := turns_of h0
  have hr := (rotaErr_part h0).1
  have hnd : (pieceT g p t).1.Nodup := (verts_nodup hr).sublist List.filter_sublist
  have hnoD : ∀ d ∈ dartsAll p.E, clsD g p d ≠ t := fun d hd hc => by
    have := mem_pieceD.2 ⟨hd, hc⟩
    rw [hm] at this
    cases this
  obtain ⟨v, hv⟩ := List.exists_mem_of_length_pos hpos
  obtain ⟨hv1, hv2⟩ := mem_pieceV.1 hv
  have hvr := verts_pos hr v hv1
  have hno : ∀ d ∈ dartsAll p.E, tailD g d ≠ v := fun d hd e => hnoD d hd (by unfold clsD; rw [e]; exact hv2)
  have hV1 : (pieceT g p t).1.length = [v].length := nodup_same_len hnd (by simp) (fun w hw => by
    obtain ⟨w1, w2⟩ := mem_pieceV.1 hw
    rw [List.mem_singleton]
    exact piece_alone h0 hv1 hno w1 (by omega)) (fun w hw => by rw [List.mem_singleton] at hw; subst hw; exact hv)
  have hF1 : facesF g (docW (nextD (tn.map firstR) (atF tn)) tn p) (pieceT g p t).1 = [(-1 - v : Int)].length := by
    unfold facesF
    refine (List.length_map (Prod.fst : Int × List Int → Int)).symm.trans ?_
    refine nodup_same_len ?_ (by simp) (fun z hz => ?_) (fun z hz => ?_)
    · rw [List.nodup_iff_pairwise_ne, List.pairwise_map]
      exact hkeys.sublist List.filter_sublist
    · obtain ⟨u, hu, rfl⟩ := List.mem_map.1 hz
      obtain ⟨u1, u2⟩ := List.mem_filter.1 hu
      have u3 := of_decide_eq_true u2
      rw [List.mem_singleton]
      rcases mem_docW.1 u1 with ⟨w, hw, hl, rfl⟩ | ⟨d, hd, hl, rfl⟩
      · rw [corner_lone h0 hw] at u3
        have := piece_alone h0 hv1 hno hw (by have := (mem_pieceV.1 u3).2; omega)
        rw [this]
      · exfalso
        obtain ⟨o1, o2⟩ := orb_head h0 hd
        rw [corner_dart' h0 (orb_sub h0 hd) o1 o2] at u3
        exact hnoD d hd (mem_pieceV.1 u3).2
    · rw [List.mem_singleton] at hz
      subst hz
      refine List.mem_map.2 ⟨(-1 - v, []), List.mem_filter.2 ⟨mem_docW.2 (.inl ⟨v, hv1, ?_, rfl⟩), decide_eq_true ?_⟩, rfl⟩
      · have hN := (rotaErr_part h0).2.1
        unfold atL
        rw [if_pos ⟨hvr.1, by omega⟩]
        refine Nat.eq_zero_of_not_pos fun h => ?_
        obtain ⟨d, hd⟩ := List.exists_mem_of_length_pos h
        have hN := (rotaErr_part h0).2.1
        obtain ⟨d1, d2⟩ := (ht.mem (by omega)).1 hd
        exact hno d d1 (by omega)
      · rw [corner_lone h0 hv1]
        exact hv
  exact ⟨hV1, hF1⟩
/-- In a piece with edges each vertex has darts. -/
theorem piece_rows {t : Int} (hm : (pieceT g p t).2 ≠ []) : ∀ v ∈ (pieceT g p t).1, 0 < (gl tn v.toNat).length := fun v hv => by
  have ht := turns_of h0
  have hr := (rotaErr_part h0).1
  have hE := edges_ok hr
  obtain ⟨hv1, hv2⟩ := mem_pieceV.1 hv
  have hvr := verts_pos hr v hv1
  have hN := (rotaErr_part h0).2.1
  refine Nat.pos_of_ne_zero fun hz => ?_
  have hno : ∀ d ∈ dartsAll p.E, tailD g d ≠ v := fun d hd e => by
    have := (ht.mem (k := v.toNat) (by omega)).2 ⟨hd, by omega⟩
    rw [List.eq_nil_of_length_eq_zero hz] at this
    cases this
  obtain ⟨e, he⟩ := List.exists_mem_of_ne_nil _ hm
  unfold pieceT at he
  obtain ⟨e1, e2⟩ := List.mem_filter.1 he
  have e3 := of_decide_eq_true e2
  have := piece_alone h0 hv1 hno (hE e e1).2.2.1 (by omega)
  refine hno (2 * e) (mem_dartsAll'.2 ⟨e, e1, .inl rfl⟩) ?_
  unfold tailD
  rw [if_pos (by omega), show 2 * e / 2 = e by omega]
  exact this
/-- Of each piece: vertices and walks are two and the edges, or less; and even. -/
theorem piece_euler_t (hkeys : (docW (nextD (tn.map firstR) (atF tn)) tn p).Pairwise fun x y => x.1 ≠ y.1) {t : Int} (hpos : 0 < (pieceT g p t).1.length) : facesF g (docW (nextD (tn.map firstR) (atF tn)) tn p) (pieceT g p t).1 + (pieceT g p t).1.length ≤ 2 + (pieceT g p t).2.length ∧ (facesF g (docW (nextD (tn.map firstR) (atF tn)) tn p) (pieceT g p t).1 + (pieceT g p t).1.length + (pieceT g p t).2.length) % 2 = 0 := by
  have ht := turns_of h0
  by_cases hm : (pieceT g p t).2 = []
  · obtain ⟨k1, k2⟩ := piece_lone h0 hkeys hpos hm
    rw [k1, k2, hm]
    simp
  · have hrow := piece_rows h0 hm
    obtain ⟨k1, k2⟩ := pieceE_ok h0 t
    have hlen : (pairsE (pieceT g p t).2).length = (pieceT g p t).2.length := by unfold pairsE; rw [List.length_map]
    obtain ⟨q1, q2, q3⟩ := euler_in (n := 2048) (s := backN g p tn t) (T := pairsE (pieceT g p t).2) (inD := inP g p t) (backN_perm h0 t) (fun e he => by
      obtain ⟨f, hf, rfl⟩ := List.mem_map.1 he
      have f1 := k2 f hf
      have da : 2 * f ∈ dartsAll p.E := mem_dartsAll'.2 ⟨f, f1.2, .inl rfl⟩
      have db : 2 * f + 1 ∈ dartsAll p.E := mem_dartsAll'.2 ⟨f, f1.2, .inr rfl⟩
      have pa := ht.pos _ da
      have pb := ht.pos _ db
      have ca := mem_pieceD.1 (mem_dartsAll'.2 ⟨f, hf, .inl rfl⟩ : 2 * f ∈ dartsAll (pieceT g p t).2)
      have cb := mem_pieceD.1 (mem_dartsAll'.2 ⟨f, hf, .inr rfl⟩ : 2 * f + 1 ∈ dartsAll (pieceT g p t).2)
      refine ⟨by dsimp only; omega, by dsimp only; omega, by dsimp only; omega, inP_iff.2 ?_, inP_iff.2 ?_⟩
      · rw [show (((2 * f).toNat : Nat) : Int) = 2 * f by omega]; exact ca
      · rw [show (((2 * f + 1).toNat : Nat) : Int) = 2 * f + 1 by omega]; exact cb) (fun x hx hd => by unfold backN; rw [hd]; rfl) (piece_one h0 t)
    have f1 := piece_faces h0 t hrow q1 hkeys
    have f2 := piece_verts h0 t hrow
    unfold phiN at f1
    rw [f1, f2, hlen] at q2 q3
    exact ⟨q2, q3⟩
theorem piece_euler {us : List (Int × List Int)} (hu : us.Perm (wF p tn)) (hk : WalksOk p us) {x : List Int × List Int} (hx : x ∈ piecesF g p) : facesF g us x.1 + x.1.length ≤ 2 + x.2.length ∧ (facesF g us x.1 + x.1.length + x.2.length) % 2 = 0 := by
  have hr := (rotaErr_part h0).1
  obtain ⟨hpos, t, _, rfl⟩ := mem_pieces hr hx
  rw [doc_eq h0 hu hk]
  exact piece_euler_t h0 (docW_keys h0 hu hk) hpos
end
end Go.Proofs.YtefhmlgepnlaoaaGreat
