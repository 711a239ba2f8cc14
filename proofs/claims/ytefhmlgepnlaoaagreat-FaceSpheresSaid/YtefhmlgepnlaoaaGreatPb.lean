/- Plain: right turns make a map of darts that is one to one; what is known of all walks. No program. -/
import Derived.Test.YtefhmlgepnlaoaaGreatPa
import Derived.Test.YtefhmlgepnlaoaaGreatFe
set_option linter.unusedVariables false
set_option linter.unusedSimpArgs false
namespace Go.Proofs.YtefhmlgepnlaoaaGreat
open Go.RowKit

theorem mem_dartsAll' {E : List Int} {d : Int} : d ∈ dartsAll E ↔ ∃ e ∈ E, d = 2 * e ∨ d = 2 * e + 1 := by
  unfold dartsAll
  rw [List.mem_flatMap]
  constructor
  · rintro ⟨e, he, h⟩
    exact ⟨e, he, by simpa using h⟩
  · rintro ⟨e, he, h⟩
    exact ⟨e, he, by simpa using h⟩
theorem dartsAll_cons (e : Int) (E : List Int) : dartsAll (e :: E) = 2 * e :: (2 * e + 1) :: dartsAll E := rfl
theorem dartsAll_rises : ∀ {E : List Int}, E.Pairwise (· < ·) → (dartsAll E).Pairwise (· < ·) := by
  intro E
  induction E with
  | nil => intro _; exact List.Pairwise.nil
  | cons e E ih =>
    intro h
    obtain ⟨h1, h2⟩ := List.pairwise_cons.1 h
    rw [dartsAll_cons]
    have h3 : ∀ d ∈ dartsAll E, 2 * e + 1 < d := fun d hd => by
      obtain ⟨x, hx, hd⟩ := mem_dartsAll'.1 hd
      have := h1 x hx
      omega
    refine List.pairwise_cons.2 ⟨fun d hd => ?_, List.pairwise_cons.2 ⟨h3, ih h2⟩⟩
    rcases List.mem_cons.1 hd with rfl | hd
    · omega
    · have := h3 d hd; omega
theorem mem_dartsOf {g : Gr} {v d : Int} : ∀ {E : List Int}, d ∈ g.dartsOf v E ↔ ∃ e ∈ E, (d = 2 * e ∧ (g.edge e).1 = v) ∨ (d = 2 * e + 1 ∧ (g.edge e).2 = v) := by
  intro E
  induction E with
  | nil => simp [Gr.dartsOf]
  | cons e E ih =>
    unfold Gr.dartsOf
    rw [List.mem_append, List.mem_append, ih]
    constructor
    · rintro ((h | h) | ⟨x, hx, h⟩)
      · split at h
        · rw [List.mem_singleton] at h; exact ⟨e, List.mem_cons_self .., .inl ⟨h, by assumption⟩⟩
        · cases h
      · split at h
        · rw [List.mem_singleton] at h; exact ⟨e, List.mem_cons_self .., .inr ⟨h, by assumption⟩⟩
        · cases h
      · exact ⟨x, List.mem_cons_of_mem _ hx, h⟩
    · rintro ⟨x, hx, h⟩
      rcases List.mem_cons.1 hx with rfl | hx
      · rcases h with ⟨h1, h2⟩ | ⟨h1, h2⟩
        · left; left; rw [if_pos h2]; simp [h1]
        · left; right; rw [if_pos h2]; simp [h1]
      · exact .inr ⟨x, hx, h⟩
theorem dartsOf_sub (g : Gr) (v : Int) : ∀ E : List Int, (g.dartsOf v E).Sublist (dartsAll E) := by
  intro E
  induction E with
  | nil => exact List.Sublist.refl _
  | cons e E ih =>
    unfold Gr.dartsOf
    rw [dartsAll_cons, List.append_assoc]
    have h1 : (if (g.edge e).2 = v then [2 * e + 1] else []).Sublist [2 * e + 1] := by split <;> simp
    have h2 : (if (g.edge e).1 = v then [2 * e] else []).Sublist [2 * e] := by split <;> simp
    exact List.Sublist.append h2 (List.Sublist.append h1 ih)

theorem lookup_putAll (v : Nat) (d : Int) : ∀ (l : List Int) (m : List (Int × Value)), (putAll m v l).lookup d = if d ∈ l then some (.int .i64 (v : Int)) else m.lookup d := by
  intro l
  induction l with
  | nil => intro m; simp [putAll]
  | cons x l ih =>
    intro m
    have : putAll m v (x :: l) = putAll (upd m x (.int .i64 (v : Int))) v l := rfl
    rw [this, ih, lookup_upd]
    by_cases h1 : d ∈ l
    · simp [h1]
    · by_cases h2 : d = x
      · simp [h1, h2]
      · simp [h1, h2]
/-- In which row a dart stands. -/
def atN (tn : List (List Int)) : Nat → Int → Option Nat
  | 0, _ => none
  | k + 1, d => if d ∈ gl tn k then some k else atN tn k d
theorem atN_lookup (tn : List (List Int)) (d : Int) : ∀ k, (atTo tn k).lookup d = (atN tn k d).map fun v : Nat => Value.int .i64 (v : Int) := by
  intro k
  induction k with
  | zero => rfl
  | succ k ih =>
    unfold atTo atN
    rw [lookup_putAll, ih]
    split <;> rfl
theorem atN_some {tn : List (List Int)} {d : Int} {v : Nat} : ∀ {k}, atN tn k d = some v → v < k ∧ d ∈ gl tn v := by
  intro k
  induction k with
  | zero => intro h; cases h
  | succ k ih =>
    intro h
    unfold atN at h
    split at h
    · cases h; exact ⟨by omega, by assumption⟩
    · have := ih h; exact ⟨by omega, this.2⟩
def atF (tn : List (List Int)) (d : Int) : Option Nat := atN tn tn.length d
/-- The vertex that a dart leaves. -/
def tailD (g : Gr) (d : Int) : Int := if d % 2 = 0 then (g.edge (d / 2)).1 else (g.edge (d / 2)).2
theorem mem_dartsOf_tail {g : Gr} {v d : Int} {E : List Int} : d ∈ g.dartsOf v E ↔ d ∈ dartsAll E ∧ tailD g d = v := by
  rw [mem_dartsOf, mem_dartsAll']
  unfold tailD
  constructor
  · rintro ⟨e, he, ⟨rfl, h⟩ | ⟨rfl, h⟩⟩
    · exact ⟨⟨e, he, .inl rfl⟩, by rw [if_pos (by omega), show 2 * e / 2 = e by omega]; exact h⟩
    · exact ⟨⟨e, he, .inr rfl⟩, by rw [if_neg (by omega), show (2 * e + 1) / 2 = e by omega]; exact h⟩
  · rintro ⟨⟨e, he, rfl | rfl⟩, h⟩
    · rw [if_pos (by omega), show 2 * e / 2 = e by omega] at h
      exact ⟨e, he, .inl ⟨rfl, h⟩⟩
    · rw [if_neg (by omega), show (2 * e + 1) / 2 = e by omega] at h
      exact ⟨e, he, .inr ⟨rfl, h⟩⟩
theorem twinI_mem {E : List Int} {d : Int} (h : d ∈ dartsAll E) : twinI d ∈ dartsAll E := by
  obtain ⟨e, he, h⟩ := mem_dartsAll'.1 h
  refine mem_dartsAll'.2 ⟨e, he, ?_⟩
  unfold twinI
  split <;> omega
theorem twinI_inj {d e : Int} (h : twinI d = twinI e) : d = e := by
  unfold twinI at h
  split at h <;> split at h <;> omega
theorem prevI {j : Int} {n : Nat} (h0 : 0 ≤ j) (h1 : j < n) : (j + -1) % (n : Int) = if j = 0 then (n : Int) - 1 else j - 1 := by
  split
  · rename_i h
    subst h
    have : (0 + -1 : Int) % (n : Int) = (0 + -1 + (n : Int)) % (n : Int) := by simp
    rw [this, Int.emod_eq_of_lt (by omega) (by omega)]
    omega
  · rw [Int.emod_eq_of_lt (by omega) (by omega)]
    omega

/-- What right turns are. -/
structure Turns (g : Gr) (p : Pt) (tn : List (List Int)) : Prop where
  rises : (dartsAll p.E).Pairwise (· < ·)
  pos : ∀ d ∈ dartsAll p.E, 0 ≤ d ∧ d < 2048
  len : (dartsAll p.E).length ≤ 2048
  row : ∀ k, k < tn.length → (gl tn k).Perm (g.dartsOf k p.E)
  tail : ∀ d ∈ dartsAll p.E, 0 ≤ tailD g d ∧ tailD g d < tn.length
theorem sortI_perm (xs : List Int) : (sortI xs).Perm xs := List.mergeSort_perm ..
theorem rowsOk_row {g : Gr} {p : Pt} : ∀ {tn : List (List Int)} {v : Nat}, g.rowsOk p v tn = true → ∀ k, k < tn.length → sortI (gl tn k) = g.darts p ((v + k : Nat) : Int) := by
  intro tn
  induction tn with
  | nil => intro v _ k hk; simp at hk
  | cons l tn ih =>
    intro v h k hk
    unfold Gr.rowsOk at h
    rw [Bool.and_eq_true] at h
    rcases k with _ | k
    · simpa [gl] using h.1
    · have := ih h.2 k (by simpa using hk)
      rw [show v + (k + 1) = v + 1 + k by omega]
      simpa [gl] using this
theorem partEnds_all {g : Gr} {V : List Int} : ∀ {E : List Int}, g.partEnds V E = true → ∀ e ∈ E, (g.edge e).1 ∈ V ∧ (g.edge e).2 ∈ V := by
  intro E
  induction E with
  | nil => intro _ e he; cases he
  | cons x E ih =>
    intro h e he
    unfold Gr.partEnds at h
    simp only [Bool.and_eq_true, decide_eq_true_eq] at h
    rcases List.mem_cons.1 he with rfl | he
    · exact ⟨h.1, h.2.1⟩
    · exact ih h.2.2 e he
theorem turns_of {g : Gr} {p : Pt} {tn : List (List Int)} (h0 : g.rotaErr p tn = 0) : Turns g p tn := by
  obtain ⟨h1, h2, h3⟩ := rotaErr_part h0
  obtain ⟨k1, k2, k3, k4⟩ := Gr.rightPart_ok h1
  have hr := Gr.right_ok k1
  have hE := risesF_sound _ _ _ k3
  have hV := risesF_sound _ _ _ k2
  have hd : ∀ v, g.darts p v = g.dartsOf v p.E := fun v => by unfold Gr.darts; rw [if_neg (by omega)]
  refine ⟨dartsAll_rises hE.1, fun d hd => ?_, ?_, fun k hk => ?_, fun d hd => ?_⟩
  · obtain ⟨e, he, hd⟩ := mem_dartsAll'.1 hd
    have := hE.2 e he
    omega
  · rw [dartsAll_len]
    have := (verts_len h0).2
    omega
  · have h4 := rowsOk_row h3 k hk
    rw [Nat.zero_add, hd] at h4
    rw [← h4]
    exact (sortI_perm _).symm
  · obtain ⟨e, he, hd⟩ := mem_dartsAll'.1 hd
    have h5 := partEnds_all k4 e he
    have h6 := hV.2 _ h5.1
    have h7 := hV.2 _ h5.2
    unfold tailD
    rcases hd with rfl | rfl
    · rw [if_pos (by omega), show 2 * e / 2 = e by omega]; omega
    · rw [if_neg (by omega), show (2 * e + 1) / 2 = e by omega]; omega
section
variable {g : Gr} {p : Pt} {tn : List (List Int)} (ht : Turns g p tn)
include ht
theorem Turns.nd : (dartsAll p.E).Nodup := ht.rises.imp fun h => by omega
theorem Turns.mem {k : Nat} (hk : k < tn.length) {d : Int} : d ∈ gl tn k ↔ d ∈ dartsAll p.E ∧ tailD g d = k := (ht.row k hk).mem_iff.trans mem_dartsOf_tail
theorem Turns.row_nd {k : Nat} (hk : k < tn.length) : (gl tn k).Nodup := (ht.row k hk).nodup_iff.2 ((dartsOf_sub g k p.E).nodup ht.nd)
theorem Turns.atK {d : Int} (hd : d ∈ dartsAll p.E) : ∀ k, k ≤ tn.length → (tailD g d).toNat < k → atN tn k d = some (tailD g d).toNat := by
  intro k
  induction k with
  | zero => intro _ h; omega
  | succ k ih =>
    intro hk hv
    have h1 := (ht.mem (k := k) (by omega) (d := d))
    have h2 := ht.tail d hd
    unfold atN
    by_cases he : tailD g d = k
    · rw [if_pos (h1.2 ⟨hd, he⟩)]
      congr 1
      omega
    · rw [if_neg fun h => he (h1.1 h).2]
      exact ih (by omega) (by omega)
theorem Turns.at_ {d : Int} (hd : d ∈ dartsAll p.E) : atF tn d = some (tailD g d).toNat := ht.atK hd _ (Nat.le_refl _) (by have := ht.tail d hd; omega)
theorem Turns.at_lt : ∀ d v, atF tn d = some v → v < tn.length ∧ 0 ≤ d ∧ d < 1048576 := by
  intro d v h
  obtain ⟨h1, h2⟩ := atN_some h
  have h3 := ht.pos d ((ht.mem h1).1 h2).1
  exact ⟨h1, h3.1, by omega⟩
theorem Turns.own {d : Int} (hd : d ∈ dartsAll p.E) : ownL (tn.map firstR) (atF tn) d = firstR (gl tn (tailD g d).toNat) ∧ d ∈ firstR (gl tn (tailD g d).toNat) ∧ (firstR (gl tn (tailD g d).toNat)).Nodup := by
  have h2 := ht.tail d hd
  have hk : (tailD g d).toNat < tn.length := by omega
  have h3 := (ht.mem hk (d := d)).2 ⟨hd, by omega⟩
  refine ⟨?_, (firstR_perm _).mem_iff.2 h3, (firstR_perm _).nodup_iff.2 (ht.row_nd hk)⟩
  unfold ownL
  rw [ht.at_ hd]
  simp only [gl]
  rw [List.getD_eq_getElem?_getD, List.getD_eq_getElem?_getD, List.getElem?_map, List.getElem?_eq_getElem hk]
  rfl
/-- Where next leads. -/
theorem Turns.next {d : Int} (hd : d ∈ dartsAll p.E) : ∃ j : Nat, j < (firstR (gl tn (tailD g (twinI d)).toNat)).length ∧ gi (firstR (gl tn (tailD g (twinI d)).toNat)) j = twinI d ∧
    nextD (tn.map firstR) (atF tn) d = gi (firstR (gl tn (tailD g (twinI d)).toNat)) (if j = 0 then (firstR (gl tn (tailD g (twinI d)).toNat)).length - 1 else j - 1) := by
  have ht2 := twinI_mem hd
  obtain ⟨o1, o2, o3⟩ := ht.own hd
  obtain ⟨t1, t2, t3⟩ := ht.own ht2
  obtain ⟨j, h1, h2, h3, _⟩ := gi_idx t2
  refine ⟨j, h2, h3, ?_⟩
  unfold nextD nextL stepL
  rw [o1, t1, if_neg (by have := List.length_pos_of_mem o2; omega), h1, if_neg (by omega), Option.getD_some, prevI (by omega) (by omega)]
  congr 1
  split <;> split <;> omega
theorem Turns.perm1 : Perm1 (nextD (tn.map firstR) (atF tn)) (dartsAll p.E) := by
  have hrow : ∀ d ∈ dartsAll p.E, nextD (tn.map firstR) (atF tn) d ∈ gl tn (tailD g (twinI d)).toNat ∧ (tailD g (twinI d)).toNat < tn.length ∧ 0 ≤ tailD g (twinI d) := by
    intro d hd
    obtain ⟨j, h1, h2, h3⟩ := ht.next hd
    have h4 := ht.tail _ (twinI_mem hd)
    refine ⟨?_, by omega, by omega⟩
    rw [h3]
    exact (firstR_perm _).mem_iff.1 (gi_mem (by split <;> omega))
  refine ⟨ht.nd, fun d hd => ?_, fun d hd e he h => ?_⟩
  · obtain ⟨h1, h2, _⟩ := hrow d hd
    exact ((ht.mem h2).1 h1).1
  · obtain ⟨a1, a2, a3⟩ := hrow d hd
    obtain ⟨b1, b2, b3⟩ := hrow e he
    rw [h] at a1
    have hv : (tailD g (twinI d)).toNat = (tailD g (twinI e)).toNat := by
      have k1 := ((ht.mem a2).1 a1).2
      have k2 := ((ht.mem b2).1 b1).2
      omega
    obtain ⟨j, h1, h2, h3⟩ := ht.next hd
    obtain ⟨k, k1, k2, k3⟩ := ht.next he
    rw [← hv] at k1 k2 k3
    have hn := (ht.own (twinI_mem hd)).2.2
    rw [h3, k3] at h
    have hz : ∀ i, i < (firstR (gl tn (tailD g (twinI d)).toNat)).length → (if i = 0 then (firstR (gl tn (tailD g (twinI d)).toNat)).length - 1 else i - 1) < (firstR (gl tn (tailD g (twinI d)).toNat)).length := fun i hi => by split <;> omega
    rw [gi_eq (hz j h1), gi_eq (hz k k1)] at h
    have h5 := nodup_inj hn _ _ h
    have h6 : j = k := by split at h5 <;> split at h5 <;> omega
    subst h6
    exact twinI_inj (by rw [← h2, ← k2])
end

/-- What is known of all walks. -/
structure WalksOk (p : Pt) (us : List (Int × List Int)) : Prop where
  perm : (us.flatMap Prod.snd).Perm (dartsAll p.E)
  head : ∀ u ∈ us, u.2 ≠ [] → gi u.2 0 = u.1 ∧ ∀ d ∈ u.2, u.1 ≤ d
  lone : ∀ u ∈ us, u.2 = [] → ∃ v ∈ p.V, u.1 = -1 - v
  few : us.length ≤ p.V.length + (dartsAll p.E).length
  keys : us.Pairwise fun x y => x.1 < y.1
theorem heads_nodup : ∀ {ts : List (Int × List Int)}, (∀ u ∈ ts, u.1 ∈ u.2) → (ts.flatMap Prod.snd).Nodup → (ts.map Prod.fst).Nodup := by
  intro ts
  induction ts with
  | nil => intro _ _; exact List.nodup_nil
  | cons u ts ih =>
    intro h1 h2
    rw [List.flatMap_cons] at h2
    obtain ⟨a, b, c⟩ := List.nodup_append.1 h2
    refine List.nodup_cons.2 ⟨fun hm => ?_, ih (fun x hx => h1 x (List.mem_cons_of_mem _ hx)) b⟩
    obtain ⟨u', hu', he⟩ := List.mem_map.1 hm
    exact c _ (h1 u (List.mem_cons_self ..)) _ (List.mem_flatMap.2 ⟨u', hu', he ▸ h1 u' (List.mem_cons_of_mem _ hu')⟩) rfl
theorem sorted_strict : ∀ {us : List (Int × List Int)}, (us.map Prod.fst).Nodup → us.Pairwise (fun x y => x.1 ≤ y.1) → us.Pairwise fun x y => x.1 < y.1 := by
  intro us
  induction us with
  | nil => intro _ _; exact List.Pairwise.nil
  | cons u us ih =>
    intro h1 h2
    rw [List.map_cons] at h1
    obtain ⟨a, b⟩ := List.nodup_cons.1 h1
    obtain ⟨c, d⟩ := List.pairwise_cons.1 h2
    refine List.pairwise_cons.2 ⟨fun x hx => ?_, ih b d⟩
    have h3 := c x hx
    have : u.1 ≠ x.1 := fun e => a (e ▸ List.mem_map.2 ⟨x, hx, rfl⟩)
    omega
theorem lonesF_keys (tn : List (List Int)) : ∀ {V : List Int}, V.Pairwise (· < ·) → ((lonesF tn V).map Prod.fst).Nodup := by
  intro V
  induction V with
  | nil => intro _; exact List.nodup_nil
  | cons v V ih =>
    intro h
    obtain ⟨h1, h2⟩ := List.pairwise_cons.1 h
    have : lonesF tn (v :: V) = (if (atL tn v).length = 0 then [(-1 - v, [])] else []) ++ lonesF tn V := rfl
    rw [this, List.map_append]
    refine List.nodup_append.2 ⟨by split <;> simp, ih h2, fun x hx y hy e => ?_⟩
    subst e
    split at hx
    · simp at hx
      obtain ⟨u, hu, he⟩ := List.mem_map.1 hy
      obtain ⟨v', hv', hu⟩ := List.mem_flatMap.1 hu
      have := h1 v' hv'
      split at hu
      · rw [List.mem_singleton] at hu; subst hu; dsimp only at he; omega
      · cases hu
    · simp at hx
theorem walks_ok {g : Gr} {p : Pt} {tn : List (List Int)} (h0 : g.rotaErr p tn = 0) {bound : Nat} (hb : (dartsAll p.E).length ≤ bound) {us : List (Int × List Int)}
    (hu : us.Perm (walksF (cycN (nextD (tn.map firstR) (atF tn)) bound) (tn.map firstR) p)) (hs : us.Pairwise fun x y => x.1 ≤ y.1) : WalksOk p us := by
  have ht := turns_of h0
  have hp := ht.perm1
  have hl0 : ∀ u ∈ lonesF (tn.map firstR) p.V, u.2 = [] ∧ ∃ v ∈ p.V, u.1 = -1 - v := fun u hu => by
    obtain ⟨v, hv, hu⟩ := List.mem_flatMap.1 hu
    have := verts_range h0 v hv
    split at hu
    · rw [List.mem_singleton] at hu; subst hu; exact ⟨rfl, v, hv, rfl⟩
    · cases hu
  have hl : ∀ u ∈ lonesF (tn.map firstR) p.V, u.2 = [] ∧ u.1 < 0 := fun u hu => by
    obtain ⟨h1, v, hv, h2⟩ := hl0 u hu
    have := verts_range h0 v hv
    exact ⟨h1, by omega⟩
  obtain ⟨ts, h1, h2, h3, h4⟩ := (hp.fold hb (fun u hu => (hl u hu).1) (dartsAll p.E) [] _ (fun d hd => hd) ⟨[], (List.append_nil _).symm, fun u hu => (by cases hu), List.nodup_nil, fun d hd => by cases hd⟩).ex
  have hw : walksF (cycN (nextD (tn.map firstR) (atF tn)) bound) (tn.map firstR) p = lonesF (tn.map firstR) p.V ++ ts := h1
  have hfew : us.length ≤ p.V.length + (dartsAll p.E).length := by
    rw [hu.length_eq]
    unfold walksF
    have := foldW_len (cycN (nextD (tn.map firstR) (atF tn)) bound) (dartsAll p.E) (lonesF (tn.map firstR) p.V)
    have := lonesF_len (tn.map firstR) p.V
    omega
  rw [hw] at hu
  have hts : ∀ u ∈ ts, gi u.2 0 = u.1 ∧ (∀ d ∈ u.2, u.1 ≤ d) ∧ u.1 ∈ u.2 ∧ ∀ d ∈ u.2, d ∈ dartsAll p.E := fun u hu => by
    obtain ⟨d, hd, rfl⟩ := h2 u hu
    have hself := hp.cyc_self hd hb
    refine ⟨rfl, fun e he => cyc_head he, gi_mem (List.length_pos_of_mem hself), fun e he => hp.cyc_sub hd hb he⟩
  have hflat : (lonesF (tn.map firstR) p.V).flatMap Prod.snd = [] := by
    rw [List.flatMap_eq_nil_iff]
    exact fun u hu => (hl u hu).1
  have hperm : (ts.flatMap Prod.snd).Perm (dartsAll p.E) := by
    refine (List.perm_ext_iff_of_nodup h3 ht.nd).2 fun d => ⟨fun hd => ?_, fun hd => h4 d (by simpa using hd)⟩
    obtain ⟨u, hu, hd⟩ := List.mem_flatMap.1 hd
    exact (hts u hu).2.2.2 d hd
  refine ⟨?_, fun u hu1 hne => ?_, fun u hu1 he => ?_, ?_, ?_⟩
  · refine (hu.flatMap_right Prod.snd).trans ?_
    rw [List.flatMap_append, hflat, List.nil_append]
    exact hperm
  · rcases List.mem_append.1 (hu.mem_iff.1 hu1) with h | h
    · exact absurd (hl u h).1 hne
    · exact ⟨(hts u h).1, (hts u h).2.1⟩
  · rcases List.mem_append.1 (hu.mem_iff.1 hu1) with h | h
    · exact (hl0 u h).2
    · have := (hts u h).2.2.1
      rw [he] at this
      cases this
  · exact hfew
  · refine sorted_strict ?_ hs
    rw [(hu.map Prod.fst).nodup_iff, List.map_append]
    refine List.nodup_append.2 ⟨lonesF_keys _ (risesF_sound _ _ _ (Gr.rightPart_ok (rotaErr_part h0).1).2.1).1, heads_nodup (fun u hu => (hts u hu).2.2.1) h3, fun x hx y hy e => ?_⟩
    subst e
    obtain ⟨u, hu, rfl⟩ := List.mem_map.1 hx
    obtain ⟨u', hu', he⟩ := List.mem_map.1 hy
    have k1 := (hl u hu).2
    have k2 := (hts u' hu').2.2
    have k3 := ht.pos _ (k2.2 _ k2.1)
    omega
/-- face.Walks' answer, unsorted. -/
def wF (p : Pt) (tn : List (List Int)) : List (Int × List Int) := walksF (cycN (nextD (tn.map firstR) (atF tn)) 2048) (tn.map firstR) p
def WalksLaw (g : Gr) (p : Pt) (tn : List (List Int)) (w : World) (e : Ending) (w' : World) : Prop :=
  (∃ u, e = .returned (.tuple #[u, .int .i64 (g.rotaErr p tn)]) ∧ (if g.rotaErr p tn = 0 then ∃ us, us.Perm (wF p tn) ∧ WalksOk p us ∧ OwnW w' w.heap.size u us else u = .slice none 0 0)) ∧ Below w.heap.size w w'
theorem walks_law (g : Gr) (p : Pt) (tn : List (List Int)) (A A1 A2 A3 : Option Addr) (n c n1 c1 n2 c2 n3 c3 : Nat) (w : World) (hA : RE w A n g.E) (h1 : RI w A1 n1 p.V) (h2 : RI w A2 n2 p.E) (h3 : RL w A3 n3 tn) (hs3 : tn.length < 1099511627776) (hs : ∀ l ∈ tn, l.length < 1099511627776) :
    Calls Tryz.prog 19 #[.agg #[.int .i64 g.N, .slice A n c], .agg #[.slice A1 n1 c1, .slice A2 n2 c2], .slice A3 n3 c3] w fun e w' => WalksLaw g p tn w e w' := by
  refine (walks_any g p tn (atF tn) 2048 A A1 A2 A3 n c n1 c1 n2 c2 n3 c3 w hA h1 h2 h3 hs3 hs (fun d => atN_lookup tn d tn.length) (fun h0 => (turns_of h0).at_lt) (fun h0 d hd => (turns_of h0).perm1.period' hd (turns_of h0).len) (by omega)).mono fun e w' h => ?_
  obtain ⟨⟨u, he, hu⟩, hb⟩ := h
  refine ⟨⟨u, he, ?_⟩, hb⟩
  split at hu
  · rename_i h0
    rw [if_pos h0]
    obtain ⟨us, k1, k2, k3⟩ := hu
    exact ⟨us, k1, walks_ok h0 (turns_of h0).len k1 k2, k3⟩
  · rename_i h0
    rw [if_neg h0]
    exact hu
end Go.Proofs.YtefhmlgepnlaoaaGreat
