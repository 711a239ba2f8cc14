/- Plain: of each piece of right turns: vertices less edges and walks are two or less, and even. No program. -/
import Derived.Test.YtefhmlgepnlaoaaPc
import Derived.Test.YtefhmlgepnlaoaaEn
import Derived.Test.YtefhmlgepnlaoaaEj
set_option linter.unusedVariables false
set_option linter.unusedSimpArgs false
namespace Go.Proofs.Ytefhmlgepnlaoaa
open Go.RowKit

/-- The dart ahead in its turn. -/
def backD (tn : List (List Int)) (d : Int) : Int := nextD (tn.map firstR) (atF tn) (twinI d)
theorem twinI_twin (d : Int) : twinI (twinI d) = d := by unfold twinI; split <;> split <;> omega
theorem nodup_same_len {α : Type} {xs ys : List α} (hx : xs.Nodup) (hy : ys.Nodup) (h1 : ∀ x ∈ xs, x ∈ ys) (h2 : ∀ y ∈ ys, y ∈ xs) : xs.length = ys.length :=
  Nat.le_antisymm (hx.length_le_of_subset h1) (hy.length_le_of_subset h2)
section
variable {g : Gr} {p : Pt} {tn : List (List Int)} (ht : Turns g p tn)
include ht
theorem Turns.back {d : Int} (hd : d ∈ dartsAll p.E) : ∃ j : Nat, j < (firstR (gl tn (tailD g d).toNat)).length ∧ gi (firstR (gl tn (tailD g d).toNat)) j = d ∧
    backD tn d = gi (firstR (gl tn (tailD g d).toNat)) (if j = 0 then (firstR (gl tn (tailD g d).toNat)).length - 1 else j - 1) := by
  have := ht.next (twinI_mem hd)
  rw [twinI_twin] at this
  exact this
theorem Turns.back_ok {d : Int} (hd : d ∈ dartsAll p.E) : backD tn d ∈ dartsAll p.E ∧ tailD g (backD tn d) = tailD g d := by
  obtain ⟨j, h1, h2, h3⟩ := ht.back hd
  have h4 := ht.tail d hd
  have h5 : backD tn d ∈ gl tn (tailD g d).toNat := by
    rw [h3]
    exact (firstR_perm _).mem_iff.1 (gi_mem (by split <;> omega))
  have h6 := (ht.mem (by omega)).1 h5
  exact ⟨h6.1, by omega⟩
theorem Turns.back_it {d : Int} (hd : d ∈ dartsAll p.E) : ∀ k, it (backD tn) k d ∈ dartsAll p.E ∧ tailD g (it (backD tn) k d) = tailD g d := by
  intro k
  induction k with
  | zero => exact ⟨hd, rfl⟩
  | succ k ih => obtain ⟨h1, h2⟩ := ht.back_ok ih.1; exact ⟨h1, h2.trans ih.2⟩
/-- Two darts of one vertex: from the one to the other. -/
theorem Turns.back_reach {d e : Int} (hd : d ∈ dartsAll p.E) (he : e ∈ dartsAll p.E) (hv : tailD g d = tailD g e) : ∃ k, it (backD tn) k d = e := by
  have h4 := ht.tail d hd
  have hk : (tailD g d).toNat < tn.length := by omega
  obtain ⟨R, hR⟩ : ∃ R, firstR (gl tn (tailD g d).toNat) = R := ⟨_, rfl⟩
  have hmem : ∀ x, x ∈ R ↔ x ∈ dartsAll p.E ∧ tailD g x = tailD g d := fun x => by
    rw [← hR, (firstR_perm _).mem_iff, ht.mem hk]
    constructor
    · rintro ⟨a, b⟩; exact ⟨a, by omega⟩
    · rintro ⟨a, b⟩; exact ⟨a, by omega⟩
  have hnd : R.Nodup := by rw [← hR]; exact (ht.own hd).2.2
  have one : ∀ j, j < R.length → backD tn (gi R j) = gi R (if j = 0 then R.length - 1 else j - 1) := fun j hj => by
    have hx := (hmem _).1 (gi_mem hj)
    obtain ⟨i, h1, h2, h3⟩ := ht.back hx.1
    rw [hx.2, hR] at h1 h2 h3
    have : i = j := nodup_inj hnd h1 hj (by rw [← gi_eq h1, ← gi_eq hj, h2])
    rw [h3, this]
  have down : ∀ j, j < R.length → ∀ k, k ≤ j → it (backD tn) k (gi R j) = gi R (j - k) := by
    intro j hj k
    induction k with
    | zero => intro _; rfl
    | succ k ih =>
      intro hk
      show backD tn (it (backD tn) k (gi R j)) = _
      rw [ih (by omega), one (j - k) (by omega), if_neg (by omega)]
      congr 1
  obtain ⟨j, _, hj, hjd, _⟩ := gi_idx ((hmem d).2 ⟨hd, rfl⟩)
  obtain ⟨i, _, hi, hie, _⟩ := gi_idx ((hmem e).2 ⟨he, hv.symm⟩)
  refine ⟨(R.length - 1 - i) + (1 + j), ?_⟩
  have e1 : it (backD tn) j d = gi R 0 := by rw [← hjd, down j hj j (Nat.le_refl _), Nat.sub_self]
  have e2 : it (backD tn) (1 + j) d = gi R (R.length - 1) := by
    rw [it_add, e1]
    show backD tn (gi R 0) = _
    rw [one 0 (by omega), if_pos rfl]
  rw [it_add, e2, down (R.length - 1) (by omega) _ (by omega), ← hie]
  congr 1
  omega
end
/-! Classes of vertices. -/
def clsD (g : Gr) (p : Pt) (d : Int) : Int := ((repE g p (posN p.V (tailD g d)) : Nat) : Int)
theorem cls_ends {g : Gr} {p : Pt} {e : Int} (he : e ∈ p.E) : clsD g p (2 * e) = ((repE g p (posN p.V (ge g.E e.toNat).1) : Nat) : Int) ∧ clsD g p (2 * e + 1) = ((repE g p (posN p.V (ge g.E e.toNat).1) : Nat) : Int) := by
  have h2 := repE_edge (g := g) he
  unfold clsD tailD
  constructor
  · rw [if_pos (by omega), show 2 * e / 2 = e by omega]; rfl
  · rw [if_neg (by omega), show (2 * e + 1) / 2 = e by omega, h2]; rfl
theorem cls_twin {g : Gr} {p : Pt} {d : Int} (hd : d ∈ dartsAll p.E) : clsD g p (twinI d) = clsD g p d := by
  obtain ⟨e, he, rfl | rfl⟩ := mem_dartsAll'.1 hd
  · have := cls_ends (g := g) he
    rw [show twinI (2 * e) = 2 * e + 1 by unfold twinI; rw [if_pos (by omega)], this.1, this.2]
  · have := cls_ends (g := g) he
    rw [show twinI (2 * e + 1) = 2 * e by unfold twinI; rw [if_neg (by omega)]; omega, this.1, this.2]
theorem mem_pieceD {g : Gr} {p : Pt} {t d : Int} : d ∈ dartsAll (pieceT g p t).2 ↔ d ∈ dartsAll p.E ∧ clsD g p d = t := by
  rw [mem_dartsAll', mem_dartsAll']
  unfold pieceT
  constructor
  · rintro ⟨e, he, h⟩
    obtain ⟨h1, h2⟩ := List.mem_filter.1 he
    have h3 := cls_ends (g := g) h1
    have h4 := of_decide_eq_true h2
    refine ⟨⟨e, h1, h⟩, ?_⟩
    rcases h with rfl | rfl
    · rw [h3.1, h4]
    · rw [h3.2, h4]
  · rintro ⟨⟨e, he, h⟩, hc⟩
    have h3 := cls_ends (g := g) he
    refine ⟨e, List.mem_filter.2 ⟨he, decide_eq_true ?_⟩, h⟩
    rcases h with rfl | rfl
    · rw [← h3.1, hc]
    · rw [← h3.2, hc]
theorem mem_pieceV {g : Gr} {p : Pt} {t v : Int} : v ∈ (pieceT g p t).1 ↔ v ∈ p.V ∧ ((repE g p (posN p.V v) : Nat) : Int) = t := by
  unfold pieceT
  rw [List.mem_filter, decide_eq_true_eq]
theorem tail_mem {g : Gr} {p : Pt} (h0 : g.rightPart p = 0) {d : Int} (hd : d ∈ dartsAll p.E) : tailD g d ∈ p.V := by
  obtain ⟨e, he, h⟩ := mem_dartsAll'.1 hd
  have := edges_ok h0 e he
  unfold tailD
  rcases h with rfl | rfl
  · rw [if_pos (by omega), show 2 * e / 2 = e by omega]; exact this.2.2.1
  · rw [if_neg (by omega), show (2 * e + 1) / 2 = e by omega]; exact this.2.2.2

/-! The darts of one piece, as numbers. -/
def inP (g : Gr) (p : Pt) (t : Int) (x : Nat) : Bool := decide ((x : Int) ∈ dartsAll p.E) && decide (clsD g p (x : Int) = t)
theorem inP_iff {g : Gr} {p : Pt} {t : Int} {x : Nat} : inP g p t x = true ↔ (x : Int) ∈ dartsAll p.E ∧ clsD g p (x : Int) = t := by
  unfold inP; rw [Bool.and_eq_true, decide_eq_true_eq, decide_eq_true_eq]
def backN (g : Gr) (p : Pt) (tn : List (List Int)) (t : Int) (x : Nat) : Nat := if inP g p t x then (backD tn (x : Int)).toNat else x
def pairsE (E : List Int) : List (Nat × Nat) := E.map fun e => ((2 * e).toNat, (2 * e + 1).toNat)
theorem phi_pairs (S : Nat → Nat) : ∀ E : List Int, E.Nodup → (∀ e ∈ E, 0 ≤ e) → ∀ x : Nat, phiT S (pairsE E) x = if (x : Int) ∈ dartsAll E then S (twinI (x : Int)).toNat else S x := by
  refine snoc_ind (fun _ _ x => rfl) ?_
  intro E e ih hn h0 x
  obtain ⟨n1, -, n2⟩ := List.nodup_append.1 hn
  have he : e ∉ E := fun h => n2 e h e (List.mem_singleton.2 rfl) rfl
  have he0 := h0 e (List.mem_append_right _ (List.mem_singleton.2 rfl))
  have ih := ih n1 fun f hf => h0 f (List.mem_append_left _ hf)
  have e1 : pairsE (E ++ [e]) = pairsE E ++ [((2 * e).toNat, (2 * e + 1).toNat)] := by unfold pairsE; rw [List.map_append]; rfl
  have hno : ∀ z : Int, (z = 2 * e ∨ z = 2 * e + 1) → z ∉ dartsAll E := fun z hz hm => by
    obtain ⟨f, hf, hz2⟩ := mem_dartsAll'.1 hm
    exact he (by rw [show e = f by omega]; exact hf)
  have hmem : ((x : Int) ∈ dartsAll (E ++ [e])) ↔ (x : Int) ∈ dartsAll E ∨ (x : Int) = 2 * e ∨ (x : Int) = 2 * e + 1 := by
    rw [mem_dartsAll', mem_dartsAll']
    constructor
    · rintro ⟨f, hf, h⟩
      rcases List.mem_append.1 hf with hf | hf
      · exact .inl ⟨f, hf, h⟩
      · rw [List.mem_singleton] at hf; subst hf; exact .inr h
    · rintro (⟨f, hf, h⟩ | h)
      · exact ⟨f, List.mem_append_left _ hf, h⟩
      · exact ⟨e, List.mem_append_right _ (List.mem_singleton.2 rfl), h⟩
  rw [e1, phiT_snoc]
  unfold swapN
  dsimp only
  by_cases h1 : x = (2 * e).toNat
  · rw [if_pos h1, ih, if_neg (hno _ (.inr (by omega))), if_pos (hmem.2 (.inr (.inl (by omega))))]
    congr 1
    unfold twinI
    split <;> omega
  · rw [if_neg h1]
    by_cases h2 : x = (2 * e + 1).toNat
    · rw [if_pos h2, ih, if_neg (hno _ (.inl (by omega))), if_pos (hmem.2 (.inr (.inr (by omega))))]
      congr 1
      unfold twinI
      split <;> omega
    · rw [if_neg h2, ih]
      by_cases h3 : (x : Int) ∈ dartsAll E
      · rw [if_pos h3, if_pos (hmem.2 (.inl h3))]
      · rw [if_neg h3, if_neg fun h => by rcases hmem.1 h with h | h | h; exact h3 h; omega; omega]
section
variable {g : Gr} {p : Pt} {tn : List (List Int)} (h0 : g.rotaErr p tn = 0) (t : Int)
include h0
theorem back_cls {d : Int} (hd : d ∈ dartsAll p.E) : clsD g p (backD tn d) = clsD g p d := by
  unfold clsD
  rw [((turns_of h0).back_ok hd).2]
theorem backN_in {x : Nat} (hx : inP g p t x = true) : ((backN g p tn t x : Nat) : Int) = backD tn (x : Int) ∧ inP g p t (backN g p tn t x) = true := by
  obtain ⟨h1, h2⟩ := inP_iff.1 hx
  have h3 := ((turns_of h0).back_ok h1).1
  have h4 := (turns_of h0).pos _ h3
  have h5 : ((backN g p tn t x : Nat) : Int) = backD tn (x : Int) := by unfold backN; rw [if_pos hx]; omega
  exact ⟨h5, inP_iff.2 (by rw [h5]; exact ⟨h3, by rw [back_cls h0 h1]; exact h2⟩)⟩
theorem backN_perm : PermN 2048 (backN g p tn t) := by
  have ht := turns_of h0
  refine ⟨fun x hx => ?_, fun x y hx hy h => ?_⟩
  · cases hi : inP g p t x with
    | true =>
      have := ht.pos _ (inP_iff.1 (backN_in h0 t hi).2).1
      omega
    | false => unfold backN; rw [hi]; exact hx
  · cases hix : inP g p t x with
    | true =>
      cases hiy : inP g p t y with
      | true =>
        have h1 := backN_in h0 t hix
        have h2 := backN_in h0 t hiy
        rw [h] at h1
        have h3 : backD tn (x : Int) = backD tn (y : Int) := h1.1.symm.trans h2.1
        have h4 := twinI_inj (ht.perm1.inj _ (twinI_mem (inP_iff.1 hix).1) _ (twinI_mem (inP_iff.1 hiy).1) h3)
        omega
      | false =>
        have h1 := (backN_in h0 t hix).2
        have h2 : backN g p tn t y = y := by unfold backN; rw [hiy]; rfl
        rw [h, h2, hiy] at h1
        cases h1
    | false =>
      cases hiy : inP g p t y with
      | true =>
        have h1 := (backN_in h0 t hiy).2
        have h2 : backN g p tn t x = x := by unfold backN; rw [hix]; rfl
        rw [← h, h2, hix] at h1
        cases h1
      | false =>
        unfold backN at h
        rw [hix, hiy] at h
        exact h
theorem backN_it {x : Nat} (hx : inP g p t x = true) : ∀ k, ((itN (backN g p tn t) k x : Nat) : Int) = it (backD tn) k (x : Int) ∧ inP g p t (itN (backN g p tn t) k x) = true := by
  intro k
  induction k with
  | zero => exact ⟨rfl, hx⟩
  | succ k ih =>
    have := backN_in h0 t ih.2
    exact ⟨by show ((backN g p tn t (itN (backN g p tn t) k x) : Nat) : Int) = backD tn (it (backD tn) k (x : Int)); rw [this.1, ih.1], this.2⟩
/-- The faces' map, as numbers. -/
def phiN (g : Gr) (p : Pt) (tn : List (List Int)) (t : Int) : Nat → Nat := phiT (backN g p tn t) (pairsE (pieceT g p t).2)
theorem pieceE_ok : (pieceT g p t).2.Nodup ∧ ∀ e ∈ (pieceT g p t).2, 0 ≤ e ∧ e ∈ p.E := by
  have hr := rotaErr_part h0
  have hE := edges_ok hr.1
  have hs := (risesF_sound _ _ _ (Gr.rightPart_ok hr.1).2.2.1).1
  have hn : p.E.Nodup := List.nodup_iff_pairwise_ne.2 (hs.imp fun h => by omega)
  exact ⟨hn.sublist List.filter_sublist, fun e he => ⟨(hE e (List.mem_filter.1 he).1).1, (List.mem_filter.1 he).1⟩⟩
theorem phiN_in {x : Nat} (hx : inP g p t x = true) : ((phiN g p tn t x : Nat) : Int) = nextD (tn.map firstR) (atF tn) (x : Int) ∧ inP g p t (phiN g p tn t x) = true := by
  obtain ⟨h1, h2⟩ := inP_iff.1 hx
  obtain ⟨k1, k2⟩ := pieceE_ok h0 t
  have h3 := twinI_mem h1
  have h4 := (turns_of h0).pos _ h3
  have h5 : ((twinI (x : Int)).toNat : Int) = twinI (x : Int) := by omega
  have h6 : inP g p t (twinI (x : Int)).toNat = true := inP_iff.2 (by rw [h5]; exact ⟨h3, by rw [cls_twin h1]; exact h2⟩)
  have h7 : phiN g p tn t x = backN g p tn t (twinI (x : Int)).toNat := by
    unfold phiN
    rw [phi_pairs _ _ k1 (fun e he => (k2 e he).1), if_pos (mem_pieceD.2 ⟨h1, h2⟩)]
  have h8 := backN_in h0 t h6
  rw [h7]
  refine ⟨?_, h8.2⟩
  rw [h8.1, h5]
  unfold backD
  rw [twinI_twin]
theorem phiN_it {x : Nat} (hx : inP g p t x = true) : ∀ k, ((itN (phiN g p tn t) k x : Nat) : Int) = it (nextD (tn.map firstR) (atF tn)) k (x : Int) ∧ inP g p t (itN (phiN g p tn t) k x) = true := by
  intro k
  induction k with
  | zero => exact ⟨rfl, hx⟩
  | succ k ih =>
    have := phiN_in h0 t ih.2
    exact ⟨by show ((phiN g p tn t (itN (phiN g p tn t) k x) : Nat) : Int) = nextD (tn.map firstR) (atF tn) (it (nextD (tn.map firstR) (atF tn)) k (x : Int)); rw [this.1, ih.1], this.2⟩
/-- All darts of a piece hang together. -/
theorem piece_one : ∀ x y, x < 2048 → y < 2048 → inP g p t x = true → inP g p t y = true → joinL (pairsN 2048 (backN g p tn t) ++ pairsE (pieceT g p t).2) x = joinL (pairsN 2048 (backN g p tn t) ++ pairsE (pieceT g p t).2) y := by
  intro x y hx hy hix hiy
  have ht := turns_of h0
  have hr := (rotaErr_part h0).1
  have hE := edges_ok hr
  have hpm := backN_perm h0 t
  obtain ⟨L, hL⟩ : ∃ L, pairsN 2048 (backN g p tn t) ++ pairsE (pieceT g p t).2 = L := ⟨_, rfl⟩
  have row : ∀ a b : Nat, a < 2048 → inP g p t a = true → inP g p t b = true → tailD g (a : Int) = tailD g (b : Int) → joinL L a = joinL L b := fun a b ha hia hib hab => by
    obtain ⟨k, hk⟩ := ht.back_reach (inP_iff.1 hia).1 (inP_iff.1 hib).1 hab
    have h1 := (backN_it h0 t hia k).1
    have h2 : itN (backN g p tn t) k a = b := by omega
    have h3 := PermN.chain (f := backN g p tn t) (L := L) (x := a) k fun j hj => by
      rw [← hL]
      exact List.mem_append_left _ (mem_pairsN.2 ⟨hpm.it_lt ha j, rfl⟩)
    rw [h3, h2]
  have edge : ∀ e ∈ (pieceT g p t).2, joinL L (2 * e).toNat = joinL L (2 * e + 1).toNat := fun e he => by
    rw [← hL]
    exact joinL_mem _ ((2 * e).toNat, (2 * e + 1).toNat) (List.mem_append_right _ (List.mem_map.2 ⟨e, he, rfl⟩))
  rw [hL]
  have key := joinTo_least (g := g) (p := p) (P := fun v => ∀ z : Nat, z < 2048 → inP g p t z = true → tailD g (z : Int) = v → joinL L z = joinL L x) (fun e he => ?_) p.E.length (Nat.le_refl _) (posN p.V (tailD g (x : Int))) (posN p.V (tailD g (y : Int))) (posN_lt (tail_mem hr (inP_iff.1 hix).1)) (posN_lt (tail_mem hr (inP_iff.1 hiy).1)) (by
    have h1 := (inP_iff.1 hix).2
    have h2 := (inP_iff.1 hiy).2
    unfold clsD repE at h1 h2
    omega)
  · rw [gi_posN (tail_mem hr (inP_iff.1 hix).1), gi_posN (tail_mem hr (inP_iff.1 hiy).1)] at key
    exact (key.1 (fun z hz hiz hzt => (row x z hx hix hiz hzt.symm).symm) y hy hiy rfl).symm
  · have h1 := hE e he
    have ea : ((2 * e).toNat : Int) = 2 * e := by omega
    have eb : ((2 * e + 1).toNat : Int) = 2 * e + 1 := by omega
    have da : 2 * e ∈ dartsAll p.E := mem_dartsAll'.2 ⟨e, he, .inl rfl⟩
    have db : 2 * e + 1 ∈ dartsAll p.E := mem_dartsAll'.2 ⟨e, he, .inr rfl⟩
    have ta : tailD g (2 * e) = (ge g.E e.toNat).1 := by unfold tailD; rw [if_pos (by omega), show 2 * e / 2 = e by omega]; rfl
    have tb : tailD g (2 * e + 1) = (ge g.E e.toNat).2 := by unfold tailD; rw [if_neg (by omega), show (2 * e + 1) / 2 = e by omega]; rfl
    have pa := ht.pos _ da
    have pb := ht.pos _ db
    have hc := cls_ends (g := g) he
    refine ⟨h1.2.2.1, h1.2.2.2, fun hP z hz hiz hzt => ?_, fun hP z hz hiz hzt => ?_⟩
    · have hcz := (inP_iff.1 hiz).2
      have hcb : clsD g p (2 * e + 1) = t := by
        rw [← hcz]; unfold clsD; rw [tb, hzt]
      have hca : clsD g p (2 * e) = t := by rw [hc.1, ← hc.2]; exact hcb
      have hia : inP g p t (2 * e).toNat = true := inP_iff.2 (by rw [ea]; exact ⟨da, hca⟩)
      have hib : inP g p t (2 * e + 1).toNat = true := inP_iff.2 (by rw [eb]; exact ⟨db, hcb⟩)
      have heE : e ∈ (pieceT g p t).2 := by
        unfold pieceT
        exact List.mem_filter.2 ⟨he, decide_eq_true (by rw [← hc.1]; exact hca)⟩
      rw [row z _ hz hiz hib (by rw [eb, tb, hzt]), ← edge e heE]
      exact hP _ (by omega) hia (by rw [ea]; exact ta)
    · have hcz := (inP_iff.1 hiz).2
      have hca : clsD g p (2 * e) = t := by
        rw [← hcz]; unfold clsD; rw [ta, hzt]
      have hcb : clsD g p (2 * e + 1) = t := by rw [hc.2, ← hc.1]; exact hca
      have hia : inP g p t (2 * e).toNat = true := inP_iff.2 (by rw [ea]; exact ⟨da, hca⟩)
      have hib : inP g p t (2 * e + 1).toNat = true := inP_iff.2 (by rw [eb]; exact ⟨db, hcb⟩)
      have heE : e ∈ (pieceT g p t).2 := by
        unfold pieceT
        exact List.mem_filter.2 ⟨he, decide_eq_true (by rw [← hc.1]; exact hca)⟩
      rw [row z _ hz hiz hia (by rw [ea, ta, hzt]), edge e heE]
      exact hP _ (by omega) hib (by rw [eb]; exact tb)
/-- The vertices of a piece whose vertices all have darts: one least dart each. -/
theorem piece_verts (hrow : ∀ v ∈ (pieceT g p t).1, 0 < (gl tn v.toNat).length) : wordsIn (joinL (pairsN 2048 (backN g p tn t))) (inP g p t) 2048 = (pieceT g p t).1.length := by
  have ht := turns_of h0
  have hr := (rotaErr_part h0).1
  have hpm := backN_perm h0 t
  have hword : ∀ x, x < 2048 → inP g p t x = true → (joinL (pairsN 2048 (backN g p tn t)) x = x ↔ ∀ y : Nat, inP g p t y = true → tailD g (x : Int) = tailD g (y : Int) → x ≤ y) := fun x hx hix => by
    rw [word_least hpm hx]
    constructor
    · intro h y hiy hv
      obtain ⟨k, hk⟩ := ht.back_reach (inP_iff.1 hix).1 (inP_iff.1 hiy).1 hv
      have h1 := (backN_it h0 t hix k).1
      have h2 := h k
      omega
    · intro h k
      have h1 := backN_it h0 t hix k
      exact h _ h1.2 (by rw [h1.1]; exact ((ht.back_it (inP_iff.1 hix).1 k).2).symm)
  have hm : ∀ x, x ∈ (List.range 2048).filter (fun x => inP g p t x && decide (joinL (pairsN 2048 (backN g p tn t)) x = x)) ↔ x < 2048 ∧ inP g p t x = true ∧ ∀ y : Nat, inP g p t y = true → tailD g (x : Int) = tailD g (y : Int) → x ≤ y := fun x => by
    rw [List.mem_filter, List.mem_range, Bool.and_eq_true, decide_eq_true_eq]
    constructor
    · rintro ⟨a, b, c⟩; exact ⟨a, b, (hword x a b).1 c⟩
    · rintro ⟨a, b, c⟩; exact ⟨a, b, (hword x a b).2 c⟩
  unfold wordsIn
  rw [← List.length_map (f := fun x : Nat => tailD g (x : Int))]
  refine nodup_same_len ?_ ?_ (fun v hv => ?_) (fun v hv => ?_)
  · rw [List.nodup_iff_pairwise_ne, List.pairwise_map]
    have hnr : ((List.range 2048).filter (fun x => inP g p t x && decide (joinL (pairsN 2048 (backN g p tn t)) x = x))).Nodup := List.nodup_range.sublist List.filter_sublist
    refine List.Pairwise.imp_of_mem ?_ (List.nodup_iff_pairwise_ne.1 hnr)
    intro a b ha hb hab he
    obtain ⟨a1, a2, a3⟩ := (hm a).1 ha
    obtain ⟨b1, b2, b3⟩ := (hm b).1 hb
    have := a3 b b2 he
    have := b3 a a2 he.symm
    omega
  · exact (verts_nodup hr).sublist List.filter_sublist
  · obtain ⟨x, hx, rfl⟩ := List.mem_map.1 hv
    obtain ⟨a1, a2, a3⟩ := (hm x).1 hx
    exact mem_pieceV.2 ⟨tail_mem hr (inP_iff.1 a2).1, (inP_iff.1 a2).2⟩
  · obtain ⟨hv1, hv2⟩ := mem_pieceV.1 hv
    have hvr := verts_pos hr v hv1
    have hN := (rotaErr_part h0).2.1
    have hk : v.toNat < tn.length := by omega
    have hmn := minL_mem (hrow v hv)
    obtain ⟨hd, hdt⟩ := (ht.mem hk).1 hmn
    have hp := ht.pos _ hd
    have ex : ((minL (gl tn v.toNat)).toNat : Int) = minL (gl tn v.toNat) := by omega
    have hdt2 : tailD g (minL (gl tn v.toNat)) = v := by omega
    refine List.mem_map.2 ⟨(minL (gl tn v.toNat)).toNat, (hm _).2 ⟨by omega, inP_iff.2 ?_, fun y hy hyt => ?_⟩, by rw [ex]; exact hdt2⟩
    · rw [ex]
      refine ⟨hd, ?_⟩
      unfold clsD
      rw [hdt2]
      exact hv2
    · rw [ex, hdt2] at hyt
      have := minL_le ((ht.mem hk).2 ⟨(inP_iff.1 hy).1, by omega⟩ : (y : Int) ∈ gl tn v.toNat)
      omega
end
end Go.Proofs.Ytefhmlgepnlaoaa
