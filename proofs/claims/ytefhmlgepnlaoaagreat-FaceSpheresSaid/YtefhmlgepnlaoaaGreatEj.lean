/- Plain: the document's walks (layer 7) are face.Walks' walks. No program. -/
import Derived.Test.YtefhmlgepnlaoaaGreatPb
set_option linter.unusedVariables false
set_option linter.unusedSimpArgs false
namespace Go.Proofs.YtefhmlgepnlaoaaGreat
open Go.RowKit

theorem ext_gi {xs ys : List Int} (hl : xs.length = ys.length) (h : ∀ j, j < xs.length → gi xs j = gi ys j) : xs = ys :=
  List.ext_getElem hl fun j h1 h2 => by rw [← gi_eq h1, ← gi_eq h2]; exact h j h1
theorem rot_len (xs : List Int) (m : Nat) : (rot xs m).length = xs.length := (rot_perm xs m).length_eq
theorem gi_rot {xs : List Int} {m j : Nat} (hm : m ≤ xs.length) (hj : j < xs.length) : gi (rot xs m) j = gi xs ((m + j) % xs.length) := by
  unfold rot gi
  rw [List.getD_eq_getElem?_getD, List.getD_eq_getElem?_getD]
  congr 1
  by_cases h : j < xs.length - m
  · rw [List.getElem?_append_left (by rw [List.length_drop]; exact h), List.getElem?_drop, Nat.mod_eq_of_lt (by omega)]
  · rw [List.getElem?_append_right (by rw [List.length_drop]; omega), List.length_drop, List.getElem?_take, if_pos (by omega), Nat.mod_eq_sub_mod (by omega), Nat.mod_eq_of_lt (by omega)]
    congr 1
    omega
theorem gi_orb {nx : Int → Int} {n i : Nat} {d : Int} (hi : i < n) : gi (orbL nx n d) i = it nx i d := by
  unfold orbL
  rw [gi_eq (by simpa using hi)]
  simp
theorem it_mod {nx : Int → Int} {n : Nat} {d : Int} (h : it nx n d = d) (i : Nat) : it nx (i % n) d = it nx i d := by
  have hm : ∀ k, it nx (n * k) d = d := by
    intro k
    induction k with
    | zero => rfl
    | succ k ih => rw [Nat.mul_succ, it_add, h, ih]
  conv => rhs; rw [← Nat.mod_add_div i n, it_add, hm]
theorem rot_orb {nx : Int → Int} {n m : Nat} {d : Int} (h : it nx n d = d) (hm : m ≤ n) : rot (orbL nx n d) m = orbL nx n (it nx m d) := by
  refine ext_gi (by rw [rot_len, orbL_len, orbL_len]) fun j hj => ?_
  rw [rot_len, orbL_len] at hj
  rw [gi_rot (by rw [orbL_len]; exact hm) (by rw [orbL_len]; exact hj), orbL_len, gi_orb (Nat.mod_lt _ (by omega)), gi_orb hj, it_mod h, Nat.add_comm, it_add]
section
variable {f : Int → Int} {D : List Int} (hp : Perm1 f D)
include hp
theorem Perm1.per_same {d : Int} (hd : d ∈ D) {bound : Nat} (hb : D.length ≤ bound) (m : Nat) : perN f bound (it f m d) = perN f bound d := by
  obtain ⟨h1, h2, h3, h4⟩ := perN_spec (hp.period' hd hb)
  obtain ⟨k1, k2, k3, k4⟩ := perN_spec (hp.period' (hp.it_mem hd m) hb)
  have e1 : it f (perN f bound d) (it f m d) = it f m d := by rw [← it_add, Nat.add_comm, it_add, h3]
  have e2 : it f (perN f bound (it f m d)) d = d := by
    refine hp.it_inj (hp.it_mem hd _) hd m ?_
    rw [← it_add, Nat.add_comm, it_add, k3]
  rcases Nat.lt_trichotomy (perN f bound (it f m d)) (perN f bound d) with h | h | h
  · exact absurd e2 (h4 _ k1 h)
  · exact h
  · exact absurd e1 (k4 _ h1 h)
/-- A cycle is the orbit of its least number. -/
theorem Perm1.cyc_form {d : Int} (hd : d ∈ D) {bound : Nat} (hb : D.length ≤ bound) : ∃ e ∈ D, cycN f bound d = orbL f (perN f bound e) e ∧ gi (cycN f bound d) 0 = e ∧ ∀ x ∈ cycN f bound d, e ≤ x := by
  obtain ⟨h1, h2, h3, h4⟩ := perN_spec (hp.period' hd hb)
  have hne : 0 < (orbL f (perN f bound d) d).length := by rw [orbL_len]; exact h1
  obtain ⟨m, k1, k2, k3, _⟩ := gi_idx (minL_mem hne)
  rw [orbL_len] at k2
  have e1 : cycN f bound d = orbL f (perN f bound (it f m d)) (it f m d) := by
    unfold cycN firstR
    rw [k1, Int.toNat_natCast, rot_orb h3 (by omega), hp.per_same hd hb]
  have e2 : gi (cycN f bound d) 0 = it f m d := by rw [e1, gi_orb (by rw [hp.per_same hd hb]; exact h1)]; rfl
  exact ⟨it f m d, hp.it_mem hd m, e1, e2, fun x hx => e2 ▸ cyc_head hx⟩
end

/-- Is d the least of the first steps? -/
def LT4 (nx : Int → Int) (d : Int) : Nat → Bool
  | 0 => true
  | j + 1 => LT4 nx d j && decide (d < it nx (j + 1) d)
theorem LT4_iff {nx : Int → Int} {d : Int} : ∀ {j : Nat}, LT4 nx d j = true ↔ ∀ i, 0 < i → i ≤ j → d < it nx i d := by
  intro j
  induction j with
  | zero => exact ⟨fun _ i h1 h2 => by omega, fun _ => rfl⟩
  | succ j ih =>
    unfold LT4
    rw [Bool.and_eq_true, ih, decide_eq_true_eq]
    constructor
    · rintro ⟨h1, h2⟩ i h3 h4
      by_cases h : i = j + 1
      · rw [h]; exact h2
      · exact h1 i h3 (by omega)
    · intro h
      exact ⟨fun i h3 h4 => h i h3 (by omega), h (j + 1) (by omega) (by omega)⟩
def oneD (nx : Int → Int) (d : Int) : List (Int × List Int) := if LT4 nx d (perN nx 2048 d - 1) then [(d, orbL nx (perN nx 2048 d) d)] else []
def docW (nx : Int → Int) (tn : List (List Int)) (p : Pt) : List (Int × List Int) := lonesF tn p.V.reverse ++ (dartsAll p.E).flatMap (oneD nx)
theorem mem_oneD {nx : Int → Int} {d : Int} {u : Int × List Int} : u ∈ oneD nx d ↔ LT4 nx d (perN nx 2048 d - 1) = true ∧ u = (d, orbL nx (perN nx 2048 d) d) := by
  unfold oneD
  split
  · rename_i h; simp [h]
  · rename_i h; simp [h]
theorem Perm1.least {f : Int → Int} {D : List Int} (hp : Perm1 f D) (hb : D.length ≤ 2048) {d : Int} (hd : d ∈ D) : LT4 f d (perN f 2048 d - 1) = true ↔ ∀ x ∈ orbL f (perN f 2048 d) d, d ≤ x := by
  obtain ⟨h1, h2, h3, h4⟩ := perN_spec (hp.period' hd hb)
  rw [LT4_iff]
  constructor
  · intro h x hx
    obtain ⟨i, hi, rfl⟩ := List.mem_map.1 hx
    rw [List.mem_range] at hi
    rcases Nat.eq_zero_or_pos i with h0 | h0
    · subst h0; exact Int.le_refl _
    · have := h i h0 (by omega); omega
  · intro h i h5 h6
    have h7 := h (it f i d) (List.mem_map.2 ⟨i, List.mem_range.2 (by omega), rfl⟩)
    have h8 := h4 i h5 (by omega)
    omega
theorem atL_first_len (tn : List (List Int)) (v : Int) : (atL (tn.map firstR) v).length = (atL tn v).length := by
  unfold atL
  rw [List.length_map]
  split
  · unfold gl
    rw [List.getD_eq_getElem?_getD, List.getD_eq_getElem?_getD, List.getElem?_map]
    cases tn[v.toNat]? with
    | none => rfl
    | some l => exact firstR_len l
  · rfl
theorem mem_lonesF {tn : List (List Int)} {V : List Int} {u : Int × List Int} : u ∈ lonesF tn V ↔ ∃ v ∈ V, (atL tn v).length = 0 ∧ u = (-1 - v, []) := by
  unfold lonesF
  rw [List.mem_flatMap]
  constructor
  · rintro ⟨v, hv, h⟩
    split at h
    · exact ⟨v, hv, by assumption, by simpa using h⟩
    · cases h
  · rintro ⟨v, hv, h1, h2⟩
    exact ⟨v, hv, by rw [if_pos h1]; simpa using h2⟩
theorem doc_eq {g : Gr} {p : Pt} {tn : List (List Int)} (h0 : g.rotaErr p tn = 0) {us : List (Int × List Int)} (hu : us.Perm (wF p tn)) (hk : WalksOk p us) : us = docW (nextD (tn.map firstR) (atF tn)) tn p := by
  have ht := turns_of h0
  have hp := ht.perm1
  have hb := ht.len
  have hV := (risesF_sound _ _ _ (Gr.rightPart_ok (rotaErr_part h0).1).2.1).1
  have hVr := verts_range h0
  obtain ⟨ts, h1, h2, h3, h4⟩ := (hp.fold hb (lones := lonesF (tn.map firstR) p.V) (fun u hu => by obtain ⟨v, _, _, rfl⟩ := mem_lonesF.1 hu; rfl) (dartsAll p.E) [] _ (fun d hd => hd) ⟨[], (List.append_nil _).symm, fun u hu => (by cases hu), List.nodup_nil, fun d hd => by cases hd⟩).ex
  have hw : wF p tn = lonesF (tn.map firstR) p.V ++ ts := h1
  rw [hw] at hu
  generalize hnx : nextD (tn.map firstR) (atF tn) = nx at *
  have hts : ∀ u, u ∈ ts ↔ u ∈ (dartsAll p.E).flatMap (oneD nx) := fun u => by
    have fwd : ∀ u ∈ ts, ∃ e ∈ dartsAll p.E, u = (e, orbL nx (perN nx 2048 e) e) ∧ ∀ x ∈ u.2, e ≤ x := fun u hu => by
      obtain ⟨d, hd, rfl⟩ := h2 u hu
      obtain ⟨e, he, k1, k2, k3⟩ := hp.cyc_form hd hb
      exact ⟨e, he, by rw [k2, k1], k3⟩
    rw [List.mem_flatMap]
    constructor
    · intro h
      obtain ⟨e, he, rfl, k⟩ := fwd u h
      dsimp only at k
      exact ⟨e, he, mem_oneD.2 ⟨(hp.least hb he).2 k, rfl⟩⟩
    · rintro ⟨d, hd, h⟩
      obtain ⟨k1, rfl⟩ := mem_oneD.1 h
      have k2 := (hp.least hb hd).1 k1
      obtain ⟨u, hu, hdu⟩ := List.mem_flatMap.1 (h4 d (by simpa using hd))
      obtain ⟨e, he, rfl, k3⟩ := fwd u hu
      dsimp only at k3 hdu
      have k4 := k3 d hdu
      have k5 := hp.orb_symm he ((hp.mem_orb he hb).1 hdu)
      have k6 := k2 e ((hp.mem_orb hd hb).2 k5)
      have : d = e := by omega
      subst this
      exact hu
  have hall : ∀ u, u ∈ us ↔ u ∈ docW nx tn p := fun u => by
    unfold docW
    rw [hu.mem_iff, List.mem_append, List.mem_append, hts, mem_lonesF, mem_lonesF]
    simp only [atL_first_len, List.mem_reverse]
  have hs : (docW nx tn p).Pairwise fun x y => x.1 < y.1 := by
    unfold docW lonesF
    refine List.pairwise_append.2 ⟨List.pairwise_flatMap.2 ⟨fun v hv => by split <;> simp, ?_⟩, List.pairwise_flatMap.2 ⟨fun d hd => by unfold oneD; split <;> simp, ?_⟩, fun x hx y hy => ?_⟩
    · rw [List.pairwise_reverse]
      refine hV.imp fun {a b} hab x hx y hy => ?_
      split at hx
      · split at hy
        · simp only [List.mem_singleton] at hx hy; subst hx; subst hy; dsimp only; omega
        · cases hy
      · cases hx
    · refine ht.rises.imp fun {a b} hab x hx y hy => ?_
      obtain ⟨_, rfl⟩ := mem_oneD.1 hx
      obtain ⟨_, rfl⟩ := mem_oneD.1 hy
      exact hab
    · obtain ⟨v, hv, _, rfl⟩ := mem_lonesF.1 hx
      obtain ⟨d, hd, hy⟩ := List.mem_flatMap.1 hy
      obtain ⟨_, rfl⟩ := mem_oneD.1 hy
      have := hVr v (by simpa using hv)
      have := ht.pos d hd
      dsimp only
      omega
  have hn1 : us.Nodup := List.nodup_iff_pairwise_ne.2 (hk.keys.imp fun {a b} h e => by rw [e] at h; omega)
  have hn2 : (docW nx tn p).Nodup := List.nodup_iff_pairwise_ne.2 (hs.imp fun {a b} h e => by rw [e] at h; omega)
  exact List.Perm.eq_of_pairwise (le := fun x y : Int × List Int => x.1 < y.1) (fun a b _ _ h1 h2 => by omega) hk.keys hs ((List.perm_ext_iff_of_nodup hn1 hn2).2 hall)
end Go.Proofs.YtefhmlgepnlaoaaGreat
