/- Plain: orbits of a map that is one to one on a list. No program. -/
import Derived.Test.YtefhmlgepnlaoaaGreatFd
set_option linter.unusedVariables false
set_option linter.unusedSimpArgs false
namespace Go.Proofs.YtefhmlgepnlaoaaGreat
open Go.RowKit

theorem nodup_subset_len {α : Type} [DecidableEq α] : ∀ {l m : List α}, l.Nodup → (∀ x ∈ l, x ∈ m) → l.length ≤ m.length := by
  intro l
  induction l with
  | nil => intro m _ _; exact Nat.zero_le _
  | cons x l ih =>
    intro m hn hs
    obtain ⟨hx, hl⟩ := List.nodup_cons.1 hn
    have hm := hs x (List.mem_cons_self ..)
    have h1 := ih (m := m.erase x) hl fun y hy => (List.mem_erase_of_ne (by intro e; subst e; exact hx hy)).2 (hs y (List.mem_cons_of_mem _ hy))
    rw [List.length_erase_of_mem hm] at h1
    have := List.length_pos_of_mem hm
    simp only [List.length_cons]
    omega
theorem it_add (f : Int → Int) (d : Int) (j : Nat) : ∀ i, it f (i + j) d = it f i (it f j d) := by
  intro i
  induction i with
  | zero => simp [it]
  | succ i ih => rw [Nat.succ_add]; simp only [it]; rw [ih]
/-- A map that keeps a list, one to one. -/
structure Perm1 (f : Int → Int) (D : List Int) : Prop where
  nd : D.Nodup
  mem : ∀ d ∈ D, f d ∈ D
  inj : ∀ d ∈ D, ∀ e ∈ D, f d = f e → d = e
section
variable {f : Int → Int} {D : List Int} (hp : Perm1 f D)
include hp
theorem Perm1.it_mem {d : Int} (hd : d ∈ D) : ∀ i, it f i d ∈ D := by
  intro i
  induction i with
  | zero => exact hd
  | succ i ih => exact hp.mem _ ih
theorem Perm1.it_inj {d e : Int} (hd : d ∈ D) (he : e ∈ D) : ∀ i, it f i d = it f i e → d = e := by
  intro i
  induction i with
  | zero => exact id
  | succ i ih => intro h; exact ih (hp.inj _ (hp.it_mem hd i) _ (hp.it_mem he i) h)
theorem Perm1.back {d : Int} (hd : d ∈ D) {i j : Nat} (hij : i ≤ j) (h : it f i d = it f j d) : it f (j - i) d = d := by
  have h1 := it_add f d (j - i) i
  rw [show i + (j - i) = j by omega, ← h] at h1
  exact (hp.it_inj hd (hp.it_mem hd _) i h1).symm
theorem Perm1.period {d : Int} (hd : d ∈ D) : ∃ n, 0 < n ∧ n ≤ D.length ∧ it f n d = d := by
  refine Classical.byContradiction fun hno => ?_
  have hnd : ((List.range (D.length + 1)).map fun i => it f i d).Nodup := by
    rw [List.nodup_iff_pairwise_ne, List.pairwise_map]
    have hr : (List.range (D.length + 1)).Pairwise (· < ·) := List.pairwise_lt_range
    refine (List.pairwise_iff_forall_sublist.2 fun {a b} hab => ?_)
    have h1 := List.pairwise_iff_forall_sublist.1 hr hab
    have h2 : b < D.length + 1 := List.mem_range.1 (hab.subset (by simp))
    intro e
    exact hno ⟨b - a, by omega, by omega, hp.back hd (by omega) e⟩
  have := nodup_subset_len hnd (m := D) fun x hx => by
    obtain ⟨i, _, rfl⟩ := List.mem_map.1 hx
    exact hp.it_mem hd i
  rw [List.length_map, List.length_range] at this
  omega
theorem Perm1.period' {d : Int} (hd : d ∈ D) {bound : Nat} (hb : D.length ≤ bound) : ∃ n, 0 < n ∧ n ≤ bound ∧ it f n d = d := by
  obtain ⟨n, h1, h2, h3⟩ := hp.period hd
  exact ⟨n, h1, by omega, h3⟩
theorem Perm1.orb_nodup {d : Int} (hd : d ∈ D) {bound : Nat} (hb : D.length ≤ bound) : (orbL f (perN f bound d) d).Nodup := by
  obtain ⟨h1, h2, h3, h4⟩ := perN_spec (hp.period' hd hb)
  unfold orbL
  rw [List.nodup_iff_pairwise_ne, List.pairwise_map]
  have hr : (List.range (perN f bound d)).Pairwise (· < ·) := List.pairwise_lt_range
  refine (List.pairwise_iff_forall_sublist.2 fun {a b} hab => ?_)
  have h5 := List.pairwise_iff_forall_sublist.1 hr hab
  have h6 : b < perN f bound d := List.mem_range.1 (hab.subset (by simp))
  intro e
  exact h4 (b - a) (by omega) (by omega) (hp.back hd (by omega) e)
/-- What can be come to. -/
theorem Perm1.mem_orb {d e : Int} (hd : d ∈ D) {bound : Nat} (hb : D.length ≤ bound) : e ∈ orbL f (perN f bound d) d ↔ ∃ i, it f i d = e := by
  obtain ⟨h1, h2, h3, h4⟩ := perN_spec (hp.period' hd hb)
  refine ⟨fun h => ?_, fun ⟨i, hi⟩ => ?_⟩
  · unfold orbL at h
    obtain ⟨i, _, hi⟩ := List.mem_map.1 h
    exact ⟨i, hi⟩
  · have hm : ∀ k, it f (perN f bound d * k) d = d := by
      intro k
      induction k with
      | zero => rfl
      | succ k ih => rw [Nat.mul_succ, it_add, h3, ih]
    have h5 : it f (i % perN f bound d) d = e := by
      rw [← hi]
      conv => rhs; rw [← Nat.mod_add_div i (perN f bound d), it_add, hm]
    exact List.mem_map.2 ⟨_, List.mem_range.2 (Nat.mod_lt _ h1), h5⟩
/-- One can come back. -/
theorem Perm1.orb_symm {d e : Int} (hd : d ∈ D) (h : ∃ i, it f i d = e) : ∃ i, it f i e = d := by
  obtain ⟨i, rfl⟩ := h
  obtain ⟨n, h1, h2, h3⟩ := hp.period hd
  have hm : ∀ k, it f (n * k) d = d := by
    intro k
    induction k with
    | zero => rfl
    | succ k ih => rw [Nat.mul_succ, it_add, h3, ih]
  refine ⟨n * i - i, ?_⟩
  rw [← it_add, show n * i - i + i = n * i by have : i ≤ n * i := Nat.le_mul_of_pos_left i h1
                                              omega, hm]
end
theorem reach_trans {f : Int → Int} {a b c : Int} (h1 : ∃ i, it f i a = b) (h2 : ∃ i, it f i b = c) : ∃ i, it f i a = c := by
  obtain ⟨i, rfl⟩ := h1
  obtain ⟨j, rfl⟩ := h2
  exact ⟨j + i, it_add f a i j⟩

theorem rot_perm (xs : List Int) (m : Nat) : (rot xs m).Perm xs := by
  unfold rot
  exact List.perm_append_comm.trans (by rw [List.take_append_drop])
theorem firstR_perm (xs : List Int) : (firstR xs).Perm xs := rot_perm _ _
theorem gi_idxFrom (x : Int) : ∀ (xs : List Int) (k : Nat), x ∈ xs → ∃ j : Nat, idxFrom k xs x = ((k + j : Nat) : Int) ∧ j < xs.length ∧ gi xs j = x ∧ ∀ i, i < j → gi xs i ≠ x := by
  intro xs
  induction xs with
  | nil => intro k h; cases h
  | cons y ys ih =>
    intro k h
    unfold idxFrom
    by_cases hxy : x = y
    · rw [if_pos hxy]
      exact ⟨0, by simp, by simp, by simp [gi, hxy], fun i hi => by omega⟩
    · rw [if_neg hxy]
      obtain ⟨j, h1, h2, h3, h4⟩ := ih (k + 1) (by rcases List.mem_cons.1 h with h | h; exact absurd h hxy; exact h)
      refine ⟨j + 1, by rw [h1]; omega, by simp; omega, by simpa [gi] using h3, fun i hi => ?_⟩
      rcases i with _ | i
      · simpa [gi] using fun e => hxy (Eq.symm e)
      · have := h4 i (by omega)
        simpa [gi] using this
theorem gi_idx {xs : List Int} {x : Int} (h : x ∈ xs) : ∃ j : Nat, idx xs x = (j : Int) ∧ j < xs.length ∧ gi xs j = x ∧ ∀ i, i < j → gi xs i ≠ x := by
  obtain ⟨j, h1, h2, h3, h4⟩ := gi_idxFrom x xs 0 h
  exact ⟨j, by unfold idx; rw [h1]; simp, h2, h3, h4⟩
theorem idx_gi {xs : List Int} (hn : xs.Nodup) {j : Nat} (hj : j < xs.length) : idx xs (gi xs j) = (j : Int) := by
  obtain ⟨k, h1, h2, h3, h4⟩ := gi_idx (gi_mem hj)
  rw [h1]
  rw [gi_eq h2, gi_eq hj] at h3
  have := nodup_inj hn _ _ h3
  omega
theorem minTo_le (xs : List Int) : ∀ k, k ≤ xs.length → ∀ i, i < k → minTo xs k ≤ gi xs i := by
  intro k
  induction k with
  | zero => intro _ i hi; omega
  | succ k ih =>
    intro hk i hi
    rcases Nat.eq_zero_or_pos k with h0 | h0
    · subst h0
      have : i = 0 := by omega
      subst this
      exact Int.le_refl _
    · rw [minTo_succ xs k h0]
      by_cases hik : i = k
      · subst hik
        split <;> omega
      · have := ih (by omega) i (by omega)
        split <;> omega
theorem minL_le {xs : List Int} {x : Int} (h : x ∈ xs) : minL xs ≤ x := by
  obtain ⟨j, _, h2, h3, _⟩ := gi_idx h
  rw [← h3]
  exact minTo_le xs _ (Nat.le_refl _) j h2
theorem firstR_head {xs : List Int} (h : 0 < xs.length) : gi (firstR xs) 0 = minL xs := by
  obtain ⟨j, h1, h2, h3, _⟩ := gi_idx (minL_mem h)
  unfold firstR rot
  rw [h1, Int.toNat_natCast]
  unfold gi
  rw [List.getD_eq_getElem?_getD, List.getElem?_append_left (by rw [List.length_drop]; omega), List.getElem?_drop, Nat.add_zero, ← List.getD_eq_getElem?_getD]
  exact h3
/-- A walk's first dart is its least. -/
theorem cyc_head {nx : Int → Int} {bound : Nat} {d e : Int} (h : e ∈ cycN nx bound d) : gi (cycN nx bound d) 0 ≤ e := by
  unfold cycN at h ⊢
  have h1 := (firstR_perm _).mem_iff.1 h
  rw [firstR_head (List.length_pos_of_mem h1)]
  exact minL_le h1
section
variable {f : Int → Int} {D : List Int} (hp : Perm1 f D)
include hp
theorem Perm1.mem_cyc {d e : Int} (hd : d ∈ D) {bound : Nat} (hb : D.length ≤ bound) : e ∈ cycN f bound d ↔ ∃ i, it f i d = e :=
  (firstR_perm _).mem_iff.trans (hp.mem_orb hd hb)
theorem Perm1.cyc_nodup {d : Int} (hd : d ∈ D) {bound : Nat} (hb : D.length ≤ bound) : (cycN f bound d).Nodup :=
  (firstR_perm _).nodup_iff.2 (hp.orb_nodup hd hb)
theorem Perm1.cyc_self {d : Int} (hd : d ∈ D) {bound : Nat} (hb : D.length ≤ bound) : d ∈ cycN f bound d := (hp.mem_cyc hd hb).2 ⟨0, rfl⟩
theorem Perm1.cyc_sub {d e : Int} (hd : d ∈ D) {bound : Nat} (hb : D.length ≤ bound) (h : e ∈ cycN f bound d) : e ∈ D := by
  obtain ⟨i, rfl⟩ := (hp.mem_cyc hd hb).1 h
  exact hp.it_mem hd i
/-- What the walks of a list of darts keep. -/
structure WalksInv (f : Int → Int) (D : List Int) (bound : Nat) (lones : List (Int × List Int)) (done : List Int) (ws : List (Int × List Int)) : Prop where
  ex : ∃ ts, ws = lones ++ ts ∧ (∀ u ∈ ts, ∃ d ∈ D, u = (gi (cycN f bound d) 0, cycN f bound d)) ∧ (ts.flatMap Prod.snd).Nodup ∧ ∀ d ∈ done, d ∈ ts.flatMap Prod.snd
theorem Perm1.fold {bound : Nat} (hb : D.length ≤ bound) {lones : List (Int × List Int)} (hl : ∀ u ∈ lones, u.2 = []) : ∀ (ds done : List Int) (ws : List (Int × List Int)), (∀ d ∈ ds, d ∈ D) → WalksInv f D bound lones done ws →
    WalksInv f D bound lones (done ++ ds) (ds.foldl (addW (cycN f bound)) ws) := by
  intro ds
  induction ds with
  | nil => intro done ws _ h; simpa using h
  | cons d ds ih =>
    intro done ws hs h
    rw [List.foldl_cons]
    have hd := hs d (List.mem_cons_self ..)
    obtain ⟨ts, rfl, h2, h3, h4⟩ := h.ex
    have hstep : WalksInv f D bound lones (done ++ [d]) (addW (cycN f bound) (lones ++ ts) d) := by
      have hmet : metW (lones ++ ts) d = true ↔ d ∈ ts.flatMap Prod.snd := by
        unfold metW
        rw [List.any_append, Bool.or_eq_true, List.any_eq_true, List.any_eq_true, List.mem_flatMap]
        constructor
        · rintro (⟨u, hu, hc⟩ | ⟨u, hu, hc⟩)
          · rw [hl u hu] at hc; simp at hc
          · exact ⟨u, hu, by simpa using hc⟩
        · rintro ⟨u, hu, hc⟩
          exact .inr ⟨u, hu, by simpa using hc⟩
      unfold addW
      by_cases hm : metW (lones ++ ts) d = true
      · rw [if_pos hm]
        refine ⟨ts, rfl, h2, h3, fun x hx => ?_⟩
        rcases List.mem_append.1 hx with hx | hx
        · exact h4 x hx
        · rw [List.mem_singleton] at hx; subst hx; exact hmet.1 hm
      · rw [if_neg hm]
        refine ⟨ts ++ [(gi (cycN f bound d) 0, cycN f bound d)], by rw [List.append_assoc], fun u hu => ?_, ?_, fun x hx => ?_⟩
        · rcases List.mem_append.1 hu with hu | hu
          · exact h2 u hu
          · rw [List.mem_singleton] at hu; exact ⟨d, hd, hu⟩
        · rw [List.flatMap_append]
          refine List.nodup_append.2 ⟨h3, by simpa using hp.cyc_nodup hd hb, fun x hx y hy e => ?_⟩
          subst e
          simp only [List.flatMap_cons, List.flatMap_nil, List.append_nil] at hy
          obtain ⟨u, hu, hxu⟩ := List.mem_flatMap.1 hx
          obtain ⟨d', hd', rfl⟩ := h2 u hu
          have r1 := (hp.mem_cyc hd hb).1 hy
          have r2 := (hp.mem_cyc hd' hb).1 hxu
          have r3 := reach_trans r2 (hp.orb_symm hd r1)
          exact hm (hmet.2 (List.mem_flatMap.2 ⟨_, hu, (hp.mem_cyc hd' hb).2 r3⟩))
        · rw [List.flatMap_append, List.mem_append]
          rcases List.mem_append.1 hx with hx | hx
          · exact .inl (h4 x hx)
          · rw [List.mem_singleton] at hx
            subst hx
            right
            simpa using hp.cyc_self hd hb
    have := ih (done ++ [d]) _ (fun x hx => hs x (List.mem_cons_of_mem _ hx)) hstep
    rwa [List.append_assoc] at this
end
end Go.Proofs.YtefhmlgepnlaoaaGreat
