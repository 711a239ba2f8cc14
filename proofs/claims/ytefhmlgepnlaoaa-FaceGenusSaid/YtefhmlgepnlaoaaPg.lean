/- Plain: turns in the mirror: their faces are the twins' faces; as many of each piece. No program. -/
import Derived.Test.YtefhmlgepnlaoaaPf
set_option linter.unusedVariables false
set_option linter.unusedSimpArgs false
namespace Go.Proofs.Ytefhmlgepnlaoaa
open Go.RowKit

/-- b stands just behind a, going round. -/
def Behind (xs : List Int) (a b : Int) : Prop := ∃ j, j < xs.length ∧ gi xs j = b ∧ gi xs ((j + (xs.length - 1)) % xs.length) = a
theorem behind_at {n j : Nat} (hj : j < n) : (j + (n - 1)) % n = if j = 0 then n - 1 else j - 1 := by
  split
  · rename_i h; subst h; rw [Nat.zero_add]; exact Nat.mod_eq_of_lt (by omega)
  · rw [show j + (n - 1) = (j - 1) + n by omega, Nat.add_mod_right]; exact Nat.mod_eq_of_lt (by omega)
theorem Behind.rot {xs : List Int} {a b : Int} {m : Nat} (hm : m ≤ xs.length) (h : Behind (rot xs m) a b) : Behind xs a b := by
  obtain ⟨j, h1, h2, h3⟩ := h
  rw [rot_len] at h1 h3
  have hn : 0 < xs.length := by omega
  rw [gi_rot hm h1] at h2
  rw [gi_rot hm (Nat.mod_lt _ hn)] at h3
  refine ⟨(m + j) % xs.length, Nat.mod_lt _ hn, h2, ?_⟩
  rw [← h3]
  congr 1
  rw [Nat.mod_add_mod, Nat.add_mod_mod, Nat.add_assoc]
theorem gi_rev {xs : List Int} {m : Nat} (hm : m < xs.length) : gi xs.reverse m = gi xs (xs.length - 1 - m) := by
  rw [gi_eq (by rw [List.length_reverse]; omega), gi_eq (by omega), List.getElem_reverse]
theorem Behind.reverse {xs : List Int} {a b : Int} (h : Behind xs.reverse a b) : Behind xs b a := by
  obtain ⟨j, h1, h2, h3⟩ := h
  rw [List.length_reverse] at h1 h3
  rw [behind_at h1, gi_rev (by split <;> omega)] at h3
  rw [gi_rev h1] at h2
  refine ⟨_, ?_, h3, ?_⟩
  · split <;> omega
  · rw [behind_at (by split <;> omega), ← h2]
    congr 1
    split <;> split <;> omega
theorem Behind.same {xs : List Int} (hn : xs.Nodup) {a b c : Int} (h1 : Behind xs a b) (h2 : Behind xs c b) : a = c := by
  obtain ⟨j, j1, j2, j3⟩ := h1
  obtain ⟨k, k1, k2, k3⟩ := h2
  have : j = k := nodup_inj hn j1 k1 (by rw [← gi_eq j1, ← gi_eq k1, j2, k2])
  subst this
  exact j3.symm.trans k3
theorem firstR_rot (xs : List Int) : ∃ m, m ≤ xs.length ∧ firstR xs = rot xs m := by
  rcases Nat.eq_zero_or_pos xs.length with h | h
  · have : xs = [] := List.eq_nil_of_length_eq_zero h
    subst this
    exact ⟨0, Nat.le_refl _, rfl⟩
  · have := idx_mem (minL_mem h)
    exact ⟨(idx xs (minL xs)).toNat, by omega, rfl⟩
theorem Turns.behind {g : Gr} {p : Pt} {tn : List (List Int)} (ht : Turns g p tn) {d : Int} (hd : d ∈ dartsAll p.E) : Behind (firstR (gl tn (tailD g d).toNat)) (backD tn d) d := by
  obtain ⟨j, h1, h2, h3⟩ := ht.back hd
  exact ⟨j, h1, h2, by rw [behind_at h1]; exact h3.symm⟩

/-! Turns in the mirror. -/
def mirR (l : List Int) : List Int := firstR (firstR l).reverse
def mirT (tn : List (List Int)) : List (List Int) := tn.map mirR
theorem mirR_perm (l : List Int) : (mirR l).Perm l := (firstR_perm _).trans ((List.reverse_perm _).trans (firstR_perm _))
theorem gl_mirT {tn : List (List Int)} {k : Nat} (hk : k < tn.length) : gl (mirT tn) k = mirR (gl tn k) := by
  unfold mirT gl
  rw [List.getD_eq_getElem?_getD, List.getD_eq_getElem?_getD, List.getElem?_map, List.getElem?_eq_getElem hk]
  rfl
theorem sortI_rises (xs : List Int) : (sortI xs).Pairwise (· ≤ ·) := by
  have := List.pairwise_mergeSort (le := fun a b : Int => decide (a ≤ b)) (fun a b c h1 h2 => by simp only [decide_eq_true_eq] at h1 h2 ⊢; omega) (fun a b => by simp only [Bool.or_eq_true, decide_eq_true_eq]; omega) xs
  exact this.imp fun h => of_decide_eq_true h
theorem sortI_same {xs ys : List Int} (h : xs.Perm ys) : sortI xs = sortI ys :=
  List.Perm.eq_of_pairwise (le := fun a b : Int => a ≤ b) (fun a b _ _ h1 h2 => by omega) (sortI_rises xs) (sortI_rises ys) ((sortI_perm xs).trans (h.trans (sortI_perm ys).symm))
theorem rowsOk_mir (g : Gr) (p : Pt) : ∀ (tn : List (List Int)) (v : Nat), g.rowsOk p v tn = true → g.rowsOk p v (mirT tn) = true := by
  intro tn
  induction tn with
  | nil => intro v _; rfl
  | cons l tn ih =>
    intro v h
    unfold Gr.rowsOk at h
    rw [Bool.and_eq_true] at h
    show g.rowsOk p v (mirR l :: mirT tn) = true
    unfold Gr.rowsOk
    rw [Bool.and_eq_true, sortI_same (mirR_perm l)]
    exact ⟨h.1, ih _ h.2⟩
theorem mirT_len (tn : List (List Int)) : (mirT tn).length = tn.length := List.length_map _
section
variable {g : Gr} {p : Pt} {tn : List (List Int)} (h0 : g.rotaErr p tn = 0)
include h0
theorem mirT_right : g.rotaErr p (mirT tn) = 0 := by
  obtain ⟨h1, h2, h3⟩ := rotaErr_part h0
  unfold Gr.rotaErr
  rw [if_neg (by omega), if_neg (by rw [mirT_len]; omega), if_pos (rowsOk_mir g p tn 0 h3)]
theorem back_mir {d : Int} (hd : d ∈ dartsAll p.E) : backD tn (backD (mirT tn) d) = d := by
  have ht := turns_of h0
  have ht' := turns_of (mirT_right h0)
  have h2 := ht.tail d hd
  have hk : (tailD g d).toNat < tn.length := by omega
  obtain ⟨b1, b2⟩ := ht'.back_ok hd
  have k1 := ht'.behind hd
  rw [gl_mirT hk] at k1
  obtain ⟨m1, m2, m3⟩ := firstR_rot (mirR (gl tn (tailD g d).toNat))
  rw [m3] at k1
  have k2 := k1.rot m2
  unfold mirR at k2
  obtain ⟨n1, n2, n3⟩ := firstR_rot (firstR (gl tn (tailD g d).toNat)).reverse
  rw [n3] at k2
  have k3 := (k2.rot n2).reverse
  have k4 := ht.behind b1
  rw [b2] at k4
  exact k4.same (ht.own hd).2.2 k3
theorem next_mir {d : Int} (hd : d ∈ dartsAll p.E) : nextD (tn.map firstR) (atF tn) (twinI (nextD ((mirT tn).map firstR) (atF (mirT tn)) d)) = twinI d := by
  have h1 := back_mir h0 (twinI_mem hd)
  unfold backD at h1
  rw [twinI_twin] at h1
  exact h1
end
/-! As many cycles. -/
theorem words_le {n : Nat} {f f' : Nat → Nat} {inD : Nat → Bool} (hf : PermN n f) (hf' : PermN n f') (h : Nat → Nat) (keep : ∀ x, inD x = true → inD (f x) = true) (keep' : ∀ x, inD x = true → inD (f' x) = true) (hlt : ∀ x, inD x = true → x < n)
    (hh : ∀ x, inD x = true → inD (h x) = true) (hinj : ∀ x y, inD x = true → inD y = true → h x = h y → x = y) (hrel : ∀ x, inD x = true → f (h (f' x)) = h x) : wordsIn (joinL (pairsN n f')) inD n ≤ wordsIn (joinL (pairsN n f)) inD n := by
  have kit : ∀ {x}, inD x = true → ∀ k, inD (itN f k x) = true := by
    intro x hx k
    induction k with
    | zero => exact hx
    | succ k ih => exact keep _ ih
  have kit' : ∀ {x}, inD x = true → ∀ k, inD (itN f' k x) = true := by
    intro x hx k
    induction k with
    | zero => exact hx
    | succ k ih => exact keep' _ ih
  have pull : ∀ y, inD y = true → ∀ k, itN f k (h (itN f' k y)) = h y := by
    intro y hy k
    induction k with
    | zero => rfl
    | succ k ih =>
      rw [itN_add f 1 k]
      show itN f k (f (h (f' (itN f' k y)))) = h y
      rw [hrel _ (kit' hy k), ih]
  have key : ∀ x y, inD x = true → inD y = true → joinL (pairsN n f) (h x) = joinL (pairsN n f) (h y) → joinL (pairsN n f') x = joinL (pairsN n f') y := by
    intro x y hx hy he
    obtain ⟨k, hk⟩ := cyc_reach hf he
    have h1 := pull y hy k
    have h2 := hf.it_inj (hlt _ (hh _ hx)) (hlt _ (hh _ (kit' hy k))) k (hk.trans h1.symm)
    have h3 := hinj _ _ hx (kit' hy k) h2
    rw [h3]
    exact (it_same hf' (hlt y hy) k).symm
  unfold wordsIn
  rw [← List.length_map (f := fun x => joinL (pairsN n f) (h x))]
  refine List.Nodup.length_le_of_subset ?_ fun z hz => ?_
  · rw [List.nodup_iff_pairwise_ne, List.pairwise_map]
    have hnr : ((List.range n).filter fun x => inD x && decide (joinL (pairsN n f') x = x)).Nodup := List.nodup_range.sublist List.filter_sublist
    refine List.Pairwise.imp_of_mem ?_ (List.nodup_iff_pairwise_ne.1 hnr)
    intro a b ha hb hab he
    obtain ⟨_, a2⟩ := List.mem_filter.1 ha
    obtain ⟨_, b2⟩ := List.mem_filter.1 hb
    simp only [Bool.and_eq_true, decide_eq_true_eq] at a2 b2
    have := key a b a2.1 b2.1 he
    omega
  · obtain ⟨x, hx, rfl⟩ := List.mem_map.1 hz
    obtain ⟨_, x2⟩ := List.mem_filter.1 hx
    simp only [Bool.and_eq_true, decide_eq_true_eq] at x2
    have h1 := hh x x2.1
    have h2 := (joinL_ok (pairsN n f) (h x)).2
    have h3 := (joinL_ok (pairsN n f) (h x)).1
    have h4 := hlt _ h1
    obtain ⟨k, hk⟩ := cyc_reach hf h2.symm
    refine List.mem_filter.2 ⟨List.mem_range.2 (by omega), ?_⟩
    simp only [Bool.and_eq_true, decide_eq_true_eq]
    exact ⟨by rw [← hk]; exact kit h1 k, h2⟩
/-- A list's length, by classes. -/
theorem sum_class {α : Type} (κ : α → Int) : ∀ (ks : List Int), ks.Nodup → ∀ L : List α, (∀ x ∈ L, κ x ∈ ks) → L.length = (ks.map fun t => (L.filter fun x => decide (κ x = t)).length).sum := by
  intro ks
  induction ks with
  | nil =>
    intro _ L h
    cases L with
    | nil => rfl
    | cons x L => cases h x (List.mem_cons_self ..)
  | cons t ks ih =>
    intro hn L h
    obtain ⟨n1, n2⟩ := List.nodup_cons.1 hn
    have h2 := ih n2 (L.filter fun x => !decide (κ x = t)) fun x hx => by
      obtain ⟨a, b⟩ := List.mem_filter.1 hx
      rcases List.mem_cons.1 (h x a) with e | e
      · rw [e] at b; simp at b
      · exact e
    have h3 : (L.filter fun x => decide (κ x = t)).length + (L.filter fun x => !decide (κ x = t)).length = L.length := by
      clear h h2
      induction L with
      | nil => rfl
      | cons x L ih => by_cases hx : κ x = t <;> simp [hx] <;> omega
    rw [List.map_cons, List.sum_cons, ← h3, h2]
    congr 2
    apply List.map_congr_left
    intro s hs
    rw [List.filter_filter]
    congr 1
    apply List.filter_congr
    intro x _
    by_cases hx : κ x = s
    · have : s ≠ t := fun e => n1 (e ▸ hs)
      simp [hx, this]
    · simp [hx]
section
variable {g : Gr} {p : Pt} {tn : List (List Int)} (h0 : g.rotaErr p tn = 0)
include h0
theorem docW_keys' : (docW (nextD (tn.map firstR) (atF tn)) tn p).Pairwise fun x y => x.1 ≠ y.1 := by
  have ht := turns_of h0
  have hVr := verts_range h0
  have hV := (risesF_sound _ _ _ (Gr.rightPart_ok (rotaErr_part h0).1).2.1).1
  unfold docW lonesF
  refine List.pairwise_append.2 ⟨List.pairwise_flatMap.2 ⟨fun v hv => by split <;> simp, ?_⟩, List.pairwise_flatMap.2 ⟨fun d hd => by unfold oneD; split <;> simp, ?_⟩, fun x hx y hy => ?_⟩
  · rw [List.pairwise_reverse]
    refine hV.imp fun {a b} hab x hx y hy => ?_
    split at hx
    · split at hy
      · simp only [List.mem_singleton] at hx hy; subst hx; subst hy; dsimp only; omega
      · cases hy
    · cases hx
  · refine ht.rises.imp fun {a b} hab x hx y hy => ?_
    obtain ⟨_, rfl⟩ := mem_oneD.1 hx
    obtain ⟨_, rfl⟩ := mem_oneD.1 hy
    dsimp only
    omega
  · obtain ⟨v, hv, _, rfl⟩ := mem_lonesF.1 hx
    obtain ⟨d, hd, hy⟩ := List.mem_flatMap.1 hy
    obtain ⟨_, rfl⟩ := mem_oneD.1 hy
    have := hVr v (by simpa using hv)
    have := ht.pos d hd
    dsimp only
    omega
theorem phiN_perm (t : Int) : PermN 2048 (phiN g p tn t) := by
  obtain ⟨k1, k2⟩ := pieceE_ok h0 t
  have ht := turns_of h0
  exact (euler_T (backN_perm h0 t) (pairsE (pieceT g p t).2) fun e he => by
    obtain ⟨f, hf, rfl⟩ := List.mem_map.1 he
    have f1 := k2 f hf
    have pa := ht.pos _ (mem_dartsAll'.2 ⟨f, f1.2, .inl rfl⟩ : 2 * f ∈ dartsAll p.E)
    have pb := ht.pos _ (mem_dartsAll'.2 ⟨f, f1.2, .inr rfl⟩ : 2 * f + 1 ∈ dartsAll p.E)
    exact ⟨by dsimp only; omega, by dsimp only; omega, by dsimp only; omega⟩).1
theorem twin_in {t : Int} {x : Nat} (hx : inP g p t x = true) : ((twinI (x : Int)).toNat : Int) = twinI (x : Int) ∧ inP g p t (twinI (x : Int)).toNat = true := by
  obtain ⟨h1, h2⟩ := inP_iff.1 hx
  have h3 := twinI_mem h1
  have h4 := (turns_of h0).pos _ h3
  have h5 : ((twinI (x : Int)).toNat : Int) = twinI (x : Int) := by omega
  exact ⟨h5, inP_iff.2 (by rw [h5]; exact ⟨h3, by rw [cls_twin h1]; exact h2⟩)⟩
/-- In the mirror a piece has as many faces. -/
theorem mir_words (t : Int) : wordsIn (joinL (pairsN 2048 (phiN g p (mirT tn) t))) (inP g p t) 2048 = wordsIn (joinL (pairsN 2048 (phiN g p tn t))) (inP g p t) 2048 := by
  have h0' := mirT_right h0
  have ht := turns_of h0
  have hlt : ∀ x, inP g p t x = true → x < 2048 := fun x hx => by have := ht.pos _ (inP_iff.1 hx).1; omega
  have htw := fun (x : Nat) (hx : inP g p t x = true) => twin_in h0 hx
  have hinj : ∀ x y, inP g p t x = true → inP g p t y = true → (twinI (x : Int)).toNat = (twinI (y : Int)).toNat → x = y := fun x y hx hy he => by
    have a := (htw x hx).1
    have b := (htw y hy).1
    have := twinI_inj (show twinI (x : Int) = twinI (y : Int) by omega)
    omega
  have hrel : ∀ x, inP g p t x = true → phiN g p tn t (twinI ((phiN g p (mirT tn) t x : Nat) : Int)).toNat = (twinI (x : Int)).toNat := fun x hx => by
    have a := phiN_in h0' t hx
    have b := htw _ a.2
    have c := phiN_in h0 t b.2
    have e := next_mir h0 (inP_iff.1 hx).1
    have c2 : ((phiN g p tn t (twinI ((phiN g p (mirT tn) t x : Nat) : Int)).toNat : Nat) : Int) = twinI (x : Int) := by rw [c.1, b.1, a.1, e]
    omega
  have hinv : ∀ x, inP g p t x = true → (twinI (((twinI (x : Int)).toNat : Nat) : Int)).toNat = x := fun x hx => by
    rw [(htw x hx).1, twinI_twin]; omega
  refine Nat.le_antisymm ?_ ?_
  · exact words_le (phiN_perm h0 t) (phiN_perm h0' t) (fun x => (twinI (x : Int)).toNat) (fun x hx => (phiN_in h0 t hx).2) (fun x hx => (phiN_in h0' t hx).2) hlt (fun x hx => (htw x hx).2) hinj hrel
  · refine words_le (phiN_perm h0' t) (phiN_perm h0 t) (fun x => (twinI (x : Int)).toNat) (fun x hx => (phiN_in h0' t hx).2) (fun x hx => (phiN_in h0 t hx).2) hlt (fun x hx => (htw x hx).2) hinj fun x hx => ?_
    have a := phiN_in h0 t hx
    have b := htw _ a.2
    have c := phiN_in h0' t b.2
    have d := htw _ c.2
    have e := hrel _ b.2
    rw [hinv _ a.2] at e
    have f := (phiN_perm h0 t).inj _ _ (hlt _ d.2) (hlt _ hx) e
    show phiN g p (mirT tn) t (twinI ((phiN g p tn t x : Nat) : Int)).toNat = (twinI (x : Int)).toNat
    have q := hinv _ c.2
    rw [f] at q
    exact q.symm
theorem mir_faces {x : List Int × List Int} (hx : x ∈ piecesF g p) : facesF g (docW (nextD ((mirT tn).map firstR) (atF (mirT tn))) (mirT tn) p) x.1 = facesF g (docW (nextD (tn.map firstR) (atF tn)) tn p) x.1 := by
  have h0' := mirT_right h0
  obtain ⟨hpos, t, _, rfl⟩ := mem_pieces (rotaErr_part h0).1 hx
  by_cases hm : (pieceT g p t).2 = []
  · rw [(piece_lone h0 (docW_keys' h0) hpos hm).2, (piece_lone h0' (docW_keys' h0') hpos hm).2]
  · rw [← piece_faces h0 t (piece_rows h0 hm) (phiN_perm h0 t) (docW_keys' h0), ← piece_faces h0' t (piece_rows h0' hm) (phiN_perm h0' t) (docW_keys' h0'), mir_words h0]
/-- A walk's corner is of the part. -/
theorem corner_mem {u : Int × List Int} (hu : u ∈ docW (nextD (tn.map firstR) (atF tn)) tn p) : cornerF g u ∈ p.V := by
  rcases mem_docW.1 hu with ⟨v, hv, hl, rfl⟩ | ⟨d, hd, hl, rfl⟩
  · rw [corner_lone h0 hv]; exact hv
  · obtain ⟨o1, o2⟩ := orb_head h0 hd
    rw [corner_dart' h0 (orb_sub h0 hd) o1 o2]
    exact tail_mem (rotaErr_part h0).1 hd
/-- All walks, piece by piece. -/
theorem walks_sum : (docW (nextD (tn.map firstR) (atF tn)) tn p).length = ((piecesF g p).map fun x => facesF g (docW (nextD (tn.map firstR) (atF tn)) tn p) x.1).sum := by
  have hr := (rotaErr_part h0).1
  have hks := (groupsTo_ok p.V (repE g p) p.V.length).2.1
  have hall := (piecesTo_spec hr p.V.length (Nat.le_refl _))
  rw [← piecesTo_eq hr, hall.2, List.map_map]
  rw [sum_class (fun u => ((repE g p (posN p.V (cornerF g u)) : Nat) : Int)) _ hks _ fun u hu => ?_]
  · congr 1
    apply List.map_congr_left
    intro t ht
    show _ = facesF g (docW (nextD (tn.map firstR) (atF tn)) tn p) (pieceT g p t).1
    unfold facesF
    congr 1
    apply List.filter_congr
    intro u hu
    rw [decide_eq_decide, mem_pieceV]
    exact ⟨fun h => ⟨corner_mem h0 hu, h⟩, fun h => h.2⟩
  · have hv := corner_mem h0 hu
    have hg := groupsTo_map p.V (repE g p) p.V.length
    refine Decidable.byContradiction fun hno => ?_
    have h1 := hg.2 _ hno
    rw [grpTo_filter (verts_nodup hr)] at h1
    have h2 : cornerF g u ∈ p.V.filter fun x => decide (((repE g p (posN p.V x) : Nat) : Int) = ((repE g p (posN p.V (cornerF g u)) : Nat) : Int)) := List.mem_filter.2 ⟨hv, by simp⟩
    rw [h1] at h2
    cases h2
/-- Turns in the mirror: the same genus of each piece, and as many walks. -/
theorem mir_same : genusF g p (docW (nextD ((mirT tn).map firstR) (atF (mirT tn))) (mirT tn) p) = genusF g p (docW (nextD (tn.map firstR) (atF tn)) tn p) ∧ (docW (nextD ((mirT tn).map firstR) (atF (mirT tn))) (mirT tn) p).length = (docW (nextD (tn.map firstR) (atF tn)) tn p).length := by
  constructor
  · unfold genusF
    apply List.map_congr_left
    intro x hx
    unfold genusOf
    rw [mir_faces h0 hx]
  · rw [walks_sum h0, walks_sum (mirT_right h0)]
    congr 1
    apply List.map_congr_left
    intro x hx
    exact mir_faces h0 hx
/-- A genus is 0 or more. -/
theorem genus_pos : ∀ x ∈ genusF g p (docW (nextD (tn.map firstR) (atF tn)) tn p), 0 ≤ x := by
  intro x hx
  unfold genusF at hx
  obtain ⟨y, hy, rfl⟩ := List.mem_map.1 hx
  obtain ⟨hpos, t, _, rfl⟩ := mem_pieces (rotaErr_part h0).1 hy
  have := (piece_euler_t h0 (docW_keys' h0) hpos).1
  unfold genusOf
  exact Int.tdiv_nonneg (by omega) (by omega)
end
end Go.Proofs.Ytefhmlgepnlaoaa
