/- Plain: Euler's inequality of the pieces of right turns, joined. No program. -/
import Derived.Test.YtefhmlgepnlaoaaPe
set_option linter.unusedVariables false
set_option linter.unusedSimpArgs false
namespace Go.Proofs.Ytefhmlgepnlaoaa
open Go.RowKit

/-- What pieces are. -/
theorem mem_pieces {g : Gr} {p : Pt} (hr : g.rightPart p = 0) {x : List Int × List Int} (hx : x ∈ piecesF g p) : 0 < x.1.length ∧ ∃ t ∈ (groupsTo p.V (repE g p) p.V.length).1, x = pieceT g p t := by
  constructor
  · unfold piecesF at hx
    obtain ⟨l, hl, rfl⟩ := List.mem_map.1 hx
    exact (groupsTo_mem _ _ _ (Nat.le_refl _) l hl).1
  · rw [← piecesTo_eq hr, (piecesTo_spec hr _ (Nat.le_refl _)).2] at hx
    obtain ⟨t, ht, rfl⟩ := List.mem_map.1 hx
    exact ⟨t, ht, rfl⟩
theorem mem_docW {p : Pt} {tn : List (List Int)} {nx : Int → Int} {u : Int × List Int} : u ∈ docW nx tn p ↔ (∃ v ∈ p.V, (atL tn v).length = 0 ∧ u = (-1 - v, [])) ∨ ∃ d ∈ dartsAll p.E, LT4 nx d (perN nx 2048 d - 1) = true ∧ u = (d, orbL nx (perN nx 2048 d) d) := by
  unfold docW
  rw [List.mem_append, mem_lonesF, List.mem_flatMap]
  simp only [List.mem_reverse, mem_oneD]
section
variable {g : Gr} {p : Pt} {tn : List (List Int)} (h0 : g.rotaErr p tn = 0)
include h0
theorem endsF_tail {d : Int} (hd : d ∈ dartsAll p.E) : (g.endsF d).1 = tailD g d ∧ (g.endsF d).2.2 = true := by
  obtain ⟨e, he, hd2⟩ := mem_dartsAll'.1 hd
  have hr := (rotaErr_part h0).1
  have hE := edges_ok hr e he
  have hg := (Gr.rightPart_ok hr).1
  have hp := (turns_of h0).pos d hd
  unfold Gr.endsF tailD
  rw [if_neg (by rw [hg]; omega)]
  by_cases h : d % 2 = 1
  · rw [if_pos h, if_neg (by omega)]; exact ⟨rfl, rfl⟩
  · rw [if_neg h, if_pos (by omega)]; exact ⟨rfl, rfl⟩
theorem corner_dart {u : Int × List Int} (hu : ∀ d ∈ u.2, d ∈ dartsAll p.E) (hne : u.2 ≠ []) : cornerF g u = tailD g (gi u.2 0) := by
  have hl : 0 < u.2.length := List.length_pos_iff.2 hne
  unfold cornerF Gr.corners
  rw [if_neg (fun h => by omega), tails_ok g u.2 (fun d hd => (endsF_tail h0 (hu d hd)).2), Option.getD_some]
  rw [gi_eq (by rw [List.length_map]; exact hl), gi_eq hl, List.getElem_map]
  exact (endsF_tail h0 (hu _ (List.getElem_mem hl))).1
theorem corner_dart' {d : Int} {l : List Int} (hu : ∀ x ∈ l, x ∈ dartsAll p.E) (hne : l ≠ []) (hg : gi l 0 = d) : cornerF g (d, l) = tailD g d := by
  have := corner_dart h0 (u := (d, l)) hu hne
  rw [this]
  show tailD g (gi l 0) = _
  rw [hg]
theorem corner_lone {v : Int} (hv : v ∈ p.V) : cornerF g (-1 - v, []) = v := by
  have hvr := verts_pos (rotaErr_part h0).1 v hv
  unfold cornerF Gr.corners
  rw [if_pos ⟨by dsimp only; omega, by dsimp only; omega, rfl⟩]
  show (-1 - (-1 - v) : Int) = v
  omega
theorem orb_sub {d : Int} (hd : d ∈ dartsAll p.E) : ∀ x ∈ orbL (nextD (tn.map firstR) (atF tn)) (perN (nextD (tn.map firstR) (atF tn)) 2048 d) d, x ∈ dartsAll p.E := fun x hx => by
  obtain ⟨i, _, rfl⟩ := List.mem_map.1 hx
  exact (turns_of h0).perm1.it_mem hd i
theorem orb_head {d : Int} (hd : d ∈ dartsAll p.E) : orbL (nextD (tn.map firstR) (atF tn)) (perN (nextD (tn.map firstR) (atF tn)) 2048 d) d ≠ [] ∧ gi (orbL (nextD (tn.map firstR) (atF tn)) (perN (nextD (tn.map firstR) (atF tn)) 2048 d) d) 0 = d := by
  have h1 := (perN_spec ((turns_of h0).perm1.period' hd (turns_of h0).len)).1
  exact ⟨fun e => by have := congrArg List.length e; rw [orbL_len] at this; simp at this; omega, by rw [gi_orb h1]; rfl⟩
/-- The faces of a piece whose vertices all have darts. -/
theorem piece_faces (t : Int) (hrow : ∀ v ∈ (pieceT g p t).1, 0 < (gl tn v.toNat).length) (hphi : PermN 2048 (phiN g p tn t)) (hkeys : (docW (nextD (tn.map firstR) (atF tn)) tn p).Pairwise fun x y => x.1 ≠ y.1) : wordsIn (joinL (pairsN 2048 (phiN g p tn t))) (inP g p t) 2048 = facesF g (docW (nextD (tn.map firstR) (atF tn)) tn p) (pieceT g p t).1 := by
  have ht := turns_of h0
  have hr := (rotaErr_part h0).1
  have hword : ∀ x, x < 2048 → inP g p t x = true → (joinL (pairsN 2048 (phiN g p tn t)) x = x ↔ LT4 (nextD (tn.map firstR) (atF tn)) (x : Int) (perN (nextD (tn.map firstR) (atF tn)) 2048 (x : Int) - 1) = true) := fun x hx hix => by
    have hd := (inP_iff.1 hix).1
    rw [word_least hphi hx, ht.perm1.least ht.len hd]
    constructor
    · intro h y hy
      obtain ⟨k, rfl⟩ := (ht.perm1.mem_orb hd ht.len).1 hy
      have h1 := (phiN_it h0 t hix k).1
      have h2 := h k
      omega
    · intro h k
      have h1 := (phiN_it h0 t hix k).1
      have h2 := h _ ((ht.perm1.mem_orb hd ht.len).2 ⟨k, rfl⟩)
      omega
  have hm : ∀ x, x ∈ (List.range 2048).filter (fun x => inP g p t x && decide (joinL (pairsN 2048 (phiN g p tn t)) x = x)) ↔ x < 2048 ∧ inP g p t x = true ∧ LT4 (nextD (tn.map firstR) (atF tn)) (x : Int) (perN (nextD (tn.map firstR) (atF tn)) 2048 (x : Int) - 1) = true := fun x => by
    rw [List.mem_filter, List.mem_range, Bool.and_eq_true, decide_eq_true_eq]
    constructor
    · rintro ⟨a, b, c⟩; exact ⟨a, b, (hword x a b).1 c⟩
    · rintro ⟨a, b, c⟩; exact ⟨a, b, (hword x a b).2 c⟩
  unfold wordsIn facesF
  rw [← List.length_map (f := fun x : Nat => (x : Int))]
  refine Eq.trans ?_ (List.length_map (Prod.fst : Int × List Int → Int))
  refine nodup_same_len ?_ ?_ (fun z hz => ?_) (fun z hz => ?_)
  · rw [List.nodup_iff_pairwise_ne, List.pairwise_map]
    have hnr : ((List.range 2048).filter (fun x => inP g p t x && decide (joinL (pairsN 2048 (phiN g p tn t)) x = x))).Nodup := List.nodup_range.sublist List.filter_sublist
    exact (List.nodup_iff_pairwise_ne.1 hnr).imp fun h => by omega
  · rw [List.nodup_iff_pairwise_ne, List.pairwise_map]
    exact hkeys.sublist List.filter_sublist
  · obtain ⟨x, hx, rfl⟩ := List.mem_map.1 hz
    obtain ⟨a1, a2, a3⟩ := (hm x).1 hx
    obtain ⟨d1, d2⟩ := inP_iff.1 a2
    obtain ⟨o1, o2⟩ := orb_head h0 d1
    refine List.mem_map.2 ⟨((x : Int), orbL (nextD (tn.map firstR) (atF tn)) (perN (nextD (tn.map firstR) (atF tn)) 2048 (x : Int)) (x : Int)), List.mem_filter.2 ⟨mem_docW.2 (.inr ⟨_, d1, a3, rfl⟩), decide_eq_true ?_⟩, rfl⟩
    rw [corner_dart' h0 (orb_sub h0 d1) o1 o2]
    exact mem_pieceV.2 ⟨tail_mem hr d1, d2⟩
  · obtain ⟨u, hu, rfl⟩ := List.mem_map.1 hz
    obtain ⟨u1, u2⟩ := List.mem_filter.1 hu
    have u3 := of_decide_eq_true u2
    rcases mem_docW.1 u1 with ⟨v, hv, hl, rfl⟩ | ⟨d, hd, hl, rfl⟩
    · exfalso
      rw [corner_lone h0 hv] at u3
      have h1 := hrow v u3
      have hvr := verts_pos hr v hv
      have hN := (rotaErr_part h0).2.1
      unfold atL at hl
      rw [if_pos ⟨hvr.1, by omega⟩] at hl
      omega
    · obtain ⟨o1, o2⟩ := orb_head h0 hd
      rw [corner_dart' h0 (orb_sub h0 hd) o1 o2] at u3
      have hp := ht.pos d hd
      have ed : ((d.toNat : Nat) : Int) = d := by omega
      refine List.mem_map.2 ⟨d.toNat, (hm _).2 ⟨by omega, inP_iff.2 ?_, by rw [ed]; exact hl⟩, ed⟩
      rw [ed]
      exact ⟨hd, (mem_pieceV.1 u3).2⟩
/-- A vertex without darts is a piece by itself. -/
theorem piece_alone {v : Int} (hv : v ∈ p.V) (hno : ∀ d ∈ dartsAll p.E, tailD g d ≠ v) {w : Int} (hw : w ∈ p.V) (hc : repE g p (posN p.V w) = repE g p (posN p.V v)) : w = v := by
  have hr := (rotaErr_part h0).1
  have hE := edges_ok hr
  have := joinTo_least (g := g) (p := p) (P := fun x => x = v) (fun e he => by
    have h1 := hE e he
    have ta : tailD g (2 * e) = (ge g.E e.toNat).1 := by unfold tailD; rw [if_pos (by omega), show 2 * e / 2 = e by omega]; rfl
    have tb : tailD g (2 * e + 1) = (ge g.E e.toNat).2 := by unfold tailD; rw [if_neg (by omega), show (2 * e + 1) / 2 = e by omega]; rfl
    have da := hno _ (mem_dartsAll'.2 ⟨e, he, .inl rfl⟩)
    have db := hno _ (mem_dartsAll'.2 ⟨e, he, .inr rfl⟩)
    rw [ta] at da
    rw [tb] at db
    exact ⟨h1.2.2.1, h1.2.2.2, fun h => absurd h da, fun h => absurd h db⟩) p.E.length (Nat.le_refl _) (posN p.V w) (posN p.V v) (posN_lt hw) (posN_lt hv) hc
  rw [gi_posN hw, gi_posN hv] at this
  exact this.2 rfl
theorem docW_keys {us : List (Int × List Int)} (hu : us.Perm (wF p tn)) (hk : WalksOk p us) : (docW (nextD (tn.map firstR) (atF tn)) tn p).Pairwise fun x y => x.1 ≠ y.1 := by
  have := hk.keys
  rw [doc_eq h0 hu hk] at this
  exact this.imp fun h => by omega
/-- A piece without edges is one vertex, with one walk. -/
theorem piece_lone (hkeys : (docW (nextD (tn.map firstR) (atF tn)) tn p).Pairwise fun x y => x.1 ≠ y.1) {t : Int} (hpos : 0 < (pieceT g p t).1.length) (hm : (pieceT g p t).2 = []) : (pieceT g p t).1.length = 1 ∧ facesF g (docW (nextD (tn.map firstR) (atF tn)) tn p) (pieceT g p t).1 = 1 := by
  have ht := turns_of h0
  have hr := (rotaErr_part h0).1
  have hnd : (pieceT g p t).1.Nodup := (verts_nodup hr).sublist List.filter_sublist
  have hnoD : ∀ d ∈ dartsAll p.E, clsD g p d ≠ t := fun d hd hc => by
    have := mem_pieceD.2 ⟨hd, hc⟩
    rw [hm] at this
    cases this
  obtain ⟨v, hv⟩ := List.exists_mem_of_length_pos hpos
  obtain ⟨hv1, hv2⟩ := mem_pieceV.1 hv
  have hvr := verts_pos hr v hv1
  have hno : ∀ d ∈ dartsAll p.E, tailD g d ≠ v := fun d hd e => hnoD d hd (by unfold clsD; rw [e]; exact hv2)
  have hV1 : (pieceT g p t).1.length = [v].length := nodup_same_len hnd (by simp) (fun w hw => by
    obtain ⟨w1, w2⟩ := mem_pieceV.1 hw
    rw [List.mem_singleton]
    exact piece_alone h0 hv1 hno w1 (by omega)) (fun w hw => by rw [List.mem_singleton] at hw; subst hw; exact hv)
  have hF1 : facesF g (docW (nextD (tn.map firstR) (atF tn)) tn p) (pieceT g p t).1 = [(-1 - v : Int)].length := by
    unfold facesF
    refine (List.length_map (Prod.fst : Int × List Int → Int)).symm.trans ?_
    refine nodup_same_len ?_ (by simp) (fun z hz => ?_) (fun z hz => ?_)
    · rw [List.nodup_iff_pairwise_ne, List.pairwise_map]
      exact hkeys.sublist List.filter_sublist
    · obtain ⟨u, hu, rfl⟩ := List.mem_map.1 hz
      obtain ⟨u1, u2⟩ := List.mem_filter.1 hu
      have u3 := of_decide_eq_true u2
      rw [List.mem_singleton]
      rcases mem_docW.1 u1 with ⟨w, hw, hl, rfl⟩ | ⟨d, hd, hl, rfl⟩
      · rw [corner_lone h0 hw] at u3
        have := piece_alone h0 hv1 hno hw (by have := (mem_pieceV.1 u3).2; omega)
        rw [this]
      · exfalso
        obtain ⟨o1, o2⟩ := orb_head h0 hd
        rw [corner_dart' h0 (orb_sub h0 hd) o1 o2] at u3
        exact hnoD d hd (mem_pieceV.1 u3).2
    · rw [List.mem_singleton] at hz
      subst hz
      refine List.mem_map.2 ⟨(-1 - v, []), List.mem_filter.2 ⟨mem_docW.2 (.inl ⟨v, hv1, ?_, rfl⟩), decide_eq_true ?_⟩, rfl⟩
      · have hN := (rotaErr_part h0).2.1
        unfold atL
        rw [if_pos ⟨hvr.1, by omega⟩]
        refine Nat.eq_zero_of_not_pos fun h => ?_
        obtain ⟨d, hd⟩ := List.exists_mem_of_length_pos h
        have hN := (rotaErr_part h0).2.1
        obtain ⟨d1, d2⟩ := (ht.mem (by omega)).1 hd
        exact hno d d1 (by omega)
      · rw [corner_lone h0 hv1]
        exact hv
  exact ⟨hV1, hF1⟩
/-- In a piece with edges each vertex has darts. -/
theorem piece_rows {t : Int} (hm : (pieceT g p t).2 ≠ []) : ∀ v ∈ (pieceT g p t).1, 0 < (gl tn v.toNat).length := fun v hv => by
  have ht := turns_of h0
  have hr := (rotaErr_part h0).1
  have hE := edges_ok hr
  obtain ⟨hv1, hv2⟩ := mem_pieceV.1 hv
  have hvr := verts_pos hr v hv1
  have hN := (rotaErr_part h0).2.1
  refine Nat.pos_of_ne_zero fun hz => ?_
  have hno : ∀ d ∈ dartsAll p.E, tailD g d ≠ v := fun d hd e => by
    have := (ht.mem (k := v.toNat) (by omega)).2 ⟨hd, by omega⟩
    rw [List.eq_nil_of_length_eq_zero hz] at this
    cases this
  obtain ⟨e, he⟩ := List.exists_mem_of_ne_nil _ hm
  unfold pieceT at he
  obtain ⟨e1, e2⟩ := List.mem_filter.1 he
  have e3 := of_decide_eq_true e2
  have := piece_alone h0 hv1 hno (hE e e1).2.2.1 (by omega)
  refine hno (2 * e) (mem_dartsAll'.2 ⟨e, e1, .inl rfl⟩) ?_
  unfold tailD
  rw [if_pos (by omega), show 2 * e / 2 = e by omega]
  exact this
/-- Of each piece: vertices and walks are two and the edges, or less; and even. -/
theorem piece_euler_t (hkeys : (docW (nextD (tn.map firstR) (atF tn)) tn p).Pairwise fun x y => x.1 ≠ y.1) {t : Int} (hpos : 0 < (pieceT g p t).1.length) : facesF g (docW (nextD (tn.map firstR) (atF tn)) tn p) (pieceT g p t).1 + (pieceT g p t).1.length ≤ 2 + (pieceT g p t).2.length ∧ (facesF g (docW (nextD (tn.map firstR) (atF tn)) tn p) (pieceT g p t).1 + (pieceT g p t).1.length + (pieceT g p t).2.length) % 2 = 0 := by
  have ht := turns_of h0
  by_cases hm : (pieceT g p t).2 = []
  · obtain ⟨k1, k2⟩ := piece_lone h0 hkeys hpos hm
    rw [k1, k2, hm]
    simp
  · have hrow := piece_rows h0 hm
    obtain ⟨k1, k2⟩ := pieceE_ok h0 t
    have hlen : (pairsE (pieceT g p t).2).length = (pieceT g p t).2.length := by unfold pairsE; rw [List.length_map]
    obtain ⟨q1, q2, q3⟩ := euler_in (n := 2048) (s := backN g p tn t) (T := pairsE (pieceT g p t).2) (inD := inP g p t) (backN_perm h0 t) (fun e he => by
      obtain ⟨f, hf, rfl⟩ := List.mem_map.1 he
      have f1 := k2 f hf
      have da : 2 * f ∈ dartsAll p.E := mem_dartsAll'.2 ⟨f, f1.2, .inl rfl⟩
      have db : 2 * f + 1 ∈ dartsAll p.E := mem_dartsAll'.2 ⟨f, f1.2, .inr rfl⟩
      have pa := ht.pos _ da
      have pb := ht.pos _ db
      have ca := mem_pieceD.1 (mem_dartsAll'.2 ⟨f, hf, .inl rfl⟩ : 2 * f ∈ dartsAll (pieceT g p t).2)
      have cb := mem_pieceD.1 (mem_dartsAll'.2 ⟨f, hf, .inr rfl⟩ : 2 * f + 1 ∈ dartsAll (pieceT g p t).2)
      refine ⟨by dsimp only; omega, by dsimp only; omega, by dsimp only; omega, inP_iff.2 ?_, inP_iff.2 ?_⟩
      · rw [show (((2 * f).toNat : Nat) : Int) = 2 * f by omega]; exact ca
      · rw [show (((2 * f + 1).toNat : Nat) : Int) = 2 * f + 1 by omega]; exact cb) (fun x hx hd => by unfold backN; rw [hd]; rfl) (piece_one h0 t)
    have f1 := piece_faces h0 t hrow q1 hkeys
    have f2 := piece_verts h0 t hrow
    unfold phiN at f1
    rw [f1, f2, hlen] at q2 q3
    exact ⟨q2, q3⟩
theorem piece_euler {us : List (Int × List Int)} (hu : us.Perm (wF p tn)) (hk : WalksOk p us) {x : List Int × List Int} (hx : x ∈ piecesF g p) : facesF g us x.1 + x.1.length ≤ 2 + x.2.length ∧ (facesF g us x.1 + x.1.length + x.2.length) % 2 = 0 := by
  have hr := (rotaErr_part h0).1
  obtain ⟨hpos, t, _, rfl⟩ := mem_pieces hr hx
  rw [doc_eq h0 hu hk]
  exact piece_euler_t h0 (docW_keys h0 hu hk) hpos
end
end Go.Proofs.Ytefhmlgepnlaoaa
