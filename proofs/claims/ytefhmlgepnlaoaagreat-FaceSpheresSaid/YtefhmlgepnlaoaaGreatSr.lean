/- Walks: walk.Pieces. -/
import Derived.Test.YtefhmlgepnlaoaaGreatSp
import Derived.Test.YtefhmlgepnlaoaaGreatSq
import Derived.Test.YtefhmlgepnlaoaaGreatSk
set_option linter.unusedVariables false
set_option linter.unusedSimpArgs false
namespace Go.Proofs.YtefhmlgepnlaoaaGreat
open Go.RowKit

/-- The groups behind the first k edges. -/
def joinTo (g : Gr) (p : Pt) : Nat → Nat → Nat
  | 0 => fun i => i
  | k + 1 => joinRep (joinTo g p k) (posN p.V (ge g.E (gi p.E k).toNat).1) (posN p.V (ge g.E (gi p.E k).toNat).2)
def repE (g : Gr) (p : Pt) : Nat → Nat := joinTo g p p.E.length
def pieceOf (g : Gr) (p : Pt) (l : List Int) : List Int × List Int := (l, p.E.filter fun e => sameR p.V (repE g p) (ge g.E e.toNat).1 (gi l 0))
/-- walk.Pieces -/
def piecesF (g : Gr) (p : Pt) : List (List Int × List Int) := (groupsF p.V (repE g p)).map (pieceOf g p)
theorem groupsTo_mem (all : List Int) (rep : Nat → Nat) : ∀ k, k ≤ all.length → ∀ l ∈ (groupsTo all rep k).2, 0 < l.length ∧ ∀ x ∈ l, x ∈ all := by
  intro k
  induction k with
  | zero => intro _ l hl; cases hl
  | succ k ih =>
    intro hk l hl
    have ih := ih (by omega)
    have hg := (groupsTo_ok all rep k).1
    unfold groupsTo addG at hl
    split at hl
    · rename_i hm
      dsimp only at hl
      rcases List.mem_or_eq_of_mem_set hl with hl | rfl
      · exact ih l hl
      · have hp := posN_lt hm
        refine ⟨by simp, fun x hx => ?_⟩
        rcases List.mem_append.1 hx with hx | hx
        · rw [List.getD_eq_getElem?_getD, List.getElem?_eq_getElem (by omega), Option.getD_some] at hx
          exact (ih _ (List.getElem_mem _)).2 x hx
        · rw [List.mem_singleton] at hx; subst hx; exact gi_mem (by omega)
    · dsimp only at hl
      rcases List.mem_append.1 hl with hl | hl
      · exact ih l hl
      · rw [List.mem_singleton] at hl
        subst hl
        exact ⟨by simp, fun x hx => by rw [List.mem_singleton] at hx; subst hx; exact gi_mem (by omega)⟩
theorem OwnP.mono {w : World} {base base' : Nat} {v : Value} {ws : List (List Int × List Int)} (h : OwnP w base v ws) (hb : base' ≤ base) : OwnP w base' v ws := by
  obtain ⟨zs, h0, h1, h2⟩ := h.o
  have one : ∀ {q : Option Addr × Nat × Nat} {xs : List Int}, POk1 w base v q xs → POk1 w base' v q xs := fun h => ⟨h.1, h.2.1, fun ad ha h0 => ⟨by have := (h.2.2 ad ha h0).1; omega, (h.2.2 ad ha h0).2⟩⟩
  refine ⟨zs, h0, ⟨h1.1, ?_⟩, fun z hz => ⟨one (h2 z hz).1, one (h2 z hz).2⟩⟩
  rcases h1.2 with h3 | ⟨g, cap, cur, h3, h4, h5⟩
  · exact .inl h3
  · exact .inr ⟨g, cap, cur, h3, by omega, h5⟩
/-- What a right part's edges are. -/
theorem edges_ok {g : Gr} {p : Pt} (h0 : g.rightPart p = 0) : ∀ e ∈ p.E, 0 ≤ e ∧ e < g.E.length ∧ (ge g.E e.toNat).1 ∈ p.V ∧ (ge g.E e.toNat).2 ∈ p.V := by
  obtain ⟨h1, h2, h3, h4⟩ := Gr.rightPart_ok h0
  have hE := (risesF_sound _ _ _ h3).2
  have hall : ∀ {E : List Int}, g.partEnds p.V E = true → ∀ e ∈ E, (g.edge e).1 ∈ p.V ∧ (g.edge e).2 ∈ p.V := by
    intro E
    induction E with
    | nil => intro _ e he; cases he
    | cons x E ih =>
      intro h e he
      unfold Gr.partEnds at h
      simp only [Bool.and_eq_true, decide_eq_true_eq] at h
      rcases List.mem_cons.1 he with rfl | he
      · exact ⟨h.1, h.2.1⟩
      · exact ih h.2.2 e he
  intro e he
  exact ⟨by have := hE e he; omega, (hE e he).2, (hall h4 e he).1, (hall h4 e he).2⟩
theorem pieces_kept (bs bg bl base : Nat) (s : Value) (all : List Int) (rep : Nat → Nat) (U : Option Nat) (g : Gr) (AE : Option Addr) (ce : Nat) (l : List Int) (AL : Option Addr) (cl : Nat) (es : List Int) (A2 : Option Addr) (c2 : Nat) (W0 : World)
    (hI : PInv bs bg bl base s all rep U g AE ce l AL cl W0) (hes : ∀ e ∈ es, 0 ≤ e ∧ e < g.E.length ∧ (ge g.E e.toNat).1 ∈ all) (hl : 0 < l.length) (hl0 : gi l 0 ∈ all) (hbs : ¬ some bs = U) (hbg : ¬ some bg = U) (hbl : ¬ some bl = U)
    (hAE : ∀ a, AE = some a → 0 < g.E.length → ¬ some a.block = U) (hAL : ∀ a, AL = some a → 0 < l.length → ¬ some a.block = U) (h2 : RI W0 A2 es.length es) (hel : es.length < 1099511627776) (hU : ∀ k, some k = U → k < W0.heap.size) :
    Calls Tryz.prog 89 #[.slice A2 es.length c2, .func (.func 87) #[] #[.pointer (some ⟨bs, 0, none⟩), .pointer (some ⟨bg, 0, none⟩), .pointer (some ⟨bl, 0, none⟩)]] W0 fun e w' =>
      (∃ u, e = .returned u ∧ OwnI w' W0.heap.size u (es.filter fun e => sameR all rep (ge g.E e.toNat).1 (gi l 0))) ∧ SetsAt w' base s all rep U ∧ Step (fun k => some k = U) W0 w' := by
  have hT := pieces1_tells bs bg bl base s all rep U g AE ce l AL cl es hes hl hl0 hbs hbg hbl hAE hAL
  have hT2 : Tells 87 #[.pointer (some ⟨bs, 0, none⟩), .pointer (some ⟨bg, 0, none⟩), .pointer (some ⟨bl, 0, none⟩)] (fun e => sameR all rep (ge g.E e.toNat).1 (gi l 0)) es (fun W => PInv bs bg bl base s all rep U g AE ce l AL cl W ∧ Step (fun k => some k = U) W0 W) (fun k => some k = U) :=
    ⟨fun x hx W hW => (hT.h x hx W hW.1).mono fun e w' h => ⟨h.1, ⟨h.2.1, hW.2.trans h.2.2⟩, h.2.2⟩⟩
  have lt : ∀ {a : Addr} {v : Value}, W0.cell? a = some v → a.block < W0.heap.size := fun h => World.block_lt_of_cell? _ _ h
  refine (kept_any _ _ _ es _ (fun k => some k = U) hT2 (enters_of Tryz.func87 (by kernel_rfl) rfl) A2 es.length c2 W0 h2 hel hU (fun W W' hW hs => ?_) ⟨hI, Step.refl _ _⟩).mono fun e w' h => ⟨h.1, h.2.1.1.st, h.2.1.2⟩
  have far : ∀ {k : Nat}, k < W0.heap.size → ¬ W0.heap.size ≤ k := fun h => by omega
  exact ⟨⟨hW.1.st.far hI.st hW.2 hs fun k hk => far hk, hs.cell hW.1.cs (far (lt hI.cs)), hs.cell hW.1.cg (far (lt hI.cg)), hW.1.re.step hs fun a ha h0 => far (hI.re.rc.lt ha (by rw [edgeCells_length]; omega)), hs.cell hW.1.cl (far (lt hI.cl)), hW.1.rl.step hs fun a ha h0 => far (hI.rl.blk ha h0)⟩, hW.2.then hs fun i hi h => absurd h (far hi)⟩
def PiecesPost (g : Gr) (p : Pt) (w : World) (e : Ending) (w' : World) : Prop :=
  (∃ u, e = .returned (.tuple #[u, .int .i64 (g.rightPart p)]) ∧ (if g.rightPart p = 0 then OwnP w' w.heap.size u (piecesF g p) else u = .slice none 0 0)) ∧ Below w.heap.size w w'
set_option maxHeartbeats 4000000 in
theorem pieces_any (g : Gr) (p : Pt) (A A1 A2 : Option Addr) (n c n1 c1 n2 c2 : Nat) (w : World) (hA : RE w A n g.E) (h1 : RI w A1 n1 p.V) (h2 : RI w A2 n2 p.E) :
    Calls Tryz.prog 40 #[.agg #[.int .i64 g.N, .slice A n c], .agg #[.slice A1 n1 c1, .slice A2 n2 c2]] w fun e w' => PiecesPost g p w e w' := by
  have hlen := hA.len
  subst hlen
  have hlen1 := h1.len
  subst hlen1
  have hlen2 := h2.len
  subst hlen2
  have HA := Bx.mk hA
  have H1 := Bx.mk h1
  have H2 := Bx.mk h2
  have hleE := hA.le
  have hle2 := h2.le
  clear hA h1 h2
  have BA := Bx.mk (((BB.refl w).al (.cells #[.int .i64 g.N, .slice A g.E.length c] 24)).al (.cells #[.slice A1 p.V.length c1, .slice A2 p.E.length c2] 27))
  by_cases h0 : g.rightPart p = 0
  case neg =>
    have h0b : (g.rightPart p != 0) = true := by simp [h0]
    have H0 := Bx.mk h0
    clear h0
    go_enter Tryz.func40, Tryz.ntmps40
    go_wp2_with (go_at_call 83; (with_reducible refine (rightPart_any g p A A1 A2 _ c _ c1 _ c2 _ (BA.out.re HA.out) (BA.out.ri H1.out) (BA.out.ri H2.out)).mono ?_); rintro e w1 ⟨rfl, hb1⟩)
    go_ret2
    exact ⟨⟨.slice none 0 0, rfl, by rw [if_neg H0.out]⟩, (BA.out.call hb1).b⟩
  case pos =>
    have h0b : (g.rightPart p != 0) = false := by simp [h0]
    have H0 := Bx.mk h0
    have hVn := (risesF_sound _ _ _ (Gr.rightPart_ok h0).2.1).1
    have hVl := risesF_len _ _ _ (Gr.rightPart_ok h0).2.1 (by have := (Gr.right_ok (Gr.rightPart_ok h0).1); omega)
    have hVnd : p.V.Nodup := hVn.imp fun h => by omega
    have hVl2 : p.V.length < 1048576 := by have := (Gr.right_ok (Gr.rightPart_ok h0).1); omega
    have hEl : p.E.length < 1048576 := by have := (Gr.right_ok (Gr.rightPart_ok h0).1); have := risesF_len _ _ _ (Gr.rightPart_ok h0).2.2.1 (by omega); omega
    have HE := Bx.mk (edges_ok h0)
    have HND := Bx.mk hVnd
    clear h0 hVn hVnd hVl
    go_enter Tryz.func40, Tryz.ntmps40
    go_wp2_with (first
      | (go_at_call 83; (with_reducible refine (rightPart_any g p A A1 A2 _ c _ c1 _ c2 _ (BA.out.re HA.out) (BA.out.ri H1.out) (BA.out.ri H2.out)).mono ?_); rintro e w1 ⟨rfl, hb1⟩; have HC := BB.mk hb1; have HW1 := BA.out.call hb1; have hG2 := HC.cell (box_cell1 w #[.int .i64 g.N, .slice A g.E.length c] 24 (0, 0) (.cells #[.slice A1 p.V.length c1, .slice A2 p.E.length c2] 27) 1); have hP1 := HC.cell (box_cell2 w #[.slice A1 p.V.length c1, .slice A2 p.E.length c2] 27 (0, 0) (.cells #[.int .i64 g.N, .slice A g.E.length c] 24) 0); have hP2 := HC.cell (box_cell2 w #[.slice A1 p.V.length c1, .slice A2 p.E.length c2] 27 (0, 0) (.cells #[.int .i64 g.N, .slice A g.E.length c] 24) 1); have hz1 := HC.pos2; clear hb1)
      | (go_at_call 84; (with_reducible refine (new_any p.V A1 _ c1 _ (HW1.ri H1.out) HND.out hVl2).mono ?_); rintro e w3 ⟨⟨v3, U, rfl, hS3⟩, hb3⟩; obtain ⟨R3, rfl⟩ : ∃ q, v3 = .pointer q := (by obtain ⟨R, _, _, _, _, _, rfl, _⟩ := hS3.h; exact ⟨_, rfl⟩); have hG23 := (BB.mk hb3).cell hG2; have hP23 := (BB.mk hb3).cell hP2; have hP24 := ((BB.refl w3).al (.cells #[.pointer R3] 116)).cell hP23))
    have HU : Bx (∀ k, some k = U → w1.heap.size ≤ k ∧ k < w3.heap.size) := ⟨fun k hk => by
      obtain ⟨_, _, _, _, _, _, _, _, _, _, _, _, _, h8, h9, _⟩ := hS3.h
      exact h8.lt k (h9.trans hk.symm)⟩
    have hz3 := hb3.size
    have hzw : w.heap.size + 2 ≤ w1.heap.size := by have := HC.size; simpa using this
    have HW4 := (HW1.call hb3).al (.cells #[.pointer R3] 116)
    have hS4 := hS3.below (below_alloc (Nat.le_refl w3.heap.size) (.cells #[.pointer R3] 116))
    have hc74 := box_cell w3 #[.pointer R3] 116 (0, 0) 0
    have hcg4 := ((BB.refl w3).al (.cells #[.pointer R3] 116)).cell hG23
    have hz4 : (w3.alloc (.cells #[.pointer R3] 116)).heap.size = w3.heap.size + 1 := by simp
    generalize (w3.alloc (.cells #[.pointer R3] 116)) = w4 at *
    have HZ := Bx.mk (And.intro hz3 (And.intro hzw hz4))
    have HC4 := Bx.mk (And.intro hc74 (And.intro hcg4 hP24))
    have HW := Bx.mk HW4
    have HP1 := Bx.mk hP1
    have hU7 : ¬ some w3.heap.size = U := fun e => by have := (HU.out _ e).2; omega
    have hUg : ¬ some w.heap.size = U := fun e => by have := (HU.out _ e).1; omega
    have hUp : ¬ some (w.heap.size + 1) = U := fun e => by have := (HU.out _ e).1; omega
    have hUlt : ∀ k, k < w.heap.size → ¬ some k = U := fun k hk e => by have := (HU.out _ e).1; omega
    have HUN := Bx.mk (And.intro hU7 (And.intro hUg (And.intro hUp hUlt)))
    clear hG2 hP1 hP2 hz1 hG23 hP23 hz3 hzw hc74 hcg4 hP24 hz4 HW4 hb3 hU7 hUg hUp hUlt HC HW1 hS3
    go_loopw [26] (fun iv wr => ∃ k : Nat, k ≤ p.E.length ∧ iv = .int .i64 k ∧ SetsAt wr w1.heap.size (.pointer R3) p.V (joinTo g p k) U ∧ Step (fun j => some j = U) w4 wr) (fun iv _ => p.E.length - (intOf iv).toNat)
    case atStart => exact ⟨0, Nat.zero_le _, rfl, hS4, Step.refl _ _⟩
    case round =>
      obtain ⟨k, hk, rfl, hS, hs⟩ := hrel
      by_cases hlt : k < p.E.length
      · have hri := (HW.out.ri H2.out).step hs (fun a ha h0 => HUN.out.2.2.2 _ (H2.out.blk ha h0))
        obtain ⟨b2, o2, rfl, hce⟩ := hri.at (by omega)
        have hck := hce k hlt
        obtain ⟨he0, he1, he2, he3⟩ := HE.out _ (gi_mem hlt)
        have HJ : Bx (joinTo g p (k + 1) = joinRep (joinTo g p k) (posN p.V (ge g.E (gi p.E k).toNat).1) (posN p.V (ge g.E (gi p.E k).toNat).2)) := ⟨rfl⟩
        have HGE : Bx (0 ≤ gi p.E k) := ⟨he0⟩
        obtain ⟨x, hx⟩ : ∃ x : Nat, Bx (gi p.E k = x) := ⟨(gi p.E k).toNat, ⟨by omega⟩⟩
        rw [hx.out] at he1 he2 he3 hck HJ
        rw [Int.toNat_natCast] at he2 he3 HJ
        have hxl : x < g.E.length := by omega
        have hre : RE wr A g.E.length g.E := ⟨HA.out.len, HA.out.le, (HW.out.re HA.out).rc.step hs fun a ha h0 => HUN.out.2.2.2 _ (HA.out.rc.lt ha h0)⟩
        obtain ⟨b1, o1, rfl, hcl⟩ := hre.at (by omega)
        obtain ⟨hx1, hx2⟩ := hcl x hxl
        have nE : ¬ some b1 = U := HUN.out.2.2.2 _ (HA.out.rc.lt rfl (by rw [edgeCells_length]; omega))
        have hc7 := hs.cell HC4.out.1 HUN.out.1
        have hcg := hs.cell HC4.out.2.1 HUN.out.2.1
        have hd7 : wr.drew.cell? ⟨w3.heap.size, 0, none⟩ = some (.pointer R3) := hc7
        have hdg : wr.drew.cell? ⟨w.heap.size, 1, none⟩ = some (.slice (some ⟨b1, o1, none⟩) g.E.length c) := hcg
        have hd1 : wr.drew.cell? ⟨b1, o1 + x * 2, none⟩ = some (.int .i64 (ge g.E x).1) := hx1
        have hd2 : wr.drew.cell? ⟨b1, o1 + x * 2 + 1, none⟩ = some (.int .i64 (ge g.E x).2) := hx2
        have HSD : Bx (SetsAt wr.drew w1.heap.size (.pointer R3) p.V (joinTo g p k) U) := ⟨hS.below (BB.drawn (BB.refl wr) 1).b⟩
        have hsd : Step (fun j => some j = U) w4 wr.drew := hs.trans (Step.drew _ _)
        have HEM := Bx.mk (And.intro he2 (And.intro he3 nE))
        clear hce hcl he2 he3 nE hS
        go_wp2
        go_region_held3 (fun w' => w'.cell? ⟨w3.heap.size, 0, none⟩ = some (.pointer R3) ∧ w'.cell? ⟨w.heap.size, 1, none⟩ = some (.slice (some ⟨b1, o1, none⟩) g.E.length c) ∧ w'.cell? ⟨b1, o1 + x * 2, none⟩ = some (.int .i64 (ge g.E x).1) ∧ w'.cell? ⟨b1, o1 + x * 2 + 1, none⟩ = some (.int .i64 (ge g.E x).2))
          (first | exact ⟨hd7, hdg, hd1, hd2⟩ | exact ⟨hs1.cell hd7 HUN.out.1, hs1.cell hdg HUN.out.2.1, hs1.cell hd1 HEM.out.2.2, hs1.cell hd2 HEM.out.2.2⟩ | fail)
          (first
            | (go_simp; go_at_call 85; (with_reducible refine (join_any w1.heap.size (.pointer R3) p.V (joinTo g p k) U (ge g.E x).1 (ge g.E x).2 HEM.out.1 HEM.out.2.1 _ HSD.out).mono ?_); rintro e w5 ⟨⟨b, rfl⟩, hS1, hs1⟩)
            | fail)
        all_goals
          go_wp2
          go_roundw
          case rel => exact ⟨k + 1, hlt, by go_num, by rw [HJ.out]; exact hS1, hsd.trans hs1⟩
          case measure => simp [intOf]; omega
      · have hkk : k = p.E.length := by omega
        subst hkk
        rename World => wG
        have hS : SetsAt wG w1.heap.size (.pointer R3) p.V (repE g p) U := hS
        have hc7 := hs.cell HC4.out.1 HUN.out.1
        have hzG := hs.size
        have hgl : (groupsF p.V (repE g p)).length ≤ p.V.length := (groupsTo_ok _ _ _).2.2.1
        obtain ⟨gs, hgs⟩ : ∃ gs, Bx (groupsF p.V (repE g p) = gs) := ⟨_, ⟨rfl⟩⟩
        have HPI : Bx (piecesF g p = gs.map (pieceOf g p)) := ⟨by unfold piecesF; rw [hgs.out]⟩
        have HGM : Bx (∀ l ∈ gs, 0 < l.length ∧ ∀ x ∈ l, x ∈ p.V) := ⟨hgs.out ▸ groupsTo_mem p.V (repE g p) p.V.length (Nat.le_refl _)⟩
        rw [hgs.out] at hgl
        have HGL := Bx.mk hgl
        go_wp2_with (go_at_call 86; (with_reducible refine (groups_any w1.heap.size (.pointer R3) p.V (repE g p) U _ hS).mono ?_); rintro e w5 ⟨⟨u5, rfl, HO5⟩, hS5, hs5⟩; rw [hgs.out] at HO5; obtain ⟨A5, c5, hv5, hc5, hr5, ha5⟩ := HO5.read (by omega); subst hv5; clear hr5 ha5)
        have hz5 := hs5.size
        have HS5 := Bx.mk hS5
        have HO5B := Bx.mk HO5
        have hUG : Bx (∀ k, some k = U → k < w3.heap.size ∧ k < wG.heap.size ∧ k < w5.heap.size) := ⟨fun k e => by have := (HU.out k e).2; have := HZ.out.2.2; omega⟩
        clear hS
        go_loopw [48, 10] (fun iv xv wr => ∃ (k : Nat) (A6 : Option Addr) (c6 : Nat), k ≤ gs.length ∧ iv = .int .i64 k ∧ xv = .slice A6 k c6 ∧ OwnP wr (wG.heap.size + 1) (.slice A6 k c6) ((gs.take k).map (pieceOf g p)) ∧ Bx (∀ j, (Value.slice A6 k c6).ownBlock = some j → w5.heap.size ≤ j) ∧ SetsAt wr w1.heap.size (.pointer R3) p.V (repE g p) U ∧ Step (fun j => some j = U) w5 wr) (fun iv _ _ => gs.length - (intOf iv).toNat)
        case atStart => exact ⟨0, none, 0, Nat.zero_le _, rfl, rfl, OwnP.nil _ _, ⟨fun j hj => by cases hj⟩, hS5, Step.refl _ _⟩
        case round =>
          obtain ⟨k, A6, c6, hk, rfl, rfl, HO, HOB, hSr, hsr⟩ := hrel
          by_cases hlt : k < gs.length
          · obtain ⟨g5, cap5, hv5, -, -, hgb, hgsz, ⟨a, m', c', hcell5, hmc, hri5, hne⟩, -, -⟩ := HO5B.out.put hlt
            cases hv5
            have hcell := hsr.cell hcell5 (fun e => by have := (hUG.out _ e).2.1; dsimp only at this; omega)
            have hri := hri5.step hsr (fun ad ha h0 e => by have := (hUG.out _ e).2.1; have := (hne ad ha h0).1; omega)
            have HLB : Bx (∀ ad, a = some ad → 0 < m' → ad.block < w5.heap.size) := ⟨fun ad ha h0 => hri5.blk ha h0⟩
            clear hcell5 hri5
            have hl1 : (gs.getD k []) ∈ gs := by rw [List.getD_eq_getElem?_getD, List.getElem?_eq_getElem hlt, Option.getD_some]; exact List.getElem_mem hlt
            have HTK : Bx ((gs.take (k + 1)).map (pieceOf g p) = (gs.take k).map (pieceOf g p) ++ [pieceOf g p (gs.getD k [])]) := ⟨by rw [List.take_succ_eq_append_getElem hlt, List.map_append, List.getD_eq_getElem?_getD, List.getElem?_eq_getElem hlt, Option.getD_some]; rfl⟩
            obtain ⟨hl0, hlm⟩ := HGM.out _ hl1
            generalize gs.getD k [] = l at *
            have hml := hri.len
            subst hml
            have hlz : gi l 0 ∈ p.V := hlm _ (gi_mem hl0)
            have hall := (hs.trans hs5).trans hsr
            have hzr := hsr.size
            have hb1 := ((BB.refl wr).al (.cells #[.slice a l.length c'] 25)).drawn 1
            have hnb : ¬ some wr.heap.size = U := fun e => by have := (hUG.out _ e).2.2; omega
            have hnA : ∀ ad, a = some ad → 0 < l.length → ¬ some ad.block = U := fun ad ha h0 e => by have := (hne ad ha h0).1; have := (hUG.out _ e).2.1; omega
            have hdl : (wr.alloc (.cells #[.slice a l.length c'] 25)).drew.cell? ⟨wr.heap.size, 0, none⟩ = some (.slice a l.length c') := box_cell wr #[.slice a l.length c'] 25 (0, 0) 0
            have hdp : (wr.alloc (.cells #[.slice a l.length c'] 25)).drew.cell? ⟨w.heap.size + 1, 1, none⟩ = some (.slice A2 p.E.length c2) := hb1.cell (hall.cell HC4.out.2.2 HUN.out.2.2.1)
            have hsz1 : (wr.alloc (.cells #[.slice a l.length c'] 25)).drew.heap.size = wr.heap.size + 1 := by simp
            have hPI : PInv w3.heap.size w.heap.size wr.heap.size w1.heap.size (.pointer R3) p.V (repE g p) U g A c l a c' (wr.alloc (.cells #[.slice a l.length c'] 25)).drew :=
              ⟨hSr.below hb1.b, hb1.cell (hall.cell HC4.out.1 HUN.out.1), hb1.cell (hall.cell HC4.out.2.1 HUN.out.2.1), hb1.re ((HW.out.re HA.out).step hall fun ad ha h0 => HUN.out.2.2.2 _ (HA.out.rc.lt ha (by rw [edgeCells_length]; omega))), hdl, hb1.ri hri⟩
            have hri2 : RI (wr.alloc (.cells #[.slice a l.length c'] 25)).drew A2 p.E.length p.E := hb1.ri ((HW.out.ri H2.out).step hall fun ad ha h0 => HUN.out.2.2.2 _ (H2.out.blk ha h0))
            have hK := pieces_kept w3.heap.size w.heap.size wr.heap.size w1.heap.size (.pointer R3) p.V (repE g p) U g A c l a c' p.E A2 c2 _ hPI (fun e he => ⟨(HE.out e he).1, (HE.out e he).2.1, (HE.out e he).2.2.1⟩) hl0 hlz HUN.out.1 HUN.out.2.1 hnb
              (fun ad ha h0 => HUN.out.2.2.2 _ (HA.out.rc.lt ha (by rw [edgeCells_length]; omega))) hnA hri2 (by omega) (fun k e => by rw [hsz1]; have := (hUG.out k e).2.2; omega)
            have HKK := Bx.mk hK
            have hfl : (p.E.filter fun e => sameR p.V (repE g p) (ge g.E e.toNat).1 (gi l 0)).length ≤ p.E.length := List.length_filter_le ..
            obtain ⟨fs, hfs⟩ : ∃ fs, Bx ((p.E.filter fun e => sameR p.V (repE g p) (ge g.E e.toNat).1 (gi l 0)) = fs) := ⟨_, ⟨rfl⟩⟩
            have HPO : Bx (pieceOf g p l = (l, fs)) := ⟨by unfold pieceOf; rw [hfs.out]⟩
            rw [hfs.out] at hfl
            have HR1 := Bx.mk (hb1.ri hri)
            have HO1 := Bx.mk (HO.below hb1.b)
            have HTL : Bx (((gs.take k).map (pieceOf g p)).length < 1099511627776) := ⟨by rw [List.length_map, List.length_take]; omega⟩
            have HOW : Bx (∀ j, (Value.slice A6 k c6).ownBlock = some j → w5.heap.size ≤ j ∧ j < wr.heap.size) := ⟨fun j e => ⟨HOB.out j e, (HO.lt j e).2⟩⟩
            have HNE := Bx.mk (And.intro hnb (And.intro hnA hne))
            have HMC := Bx.mk hmc
            have HSZ1 := Bx.mk hsz1
            have HALL := Bx.mk hall
            have HHB := Bx.mk hb1
            have HL0 := Bx.mk hl0
            clear hK hri hri2 hPI hl0 hlm hlz hl1 hnA hne hmc hall hb1 hsz1 HO hs hs5 hS5
            go_wp2
            go_region_held3 (fun w' => w'.cell? ⟨wr.heap.size, 0, none⟩ = some (.slice a l.length c') ∧ w'.cell? ⟨w.heap.size + 1, 1, none⟩ = some (.slice A2 p.E.length c2))
              (first | exact ⟨hdl, hdp⟩ | exact ⟨hel, hep⟩ | exact ⟨hfl8, hfp8⟩ | exact ⟨hel7, hep7⟩ | fail)
              (first
                | (go_simp; go_at_call 89; (with_reducible refine HKK.out.mono ?_); rintro e w7 ⟨⟨u7, rfl, hO7⟩, hS7, hs7⟩; rw [hfs.out] at hO7; obtain ⟨A7, c7, hv7, hc7', hr7, ha7⟩ := hO7.read (by omega); subst hv7; have hel := hs7.cell hdl HNE.out.1; have hep := hs7.cell hdp HUN.out.2.2.1; have HX7 := Bx.mk (And.intro hc7' (And.intro hr7 ha7)); have hz7 := hs7.size; have hel7 := ((BB.refl w7).al (.cells #[.slice a l.length c', .slice A7 fs.length c7] 27)).cell hel; have hep7 := ((BB.refl w7).al (.cells #[.slice a l.length c', .slice A7 fs.length c7] 27)).cell hep; have HO7 := Bx.mk (HO1.out.step hs7 (fun j _ _ _ hb _ e => by have := (hUG.out j e).2.1; omega)); have HQ7 : Bx (POk w7 (wG.heap.size + 1) (.slice A6 k c6) (((a, l.length, c'), (A7, fs.length, c7)), (l, fs))) := ⟨⟨⟨HMC.out, HR1.out.step hs7 (fun ad ha h0 => HNE.out.2.1 ad ha h0), fun ad ha h0 => ⟨(HNE.out.2.2 ad ha h0).1, fun e => by have := (HOW.out _ e).1; have := HLB.out ad ha h0; omega⟩⟩, ⟨hc7', hr7, fun ad ha h0 => by have h1 := (ha7 ad ha).1; rw [HSZ1.out] at h1; exact ⟨by omega, fun e => by have := (HOW.out _ e).2; omega⟩⟩⟩⟩; have hz8 : wG.heap.size + 1 ≤ w7.heap.size := (by rw [HSZ1.out] at hz7; omega); clear hr7 ha7 hc7')
                | (refine step_app_part (wG.heap.size + 1) ((gs.take k).map (pieceOf g p)) (.slice A6 k c6) HO7.out ((a, l.length, c'), (A7, fs.length, c7)) (l, fs) HQ7.out rfl rfl rfl rfl hz8 HTL.out ?_; intro v8 w8 HO8 hs8 hb8; have hfl8 := hs8.cell hel (fun e => by have := (HOW.out _ e.symm).2; dsimp only at this; omega); have hfp8 := hs8.cell hep (fun e => by have := (HOW.out _ e.symm).1; have := HZ.out; dsimp only at *; omega); obtain ⟨A8, c8, hv8, -⟩ := HO8.shape; subst hv8)
                | fail)
            all_goals
              go_wp2
              go_roundw
              case rel =>
                have hlen : (((gs.take k).map (pieceOf g p)) ++ [(l, fs)]).length = k + 1 := by rw [List.length_append, List.length_map, List.length_take]; simp; omega
                have hz5r : w5.heap.size ≤ w7.heap.size := by rw [HSZ1.out] at hz7; omega
                have h57 := (hsr.trans (step_of_bb HHB.out)).trans hs7
                rw [hlen] at HO8 hb8
                refine ⟨k + 1, A8, c8, hlt, by go_num, by first | rw [hlen] | (congr 1) | simp, ?_, ⟨fun j hj => ?_⟩, hS7.far HS5.out h57 hs8 (fun j hj e => by have := (HOW.out _ e.symm).1; omega), h57.then hs8 (fun j hj e => by have := (HOW.out _ e.symm).1; omega)⟩
                · rw [HTK.out, HPO.out]; exact HO8
                · rcases hb8 with e | ⟨b, e, hb⟩
                  · rw [e] at hj; exact (HOW.out j hj).1
                  · rw [e] at hj; cases hj; omega
              case measure => simp [intOf]; omega
          · go_wp2
            go_ret2
            have hkk : k = gs.length := by omega
            subst hkk
            rw [List.take_length] at HO
            have hzG4 := hs5.size
            exact ⟨⟨_, ret_pair_i H0.out.symm, by rw [if_pos H0.out, HPI.out]; exact HO.mono (by have := HZ.out; omega)⟩, HW.out.b.trans (((hs.trans hs5).trans hsr).below HW.out.size fun j hj e => HUN.out.2.2.2 j hj e)⟩
end Go.Proofs.YtefhmlgepnlaoaaGreat
