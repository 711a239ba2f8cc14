/- Words: rows of the document's walks (layer 7). No program's text. Walks: the document's Next, of right turns, is the next dart around a face. Walks: the document's Walks (layer 7), of right turns. Walks: the document's Key of rows of walks (layer 7). -/
import Derived.Test.YtefhmlgepnlaoaaGreatEf
import Derived.Test.YtefhmlgepnlaoaaGreatSq
import Derived.Test.YtefhmlgepnlaoaaGreatEj
import Derived.Test.YtefhmlgepnlaoaaGreatKy
import Derived.Test.YtefhmlgepnlaoaaGreatAa
set_option linter.unusedVariables false
set_option linter.unusedSimpArgs false
namespace Go.Proofs.YtefhmlgepnlaoaaGreat
open Go.RowKit

/-! Rows of walks of faces: two cells each, a key and a list. -/
theorem info_walk4 : (Tryz.prog.info? 46).map (fun i => (i.zero, i.size, i.bytes)) = some (some (.agg #[.int .i64 0, .slice none 0 0]), 2, 32) := by kernel_rfl
/-- A row of walks of the call's own. -/
structure OwnW4 (w : World) (base : Nat) (v : Value) (ws : List (Int × List Int)) : Prop where
  o : ∃ zs : List (WP × (Int × List Int)), zs.map Prod.snd = ws ∧ w.ownsRow base 46 2 v ws.length (zs.flatMap fun z => wpCells z.1) ∧ ∀ z ∈ zs, WOk w base v z
theorem OwnW4.nil (w : World) (base : Nat) : OwnW4 w base (.slice none 0 0) [] := ⟨[], rfl, World.ownsRow_nil w base _ _, fun z hz => by cases hz⟩
theorem OwnW4.step {F : Nat → Prop} {w w' : World} {base : Nat} {v : Value} {ws : List (Int × List Int)} (h : OwnW4 w base v ws) (hs : Step F w w') (hf : ∀ k cs e fr, base ≤ k → w.heap[k]? = some (.cells cs e fr) → ¬ F k) : OwnW4 w' base v ws := by
  obtain ⟨zs, h0, h1, h2⟩ := h.o
  refine ⟨zs, h0, ⟨h1.1, ?_⟩, fun z hz => ?_⟩
  · rcases h1.2 with h3 | ⟨g, cap, cur, rfl, hb, hg, hr⟩
    · exact .inl h3
    · exact .inr ⟨g, cap, cur, rfl, hb, (hs.block g (Array.getElem?_eq_some_iff.1 hg).1 (hf g _ _ _ hb hg)).trans hg, hr⟩
  · obtain ⟨a1, a2, a3, a4⟩ := h2 z hz
    refine ⟨a1, a2, a3.step hs fun ad ha h0 => ?_, a4⟩
    obtain ⟨b, off, e, hc⟩ := a3.at h0
    rw [ha] at e
    cases e
    have h5 := hc 0 h0
    unfold World.cell? at h5
    split at h5
    · rename_i cs e fr heq
      exact hf b _ _ _ (a4 _ ha h0).1 heq
    · cases h5
theorem OwnW4.low {F : Nat → Prop} {w w' : World} {base : Nat} {v : Value} {ws : List (Int × List Int)} (h : OwnW4 w base v ws) (hs : Step F w w') (hf : ∀ k, base ≤ k → k < w.heap.size → ¬ F k) : OwnW4 w' base v ws :=
  h.step hs fun k _ _ _ hb hk => hf k hb (Array.getElem?_eq_some_iff.1 hk).1
theorem OwnW4.below {w w' : World} {base : Nat} {v : Value} {ws : List (Int × List Int)} (h : OwnW4 w base v ws) (hb : Below w.heap.size w w') : OwnW4 w' base v ws :=
  h.low (Step.of_below hb) fun k _ hk hF => by omega
theorem OwnW4.lt {w : World} {base : Nat} {v : Value} {ws : List (Int × List Int)} (h : OwnW4 w base v ws) : ∀ k, v.ownBlock = some k → base ≤ k ∧ k < w.heap.size := by
  obtain ⟨zs, h0, h1, h2⟩ := h.o
  exact h1.lt
theorem OwnW4.shape {w : World} {base : Nat} {v : Value} {ws : List (Int × List Int)} (h : OwnW4 w base v ws) : ∃ A c, v = .slice A ws.length c ∧ ws.length ≤ c := by
  obtain ⟨zs, h0, h1, h2⟩ := h.o
  rcases h1.2 with ⟨rfl, hn⟩ | ⟨g, cap, cur, rfl, hb, hg, hc, _⟩
  · exact ⟨none, 0, by rw [hn], by omega⟩
  · exact ⟨_, cap, rfl, hc⟩

/-- append(out, w) of a walk: what the operation does. -/
theorem app_walk_run4 {a : Act} {o : Oper} {W : World} (base : Nat) (ws : List (Int × List Int)) (v : Value) (HO : OwnW4 W base v ws) (q : WP) (u : Int × List Int) (hu : WOk W base v (q, u)) {s x : Operand}
    (ho : o.op = .call { callee := .builtin .append, args := #[s, x], argTypes := #[42, 42] }) (hs : a.eval s = v) (hx : a.eval x = .slice (some ⟨W.heap.size, 0, none⟩) 1 1)
    (hbase : base ≤ W.heap.size) (hl : ws.length < 1099511627776) :
    ∃ v1 w1, (execOp a.eval o).run Tryz.prog (W.alloc (.cells #[.int .i64 q.1, .slice q.2.1 q.2.2.1 q.2.2.2] 46)) = .ok (.value v1) w1 ∧ OwnW4 w1 base v1 (ws ++ [u]) ∧ Step (fun k => some k = v.ownBlock) W w1 := by
  obtain ⟨zs, h0, h1, h2⟩ := HO.o
  obtain ⟨i0, hi, hzz⟩ := Option.map_eq_some_iff.1 info_walk4
  simp only [Prod.mk.injEq] at hzz
  obtain ⟨hz0, hz1, hz2⟩ := hzz
  obtain ⟨v1, w1, hr, hown, hg, _, hat⟩ := run_append_own_at (P := Tryz.prog) (W.alloc (.cells #[.int .i64 q.1, .slice q.2.1 q.2.2.1 q.2.2.2] 46)) base 42 o.type 46 i0 _ 2 32 Tryz.underlying42 hi hz0 hz1 hz2 rfl (by decide) v ws.length _ (h1.alloc _) ⟨W.heap.size, 0, none⟩ 1 1 (wpCells q) rfl
    (World.news_of_block (cs := #[.int .i64 q.1, .slice q.2.1 q.2.2.1 q.2.2.2]) (t := 46) (fr := (0, 0)) (heap_alloc_new W _)) (by intro u hu; simp [wpCells] at hu; rcases hu with rfl | rfl <;> rfl) (by simp only [maxLen]; omega) (by omega) (by simp; omega)
  have hstep : Step (fun k => some k = v.ownBlock) W w1 := Step.of_grown (World.grownBy.trans (World.grownBy_alloc W (.cells #[.int .i64 q.1, .slice q.2.1 q.2.2.1 q.2.2.2] 46) v.ownBlock) hg)
  refine ⟨v1, w1, ?_, ⟨zs ++ [(q, u)], by rw [List.map_append, h0]; rfl, ?_, fun z hz => ?_⟩, hstep⟩
  · simp [execOp, ho, resolve, invoke, builtin, hs, hx, hr, Result.andThen]
  · rw [List.length_append, List.flatMap_append]
    simpa using hown
  · have hz' : WOk W base v z := by
      rcases List.mem_append.1 hz with hz | hz
      · exact h2 z hz
      · simp at hz; subst hz; exact hu
    obtain ⟨a1, a2, a3, a4⟩ := hz'
    refine ⟨a1, a2, a3.step hstep fun ad ha h0 hF => (a4 ad ha h0).2 hF.symm, fun ad ha h0 => ⟨(a4 ad ha h0).1, fun e => ?_⟩⟩
    rcases hat with hat | hat
    · exact (a4 ad ha h0).2 (hat ▸ e)
    · rw [hat] at e
      have := a3.blk ha h0
      simp at e
      omega
theorem OwnW4.shape' {w : World} {base : Nat} {v : Value} {ws : List (Int × List Int)} (h : OwnW4 w base v ws) : ∃ A n c, v = .slice A n c := by
  obtain ⟨A, c, h1, _⟩ := h.shape
  exact ⟨A, _, c, h1⟩
theorem BB.ownW4 {w0 wr w1 : World} {base : Nat} {v : Value} {ws : List (Int × List Int)} (h : BB w0 wr) (HO : OwnW4 wr base v ws) (hb : w0.heap.size ≤ base) (hs : Step (fun k => some k = v.ownBlock) wr w1) : BB w0 w1 :=
  ⟨h.b.trans (hs.below h.size fun k hk e => by have := (HO.lt k e.symm).1; omega)⟩
theorem OwnW4.mono {w : World} {base base' : Nat} {v : Value} {ws : List (Int × List Int)} (h : OwnW4 w base v ws) (hb : base' ≤ base) : OwnW4 w base' v ws := by
  obtain ⟨zs, h0, h1, h2⟩ := h.o
  refine ⟨zs, h0, ⟨h1.1, ?_⟩, fun z hz => ?_⟩
  · rcases h1.2 with h3 | ⟨g, cap, cur, rfl, hb2, hg, hr⟩
    · exact .inl h3
    · exact .inr ⟨g, cap, cur, rfl, by omega, hg, hr⟩
  · obtain ⟨a1, a2, a3, a4⟩ := h2 z hz
    exact ⟨a1, a2, a3, fun ad ha h0 => ⟨by have := (a4 ad ha h0).1; omega, (a4 ad ha h0).2⟩⟩
theorem OwnW4.get {w : World} {base : Nat} {v : Value} {ws : List (Int × List Int)} (h : OwnW4 w base v ws) {j : Nat} (hj : j < ws.length) :
    ∃ g cap q, v = .slice (some ⟨g, 0, none⟩) ws.length cap ∧ ws.length ≤ cap ∧ base ≤ g ∧ w.cell? ⟨g, j * 2, none⟩ = some (.int .i64 q.1) ∧ w.cell? ⟨g, j * 2 + 1, none⟩ = some (.slice q.2.1 q.2.2.1 q.2.2.2) ∧ WOk w base v (q, ws[j]) := by
  obtain ⟨zs, h0, h1, h2⟩ := h.o
  have hzl : zs.length = ws.length := by rw [← h0, List.length_map]
  rcases h1.2 with ⟨_, hn⟩ | ⟨g, cap, cur, rfl, hb, hg, hc, hm, hs, ht⟩
  · omega
  · have hjz : j < zs.length := by omega
    have hz : zs[j] = (zs[j].1, ws[j]) := by
      have : (zs.map Prod.snd)[j]'(by rw [List.length_map]; exact hjz) = ws[j] := by simp only [h0]
      rw [List.getElem_map] at this
      rw [← this]
    have hcell : ∀ t, t < 2 → w.cell? ⟨g, j * 2 + t, none⟩ = (wpCells zs[j].1)[t]? := fun t ht2 => by
      rw [cell_of_row w g (j * 2 + t) cur _ _ hg]
      have e := flat2_get (fun z : WP × (Int × List Int) => wpCells z.1) (fun z => rfl) zs (j * 2 + t)
      rw [show (j * 2 + t) / 2 = j by omega, show (j * 2 + t) % 2 = t by omega, List.getElem?_eq_getElem hjz] at e
      rw [← Array.getElem?_toList, ← List.getElem?_take_of_lt (l := cur.toList) (i := j * 2 + t) (j := ws.length * 2) (by omega), ht]
      exact e
    exact ⟨g, cap, zs[j].1, rfl, hc, hb, (hcell 0 (by omega)), (hcell 1 (by omega)), hz ▸ h2 zs[j] (List.getElem_mem hjz)⟩
section
variable {ops : Array Oper} {rest : List Oper} {o : Oper} {a : Act} {Q : Exit → Act → World → Prop}
/-- append(out, w) of a document's walk. -/
theorem app_walk4 {W : World} (base : Nat) (ws : List (Int × List Int)) (v : Value) (HO : OwnW4 W base v ws) (q : WP) (u : Int × List Int) (hu : WOk W base v (q, u)) {s x : Operand} (hgd : o.guard = none)
    (ho : o.op = .call { callee := .builtin .append, args := #[s, x], argTypes := #[42, 42] }) (hs : a.eval s = v) (hx : a.eval x = .slice (some ⟨W.heap.size, 0, none⟩) 1 1)
    (hbase : base ≤ W.heap.size) (hl : ws.length < 1099511627776)
    (h : ∀ v1 w1, OwnW4 w1 base v1 (ws ++ [u]) → Step (fun k => some k = v.ownBlock) W w1 → wpList Tryz.prog ops Q rest (a.put o.dst v1) w1) :
    wpList Tryz.prog ops Q (o :: rest) a (W.alloc (.cells #[.int .i64 q.1, .slice q.2.1 q.2.2.1 q.2.2.2] 46)) :=
  wpList_plain hgd fun K hK => by
    obtain ⟨v1, w1, hr, h1, h2⟩ := app_walk_run4 base ws v HO q u hu ho hs hx hbase hl
    unfold Oper.wp
    rw [hr]
    exact hK _ _ (h v1 w1 h1 h2)
end

theorem add_mod_if {a b n : Nat} (ha : a < n) (hb : b < n) : (a + b) % n = if a + b < n then a + b else a + b - n := by
  split
  · rename_i h; exact Nat.mod_eq_of_lt h
  · rw [Nat.mod_eq_sub_mod (by omega), Nat.mod_eq_of_lt (by omega)]
theorem next_raw {g : Gr} {p : Pt} {tn : List (List Int)} (ht : Turns g p tn) {d : Int} (hd : d ∈ dartsAll p.E) :
    ∃ i : Nat, idx (gl tn (tailD g (twinI d)).toNat) (twinI d) = (i : Int) ∧ i < (gl tn (tailD g (twinI d)).toNat).length ∧ gi (gl tn (tailD g (twinI d)).toNat) (((i : Int) + -1) % (gl tn (tailD g (twinI d)).toNat).length).toNat = nextD (tn.map firstR) (atF tn) d := by
  obtain ⟨j, h1, h2, h3⟩ := ht.next hd
  have h4 := ht.tail _ (twinI_mem hd)
  have hn := ht.row_nd (k := (tailD g (twinI d)).toNat) (by omega)
  generalize gl tn (tailD g (twinI d)).toNat = row at *
  rw [firstR_len] at h1 h3
  have hne : 0 < row.length := by omega
  obtain ⟨m, k1, k2, k3, _⟩ := gi_idx (minL_mem hne)
  have hr : firstR row = rot row m := by unfold firstR; rw [k1, Int.toNat_natCast]
  rw [hr, gi_rot (by omega) h1] at h2
  have hl : (m + j) % row.length < row.length := Nat.mod_lt _ hne
  refine ⟨(m + j) % row.length, ?_, hl, ?_⟩
  · have h5 := idx_gi hn hl
    rw [h2] at h5
    exact h5
  · rw [h3, hr, gi_rot (by omega) (by split <;> omega), prevI (by omega) (by omega)]
    congr 1
    rw [add_mod_if k2 h1, add_mod_if k2 (by split <;> omega)]
    split <;> split <;> split <;> split <;> omega
theorem tail4_tailD (g : Gr) (t : Nat) : tail4 g t = tailD g (t : Int) := by
  unfold tail4 tailD Gr.edge ge
  by_cases h : t % 2 = 0
  · rw [if_pos h, if_pos (by omega)]
    congr 2
  · rw [if_neg h, if_neg (by omega)]
    congr 2
theorem nextW_any (g : Gr) (p : Pt) (tn : List (List Int)) (ht : Turns g p tn) (hE : ∀ x ∈ p.E, 0 ≤ x ∧ x < (g.E.length : Int)) (d : Int) (hd : d ∈ dartsAll p.E) (A A3 : Option Addr) (c c3 : Nat) (w : World) (hA : RE w A g.E.length g.E) (h3 : RL w A3 tn.length tn) :
    Calls Tryz.prog 58 #[.agg #[.int .i64 g.N, .slice A g.E.length c], .slice A3 tn.length c3, .int .i64 d] w fun e w' => e = .returned (.int .i64 (nextD (tn.map firstR) (atF tn) d)) ∧ BB w w' := by
  obtain ⟨i, h1, h2, h4⟩ := next_raw ht hd
  have hpos := ht.pos d hd
  have hpt := ht.pos _ (twinI_mem hd)
  have htl := ht.tail _ (twinI_mem hd)
  obtain ⟨e, he, hde⟩ := mem_dartsAll'.1 (twinI_mem hd)
  have hee := hE e he
  obtain ⟨dn, rfl⟩ : ∃ dn : Nat, d = (dn : Int) := ⟨d.toNat, by omega⟩
  obtain ⟨t, hte⟩ : ∃ t : Nat, twinI (dn : Int) = (t : Int) := ⟨(twinI (dn : Int)).toNat, by omega⟩
  rw [hte] at h1 h2 h4 htl hde
  have hv : tail4 g t = (((tailD g (t : Int)).toNat : Nat) : Int) := by rw [tail4_tailD]; omega
  have := next4_any g tn dn t (tailD g (t : Int)).toNat i hte (by omega) (by omega) hv (by omega) h1 h2 A A3 c c3 w hA h3
  rw [h4] at this
  exact this

theorem gi_dartsAll : ∀ (E : List Int) (k : Nat), k < 2 * E.length → gi (dartsAll E) k = 2 * gi E (k / 2) + ((k % 2 : Nat) : Int) := by
  intro E
  induction E with
  | nil => intro k hk; simp at hk
  | cons e E ih =>
    intro k hk
    rw [dartsAll_cons]
    rcases k with _ | _ | k
    · simp [gi]
    · simp [gi]
    · have := ih k (by simp only [List.length_cons] at hk; omega)
      have e1 : (k + 1 + 1) / 2 = k / 2 + 1 := by omega
      have e2 : (k + 1 + 1) % 2 = k % 2 := by omega
      rw [e1, e2]
      simpa [gi] using this
theorem docW_take {nx : Int → Int} {E : List Int} {k : Nat} (hk : k < (dartsAll E).length) : ((dartsAll E).take (k + 1)).flatMap (oneD nx) = ((dartsAll E).take k).flatMap (oneD nx) ++ oneD nx (gi (dartsAll E) k) := by
  rw [List.take_succ_eq_append_getElem hk, List.flatMap_append, gi_eq hk]
  simp
theorem oneD_len (nx : Int → Int) (ds : List Int) : (ds.flatMap (oneD nx)).length ≤ ds.length := by
  induction ds with
  | nil => exact Nat.le_refl _
  | cons d ds ih =>
    rw [List.flatMap_cons, List.length_append, List.length_cons]
    have : (oneD nx d).length ≤ 1 := by unfold oneD; split <;> simp
    omega
theorem gi_reverse {xs : List Int} {m : Nat} (hm : m < xs.length) : gi xs.reverse (xs.length - (m + 1)) = gi xs m := by
  rw [gi_eq (by rw [List.length_reverse]; omega), gi_eq hm, List.getElem_reverse]
  congr 1
  omega

def lenV : Value → Nat
  | .slice _ n _ => n
  | _ => 0
set_option maxHeartbeats 4000000 in
theorem walks7_any (g : Gr) (p : Pt) (tn : List (List Int)) (h0 : g.rotaErr p tn = 0) (A A1 A2 A3 : Option Addr) (c c1 c2 c3 : Nat) (w : World) (hA : RE w A g.E.length g.E) (h1 : RI w A1 p.V.length p.V) (h2 : RI w A2 p.E.length p.E) (h3 : RL w A3 tn.length tn) :
    Calls Tryz.prog 21 #[.agg #[.int .i64 g.N, .slice A g.E.length c], .agg #[.slice A1 p.V.length c1, .slice A2 p.E.length c2], .slice A3 tn.length c3] w fun e w' => (∃ u, e = .returned u ∧ OwnW4 w' w.heap.size u (docW (nextD (tn.map firstR) (atF tn)) tn p)) ∧ Below w.heap.size w w' := by
  have HA := Bx.mk hA
  have H1 := Bx.mk h1
  have H2 := Bx.mk h2
  have H3 := Bx.mk h3
  have hle3 := h3.le
  have HT := Bx.mk (turns_of h0)
  have hE : Bx (∀ x ∈ p.E, 0 ≤ x ∧ x < (g.E.length : Int)) := ⟨fun x hx => by have := (risesF_sound _ _ _ (Gr.rightPart_ok (rotaErr_part h0).1).2.2.1).2 x hx; omega⟩
  have hV : Bx (∀ x ∈ p.V, 0 ≤ x ∧ x < (tn.length : Int)) := ⟨fun x hx => by have h4 := (risesF_sound _ _ _ (Gr.rightPart_ok (rotaErr_part h0).1).2.1).2 x hx; have h5 := (rotaErr_part h0).2.1; omega⟩
  obtain ⟨hvl, hel⟩ := verts_len h0
  have hgl : g.E.length ≤ 1024 := by have := Gr.right_ok (Gr.rightPart_ok (rotaErr_part h0).1).1; omega
  have htl : tn.length ≤ 1024 := by have h4 := Gr.right_ok (Gr.rightPart_ok (rotaErr_part h0).1).1; have h5 := (rotaErr_part h0).2.1; omega
  generalize hnx : nextD (tn.map firstR) (atF tn) = nx
  have HNX := Bx.mk hnx
  clear hA h1 h2 h3 hnx
  have BA := Bx.mk (((BB.refl w).al (.cells #[.int .i64 g.N, .slice A g.E.length c] 24)).al (.cells #[.slice A1 p.V.length c1, .slice A2 p.E.length c2] 27))
  have hG1 := box_cell1 w #[.int .i64 g.N, .slice A g.E.length c] 24 (0, 0) (.cells #[.slice A1 p.V.length c1, .slice A2 p.E.length c2] 27) 0
  have hG2 := box_cell1 w #[.int .i64 g.N, .slice A g.E.length c] 24 (0, 0) (.cells #[.slice A1 p.V.length c1, .slice A2 p.E.length c2] 27) 1
  have hP1 := box_cell2 w #[.slice A1 p.V.length c1, .slice A2 p.E.length c2] 27 (0, 0) (.cells #[.int .i64 g.N, .slice A g.E.length c] 24) 0
  have hP2 := box_cell2 w #[.slice A1 p.V.length c1, .slice A2 p.E.length c2] 27 (0, 0) (.cells #[.int .i64 g.N, .slice A g.E.length c] 24) 1
  have HB := Bx.mk (And.intro hG1 (And.intro hG2 (And.intro hP1 hP2)))
  clear hG1 hG2 hP1 hP2
  have hz0 : Bx ((((w.alloc (.cells #[.int .i64 g.N, .slice A g.E.length c] 24)).alloc (.cells #[.slice A1 p.V.length c1, .slice A2 p.E.length c2] 27))).heap.size = w.heap.size + 2) := ⟨by simp⟩
  go_enter Tryz.func21, Tryz.ntmps21
  go_wp2
  generalize hw0 : ((w.alloc (.cells #[.int .i64 g.N, .slice A g.E.length c] 24)).alloc (.cells #[.slice A1 p.V.length c1, .slice A2 p.E.length c2] 27)) = w0 at *
  have hq1 := HB.out.2.2.1
  clear hw0
  go_loopw [8, 7] (fun iv ov wr => ∃ m : Nat, m ≤ p.V.length ∧ iv = .int .i64 ((m : Int) - 1) ∧ OwnW4 wr (w.heap.size + 2) ov (lonesF tn (p.V.reverse.take (p.V.length - m))) ∧ BB w0 wr) (fun iv _ _ => (intOf iv + 1).toNat)
  case atStart => exact ⟨p.V.length, Nat.le_refl _, rfl, by rw [Nat.sub_self]; exact OwnW4.nil _ _, BB.refl _⟩
  case round =>
    obtain ⟨m, hm, rfl, HO, HBr⟩ := hrel
    rcases m with _ | m
    · rw [Nat.sub_zero, show p.V.reverse.take p.V.length = p.V.reverse from List.take_of_length_le (by rw [List.length_reverse]; exact Nat.le_refl _)] at HO
      have hP2 := HBr.cell HB.out.2.2.2
      obtain ⟨z, hzz⟩ : ∃ z : Int, Bx (((0 : Nat) : Int) - 1 = z) := ⟨_, ⟨rfl⟩⟩
      have hzn : ¬ (0 ≤ z) := by have := hzz.out; omega
      simp only [hzz.out]
      have HLN : Bx ((lonesF tn p.V.reverse).length ≤ 1024) := ⟨by have := lonesF_len tn p.V.reverse; rw [List.length_reverse] at this; omega⟩
      have HDL : Bx ((dartsAll p.E).length = 2 * p.E.length) := ⟨dartsAll_len _⟩
      go_wp2
      rename World => wl
      go_loopw [9, 7] (fun iv ov wr => ∃ k : Nat, k ≤ 2 * p.E.length ∧ iv = .int .i64 k ∧ OwnW4 wr (w.heap.size + 2) ov (lonesF tn p.V.reverse ++ ((dartsAll p.E).take k).flatMap (oneD nx)) ∧ BB w0 wr) (fun iv _ _ => 2 * p.E.length - (intOf iv).toNat)
      case atStart => exact ⟨0, Nat.zero_le _, rfl, by simpa using HO, HBr⟩
      case round =>
        rename World => wo
        obtain ⟨k, hk, rfl, HO2, HBo⟩ := hrel
        clear hP2 HO HBr
        have hP2 := HBo.cell HB.out.2.2.2
        have hzo := HBo.size
        rw [hz0.out] at hzo
        by_cases hlt : k < 2 * p.E.length
        · have HWo := Bx.mk (BA.out.trans HBo)
          have HTK := Bx.mk (docW_take (nx := nx) (E := p.E) (k := k) (by rw [HDL.out]; exact hlt))
          have HDK := Bx.mk (gi_dartsAll p.E k hlt)
          have HDM : Bx (gi (dartsAll p.E) k ∈ dartsAll p.E) := ⟨gi_mem (by rw [HDL.out]; exact hlt)⟩
          have HPER := Bx.mk (perN_spec (HT.out.perm1.period' HDM.out HT.out.len))
          rw [HNX.out] at HPER
          have hpos := HT.out.pos _ HDM.out
          have HLL : Bx ((lonesF tn p.V.reverse ++ ((dartsAll p.E).take k).flatMap (oneD nx)).length < 1099511627776) := ⟨by
            have e1 := oneD_len nx ((dartsAll p.E).take k)
            have e2 := HLN.out
            rw [List.length_take, HDL.out] at e1
            rw [List.length_append]
            omega⟩
          obtain ⟨q, hq⟩ : ∃ q : Nat, Bx (k / 2 = q) := ⟨_, ⟨rfl⟩⟩
          obtain ⟨r, hr⟩ : ∃ r : Nat, Bx (k % 2 = r) := ⟨_, ⟨rfl⟩⟩
          have hql : q < p.E.length := by have := hq.out; omega
          have hrl : r < 2 := by have := hr.out; omega
          have hqq : Int.tdiv (k : Int) 2 = (q : Int) := by rw [Int.tdiv_eq_ediv_of_nonneg (by omega)]; have := hq.out; omega
          have hmm : Int.tmod (k : Int) 2 = (r : Int) := by rw [Int.tmod_eq_emod_of_nonneg (by omega)]; have := hr.out; omega
          obtain ⟨b2, off2, rfl, hcl⟩ := (HWo.out.ri H2.out).at (by omega)
          have hcq := hcl q hql
          have hex := hE.out _ (gi_mem hql)
          obtain ⟨x, hx⟩ : ∃ x : Nat, Bx (gi p.E q = (x : Int)) := ⟨(gi p.E q).toNat, ⟨by omega⟩⟩
          rw [hx.out] at hcq hex
          rw [hq.out, hr.out, hx.out] at HDK
          rw [HDK.out] at HTK HDM HPER hpos
          obtain ⟨d, hd⟩ : ∃ d : Int, Bx (2 * (x : Int) + (r : Int) = d) := ⟨_, ⟨rfl⟩⟩
          rw [hd.out] at HTK HDM HPER hpos HDK
          have hd2 := hd.out
          have HO3 := Bx.mk HO2
          have HNE : Bx (∀ e ∈ dartsAll p.E, ∀ W, BB w0 W → Calls Tryz.prog 58 #[.agg #[.int .i64 g.N, .slice A g.E.length c], .slice A3 tn.length c3, .int .i64 e] W fun e2 w' => e2 = .returned (.int .i64 (nx e)) ∧ BB W w') := ⟨fun e he W hW => by
            have := nextW_any g p tn HT.out hE.out e he A A3 c c3 W ((BA.out.trans hW).re HA.out) ((BA.out.trans hW).rl H3.out)
            rw [HNX.out] at this
            exact this⟩
          clear hcl HO2
          have hw1 : IntKind.i64.wrap (2 * (x : Int)) = 2 * (x : Int) := wrap_id4 (by omega) (by omega)
          have hw2 : IntKind.i64.wrap (2 * (x : Int) + (r : Int)) = d := by rw [hd2]; exact wrap_id4 (by omega) (by omega)
          obtain ⟨n, hn⟩ : ∃ n : Nat, Bx (perN nx 2048 d = n) := ⟨_, ⟨rfl⟩⟩
          have HPN := HPER.out
          rw [hn.out] at HPN
          obtain ⟨hn0, hn1, hn2, hn3⟩ := HPN
          have HP1 := Bx.mk HT.out.perm1
          rw [HNX.out] at HP1
          have HN2 := Bx.mk hn2
          have HN3 := Bx.mk hn3
          clear HPER hn2 hn3
          have hg1 := (HBo.al (.cells #[.int .i64 d] 3)).cell HB.out.1
          have hg2 := (HBo.al (.cells #[.int .i64 d] 3)).cell HB.out.2.1
          go_wp2_with (go_at_call 58; (with_reducible refine (HNE.out d HDM.out _ (HBo.al _)).mono ?_); rintro e w5 ⟨rfl, hb5⟩)
          have HI5 := Bx.mk ((OwnI.lit1 wo wo.heap.size d (Nat.le_refl _)).below hb5.b)
          have HB5 := Bx.mk (((BB.refl wo).al (.cells #[.int .i64 d] 3)).trans hb5)
          clear hb5 hg1 hg2 hd2 hw1 hw2 hqq hmm hcq hex
          go_loopw [13, 11, 12] (fun xv lv bv wi => ∃ (j : Nat) (A7 : Option Addr) (c7 : Nat), j < n ∧ xv = .int .i64 (it nx (j + 1) d) ∧ lv = .slice A7 (j + 1) c7 ∧ OwnI wi wo.heap.size (.slice A7 (j + 1) c7) (orbL nx (j + 1) d) ∧ bv = .bool (LT4 nx d j) ∧ BB wo wi) (fun xv lv bv _ => n - lenV lv)
          case atStart => exact ⟨0, some ⟨wo.heap.size, 0, none⟩, 1, hn0, rfl, rfl, HI5.out, rfl, HB5.out⟩
          case round =>
            rename World => wi
            obtain ⟨j, A7, c7, hj, rfl, rfl, HO4, rfl, HBi⟩ := hrel
            have hzi := HBi.size
            have HY2 : Bx (it nx (j + 1 + 1) d = nx (it nx (j + 1) d)) := ⟨rfl⟩
            have HLT : Bx (LT4 nx d (j + 1) = (LT4 nx d j && decide (d < it nx (j + 1) d))) := ⟨rfl⟩
            have HORB : Bx (orbL nx (j + 1 + 1) d = orbL nx (j + 1) d ++ [it nx (j + 1) d]) := ⟨orbL_succ _ _ _⟩
            have HOL : Bx ((orbL nx (j + 1) d).length = j + 1) := ⟨orbL_len _ _ _⟩
            have HLB : Bx ((orbL nx (j + 1) d).length < 1099511627776) := ⟨by rw [HOL.out]; omega⟩
            have HO5 := Bx.mk HO4
            clear HO4
            by_cases hjn : j + 1 < n
            · have HDJ : Bx (it nx (j + 1) d ∈ dartsAll p.E) := ⟨HP1.out.it_mem HDM.out _⟩
              have hne : (it nx (j + 1) d != d) = true := by simpa using HN3.out (j + 1) (by omega) hjn
              obtain ⟨y, hy⟩ : ∃ y : Int, Bx (it nx (j + 1) d = y) := ⟨_, ⟨rfl⟩⟩
              rw [hy.out] at HY2 HLT HORB HDJ
              simp only [hy.out] at hne ⊢
              have HLE : Bx ((orbL nx (j + 1) d ++ [y]).length = j + 1 + 1) := ⟨by rw [List.length_append, HOL.out]; rfl⟩
              have HLE8 : Bx ((orbL nx (j + 1) d ++ [y]).length ≤ 17592186044416) := ⟨by rw [HLE.out]; omega⟩
              cases hlj : LT4 nx d j with
              | true =>
                rw [hlj] at HLT
                by_cases hgt : d < y
                · have HBOOL : Bx (LT4 nx d (j + 1) = true) := ⟨by rw [HLT.out]; simp [hgt]⟩
                  go_wp2_with (first
                    | (at_builtin; refine app_int wo.heap.size _ _ HO5.out y rfl rfl rfl rfl (by omega) HLB.out ?_; intro v1 w3 ho3 hs3 hb3; have HB3 := HBi.own HO5.out (Nat.le_refl _) hs3; have hg1 := (HBo.trans HB3).cell HB.out.1; have hg2 := (HBo.trans HB3).cell HB.out.2.1; obtain ⟨A8, c8, hv8, -, -, -⟩ := ho3.read HLE8.out; rw [HLE.out] at hv8; subst hv8)
                    | (go_at_call 58; (with_reducible refine (HNE.out y HDJ.out _ (HBo.trans HB3)).mono ?_); rintro e w6 ⟨rfl, hb6⟩)
                    | fail)
                  go_roundw
                  case rel => exact ⟨j + 1, A8, c8, hjn, by rw [HY2.out], rfl, by rw [HORB.out]; exact ho3.below hb6.b, by rw [HBOOL.out], HB3.trans hb6⟩
                  case measure => simp [lenV]; omega
                · have HBOOL : Bx (LT4 nx d (j + 1) = false) := ⟨by rw [HLT.out]; simp [hgt]⟩
                  go_wp2_with (first
                    | (at_builtin; refine app_int wo.heap.size _ _ HO5.out y rfl rfl rfl rfl (by omega) HLB.out ?_; intro v1 w3 ho3 hs3 hb3; have HB3 := HBi.own HO5.out (Nat.le_refl _) hs3; have hg1 := (HBo.trans HB3).cell HB.out.1; have hg2 := (HBo.trans HB3).cell HB.out.2.1; obtain ⟨A8, c8, hv8, -, -, -⟩ := ho3.read HLE8.out; rw [HLE.out] at hv8; subst hv8)
                    | (go_at_call 58; (with_reducible refine (HNE.out y HDJ.out _ (HBo.trans HB3)).mono ?_); rintro e w6 ⟨rfl, hb6⟩)
                    | fail)
                  go_roundw
                  case rel => exact ⟨j + 1, A8, c8, hjn, by rw [HY2.out], rfl, by rw [HORB.out]; exact ho3.below hb6.b, by rw [HBOOL.out], HB3.trans hb6⟩
                  case measure => simp [lenV]; omega
              | false =>
                rw [hlj] at HLT
                have HBOOL : Bx (LT4 nx d (j + 1) = false) := ⟨by rw [HLT.out]; rfl⟩
                go_wp2_with (first
                  | (at_builtin; refine app_int wo.heap.size _ _ HO5.out y rfl rfl rfl rfl (by omega) HLB.out ?_; intro v1 w3 ho3 hs3 hb3; have HB3 := HBi.own HO5.out (Nat.le_refl _) hs3; have hg1 := (HBo.trans HB3).cell HB.out.1; have hg2 := (HBo.trans HB3).cell HB.out.2.1; obtain ⟨A8, c8, hv8, -, -, -⟩ := ho3.read HLE8.out; rw [HLE.out] at hv8; subst hv8)
                  | (go_at_call 58; (with_reducible refine (HNE.out y HDJ.out _ (HBo.trans HB3)).mono ?_); rintro e w6 ⟨rfl, hb6⟩)
                  | fail)
                go_roundw
                case rel => exact ⟨j + 1, A8, c8, hjn, by rw [HY2.out], rfl, by rw [HORB.out]; exact ho3.below hb6.b, by rw [HBOOL.out], HB3.trans hb6⟩
                case measure => simp [lenV]; omega
            · have hjj : n = j + 1 := by omega
              subst hjj
              have hne : (it nx (j + 1) d != d) = false := by rw [HN2.out]; simp
              have HTK2 : Bx (((dartsAll p.E).take (k + 1)).flatMap (oneD nx) = ((dartsAll p.E).take k).flatMap (oneD nx) ++ if LT4 nx d j then [(d, orbL nx (j + 1) d)] else []) := ⟨by rw [HTK.out]; unfold oneD; rw [hn.out, Nat.add_sub_cancel]⟩
              simp only [HN2.out] at hne ⊢
              cases hlj : LT4 nx d j with
              | true =>
                have HTK3 : Bx (lonesF tn p.V.reverse ++ ((dartsAll p.E).take (k + 1)).flatMap (oneD nx) = (lonesF tn p.V.reverse ++ ((dartsAll p.E).take k).flatMap (oneD nx)) ++ [(d, orbL nx (j + 1) d)]) := ⟨by rw [HTK2.out, hlj, if_pos rfl, List.append_assoc]⟩
                clear hlj
                have HO6 := Bx.mk (HO3.out.below HBi.b)
                obtain ⟨A7', c7', hv7, hle7, hr7, hown7⟩ := HO5.out.read (by rw [HOL.out]; omega)
                rw [HOL.out] at hv7
                cases hv7
                rw [HOL.out] at hle7 hr7
                have HWOK : Bx (WOk wi (w.heap.size + 2) u7 ((d, A7, j + 1, c7), (d, orbL nx (j + 1) d))) := ⟨rfl, hle7, hr7, fun ad ha h0 => ⟨by have := (hown7 ad ha).1; omega, fun e => by have h1 := (hown7 ad ha).1; have h2 := (HO3.out.lt _ e).2; omega⟩⟩
                clear hr7 hown7
                go_wp2_with (at_builtin; refine app_walk4 (w.heap.size + 2) _ _ HO6.out (d, A7, j + 1, c7) (d, orbL nx (j + 1) d) HWOK.out rfl rfl rfl rfl (by omega) HLL.out ?_; intro v1 w3 ho3 hs3; have HB3 := (HBo.trans HBi).ownW4 HO6.out (by rw [hz0.out]; exact Nat.le_refl _) hs3)
                go_roundw
                case rel => exact ⟨k + 1, hlt, by go_num, by rw [HTK3.out]; exact ho3, HB3⟩
                case measure => simp [intOf]; omega
              | false =>
                have HTK3 : Bx (lonesF tn p.V.reverse ++ ((dartsAll p.E).take (k + 1)).flatMap (oneD nx) = lonesF tn p.V.reverse ++ ((dartsAll p.E).take k).flatMap (oneD nx)) := ⟨by rw [HTK2.out, hlj]; simp⟩
                clear hlj
                go_wp2
                go_roundw
                case rel => exact ⟨k + 1, hlt, by go_num, by rw [HTK3.out]; exact HO3.out.below HBi.b, HBo.trans HBi⟩
                case measure => simp [intOf]; omega
        · have hkk : k = 2 * p.E.length := by omega
          subst hkk
          have hall : Bx (docW nx tn p = lonesF tn p.V.reverse ++ ((dartsAll p.E).take (2 * p.E.length)).flatMap (oneD nx)) := ⟨by unfold docW; rw [List.take_of_length_le (by rw [HDL.out]; exact Nat.le_refl _)]⟩
          go_wp2
          go_ret
          exact ⟨⟨_, rfl, by rw [hall.out]; exact HO2.mono (by omega)⟩, (BA.out.trans HBo).b⟩
    · have em : ((((m + 1 : Nat)) : Int) - 1) = (m : Int) := by omega
      simp only [em]
      have hmv : m < p.V.length := by omega
      have hP1 := HBr.cell HB.out.2.2.1
      have hz := HBr.size
      rw [hz0.out] at hz
      have HWr := Bx.mk (BA.out.trans HBr)
      obtain ⟨b1, off1, rfl, hcl⟩ := (HWr.out.ri H1.out).at (by omega)
      have hcm := hcl m hmv
      have hvx := hV.out _ (gi_mem hmv)
      have HTK : Bx (lonesF tn (p.V.reverse.take (p.V.length - m)) = lonesF tn (p.V.reverse.take (p.V.length - (m + 1))) ++ if (atL tn (gi p.V m)).length = 0 then [(-1 - gi p.V m, [])] else []) := ⟨by
        have := lonesF_take (tn := tn) (V := p.V.reverse) (k := p.V.length - (m + 1)) (by rw [List.length_reverse]; omega)
        rw [gi_reverse hmv] at this
        rw [← this]
        congr 2
        omega⟩
      have HLL : Bx ((lonesF tn (p.V.reverse.take (p.V.length - (m + 1)))).length < 1099511627776) := ⟨by have := lonesF_len tn (p.V.reverse.take (p.V.length - (m + 1))); rw [List.length_take, List.length_reverse] at this; omega⟩
      obtain ⟨x, hx⟩ : ∃ x : Nat, Bx (gi p.V m = (x : Int)) := ⟨(gi p.V m).toNat, ⟨by omega⟩⟩
      rw [hx.out] at hcm hvx HTK
      have hxl : x < tn.length := by omega
      have hatl : Bx (atL tn (x : Int) = gl tn x) := ⟨by unfold atL; rw [if_pos (by omega)]; rfl⟩
      rw [hatl.out] at HTK
      obtain ⟨b3, off3, a5, m5, c5, rfl, hc5, hmc5, hr5⟩ := (HWr.out.rl H3.out).get hxl
      have hm5 := hr5.len
      subst hm5
      have hle5 := hr5.le
      clear hcl hr5
      have HO1 := Bx.mk HO
      clear HO
      by_cases he : (gl tn x).length = 0
      · have HTK2 : Bx (lonesF tn (p.V.reverse.take (p.V.length - m)) = lonesF tn (p.V.reverse.take (p.V.length - (m + 1))) ++ [(-1 - (x : Int), [])]) := ⟨by rw [HTK.out, if_pos he]⟩
        have heb : (((gl tn x).length : Int) == 0) = true := by rw [he]; rfl
        go_wp2_with (at_builtin; refine app_walk4 (w.heap.size + 2) _ _ HO1.out ((-1 - (x : Int)), none, 0, 0) (-1 - (x : Int), []) ⟨rfl, Nat.le_refl _, RI.nil _ _, fun _ h => by cases h⟩ rfl rfl rfl rfl (by omega) HLL.out ?_; intro v1 w3 ho3 hs3; have HB3 := HBr.ownW4 HO1.out (by rw [hz0.out]; exact Nat.le_refl _) hs3)
        go_roundw
        case rel => exact ⟨m, by omega, rfl, by rw [HTK2.out]; exact ho3, HB3⟩
        case measure => simp [intOf]
      · have HTK2 : Bx (lonesF tn (p.V.reverse.take (p.V.length - m)) = lonesF tn (p.V.reverse.take (p.V.length - (m + 1)))) := ⟨by rw [HTK.out, if_neg he, List.append_nil]⟩
        have heb : (((gl tn x).length : Int) == 0) = false := by rw [beq_eq_false_iff_ne]; omega
        go_wp2
        go_roundw
        case rel => exact ⟨m, by omega, rfl, by rw [HTK2.out]; exact HO1.out, HBr⟩
        case measure => simp [intOf]

set_option maxHeartbeats 4000000 in
theorem key7_any (us : List (Int × List Int)) (d : Int) (base : Nat) (v : Value) (w : World) (hO : OwnW4 w base v us) (hul : us.length ≤ 1048576) :
    Calls Tryz.prog 22 #[v, .int .i64 d] w fun e w' => e = .returned (.tuple #[.int .i64 (keyF d us).1, .bool (keyF d us).2]) ∧ w = w' := by
  obtain ⟨A4, c4, hv4, hc4⟩ := hO.shape
  subst hv4
  have HOW := Bx.mk hO
  clear hO
  go_enter Tryz.func22, Tryz.ntmps22
  go_wp2
  go_loopw [6] (fun iv wr => ∃ k : Nat, k ≤ us.length ∧ iv = .int .i64 k ∧ Bx (keyF d (us.drop k) = keyF d us) ∧ w = wr) (fun iv _ => us.length - (intOf iv).toNat)
  case atStart => exact ⟨0, Nat.zero_le _, rfl, ⟨rfl⟩, rfl⟩
  case round =>
    obtain ⟨k, hk, rfl, HK, rfl⟩ := hrel
    by_cases hlt : k < us.length
    · obtain ⟨g5, cap5, ⟨kq, aq, mq, cq⟩, hv5, -, -, hk1, hk2, hwk1, hmq, hrq, -⟩ := HOW.out.get hlt
      dsimp only at hk1 hk2 hwk1 hmq hrq
      cases hv5
      have HKD := Bx.mk (keyF_drop (d := d) hlt)
      generalize us[k] = u at *
      obtain ⟨key, ds⟩ := u
      dsimp only at hwk1 hrq HKD
      rw [hwk1] at hk1
      clear hwk1
      have HRQ := Bx.mk hrq
      clear hrq
      by_cases he : key = d
      · have hb : ((key : Int) == d) = true := by simp [he]
        have HR : Bx (keyF d us = (key, true)) := ⟨by rw [← HK.out, HKD.out]; unfold ofW; simp [he]⟩
        clear he
        go_wp2
        go_ret2
        exact ⟨by rw [HR.out]; rfl, rfl⟩
      · have hb : ((key : Int) == d) = false := by simp [he]
        by_cases hm : d ∈ ds
        · have HR : Bx (keyF d us = (key, true)) := ⟨by rw [← HK.out, HKD.out]; unfold ofW; simp [hm]⟩
          have hdm : Bx (decide (d ∈ ds) = true) := ⟨by simp [hm]⟩
          clear he hm
          go_wp2_with (go_at_call 32; (with_reducible refine (in_any ds d aq mq cq _ HRQ.out).mono ?_); rintro e w5 ⟨rfl, rfl⟩; rw [hdm.out])
          go_ret2
          exact ⟨by rw [HR.out]; rfl, rfl⟩
        · have HR : Bx (keyF d (us.drop (k + 1)) = keyF d us) := ⟨by rw [← HK.out, HKD.out]; unfold ofW; simp [he, hm]⟩
          have hdm : Bx (decide (d ∈ ds) = false) := ⟨by simp [hm]⟩
          clear he hm
          go_wp2_with (go_at_call 32; (with_reducible refine (in_any ds d aq mq cq _ HRQ.out).mono ?_); rintro e w5 ⟨rfl, rfl⟩; rw [hdm.out])
          go_roundw
          case rel => exact ⟨k + 1, hlt, by go_num, HR, trivial⟩
          case measure => simp [intOf]; omega
    · have HR : Bx (keyF d us = (0, false)) := ⟨by rw [← HK.out, List.drop_of_length_le (by omega)]; rfl⟩
      go_wp2
      go_ret2
      exact ⟨by rw [HR.out]; rfl, rfl⟩
end Go.Proofs.YtefhmlgepnlaoaaGreat
