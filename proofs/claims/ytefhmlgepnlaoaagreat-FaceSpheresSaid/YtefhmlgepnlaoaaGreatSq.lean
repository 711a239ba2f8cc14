/- Words: rows of parts; one of a row of parts or of walks, read. -/
import Derived.Test.YtefhmlgepnlaoaaGreatFc
set_option linter.unusedVariables false
set_option linter.unusedSimpArgs false
namespace Go.Proofs.YtefhmlgepnlaoaaGreat
open Go.RowKit

/-! Rows of parts: two cells each, two lists. -/
theorem info_part : (Tryz.prog.info? 27).map (fun i => (i.zero, i.size, i.bytes)) = some (some (.agg #[.slice none 0 0, .slice none 0 0]), 2, 48) := by kernel_rfl
/-- A part as it lies: its lists' slices. -/
abbrev PP := (Option Addr × Nat × Nat) × (Option Addr × Nat × Nat)
def ppCells : PP → List Value := fun q => [.slice q.1.1 q.1.2.1 q.1.2.2, .slice q.2.1 q.2.2.1 q.2.2.2]
def POk1 (w : World) (base : Nat) (v : Value) (q : Option Addr × Nat × Nat) (xs : List Int) : Prop :=
  q.2.1 ≤ q.2.2 ∧ RI w q.1 q.2.1 xs ∧ ∀ ad, q.1 = some ad → 0 < q.2.1 → base ≤ ad.block ∧ v.ownBlock ≠ some ad.block
theorem POk1.step {F : Nat → Prop} {w w' : World} {base : Nat} {v : Value} {q : Option Addr × Nat × Nat} {xs : List Int} (h : POk1 w base v q xs) (hs : Step F w w') (hf : ∀ k cs e fr, base ≤ k → w.heap[k]? = some (.cells cs e fr) → v.ownBlock ≠ some k → ¬ F k) : POk1 w' base v q xs := by
  obtain ⟨a2, a3, a4⟩ := h
  refine ⟨a2, a3.step hs fun ad ha h0 => ?_, a4⟩
  obtain ⟨b, off, e, hc⟩ := a3.at h0
  rw [ha] at e
  cases e
  have h5 := hc 0 h0
  unfold World.cell? at h5
  split at h5
  · rename_i cs e fr heq
    exact hf b _ _ _ (a4 _ ha h0).1 heq (a4 _ ha h0).2
  · cases h5
/-- What a laid part says: z.1 is laid, z.2 is said. -/
def POk (w : World) (base : Nat) (v : Value) (z : PP × (List Int × List Int)) : Prop :=
  POk1 w base v z.1.1 z.2.1 ∧ POk1 w base v z.1.2 z.2.2
/-- A row of parts of the call's own. -/
structure OwnP (w : World) (base : Nat) (v : Value) (ws : List (List Int × List Int)) : Prop where
  o : ∃ zs : List (PP × (List Int × List Int)), zs.map Prod.snd = ws ∧ w.ownsRow base 27 2 v ws.length (zs.flatMap fun z => ppCells z.1) ∧ ∀ z ∈ zs, POk w base v z
theorem OwnP.nil (w : World) (base : Nat) : OwnP w base (.slice none 0 0) [] := ⟨[], rfl, World.ownsRow_nil w base _ _, fun z hz => by cases hz⟩
theorem OwnP.step {F : Nat → Prop} {w w' : World} {base : Nat} {v : Value} {ws : List (List Int × List Int)} (h : OwnP w base v ws) (hs : Step F w w') (hf : ∀ k cs e fr, base ≤ k → w.heap[k]? = some (.cells cs e fr) → ¬ F k) : OwnP w' base v ws := by
  obtain ⟨zs, h0, h1, h2⟩ := h.o
  refine ⟨zs, h0, ⟨h1.1, ?_⟩, fun z hz => ?_⟩
  · rcases h1.2 with h3 | ⟨g, cap, cur, rfl, hb, hg, hr⟩
    · exact .inl h3
    · exact .inr ⟨g, cap, cur, rfl, hb, (hs.block g (Array.getElem?_eq_some_iff.1 hg).1 (hf g _ _ _ hb hg)).trans hg, hr⟩
  · exact ⟨(h2 z hz).1.step hs fun k cs e fr hb hk _ => hf k cs e fr hb hk, (h2 z hz).2.step hs fun k cs e fr hb hk _ => hf k cs e fr hb hk⟩
theorem OwnP.low {F : Nat → Prop} {w w' : World} {base : Nat} {v : Value} {ws : List (List Int × List Int)} (h : OwnP w base v ws) (hs : Step F w w') (hf : ∀ k, base ≤ k → k < w.heap.size → ¬ F k) : OwnP w' base v ws :=
  h.step hs fun k _ _ _ hb hk => hf k hb (Array.getElem?_eq_some_iff.1 hk).1
theorem OwnP.below {w w' : World} {base : Nat} {v : Value} {ws : List (List Int × List Int)} (h : OwnP w base v ws) (hb : Below w.heap.size w w') : OwnP w' base v ws :=
  h.low (Step.of_below hb) fun k _ hk hF => by omega
theorem OwnP.lt {w : World} {base : Nat} {v : Value} {ws : List (List Int × List Int)} (h : OwnP w base v ws) : ∀ k, v.ownBlock = some k → base ≤ k ∧ k < w.heap.size := by
  obtain ⟨zs, h0, h1, h2⟩ := h.o
  exact h1.lt
theorem OwnP.shape {w : World} {base : Nat} {v : Value} {ws : List (List Int × List Int)} (h : OwnP w base v ws) : ∃ A c, v = .slice A ws.length c ∧ ws.length ≤ c := by
  obtain ⟨zs, h0, h1, h2⟩ := h.o
  rcases h1.2 with ⟨rfl, hn⟩ | ⟨g, cap, cur, rfl, hb, hg, hc, _⟩
  · exact ⟨none, 0, by rw [hn], by omega⟩
  · exact ⟨_, cap, rfl, hc⟩

/-- append(out, x) of a part: what the operation does. -/
theorem app_part_run {a : Act} {o : Oper} {W : World} (base : Nat) (ws : List (List Int × List Int)) (v : Value) (HO : OwnP W base v ws) (q : PP) (u : List Int × List Int) (hu : POk W base v (q, u)) {s x : Operand}
    (ho : o.op = .call { callee := .builtin .append, args := #[s, x], argTypes := #[54, 54] }) (hs : a.eval s = v) (hx : a.eval x = .slice (some ⟨W.heap.size, 0, none⟩) 1 1)
    (hbase : base ≤ W.heap.size) (hl : ws.length < 1099511627776) :
    ∃ v1 w1, (execOp a.eval o).run Tryz.prog (W.alloc (.cells #[.slice q.1.1 q.1.2.1 q.1.2.2, .slice q.2.1 q.2.2.1 q.2.2.2] 27)) = .ok (.value v1) w1 ∧ OwnP w1 base v1 (ws ++ [u]) ∧ Step (fun k => some k = v.ownBlock) W w1 ∧ (v1.ownBlock = v.ownBlock ∨ ∃ b, v1.ownBlock = some b ∧ W.heap.size ≤ b) := by
  obtain ⟨zs, h0, h1, h2⟩ := HO.o
  obtain ⟨i0, hi, hzz⟩ := Option.map_eq_some_iff.1 info_part
  simp only [Prod.mk.injEq] at hzz
  obtain ⟨hz0, hz1, hz2⟩ := hzz
  obtain ⟨v1, w1, hr, hown, hg, _, hat⟩ := run_append_own_at (P := Tryz.prog) (W.alloc (.cells #[.slice q.1.1 q.1.2.1 q.1.2.2, .slice q.2.1 q.2.2.1 q.2.2.2] 27)) base 54 o.type 27 i0 _ 2 48 Tryz.underlying54 hi hz0 hz1 hz2 rfl (by decide) v ws.length _ (h1.alloc _) ⟨W.heap.size, 0, none⟩ 1 1 (ppCells q) rfl
    (World.news_of_block (cs := #[.slice q.1.1 q.1.2.1 q.1.2.2, .slice q.2.1 q.2.2.1 q.2.2.2]) (t := 27) (fr := (0, 0)) (heap_alloc_new W _)) (by intro u hu; simp [ppCells] at hu; rcases hu with rfl | rfl <;> rfl) (by simp only [maxLen]; omega) (by omega) (by simp; omega)
  have hstep : Step (fun k => some k = v.ownBlock) W w1 := Step.of_grown (World.grownBy.trans (World.grownBy_alloc W (.cells #[.slice q.1.1 q.1.2.1 q.1.2.2, .slice q.2.1 q.2.2.1 q.2.2.2] 27) v.ownBlock) hg)
  refine ⟨v1, w1, ?_, ⟨zs ++ [(q, u)], by rw [List.map_append, h0]; rfl, ?_, fun z hz => ?_⟩, hstep, ?_⟩
  · simp [execOp, ho, resolve, invoke, builtin, hs, hx, hr, Result.andThen]
  · rw [List.length_append, List.flatMap_append]
    simpa using hown
  · have hz' : POk W base v z := by
      rcases List.mem_append.1 hz with hz | hz
      · exact h2 z hz
      · simp at hz; subst hz; exact hu
    have one : ∀ {q : Option Addr × Nat × Nat} {xs : List Int}, POk1 W base v q xs → POk1 w1 base v1 q xs := fun {q xs} h => by
      obtain ⟨b1, b2, b3⟩ := h.step hstep fun k cs e fr hb hk hn hF => hn hF.symm
      refine ⟨b1, b2, fun ad ha h0 => ⟨(b3 ad ha h0).1, fun e => ?_⟩⟩
      rcases hat with hat | hat
      · exact (b3 ad ha h0).2 (hat ▸ e)
      · rw [hat] at e
        have := h.2.1.blk ha h0
        simp at e
        omega
    exact ⟨one hz'.1, one hz'.2⟩
  · rcases hat with hat | hat
    · exact .inl hat
    · exact .inr ⟨_, hat, by simp⟩
section
variable {ops : Array Oper} {rest : List Oper} {o : Oper} {a : Act} {Q : Exit → Act → World → Prop}
theorem step_app_part {K : Act → World → Prop} {E : Prop} {W : World} (base : Nat) (ws : List (List Int × List Int)) (v : Value) (HO : OwnP W base v ws) (q : PP) (u : List Int × List Int) (hu : POk W base v (q, u)) {s x : Operand} (hgd : o.guard = none)
    (ho : o.op = .call { callee := .builtin .append, args := #[s, x], argTypes := #[54, 54] }) (hs : a.eval s = v) (hx : a.eval x = .slice (some ⟨W.heap.size, 0, none⟩) 1 1)
    (hbase : base ≤ W.heap.size) (hl : ws.length < 1099511627776)
    (h : ∀ v1 w1, OwnP w1 base v1 (ws ++ [u]) → Step (fun k => some k = v.ownBlock) W w1 → (v1.ownBlock = v.ownBlock ∨ ∃ b, v1.ownBlock = some b ∧ W.heap.size ≤ b) → K (a.put o.dst v1) w1) :
    if Region.wanted o (yielded ops a.tmps) = true then Oper.wp Tryz.prog o a (W.alloc (.cells #[.slice q.1.1 q.1.2.1 q.1.2.2, .slice q.2.1 q.2.2.1 q.2.2.2] 27)) K Q else E := by
  rw [if_pos (by simp [Region.wanted, hgd])]
  obtain ⟨v1, w1, hr, h1, h2, h3⟩ := app_part_run base ws v HO q u hu ho hs hx hbase hl
  unfold Oper.wp
  rw [hr]
  exact h v1 w1 h1 h2 h3
end
/-- One part of a row, read. -/
theorem OwnP.get {w : World} {base : Nat} {v : Value} {ws : List (List Int × List Int)} (h : OwnP w base v ws) {j : Nat} (hj : j < ws.length) :
    ∃ g cap q, v = .slice (some ⟨g, 0, none⟩) ws.length cap ∧ ws.length ≤ cap ∧ base ≤ g ∧ w.cell? ⟨g, j * 2, none⟩ = some (.slice q.1.1 q.1.2.1 q.1.2.2) ∧ w.cell? ⟨g, j * 2 + 1, none⟩ = some (.slice q.2.1 q.2.2.1 q.2.2.2) ∧ POk w base v (q, ws[j]) := by
  obtain ⟨zs, h0, h1, h2⟩ := h.o
  have hzl : zs.length = ws.length := by rw [← h0, List.length_map]
  rcases h1.2 with ⟨_, hn⟩ | ⟨g, cap, cur, rfl, hb, hg, hc, hm, hs, ht⟩
  · omega
  · have hjz : j < zs.length := by omega
    have hz : zs[j] = (zs[j].1, ws[j]) := by
      have : (zs.map Prod.snd)[j]'(by rw [List.length_map]; exact hjz) = ws[j] := by simp only [h0]
      rw [List.getElem_map] at this
      rw [← this]
    have hcell : ∀ t, t < 2 → w.cell? ⟨g, j * 2 + t, none⟩ = (ppCells zs[j].1)[t]? := fun t ht2 => by
      rw [cell_of_row w g (j * 2 + t) cur _ _ hg]
      have e := flat2_get (fun z : PP × (List Int × List Int) => ppCells z.1) (fun z => rfl) zs (j * 2 + t)
      rw [show (j * 2 + t) / 2 = j by omega, show (j * 2 + t) % 2 = t by omega, List.getElem?_eq_getElem hjz] at e
      rw [← Array.getElem?_toList, ← List.getElem?_take_of_lt (l := cur.toList) (i := j * 2 + t) (j := ws.length * 2) (by omega), ht]
      exact e
    exact ⟨g, cap, zs[j].1, rfl, hc, hb, (hcell 0 (by omega)), (hcell 1 (by omega)), hz ▸ h2 zs[j] (List.getElem_mem hjz)⟩
/-- One walk of a row, read. -/
theorem OwnW.get {w : World} {base : Nat} {v : Value} {ws : List (Int × List Int)} (h : OwnW w base v ws) {j : Nat} (hj : j < ws.length) :
    ∃ g cap q, v = .slice (some ⟨g, 0, none⟩) ws.length cap ∧ ws.length ≤ cap ∧ base ≤ g ∧ w.cell? ⟨g, j * 2, none⟩ = some (.int .i64 q.1) ∧ w.cell? ⟨g, j * 2 + 1, none⟩ = some (.slice q.2.1 q.2.2.1 q.2.2.2) ∧ WOk w base v (q, ws[j]) := by
  obtain ⟨zs, h0, h1, h2⟩ := h.o
  have hzl : zs.length = ws.length := by rw [← h0, List.length_map]
  rcases h1.2 with ⟨_, hn⟩ | ⟨g, cap, cur, rfl, hb, hg, hc, hm, hs, ht⟩
  · omega
  · have hjz : j < zs.length := by omega
    have hz : zs[j] = (zs[j].1, ws[j]) := by
      have : (zs.map Prod.snd)[j]'(by rw [List.length_map]; exact hjz) = ws[j] := by simp only [h0]
      rw [List.getElem_map] at this
      rw [← this]
    have hcell : ∀ t, t < 2 → w.cell? ⟨g, j * 2 + t, none⟩ = (wpCells zs[j].1)[t]? := fun t ht2 => by
      rw [cell_of_row w g (j * 2 + t) cur _ _ hg]
      have e := flat2_get (fun z : WP × (Int × List Int) => wpCells z.1) (fun z => rfl) zs (j * 2 + t)
      rw [show (j * 2 + t) / 2 = j by omega, show (j * 2 + t) % 2 = t by omega, List.getElem?_eq_getElem hjz] at e
      rw [← Array.getElem?_toList, ← List.getElem?_take_of_lt (l := cur.toList) (i := j * 2 + t) (j := ws.length * 2) (by omega), ht]
      exact e
    exact ⟨g, cap, zs[j].1, rfl, hc, hb, (hcell 0 (by omega)), (hcell 1 (by omega)), hz ▸ h2 zs[j] (List.getElem_mem hjz)⟩
end Go.Proofs.YtefhmlgepnlaoaaGreat
