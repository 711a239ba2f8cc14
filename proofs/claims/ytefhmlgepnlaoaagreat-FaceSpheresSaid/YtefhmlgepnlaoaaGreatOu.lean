/- A region that draws its order: loads taken first where S holds until one operation has come up (own law).. -/
import Derived.Deep.RegionHeld
import Derived.Test.YtefhmlgepnlaoaaGreatWa
namespace Go.Proofs.YtefhmlgepnlaoaaGreat
open Go

section
variable {P : Program} {ops : Array Oper} {Q : Exit → Act → World → Prop} {md : Region.Mode} {S : World → Prop}
/-- Whatever order is picked; S holds behind each operation till k has come up. -/
def wpAnyU (P : Program) (md : Region.Mode) (ops : Array Oper) (Q : Exit → Act → World → Prop) (S : World → Prop) (k : Nat) : Nat → Array Bool → Act → World → Prop
  | 0, listed, a, w => Region.ready md ops listed = [] ∧ Q .normal a w
  | fuel + 1, listed, a, w =>
    (Region.ready md ops listed = [] → Q .normal a w) ∧
    ∀ i ∈ Region.ready md ops listed, wpOp P ops Q i (fun a' w' => ((listed.setIfInBounds i true).getD k false = false → S w') ∧ wpAnyU P md ops Q S k fuel (listed.setIfInBounds i true) a' w') a w
theorem wpAny_of_U {k : Nat} : ∀ (fuel : Nat) (listed : Array Bool) (a : Act) (w : World), wpAnyU P md ops Q S k fuel listed a w → wpAny P md ops Q fuel listed a w
  | 0, _, _, _, h => h
  | fuel + 1, _, _, _, h => ⟨h.1, fun i hi => wpOp_mono (fun a' w' h' => wpAny_of_U fuel _ a' w' h'.2) (h.2 i hi)⟩
/-- An operation that may come up now may be taken first, if it yields in every world that meets S and k waits for it. -/
theorem wpAnyU_first {k i : Nat} {oi : Oper} {v : Value} (hi : ops[i]? = some oi) (hki : k ≠ i) (hwait : ∃ ok, ops[k]? = some ok ∧ ∃ e ∈ ok.after, Region.binds md e = true ∧ e.on = i) (hsel : ∀ (j : Nat) (o : Oper) cs b, ops[j]? = some o → o.op ≠ .select cs b)
    (hQ : ∀ c a w, Q (.panic c) (a.put oi.dst v) w → Q (.panic c) a w) :
    ∀ (fuel : Nat) (listed : Array Bool) (a : Act) (w : World),
      (∀ j oj, ops[j]? = some oj → j ≠ i → listed.getD j true = false → (∀ e ∈ oj.after, Region.binds md e = true → e.on ≠ i) → oi.apart ops oj = true) →
      i ∈ Region.ready md ops listed → listed.getD k false = false → YieldsIf P ops S oi v a → S w →
      wpAnyU P md ops Q S k fuel (listed.setIfInBounds i true) (a.put oi.dst v) w → wpAnyU P md ops Q S k (fuel + 1) listed a w := by
  obtain ⟨ok, hok, e0, he0, hb0, hon⟩ := hwait
  have keepk : ∀ (listed : Array Bool) (j : Nat), k ≠ j → listed.getD k false = false → (listed.setIfInBounds j true).getD k false = false := fun listed j hne h => by
    rw [getD_set_ne false (Ne.symm hne)]
    exact h
  intro fuel
  induction fuel with
  | zero =>
    intro listed a w _ hr _ hy hS H
    refine ⟨fun h => (by rw [h] at hr; cases hr), fun j hj => ?_⟩
    by_cases hji : j = i
    · subst hji; exact hy.wpOp hi hS ⟨fun _ => hS, H⟩
    · have := ready_mono hj hji
      rw [H.1] at this
      cases this
  | succ fuel ih =>
    intro listed a w hfree hr hk hy hS H
    refine ⟨fun h => (by rw [h] at hr; cases hr), fun j hj => ?_⟩
    by_cases hji : j = i
    · subst hji; exact hy.wpOp hi hS ⟨fun _ => hS, H⟩
    · have h1 := H.2 j (ready_mono hj hji)
      obtain ⟨hjun, oj, hoj, hall⟩ := mem_ready.1 hj
      have hnot : ∀ e ∈ oj.after, Region.binds md e = true → e.on ≠ i := fun e he hb heq => by
        have h1 := hall e he hb
        have h0 := (mem_ready.1 hr).1
        rw [heq] at h1
        rcases Nat.lt_or_ge i listed.size with h' | h'
        · simp [h'] at h0 h1; rw [h0] at h1; cases h1
        · simp [Array.getElem?_eq_none h'] at h1
      have hkj : k ≠ j := by
        rintro rfl
        rw [hok] at hoj
        cases hoj
        exact hnot e0 he0 hb0 hon
      have h2 := wpOp_putIf hoj (hfree j oj hoj hji hjun hnot) (fun cs b => hsel i oi cs b hi) (fun cs b => hsel j oj cs b hoj) hQ hy h1
      have hfree' : ∀ t ot, ops[t]? = some ot → t ≠ i → (listed.setIfInBounds j true).getD t true = false →
          (∀ e ∈ ot.after, Region.binds md e = true → e.on ≠ i) → oi.apart ops ot = true := fun t ot hot hti hun hno => by
        refine hfree t ot hot hti ?_ hno
        by_cases hjt : j = t
        · subst hjt; exact hjun
        · rw [getD_set_ne true hjt] at hun; exact hun
      refine wpOp_mono (fun a' w' h3 => ?_) h2
      have hS' : S w' := h3.2.1 (keepk _ j hkj (keepk _ i hki hk))
      refine ⟨fun _ => hS', ih (listed.setIfInBounds j true) a' w' hfree' (ready_mono hr (Ne.symm hji)) (keepk _ j hkj hk) h3.1 hS' ?_⟩
      rw [Array.setIfInBounds_comm _ _ hji]
      exact h3.2.2
/-- An operation that may come up now may be taken first, if it yields in whatever world. -/
theorem wpAnyU_firstP {k i : Nat} {oi : Oper} {v : Value} (hi : ops[i]? = some oi) (hki : k ≠ i) (hsel : ∀ (j : Nat) (o : Oper) cs b, ops[j]? = some o → o.op ≠ .select cs b)
    (hQ : ∀ c a w, Q (.panic c) (a.put oi.dst v) w → Q (.panic c) a w) :
    ∀ (fuel : Nat) (listed : Array Bool) (a : Act) (w : World),
      (∀ j oj, ops[j]? = some oj → j ≠ i → listed.getD j true = false → (∀ e ∈ oj.after, Region.binds md e = true → e.on ≠ i) → oi.apart ops oj = true) →
      i ∈ Region.ready md ops listed → Yields P ops oi v a → (listed.getD k false = false → S w) →
      wpAnyU P md ops Q S k fuel (listed.setIfInBounds i true) (a.put oi.dst v) w → wpAnyU P md ops Q S k (fuel + 1) listed a w := by
  have same : ∀ (listed : Array Bool), (listed.setIfInBounds i true).getD k false = listed.getD k false := fun listed => getD_set_ne false (Ne.symm hki)
  intro fuel
  induction fuel with
  | zero =>
    intro listed a w _ hr hy hS H
    refine ⟨fun h => (by rw [h] at hr; cases hr), fun j hj => ?_⟩
    by_cases hji : j = i
    · subst hji; exact hy.wpOp hi ⟨fun hk => hS (by rw [← same]; exact hk), H⟩
    · have := ready_mono hj hji
      rw [H.1] at this
      cases this
  | succ fuel ih =>
    intro listed a w hfree hr hy hS H
    refine ⟨fun h => (by rw [h] at hr; cases hr), fun j hj => ?_⟩
    by_cases hji : j = i
    · subst hji; exact hy.wpOp hi ⟨fun hk => hS (by rw [← same]; exact hk), H⟩
    · have h1 := H.2 j (ready_mono hj hji)
      obtain ⟨hjun, oj, hoj, hall⟩ := mem_ready.1 hj
      have hnot : ∀ e ∈ oj.after, Region.binds md e = true → e.on ≠ i := fun e he hb heq => by
        have h1 := hall e he hb
        have h0 := (mem_ready.1 hr).1
        rw [heq] at h1
        rcases Nat.lt_or_ge i listed.size with h' | h'
        · simp [h'] at h0 h1; rw [h0] at h1; cases h1
        · simp [Array.getElem?_eq_none h'] at h1
      have h2 := wpOp_put hoj (hfree j oj hoj hji hjun hnot) (fun cs b => hsel i oi cs b hi) (fun cs b => hsel j oj cs b hoj) hQ hy h1
      have hfree' : ∀ t ot, ops[t]? = some ot → t ≠ i → (listed.setIfInBounds j true).getD t true = false →
          (∀ e ∈ ot.after, Region.binds md e = true → e.on ≠ i) → oi.apart ops ot = true := fun t ot hot hti hun hno => by
        refine hfree t ot hot hti ?_ hno
        by_cases hjt : j = t
        · subst hjt; exact hjun
        · rw [getD_set_ne true hjt] at hun; exact hun
      refine wpOp_mono (fun a' w' h3 => ?_) h2
      have hS' : (listed.setIfInBounds j true).getD k false = false → S w' := fun hk => h3.2.1 (by rw [Array.setIfInBounds_comm _ _ (Ne.symm hji), same]; exact hk)
      refine ⟨hS', ih (listed.setIfInBounds j true) a' w' hfree' (ready_mono hr (Ne.symm hji)) h3.1 hS' ?_⟩
      rw [Array.setIfInBounds_comm _ _ hji]
      exact h3.2.2
theorem wpAnyU_pure {k i : Nat} {oi : Oper} {v : Value} {fuel : Nat} {listed : Array Bool} {a : Act} {w : World} (hi : ops[i]? = some oi) (hne : (k == i) = false)
    (hs : Region.noSelect ops = true) (hf : Region.free md ops listed i = true) (hr : (Region.ready md ops listed).contains i = true)
    (hQ : ∀ c a w, Q (.panic c) (a.put oi.dst v) w → Q (.panic c) a w) (hy : Yields P ops oi v a) (hS : S w)
    (h : wpAnyU P md ops Q S k fuel (listed.setIfInBounds i true) (a.put oi.dst v) w) : wpAnyU P md ops Q S k (fuel + 1) listed a w :=
  wpAnyU_firstP hi (by simpa using hne) (Region.noSelect_spec hs) hQ fuel listed a w (Region.free_spec hi hf) (by simpa using hr) hy (fun _ => hS) h
/-- Once k has come up it is a 'wpAny'. -/
theorem wpAnyU_of_any {k : Nat} : ∀ (fuel : Nat) (listed : Array Bool) (a : Act) (w : World), listed.getD k false = true → wpAny P md ops Q fuel listed a w → wpAnyU P md ops Q S k fuel listed a w
  | 0, _, _, _, _, h => h
  | fuel + 1, listed, a, w, hk, h => ⟨h.1, fun i hi => wpOp_mono (fun a' w' h' => ⟨fun hn => (by rw [getD_set_true hk] at hn; cases hn), wpAnyU_of_any fuel _ a' w' (getD_set_true hk) h'⟩) (h.2 i hi)⟩
def waitsFor (md : Region.Mode) (ops : Array Oper) (k i : Nat) : Bool := match ops[k]? with | some ok => ok.after.any fun e => Region.binds md e && e.on == i | none => false
theorem waitsFor_spec {k i : Nat} (h : waitsFor md ops k i = true) : ∃ ok, ops[k]? = some ok ∧ ∃ e ∈ ok.after, Region.binds md e = true ∧ e.on = i := by
  unfold waitsFor at h
  split at h
  · rename_i ok hok
    obtain ⟨e, he, hb⟩ := Array.any_eq_true'.1 h
    simp only [Bool.and_eq_true, beq_iff_eq] at hb
    exact ⟨ok, hok, e, he, hb.1, hb.2⟩
  · cases h
/-- Take number i first. -/
theorem wpAnyU_take {k i : Nat} {oi : Oper} {v : Value} {fuel : Nat} {listed : Array Bool} {a : Act} {w : World} (hi : ops[i]? = some oi) (hne : (k == i) = false) (hw : waitsFor md ops k i = true) (hk : listed.getD k false = false)
    (hs : Region.noSelect ops = true) (hf : Region.free md ops listed i = true) (hr : (Region.ready md ops listed).contains i = true)
    (hQ : ∀ c a w, Q (.panic c) (a.put oi.dst v) w → Q (.panic c) a w) (hy : YieldsIf P ops S oi v a) (hS : S w)
    (h : wpAnyU P md ops Q S k fuel (listed.setIfInBounds i true) (a.put oi.dst v) w) : wpAnyU P md ops Q S k (fuel + 1) listed a w :=
  wpAnyU_first hi (by simpa using hne) (waitsFor_spec hw) (Region.noSelect_spec hs) hQ fuel listed a w (Region.free_spec hi hf) (by simpa using hr) hk hy hS h
/-- One that may come up. -/
def StepU (P : Program) (md : Region.Mode) (ops : Array Oper) (Q : Exit → Act → World → Prop) (S : World → Prop) (k fuel : Nat) (listed : Array Bool) (a : Act) (w : World) (i : Nat) : Prop :=
  wpOp P ops Q i (fun a' w' => ((listed.setIfInBounds i true).getD k false = false → S w') ∧ wpAnyU P md ops Q S k fuel (listed.setIfInBounds i true) a' w') a w
theorem StepU.mk {k fuel i : Nat} {o : Oper} {listed : Array Bool} {a : Act} {w : World} (ho : ops[i]? = some o)
    (h : ∀ K' : Act → World → Prop, Shut (∀ a w, S w → wpAnyU P md ops Q S k fuel (listed.setIfInBounds i true) a w → K' a w) → if Region.wanted o (yielded ops a.tmps) = true then Oper.wp P o a w K' Q else K' (a.put o.dst undef) w) : StepU P md ops Q S k fuel listed a w i :=
  wpOp_step ho (fun K' hK => h K' (fun a w hS hW => hK a w ⟨fun _ => hS, hW⟩))
theorem StepU.last {k fuel : Nat} {o : Oper} {listed : Array Bool} {a : Act} {w : World} (ho : ops[k]? = some o) (hl : (listed.setIfInBounds k true).getD k false = true)
    (h : ∀ K' : Act → World → Prop, Shut (∀ a w, wpAny P md ops Q fuel (listed.setIfInBounds k true) a w → K' a w) → if Region.wanted o (yielded ops a.tmps) = true then Oper.wp P o a w K' Q else K' (a.put o.dst undef) w) : StepU P md ops Q S k fuel listed a w k :=
  wpOp_step ho (fun K' hK => h K' (fun a w hW => hK a w ⟨fun hn => (by rw [hl] at hn; cases hn), wpAnyU_of_any _ _ _ _ hl hW⟩))
theorem wpAnyU_one {k i : Nat} {fuel : Nat} {listed : Array Bool} {a : Act} {w : World} (hr : Region.ready md ops listed = [i]) (h : StepU P md ops Q S k fuel listed a w i) : wpAnyU P md ops Q S k (fuel + 1) listed a w :=
  ⟨fun h0 => (by rw [hr] at h0; cases h0), fun j hj => by rw [hr, List.mem_singleton] at hj; subst hj; exact h⟩
theorem wpAnyU_two {k i j : Nat} {fuel : Nat} {listed : Array Bool} {a : Act} {w : World} (hr : Region.ready md ops listed = [i, j]) (h1 : StepU P md ops Q S k fuel listed a w i) (h2 : StepU P md ops Q S k fuel listed a w j) : wpAnyU P md ops Q S k (fuel + 1) listed a w :=
  ⟨fun h0 => (by rw [hr] at h0; cases h0), fun x hx => by
    rw [hr] at hx
    rcases List.mem_cons.1 hx with rfl | hx
    · exact h1
    · rw [List.mem_singleton] at hx; subst hx; exact h2⟩
theorem wpAny_one {i : Nat} {o : Oper} {fuel : Nat} {listed : Array Bool} {a : Act} {w : World} (hr : Region.ready md ops listed = [i]) (ho : ops[i]? = some o)
    (h : ∀ K' : Act → World → Prop, Shut (∀ a w, wpAny P md ops Q fuel (listed.setIfInBounds i true) a w → K' a w) → if Region.wanted o (yielded ops a.tmps) = true then Oper.wp P o a w K' Q else K' (a.put o.dst undef) w) : wpAny P md ops Q (fuel + 1) listed a w :=
  ⟨fun h0 => (by rw [hr] at h0; cases h0), fun j hj => by rw [hr, List.mem_singleton] at hj; subst hj; exact wpOp_step ho h⟩
theorem wp_region_U {k id : Nat} {a : Act} {w : World} (hm : P.follows .mixedOrders = true) (h : wpAnyU P .any ops Q S k ops.size (Array.replicate ops.size false) a w.drew) : (Code.region id ops true).wp P Q a w :=
  wp_region_any hm (wpAny_of_U _ _ _ _ h)
end
end Go.Proofs.YtefhmlgepnlaoaaGreat
