/- Walks: sets in memory: Same, Add. -/
import Derived.Test.YtefhmlgepnlaoaaGreatSa
set_option linter.unusedVariables false
set_option linter.unusedSimpArgs false
namespace Go.Proofs.YtefhmlgepnlaoaaGreat
open Go.RowKit

def posN (all : List Int) (x : Int) : Nat := (idx all x).toNat
theorem posN_lt {all : List Int} {x : Int} (h : x ∈ all) : posN all x < all.length := by
  have := idx_mem h
  unfold posN
  omega
theorem posL_some {all : List Int} {x : Int} (h : x ∈ all) : posL all x = some (.int .i64 (posN all x : Nat)) := by
  have := idx_mem h
  unfold posL posN
  rw [if_pos h]
  congr 2
  omega
def sameR (all : List Int) (rep : Nat → Nat) (x y : Int) : Bool := decide (rep (posN all x) = rep (posN all y))

theorem nat_beq (a b : Nat) : (((a : Nat) : Int) == ((b : Nat) : Int)) = decide (a = b) := by
  by_cases h : a = b
  · simp [h]
  · have : ((a : Nat) : Int) ≠ ((b : Nat) : Int) := by omega
    simp [h, this]
set_option maxHeartbeats 1000000 in
theorem same_any (base : Nat) (v : Value) (all : List Int) (rep : Nat → Nat) (U : Option Nat) (x y : Int) (hx : x ∈ all) (hy : y ∈ all) (w : World) (hS : SetsAt w base v all rep U) :
    Calls Tryz.prog 88 #[v, .int .i64 x, .int .i64 y] w fun e w' => e = .returned (.bool (sameR all rep x y)) ∧ SetsAt w' base v all rep U ∧ Step (fun k => some k = U) w w' := by
  obtain ⟨R, M, va, vu, m, up, rfl, h2, h3, h4, h5, h6, h7, h8, h9, h10, h11, h12, h13, h14⟩ := hS.h
  have hlx := h6 x
  have hly := h6 y
  rw [posL_some hx] at hlx
  rw [posL_some hy] at hly
  have hx1 : (List.lookup x m).getD (.int .i64 0) = .int .i64 (posN all x : Nat) := by rw [hlx]; rfl
  have hx2 : (List.lookup x m).isSome = true := by rw [hlx]; rfl
  have hy1 : (List.lookup y m).getD (.int .i64 0) = .int .i64 (posN all y : Nat) := by rw [hly]; rfl
  have hy2 : (List.lookup y m).isSome = true := by rw [hly]; rfl
  have hr0 := cell_of_row w R 0 _ _ _ h2
  simp only [List.getElem?_toArray, List.getElem?_cons_succ, List.getElem?_cons_zero] at hr0
  have hpx := posN_lt hx
  have hpy := posN_lt hy
  have HS0 := Bx.mk hS
  clear hlx hly h6 h9 h10 h11 h2 hS
  go_enter Tryz.func88, Tryz.ntmps88
  go_wp2_with (first
    | (at_lookup; refine arm_lookup_ok h5 (.int .i64 0) Tryz.underlying100 Tryz.underlying3 (zero_int _) rfl rfl rfl rfl ?_)
    | (go_at_call 119; first
        | ((with_reducible refine (top_any base _ all rep U (posN all x) hpx _ HS0.out).mono ?_); rintro e w1 ⟨rfl, hS1, hs1⟩)
        | ((with_reducible refine (top_any base _ all rep U (posN all y) hpy _ hS1).mono ?_); rintro e w2 ⟨rfl, hS2, hs2⟩)))
  go_ret
  refine ⟨?_, hS2, hs1.trans hs2⟩
  exact ret_bool (a := (((rep (posN all x) : Nat) : Int) == ((rep (posN all y) : Nat) : Int))) (nat_beq _ _)

/-- m[k], .. = v, .. for a key that isn't there: the entry, then the store. -/
theorem run_entry {P : Program} {w : World} {b : Nat} {m : List (Int × Value)} (hM : MapAt w b m) (t kt et : TypeId) (ht : P.underlying t = some (.map kt et)) (hk : P.underlying kt = some (.int .i64)) (z : Value) (hz : (zeroValue et).run P w = .ok z w) (k : Int) (hno : m.lookup k = none) (v : Value) :
    ∃ s w1 w2, (Instr.mapEntry t (.map (some b)) (.int .i64 k)).run P w = .ok (.tuple #[z, s]) w1 ∧ (Instr.entryStore t (.map (some b)) s v).run P w1 = .ok () w2 ∧ MapAt w2 b (m ++ [(k, v)]) ∧ Step (fun j => j = b) w w1 ∧ Step (fun j => j = b) w1 w2 := by
  obtain ⟨es, c, hb, he, hn, hc⟩ := hM.h
  have hfk := run_findKey (P := P) kt hk k m es.toList he w
  have hl := findIx_lookup m k 0
  have hgo : (getObj b).run P w = .ok (.map es c) w := by simp [getObj, Sem.run, hb]
  have hset : ∀ (w : World) o es c, w.heap[b]? = some (.map es c) → (setObj b o).run P w = .ok () { w with heap := w.heap.setIfInBounds b o } := fun w o es c hb => by simp [setObj, Sem.run, hb]
  have hbs := (Array.getElem?_eq_some_iff.1 hb).1
  have hstep : ∀ (w : World) o, Step (fun j => j = b) w { w with heap := w.heap.setIfInBounds b o } := fun w o =>
    ⟨rfl, rfl, rfl, by simp, fun j hj hne => by simp [Array.getElem?_setIfInBounds, Ne.symm hne]⟩
  have hnd : ((m ++ [(k, v)]).map Prod.fst).Nodup := by
    rw [List.map_append]
    exact List.nodup_append.2 ⟨hM.nd, (by simp), fun x hx y hy => by simp at hy; subst hy; intro e; exact lookup_none.1 hno (e ▸ hx)⟩
  cases hf : findIx m k 0 with
  | some p =>
    rw [hf, hno] at hl
    simp at hl
  | none =>
    rw [hf] at hfk
    have hb1 : ({ w with heap := w.heap.setIfInBounds b (.map (es.push { key := .int .i64 k, val := z, born := c }) (c + 1)) } : World).heap[b]? = some (.map (es.push { key := .int .i64 k, val := z, born := c }) (c + 1)) := by simp [hbs]
    have hgo1 : (getObj b).run P { w with heap := w.heap.setIfInBounds b (.map (es.push { key := .int .i64 k, val := z, born := c }) (c + 1)) } = .ok (.map (es.push { key := .int .i64 k, val := z, born := c }) (c + 1)) { w with heap := w.heap.setIfInBounds b (.map (es.push { key := .int .i64 k, val := z, born := c }) (c + 1)) } := by simp [getObj, Sem.run, hb1]
    have hfi : (es.push { key := .int .i64 k, val := z, born := c : MapEntry }).findIdx? (fun e => (e.born : Int) == (c : Int)) = some es.size := by
      rw [Array.findIdx?_push]
      have : es.findIdx? (fun e => (e.born : Int) == (c : Int)) = none := by
        rw [Array.findIdx?_eq_none_iff]
        intro e he'
        have := hc e (by simpa using he')
        simp
        omega
      rw [this]
      simp
    have hmo : (es.push { key := .int .i64 k, val := z, born := c : MapEntry }).modify es.size (fun e => { e with val := v }) = es.push { key := .int .i64 k, val := v, born := c } := by
      apply Array.ext_getElem?
      intro j
      rw [Array.getElem?_modify, Array.getElem?_push, Array.getElem?_push]
      by_cases hj : j = es.size
      · subst hj
        simp
      · simp [hj, Ne.symm hj]
    refine ⟨goInt c, _, _, ?_, ?_, ⟨hnd, es.push { key := .int .i64 k, val := v, born := c }, c + 1, ?_, ?_, ?_, ?_⟩, hstep w (.map (es.push { key := .int .i64 k, val := z, born := c }) (c + 1)), hstep _ (.map (es.push { key := .int .i64 k, val := v, born := c }) (c + 1))⟩
    · unfold Instr.mapEntry
      simp only [Sem.run_bind, run_underlying ht, Result.andThen_ok, hgo, run_checkKey _ kt hk, hfk, hset w _ _ _ hb, hz, Sem.run_pure]
    · unfold Instr.entryStore
      simp only [Sem.run_bind, Result.andThen_ok, hgo1, goInt, asInt, asIntOf, Sem.run_pure, hfi, hmo, hset _ _ _ _ hb1]
    · simp [hbs]
    · rw [Array.toList_push, List.map_append, List.map_append, he]
      rfl
    · rw [Array.toList_push, List.map_append]
      refine List.nodup_append.2 ⟨hn, (by simp), fun x hx y hy => ?_⟩
      simp at hy
      obtain ⟨e, he1, he2⟩ := List.mem_map.1 hx
      have := hc e he1
      omega
    · intro e hx
      rw [Array.toList_push] at hx
      rcases List.mem_append.1 hx with hx | hx
      · have := hc e hx; omega
      · simp at hx; subst hx; simp

theorem add_in (base : Nat) (v : Value) (all : List Int) (rep : Nat → Nat) (U : Option Nat) (x : Int) (hx : x ∈ all) (w : World) (hS : SetsAt w base v all rep U) :
    Calls Tryz.prog 112 #[v, .int .i64 x] w fun e w' => e = .returned (.bool false) ∧ w = w' := by
  obtain ⟨R, M, va, vu, m, up, rfl, h2, h3, h4, h5, h6, h7, h8, h9, h10, h11, h12, h13, h14⟩ := hS.h
  have hlx := h6 x
  rw [posL_some hx] at hlx
  have hx2 : (List.lookup x m).isSome = true := by rw [hlx]; rfl
  have hr0 := cell_of_row w R 0 _ _ _ h2
  simp only [List.getElem?_toArray, List.getElem?_cons_succ, List.getElem?_cons_zero] at hr0
  have hx1 : (List.lookup x m).getD (.int .i64 0) = .int .i64 (posN all x : Nat) := by rw [hlx]; rfl
  clear hlx h6 h9 h10 h11 h2 hS
  go_enter Tryz.func112, Tryz.ntmps112
  go_wp2_with (at_lookup; refine arm_lookup_ok h5 (.int .i64 0) Tryz.underlying100 Tryz.underlying3 (zero_int _) rfl rfl rfl rfl ?_)
  go_ret
  exact ⟨rfl, rfl⟩
end Go.Proofs.YtefhmlgepnlaoaaGreat
