/- Words: append onto a clipped row (always a new block); a row of lists of which one is stored anew. -/
import Derived.Test.YtefhmlgepnlaoaaGreatWb
import Derived.Test.YtefhmlgepnlaoaaGreatRa
set_option linter.unusedVariables false
set_option linter.unusedSimpArgs false
namespace Go.Proofs.YtefhmlgepnlaoaaGreat
open Go.RowKit

section
variable {ops : Array Oper} {rest : List Oper} {o : Oper} {a : Act} {Q : Exit → Act → World → Prop}
theorem app_clip_run {W : World} (xs : List Int) (A : Option Addr) (n : Nat) (HR : RI W A n xs) (y : Int) (hl : n < 1099511627776) (ty : TypeId) :
    ∃ c1 w1, (Builtin.append_ #[25, 25] ty #[.slice A n n, .slice (some ⟨W.heap.size, 0, none⟩) 1 1]).run Tryz.prog (W.alloc (.cells #[.int .i64 y] 3)) = .ok (.slice (some ⟨W.heap.size + 1, 0, none⟩) (n + 1) c1) w1 ∧
      n + 1 ≤ c1 ∧ RI w1 (some ⟨W.heap.size + 1, 0, none⟩) (n + 1) (xs ++ [y]) ∧ BB W w1 ∧ W.heap.size + 1 < w1.heap.size := by
  obtain ⟨i0, hi, hzz⟩ := Option.map_eq_some_iff.1 info_int
  simp only [Prod.mk.injEq] at hzz
  obtain ⟨hz0, hz1, hz2⟩ := hzz
  have ht : Tryz.prog.underlying 25 = some (.slice 3) := Tryz.underlying25
  have hlen := HR.len
  have hnews : ∀ j v, [Value.int .i64 y][j]? = some v → (W.alloc (.cells #[.int .i64 y] 3)).cell? ((⟨W.heap.size, 0, none⟩ : Addr).add j) = some v := fun j v hj => by
    rcases j with _ | j
    · cases hj
      exact box_cell W #[.int .i64 y] 3 (0, 0) 0
    · simp at hj
  have fin : ∀ (c1 : Nat) (zs : Array Value), n + 1 ≤ c1 → ∃ w1, w1 = ((W.alloc (.cells #[.int .i64 y] 3)).drew.alloc (.cells ((xs.map (Value.int .i64)).toArray ++ [Value.int .i64 y].toArray ++ zs) 3)) ∧
      RI w1 (some ⟨W.heap.size + 1, 0, none⟩) (n + 1) (xs ++ [y]) ∧ BB W w1 ∧ W.heap.size + 1 < w1.heap.size := fun c1 zs hc => by
    refine ⟨_, rfl, ⟨by simp [hlen], by omega, fun _ => ⟨W.heap.size + 1, 0, rfl, fun j hj => ?_⟩⟩, ((((BB.refl W).al _).drawn 1).al _), by simp⟩
    have hb := heap_alloc_new (W.alloc (.cells #[.int .i64 y] 3)).drew (.cells ((xs.map (Value.int .i64)).toArray ++ [Value.int .i64 y].toArray ++ zs) 3 (0, 0))
    have hsz : (W.alloc (.cells #[.int .i64 y] 3)).drew.heap.size = W.heap.size + 1 := by simp
    rw [hsz] at hb
    rw [Nat.zero_add, cell_of_row _ _ j _ _ _ hb]
    simp only [List.length_map, List.length_append, List.length_singleton] at hj
    rw [Array.getElem?_append_left (by simp; omega)]
    simp
  rcases Nat.eq_zero_or_pos n with h0 | h0
  · subst h0
    have hx : xs = [] := List.eq_nil_of_length_eq_zero hlen
    subst hx
    cases A with
    | none =>
      have hr := run_append_nil (P := Tryz.prog) (W.alloc (.cells #[.int .i64 y] 3)) 25 ty 3 i0 _ ht hi hz0 ⟨W.heap.size, 0, none⟩ 1 1 [Value.int .i64 y] (by simp [hz1]) hnews (by omega) (by omega) (by rw [hz2]; omega)
      obtain ⟨w1, hw, h1, h2, h3⟩ := fin (grownCap (W.alloc (.cells #[.int .i64 y] 3)) 1 0 3) (Builtin.zeroCells (Value.int .i64 0).cells (grownCap (W.alloc (.cells #[.int .i64 y] 3)) 1 0 3 - 1)) (by have := grownCap_ge (W.alloc (.cells #[.int .i64 y] 3)) 1 0 3; omega)
      refine ⟨grownCap (W.alloc (.cells #[.int .i64 y] 3)) 1 0 3, w1, ?_, by have := grownCap_ge (W.alloc (.cells #[.int .i64 y] 3)) 1 0 3; omega, h1, h2, h3⟩
      rw [hw]
      simpa using hr
    | some b =>
      have hr := run_append_grow (P := Tryz.prog) (W.alloc (.cells #[.int .i64 y] 3)) 25 ty 3 i0 _ ht hi hz0 b 0 0 [] (by simp) (by intro j v hj; simp at hj) ⟨W.heap.size, 0, none⟩ 1 1 [Value.int .i64 y] (by simp [hz1]) hnews (by omega) (by omega) (growslice_fits (by omega) (by rw [hz2]; omega))
      obtain ⟨w1, hw, h1, h2, h3⟩ := fin (grownCap (W.alloc (.cells #[.int .i64 y] 3)) (0 + 1) 0 3) (Builtin.zeroCells (Value.int .i64 0).cells (grownCap (W.alloc (.cells #[.int .i64 y] 3)) (0 + 1) 0 3 - (0 + 1))) (grownCap_ge _ _ _ _)
      refine ⟨grownCap (W.alloc (.cells #[.int .i64 y] 3)) (0 + 1) 0 3, w1, ?_, grownCap_ge _ _ _ _, h1, h2, h3⟩
      rw [hw]
      simpa using hr
  · obtain ⟨b, off, rfl, hc⟩ := HR.rc (by simpa [hlen] using h0)
    have holds : ∀ j v, (xs.map (Value.int .i64))[j]? = some v → (W.alloc (.cells #[.int .i64 y] 3)).cell? ((⟨b, off, none⟩ : Addr).add j) = some v := fun j v hj => by
      have hjl := (List.getElem?_eq_some_iff.1 hj).1
      rw [Addr.add_lit]
      refine (((BB.refl W).al _).cell ?_)
      rw [hc j hjl, hj]
    have hr := run_append_grow (P := Tryz.prog) (W.alloc (.cells #[.int .i64 y] 3)) 25 ty 3 i0 _ ht hi hz0 ⟨b, off, none⟩ n n (xs.map (Value.int .i64)) (by simp [hlen, hz1]) holds ⟨W.heap.size, 0, none⟩ 1 1 [Value.int .i64 y] (by simp [hz1]) hnews (by omega) (by omega) (growslice_fits (by omega) (by rw [hz2]; omega))
    obtain ⟨w1, hw, h1, h2, h3⟩ := fin (grownCap (W.alloc (.cells #[.int .i64 y] 3)) (n + 1) n 3) (Builtin.zeroCells (Value.int .i64 0).cells (grownCap (W.alloc (.cells #[.int .i64 y] 3)) (n + 1) n 3 - (n + 1))) (grownCap_ge _ _ _ _)
    refine ⟨grownCap (W.alloc (.cells #[.int .i64 y] 3)) (n + 1) n 3, w1, ?_, grownCap_ge _ _ _ _, h1, h2, h3⟩
    rw [hw]
    simpa using hr
theorem app_clip {W : World} (xs : List Int) (A : Option Addr) (n : Nat) (HR : RI W A n xs) (y : Int) (hl : n < 1099511627776) {s x : Operand} (hgd : o.guard = none)
    (ho : o.op = .call { callee := .builtin .append, args := #[s, x], argTypes := #[25, 25] }) (hs : a.eval s = .slice A n n) (hx : a.eval x = .slice (some ⟨W.heap.size, 0, none⟩) 1 1)
    (h : ∀ c1 w1, n + 1 ≤ c1 → RI w1 (some ⟨W.heap.size + 1, 0, none⟩) (n + 1) (xs ++ [y]) → BB W w1 → W.heap.size + 1 < w1.heap.size → wpList Tryz.prog ops Q rest (a.put o.dst (.slice (some ⟨W.heap.size + 1, 0, none⟩) (n + 1) c1)) w1) :
    wpList Tryz.prog ops Q (o :: rest) a (W.alloc (.cells #[.int .i64 y] 3)) := by
  refine wpList_plain hgd fun K hK => ?_
  obtain ⟨c1, w1, hr, h1, h2, h3, h4⟩ := app_clip_run xs A n HR y hl o.type
  unfold Oper.wp execOp
  simp only [ho, resolve, invoke, builtin, Sem.run_bind, Sem.run_pure, Result.andThen_ok, List.map_toArray, List.map_cons, List.map_nil, hs, hx, hr]
  exact hK _ _ (h c1 w1 h1 h2 h3 h4)
end
theorem gl_set (xss : List (List Int)) (i j : Nat) (ys : List Int) (h : i < xss.length) : (xss.set i ys).getD j [] = if j = i then ys else xss.getD j [] := by
  rw [List.getD_eq_getElem?_getD, List.getD_eq_getElem?_getD, List.getElem?_set]
  by_cases hj : i = j
  · subst hj
    simp [h]
  · simp [hj, Ne.symm hj]
/-- A list of a row of lists: read; another one stored. -/
theorem OwnL.put {w : World} {base : Nat} {v : Value} {xss : List (List Int)} (h : OwnL w base v xss) {i : Nat} (hi : i < xss.length) :
    ∃ g cap, v = .slice (some ⟨g, 0, none⟩) xss.length cap ∧ xss.length ≤ cap ∧ cap ≤ 9223372036854775807 ∧ base ≤ g ∧ g < w.heap.size ∧
      (∃ a m c, w.cell? ⟨g, i, none⟩ = some (.slice a m c) ∧ m ≤ c ∧ RI w a m (xss.getD i []) ∧ ∀ ad, a = some ad → 0 < m → base ≤ ad.block ∧ g ≠ ad.block) ∧ w.frozen? ⟨g, i, none⟩ = false ∧
      ∀ A m c ys, m ≤ c → RI w A m ys → (∀ ad, A = some ad → 0 < m → base ≤ ad.block ∧ g ≠ ad.block) → OwnL (w.setCell ⟨g, i, none⟩ (.slice A m c)) base v (xss.set i ys) := by
  obtain ⟨vs, h1, h2⟩ := h.o
  have hvl : vs.length = xss.length := by have := h1.1; omega
  rcases h1.2 with ⟨_, hn⟩ | ⟨g, cap, cur, rfl, hb, hg, hc, hm, hs, ht⟩
  · omega
  · obtain ⟨a, m, c, h4, h5, h6, h7⟩ := h2 i hi
    have hcell : ∀ j, j < xss.length → w.cell? ⟨g, j, none⟩ = vs[j]? := fun j hj => by
      rw [cell_of_row w g j cur _ _ hg, ← ht, List.getElem?_take, if_pos (by omega)]
      simp
    refine ⟨g, cap, rfl, hc, by simpa [maxLen] using hm, hb, (Array.getElem?_eq_some_iff.1 hg).1, ⟨a, m, c, by rw [hcell i hi, h4], h5, h6, fun ad ha h0 => ⟨(h7 ad ha h0).1, fun e => (h7 ad ha h0).2 (by rw [← e]; rfl)⟩⟩, frozen_of_row w g i hg, fun A' m' c' ys hmc hR hne => ?_⟩
    refine ⟨vs.set i (.slice A' m' c'), ⟨by rw [List.length_set, List.length_set]; exact h1.1, .inr ⟨g, cap, cur.setIfInBounds i (.slice A' m' c'), by rw [List.length_set], hb, heap_setCell_own w g i _ hg, by rw [List.length_set]; exact hc, hm, by simpa using hs, ?_⟩⟩, fun j hj => ?_⟩
    · rw [List.length_set, ← ht]
      apply List.ext_getElem?
      intro j
      simp only [Nat.mul_one, Array.toList_setIfInBounds, List.getElem?_take, List.getElem?_set, List.length_take]
      by_cases hj : j < xss.length
      · simp only [hj, if_true]
        by_cases hij : i = j
        · subst hij
          have : i < cur.size := by omega
          simp [this, hj]
          omega
        · simp [hij]
      · simp only [hj, if_false]
        by_cases hij : i = j
        · omega
        · simp [hij]
    · have hset : Step (fun k => k = g) w (w.setCell ⟨g, i, none⟩ (.slice A' m' c')) := Step.setCell (F := fun k => k = g) w (p := ⟨g, i, none⟩) rfl _
      rw [List.length_set] at hj
      rw [gl_set _ _ _ _ hi]
      by_cases hji : j = i
      · subst hji
        rw [if_pos rfl]
        refine ⟨A', m', c', by rw [List.getElem?_set]; simp [hvl, hj], hmc, hR.step hset fun ad ha h0 e => (hne ad ha h0).2 e.symm, fun ad ha h0 => ⟨(hne ad ha h0).1, fun e => (hne ad ha h0).2 (by cases e; rfl)⟩⟩
      · rw [if_neg hji]
        obtain ⟨a, m, c, k4, k5, k6, k7⟩ := h2 j hj
        refine ⟨a, m, c, by rw [List.getElem?_set_ne (Ne.symm hji)]; exact k4, k5, k6.step hset fun ad ha h0 e => (k7 ad ha h0).2 (by rw [e]; rfl), k7⟩
end Go.Proofs.YtefhmlgepnlaoaaGreat
