/- Walks: the laws' Small; Whole. -/
import Derived.Test.YtefhmlgepnlaoaaGreatAa
set_option linter.unusedVariables false
set_option linter.unusedSimpArgs false
namespace Go.Proofs.YtefhmlgepnlaoaaGreat
open Go.RowKit

def Gr.small4 (g : Gr) (p : Pt) : Bool := !(decide (60 < g.E.length) || (decide (60 < p.V.length) || (decide (60 < p.E.length) || (decide (60 < g.N) && decide (g.N ≤ 1024)))))
def smallI (b : Bool) : Int := if b then 1 else 0
theorem small4_any (g : Gr) (p : Pt) (A A1 A2 : Option Addr) (c c1 c2 : Nat) (w : World) :
    Calls Tryz.prog 39 #[.agg #[.int .i64 g.N, .slice A g.E.length c], .agg #[.slice A1 p.V.length c1, .slice A2 p.E.length c2]] w fun e w' => e = .returned (.int .i64 (smallI (g.small4 p))) ∧ BB w w' := by
  have BA := Bx.mk (((BB.refl w).al (.cells #[.int .i64 g.N, .slice A g.E.length c] 24)).al (.cells #[.slice A1 p.V.length c1, .slice A2 p.E.length c2] 27))
  have hs : Bx (g.small4 p = !(decide (60 < g.E.length) || (decide (60 < p.V.length) || (decide (60 < p.E.length) || (decide (60 < g.N) && decide (g.N ≤ 1024)))))) := ⟨rfl⟩
  by_cases h1 : 60 < g.E.length
  · have hr : Bx (smallI (g.small4 p) = 0) := ⟨by rw [hs.out]; simp [h1, smallI]⟩
    go_enter Tryz.func39, Tryz.ntmps39
    go_wp2
    go_ret
    exact ⟨ret_int hr.out.symm, BA.out⟩
  by_cases h2 : 60 < p.V.length
  · have hr : Bx (smallI (g.small4 p) = 0) := ⟨by rw [hs.out]; simp [h1, h2, smallI]⟩
    go_enter Tryz.func39, Tryz.ntmps39
    go_wp2
    go_ret
    exact ⟨ret_int hr.out.symm, BA.out⟩
  by_cases h3 : 60 < p.E.length
  · have hr : Bx (smallI (g.small4 p) = 0) := ⟨by rw [hs.out]; simp [h1, h2, h3, smallI]⟩
    go_enter Tryz.func39, Tryz.ntmps39
    go_wp2
    go_ret
    exact ⟨ret_int hr.out.symm, BA.out⟩
  by_cases h4 : 60 < g.N
  · by_cases h5 : g.N ≤ 1024
    · have hr : Bx (smallI (g.small4 p) = 0) := ⟨by rw [hs.out]; simp [h4, h5, smallI]⟩
      go_enter Tryz.func39, Tryz.ntmps39
      go_wp2
      go_ret
      exact ⟨ret_int hr.out.symm, BA.out⟩
    · have hr : Bx (smallI (g.small4 p) = 1) := ⟨by rw [hs.out]; simp [h1, h2, h3, h4, h5, smallI]⟩
      go_enter Tryz.func39, Tryz.ntmps39
      go_wp2
      go_ret
      exact ⟨ret_int hr.out.symm, BA.out⟩
  · have hr : Bx (smallI (g.small4 p) = 1) := ⟨by rw [hs.out]; simp [h1, h2, h3, h4, smallI]⟩
    go_enter Tryz.func39, Tryz.ntmps39
    go_wp2
    go_ret
    exact ⟨ret_int hr.out.symm, BA.out⟩
def Gr.small6 (g : Gr) (p : Pt) (tn : List (List Int)) : Bool := g.small4 p && (decide (tn.length ≤ 100) && tn.all fun l => decide (l.length ≤ 200))
theorem small6_any (g : Gr) (p : Pt) (tn : List (List Int)) (A A1 A2 A3 : Option Addr) (c c1 c2 c3 : Nat) (w : World) (h3 : RL w A3 tn.length tn) :
    Calls Tryz.prog 12 #[.agg #[.int .i64 g.N, .slice A g.E.length c], .agg #[.slice A1 p.V.length c1, .slice A2 p.E.length c2], .slice A3 tn.length c3] w fun e w' => e = .returned (.int .i64 (smallI (g.small6 p tn))) ∧ BB w w' := by
  have BA := Bx.mk (((BB.refl w).al (.cells #[.int .i64 g.N, .slice A g.E.length c] 24)).al (.cells #[.slice A1 p.V.length c1, .slice A2 p.E.length c2] 27))
  have hs : Bx (g.small6 p tn = (g.small4 p && (decide (tn.length ≤ 100) && tn.all fun l => decide (l.length ≤ 200)))) := ⟨rfl⟩
  have H3 := Bx.mk h3
  clear h3
  cases h4 : g.small4 p with
  | false =>
    have hr : Bx (smallI (g.small6 p tn) = 0) := ⟨by rw [hs.out, h4]; rfl⟩
    have h4b : Bx (smallI (g.small4 p) = 0) := ⟨by rw [h4]; rfl⟩
    clear h4
    go_enter Tryz.func12, Tryz.ntmps12
    go_wp2_with (go_at_call 39; (with_reducible refine (small4_any g p A A1 A2 c c1 c2 _).mono ?_); rintro e w1 ⟨rfl, hb1⟩; rw [h4b.out])
    go_ret
    exact ⟨ret_int hr.out.symm, BA.out.trans hb1⟩
  | true =>
    have h4b : Bx (smallI (g.small4 p) = 1) := ⟨by rw [h4]; rfl⟩
    have hs2 : Bx (g.small6 p tn = (decide (tn.length ≤ 100) && tn.all fun l => decide (l.length ≤ 200))) := ⟨by rw [hs.out, h4]; rfl⟩
    clear h4
    by_cases h5 : 100 < tn.length
    · have hr : Bx (smallI (g.small6 p tn) = 0) := ⟨by rw [hs2.out]; simp [smallI]; omega⟩
      go_enter Tryz.func12, Tryz.ntmps12
      go_wp2_with (go_at_call 39; (with_reducible refine (small4_any g p A A1 A2 c c1 c2 _).mono ?_); rintro e w1 ⟨rfl, hb1⟩; rw [h4b.out])
      go_ret
      exact ⟨ret_int hr.out.symm, BA.out.trans hb1⟩
    · have hs3 : Bx (g.small6 p tn = tn.all fun l => decide (l.length ≤ 200)) := ⟨by rw [hs2.out]; simp; omega⟩
      go_enter Tryz.func12, Tryz.ntmps12
      go_wp2_with (go_at_call 39; (with_reducible refine (small4_any g p A A1 A2 c c1 c2 _).mono ?_); rintro e w1 ⟨rfl, hb1⟩; rw [h4b.out])
      have HB := Bx.mk (BA.out.trans hb1)
      clear hb1
      go_loopw [7] (fun iv wr => ∃ k : Nat, k ≤ tn.length ∧ iv = .int .i64 k ∧ Bx (∀ l ∈ tn.take k, l.length ≤ 200) ∧ w1 = wr) (fun iv _ => tn.length - (intOf iv).toNat)
      case atStart => exact ⟨0, Nat.zero_le _, rfl, ⟨fun l hl => by simp at hl⟩, rfl⟩
      case round =>
        obtain ⟨k, hk, rfl, HN, rfl⟩ := hrel
        by_cases hlt : k < tn.length
        · obtain ⟨b3, off3, a5, m5, c5, rfl, hc5, hmc5, hr5⟩ := (HB.out.rl H3.out).get hlt
          have hm5 := Bx.mk hr5.len
          have hle5 := hr5.le
          clear hr5
          by_cases h6 : 200 < m5
          · have hr : Bx (smallI (g.small6 p tn) = 0) := ⟨by
              rw [hs3.out]
              have : (tn.all fun l => decide (l.length ≤ 200)) = false := by
                rw [List.all_eq_false]
                exact ⟨gl tn k, gl_mem hlt, by rw [hm5.out]; simp; omega⟩
              rw [this]; rfl⟩
            go_wp2
            go_ret
            exact ⟨ret_int hr.out.symm, HB.out⟩
          · have HN2 : Bx (∀ l ∈ tn.take (k + 1), l.length ≤ 200) := ⟨fun l hl => by
              rw [List.take_succ_eq_append_getElem hlt, ← gl_eq hlt, List.mem_append, List.mem_singleton] at hl
              rcases hl with hl | rfl
              · exact HN.out l hl
              · rw [hm5.out]; omega⟩
            go_wp2
            go_roundw
            case rel => exact ⟨k + 1, hlt, by go_num, HN2, trivial⟩
            case measure => simp [intOf]; omega
        · have hr : Bx (smallI (g.small6 p tn) = 1) := ⟨by
            rw [hs3.out]
            have : (tn.all fun l => decide (l.length ≤ 200)) = true := by
              rw [List.all_eq_true]
              intro l hl
              have := HN.out l (by rw [List.take_of_length_le (by omega)]; exact hl)
              simpa using this
            rw [this]; rfl⟩
          go_wp2
          go_ret
          exact ⟨ret_int hr.out.symm, HB.out⟩
end Go.Proofs.YtefhmlgepnlaoaaGreat
