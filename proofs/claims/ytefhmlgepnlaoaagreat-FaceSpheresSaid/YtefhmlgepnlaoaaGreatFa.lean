/- Walks: face.round. -/
import Derived.Test.YtefhmlgepnlaoaaGreatRb
set_option linter.unusedVariables false
set_option linter.unusedSimpArgs false
namespace Go.Proofs.YtefhmlgepnlaoaaGreat
open Go.RowKit

/-- nx so many times. -/
def it (nx : Int → Int) : Nat → Int → Int
  | 0, d => d
  | i + 1, d => nx (it nx i d)
def orbL (nx : Int → Int) (n : Nat) (d : Int) : List Int := (List.range n).map fun i => it nx i d
theorem orbL_succ (nx : Int → Int) (n : Nat) (d : Int) : orbL nx (n + 1) d = orbL nx n d ++ [it nx n d] := by
  unfold orbL
  rw [List.range_succ, List.map_append]
  rfl
theorem orbL_len (nx : Int → Int) (n : Nat) (d : Int) : (orbL nx n d).length = n := by simp [orbL]
def nextD (tn : List (List Int)) (at_ : Int → Option Nat) (d : Int) : Int := (nextL tn at_ d).getD 0

theorem behind_any (g : Gr) (p : Pt) (tn : List (List Int)) (at_ : Int → Option Nat) (v : Value) (x : Int) (b : Nat) (w : World) {n0 : Nat} (hR : RotaX w n0 v g p tn at_) (hc : w.cell? ⟨b, 0, none⟩ = some v) (hv : ∃ a, v = .pointer (some a)) :
    Calls Tryz.prog 101 #[.int .i64 x, .pointer (some ⟨b, 0, none⟩)] w fun e w' => e = .returned (.int .i64 (nextD tn at_ x)) ∧ w = w' := by
  have hN := next_any g p tn at_ v x w hR
  obtain ⟨a, rfl⟩ := hv
  go_enter Tryz.func101, Tryz.ntmps101
  go_wp2_with (go_at_call 102; refine hN.mono ?_; rintro e w' ⟨rfl, rfl⟩)
  go_ret
  exact ⟨rfl, rfl⟩

theorem RotaX.ptr {w : World} {n0 : Nat} {v : Value} {g : Gr} {p : Pt} {tn : List (List Int)} {at_ : Int → Option Nat} (h : RotaX w n0 v g p tn at_) : ∃ a, v = .pointer (some a) := by
  obtain ⟨m, ⟨R, _, _, _, _, _, _, _, _, _, _, _, _, _, rfl, _⟩, _⟩ := h.r
  exact ⟨_, rfl⟩

theorem round_any (g : Gr) (p : Pt) (tn : List (List Int)) (at_ : Int → Option Nat) (v : Value) (d : Int) (n : Nat) (w : World) {n0 : Nat} (hR : RotaX w n0 v g p tn at_) (hn : 0 < n) (hnl : n < 1099511627776)
    (h1 : it (nextD tn at_) n d = d) (h2 : ∀ i, 0 < i → i < n → it (nextD tn at_) i d ≠ d) :
    Calls Tryz.prog 53 #[v, .int .i64 d] w fun e w' => (∃ u, e = .returned u ∧ OwnI w' w.heap.size u (firstR (orbL (nextD tn at_) n d))) ∧ Below w.heap.size w w' := by
  have HR := Bx.mk hR
  have H2 := Bx.mk h2
  have H1 := Bx.mk h1
  obtain ⟨ad, rfl⟩ := hR.ptr
  clear hR h1 h2
  go_enter Tryz.func53, Tryz.ntmps53
  go_wp2
  go_loopw [5, 7] (fun ov xv wr => ∃ k : Nat, k ≤ n ∧ xv = .int .i64 (it (nextD tn at_) k d) ∧ OwnI wr (w.heap.size + 1) ov (orbL (nextD tn at_) k d) ∧ BB (w.alloc (.cells #[.pointer (some ad)] 81)) wr) (fun ov _ _ => n - (match ov with | .slice _ m _ => m | _ => 0))
  case atStart => exact ⟨0, Nat.zero_le _, rfl, OwnI.nil _ _, BB.refl _⟩
  case round =>
    obtain ⟨k, hk, rfl, HO, HB⟩ := hrel
    have hz := HB.pos
    have hc0 := HB.cell (box_cell w _ _ _ 0)
    have HC0 := Bx.mk hc0
    obtain ⟨A5, c5, rfl, hc5, hr5, ha5⟩ := HO.read (by rw [orbL_len]; omega)
    have hl := orbL_len (nextD tn at_) k d
    rw [hl] at hc5 hr5
    have HL := Bx.mk hl
    simp only [HL.out] at HO ⊢
    clear hl
    by_cases hkn : k = n
    · subst hkn
      have h3 : (it (nextD tn at_) k d != d) = false := by rw [H1.out]; simp
      have h4 : ((k : Int) == 0) = false := by simp; omega
      have HX := Bx.mk H1.out
      go_wp2_with (go_at_call 99; (with_reducible refine (first_any (orbL (nextD tn at_) k d) A5 _ c5 _ hr5 hc5 (Nat.lt_of_lt_of_le hnl (by decide))).mono ?_); rintro e w1 ⟨⟨u, rfl, HO1⟩, hb1⟩; have HB1 := HB.call hb1)
      go_ret
      exact ⟨⟨u, rfl, HO1.mono (by have := HB.size; simp at this; omega)⟩, HB1.under.b⟩
    · have hkl : k < n := by omega
      have hs := Bx.mk (orbL_succ (nextD tn at_) k d)
      have h3 : (decide (k = 0) || (it (nextD tn at_) k d != d)) = true := by
        rcases Nat.eq_zero_or_pos k with h | h
        · simp [h]
        · have := H2.out k h hkl
          simp [this]
      rcases Nat.eq_zero_or_pos k with h0 | h0
      · subst h0
        go_wp2_with (first
          | (at_builtin; refine app_int (w.heap.size + 1) _ _ HO _ rfl rfl rfl rfl (by omega) (Nat.lt_of_le_of_lt (Nat.le_of_eq HL.out) (Nat.lt_trans hkl hnl)) ?_; intro v1 w1 ho1 hs1 hb1; have HB1 := HB.own HO (by simp) hs1; have hc1 : w1.cell? ⟨w.heap.size, 0, none⟩ = some (.pointer (some ad)) := HB1.cell (box_cell w _ _ _ 0))
          | (go_at_call 101; (with_reducible refine (behind_any g p tn at_ (.pointer (some ad)) _ w.heap.size _ (HR.out.below HB1.under.b) hc1 ⟨_, rfl⟩).mono ?_); rintro e w2 ⟨rfl, rfl⟩))
        have hol := Bx.mk (orbL_len (nextD tn at_) (0 + 1) d)
        obtain ⟨A6, c6, hv6, -, -, -⟩ := ho1.read (by rw [← hs.out, hol.out]; omega)
        rw [← hs.out, hol.out] at hv6
        subst hv6
        go_roundw
        case rel => exact ⟨0 + 1, hkl, rfl, hs.out ▸ ho1, HB1⟩
        case measure => simp; omega
      · have h4 : ((k : Int) == 0) = false := by simp; omega
        have h5 : (it (nextD tn at_) k d != d) = true := by have := H2.out k h0 hkl; simp [this]
        go_wp2_with (first
          | (at_builtin; refine app_int (w.heap.size + 1) _ _ HO _ rfl rfl rfl rfl (by omega) (Nat.lt_of_le_of_lt (Nat.le_of_eq HL.out) (Nat.lt_trans hkl hnl)) ?_; intro v1 w1 ho1 hs1 hb1; have HB1 := HB.own HO (by simp) hs1; have hc1 : w1.cell? ⟨w.heap.size, 0, none⟩ = some (.pointer (some ad)) := HB1.cell (box_cell w _ _ _ 0))
          | (go_at_call 101; (with_reducible refine (behind_any g p tn at_ (.pointer (some ad)) _ w.heap.size _ (HR.out.below HB1.under.b) hc1 ⟨_, rfl⟩).mono ?_); rintro e w2 ⟨rfl, rfl⟩))
        have hol := Bx.mk (orbL_len (nextD tn at_) (k + 1) d)
        obtain ⟨A6, c6, hv6, -, -, -⟩ := ho1.read (by rw [← hs.out, hol.out]; omega)
        rw [← hs.out, hol.out] at hv6
        subst hv6
        go_roundw
        case rel => exact ⟨k + 1, hkl, rfl, hs.out ▸ ho1, HB1⟩
        case measure => simp; omega
end Go.Proofs.YtefhmlgepnlaoaaGreat
