/- Walks: slices.IndexFunc, ContainsFunc, over any function value. -/
import Derived.Test.YtefhmlgepnlaoaaGreatLa
set_option linter.unusedVariables false
set_option linter.unusedSimpArgs false
namespace Go.Proofs.YtefhmlgepnlaoaaGreat
open Go.RowKit

/-- The place of the first of which del is so, from place k on. -/
def idxFFrom (del : Int → Bool) (k : Nat) : List Int → Int
  | [] => -1
  | x :: xs => if del x then k else idxFFrom del (k + 1) xs
theorem idxFFrom_drop {del : Int → Bool} {xs : List Int} {k : Nat} (h : k < xs.length) : idxFFrom del k (xs.drop k) = if del (gi xs k) then (k : Int) else idxFFrom del (k + 1) (xs.drop (k + 1)) := by
  rw [List.drop_eq_getElem_cons h, gi_eq h]; rfl
/-- A function value that tells del of each of xs, keeps Inv, and turns blocks of G alone. -/
structure Tells (F : Nat) (lb : Array Value) (del : Int → Bool) (xs : List Int) (Inv : World → Prop) (G : Nat → Prop) : Prop where
  h : ∀ x ∈ xs, ∀ W, Inv W → Calls Tryz.prog F (#[.int .i64 x] ++ lb) W fun e W' => e = .returned (.bool (del x)) ∧ Inv W' ∧ Step G W W'

theorem indexFunc_any (F : Nat) (lb : Array Value) (del : Int → Bool) (xs : List Int) (Inv : World → Prop) (G : Nat → Prop) (hT : Tells F lb del xs Inv G) (eg : ∀ args w, (callFunc F args).run Tryz.prog w = .ok (.enter F args) w) (A : Option Addr) (n c : Nat) (w : World) (hA : RI w A n xs) (hG : ∀ a, A = some a → 0 < n → ¬ G a.block) (hI : Inv w) :
    Calls Tryz.prog 96 #[.slice A n c, .func (.func F) #[] lb] w fun e w' => e = .returned (.int .i64 (idxFFrom del 0 xs)) ∧ Inv w' ∧ Step G w w' := by
  have hlen := hA.len
  subst hlen
  have hle := hA.le
  have HA := Bx.mk hA
  have HG := Bx.mk hG
  clear hA hG
  go_enter Tryz.func96, Tryz.ntmps96
  go_wp2
  go_loopw [5, 8] (fun _ i wr => ∃ k : Nat, k ≤ xs.length ∧ i = .int .i64 k ∧ Bx (idxFFrom del k (xs.drop k) = idxFFrom del 0 xs) ∧ Inv wr ∧ Step G w wr) (fun _ i _ => xs.length - (intOf i).toNat)
  case atStart => exact ⟨0, Nat.zero_le _, rfl, ⟨rfl⟩, hI, Step.refl _ _⟩
  case round =>
    obtain ⟨k, hk, rfl, hd, hIk, hs⟩ := hrel
    by_cases hlt : k < xs.length
    · have HR := HA.out.step hs HG.out
      obtain ⟨b, off, rfl, hc⟩ := HR.at (by omega)
      have hc0 := hc k hlt
      have hdd := Bx.mk (idxFFrom_drop (del := del) hlt)
      clear hc HR
      cases hdel : del (gi xs k) with
      | true =>
        have hq := hT.h _ (gi_mem hlt) wr hIk
        rw [hdel] at hq
        go_wp2_with (refine hq.mono ?_; rintro e w1 ⟨rfl, hI1, hs1⟩)
        go_ret
        exact ⟨ret_int (by rw [← hd.out, hdd.out, if_pos hdel]), hI1, hs.trans hs1⟩
      | false =>
        have hq := hT.h _ (gi_mem hlt) wr hIk
        rw [hdel] at hq
        go_wp2_with (refine hq.mono ?_; rintro e w1 ⟨rfl, hI1, hs1⟩)
        go_roundw
        case rel => exact ⟨k + 1, by omega, by go_num, ⟨by rw [← hd.out, hdd.out, hdel]; rfl⟩, hI1, hs.trans hs1⟩
        case measure => simp [intOf]; omega
    · have hkk : k = xs.length := by omega
      subst hkk
      have hf : Bx (idxFFrom del 0 xs = -1) := ⟨by rw [← hd.out, List.drop_length]; rfl⟩
      go_wp2
      go_ret
      exact ⟨ret_int hf.out.symm, hIk, hs⟩
end Go.Proofs.YtefhmlgepnlaoaaGreat
