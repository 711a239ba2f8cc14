/- Walks: slices.Clip. -/
import Derived.Test.YtefhmlgepnlaoaaGreatLa
set_option linter.unusedVariables false
set_option linter.unusedSimpArgs false
namespace Go.Proofs.YtefhmlgepnlaoaaGreat
open Go.RowKit

theorem clip_any (xs : List Int) (A : Option Addr) (n c : Nat) (w : World) (hA : RI w A n xs) (hnc : n ≤ c) :
    Calls Tryz.prog 120 #[.slice A n c] w fun e w' => e = .returned (.slice A n n) ∧ w = w' := by
  have hcut := cut_hm A n c n (Nat.le_refl _) hnc w
  have hle := hA.le
  have hAA : (if n = 0 then A else A.map (·.add 0)) = A := by
    split
    · rfl
    · obtain ⟨b, off, rfl, _⟩ := hA.at (by omega)
      rw [Option.map_some, addr_add]
      rfl
  rw [hAA] at hcut
  clear hA hAA
  go_enter Tryz.func120, Tryz.ntmps120
  go_wp2
  go_ret
  exact ⟨rfl, rfl⟩
end Go.Proofs.YtefhmlgepnlaoaaGreat
