/- Walks: slices.ContainsFunc; face.Sphere's closure. -/
import Derived.Test.YtefhmlgepnlaoaaGreatSh
set_option linter.unusedVariables false
set_option linter.unusedSimpArgs false
namespace Go.Proofs.YtefhmlgepnlaoaaGreat
open Go.RowKit

theorem idxFFrom_any (del : Int → Bool) : ∀ (xs : List Int) (k : Nat), decide (0 ≤ idxFFrom del k xs) = xs.any del
  | [], k => rfl
  | x :: xs, k => by
    unfold idxFFrom
    rw [List.any_cons]
    cases del x with
    | true => simp
    | false => simpa using idxFFrom_any del xs (k + 1)
theorem containsFunc_any (F : Nat) (lb : Array Value) (del : Int → Bool) (xs : List Int) (Inv : World → Prop) (G : Nat → Prop) (hT : Tells F lb del xs Inv G) (eg : ∀ args w, (callFunc F args).run Tryz.prog w = .ok (.enter F args) w) (A : Option Addr) (n c : Nat) (w : World) (hA : RI w A n xs) (hG : ∀ a, A = some a → 0 < n → ¬ G a.block) (hI : Inv w) :
    Calls Tryz.prog 46 #[.slice A n c, .func (.func F) #[] lb] w fun e w' => e = .returned (.bool (xs.any del)) ∧ Inv w' ∧ Step G w w' := by
  have hq := indexFunc_any F lb del xs Inv G hT eg A n c w hA hG hI
  have hx := Bx.mk (idxFFrom_any del xs 0)
  generalize idxFFrom del 0 xs = r at hq hx
  clear hA
  go_enter Tryz.func46, Tryz.ntmps46
  go_wp2_with (go_at_call 96; refine hq.mono ?_; rintro e w1 ⟨rfl, hI1, hs1⟩)
  go_ret
  exact ⟨ret_bool hx.out, hI1, hs1⟩
theorem sphere1_tells (xs : List Int) : Tells 47 #[] (fun x => x != 0) xs (fun _ => True) (fun _ => False) := by
  constructor
  rintro x hx w _
  go_enter Tryz.func47, Tryz.ntmps47
  go_wp2
  go_ret
  exact ⟨rfl, trivial, Step.refl _ _⟩
end Go.Proofs.YtefhmlgepnlaoaaGreat
