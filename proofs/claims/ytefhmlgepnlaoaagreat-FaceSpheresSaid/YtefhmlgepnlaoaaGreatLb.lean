/- slices.Sort at []int, in this seat's words. -/
import Derived.Test.YtefhmlgepnlaoaaGreatLa
import Derived.Test.YtefhmlgepnlaoaaGreatSl
import Derived.Sort.OwnSortedInts
set_option linter.unusedVariables false
set_option linter.unusedSimpArgs false
namespace Go.Proofs.YtefhmlgepnlaoaaGreat
open Go.RowKit Go.Sort

def sortI (xs : List Int) : List Int := xs.mergeSort fun x y => decide (x ≤ y)

theorem sort_any (xs : List Int) (v : Value) (base : Nat) (w : World) (HO : OwnI w base v xs) (hl : xs.length < 1099511627776) :
    Calls Tryz.prog 78 #[v] w fun e w' => e = .returned (.tuple #[]) ∧ OwnI w' base v (sortI xs) ∧ Step (fun k => some k = v.ownBlock) w w' := by
  rcases HO.o.2 with ⟨rfl, hn⟩ | ⟨g, cap, cur, rfl, hb, hg, hc, hm, hs, ht⟩
  · have hx : xs = [] := List.eq_nil_of_length_eq_zero hn
    subst hx
    exact (Any.slices_Sort_int_none Tryz.lays189 none 0 w).mono fun e w' h => ⟨h.1, h.2 ▸ (by simpa [sortI] using OwnI.nil w base), h.2 ▸ Step.refl _ _⟩
  · have hH : Holds (Value.int .i64) w g 0 xs.toArray := holds_of_blockI hg (by simpa using ht)
    refine (Any.slices_Sort_int Tryz.lays189 g 0 cap xs w hH (Array.getElem?_eq_some_iff.1 hg).1 (by omega)).mono fun e w' h => ?_
    obtain ⟨he, n, os, rfl⟩ := h
    refine ⟨he, ⟨?_⟩, Step.of_grown (grownBy_sortedI _)⟩
    have h1 : (xs.mergeSort fun x y => decide (x ≤ y)).length = xs.length := by simp
    have := ownsRow_sortedI (w := w) (n := n) (os := os) (ts := xs.mergeSort fun x y => decide (x ≤ y)) h1 hb hg hc hm hs
    unfold sortI
    rw [h1]
    exact this
end Go.Proofs.YtefhmlgepnlaoaaGreat
