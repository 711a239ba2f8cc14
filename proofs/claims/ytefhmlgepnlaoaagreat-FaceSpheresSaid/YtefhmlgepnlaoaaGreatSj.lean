/- Walks: walk.kept; slices.ContainsFunc. -/
import Derived.Test.YtefhmlgepnlaoaaGreatSi
set_option linter.unusedVariables false
set_option linter.unusedSimpArgs false
namespace Go.Proofs.YtefhmlgepnlaoaaGreat
open Go.RowKit

theorem kept1_tells (F : Nat) (lb : Array Value) (so : Int → Bool) (xs : List Int) (Inv : World → Prop) (G : Nat → Prop) (hT : Tells F lb so xs Inv G) (eg : ∀ args w, (callFunc F args).run Tryz.prog w = .ok (.enter F args) w) (B : Nat) (hB : ¬ G B) :
    Tells 122 #[.pointer (some ⟨B, 0, none⟩)] (fun x => !so x) xs (fun W => Inv W ∧ W.cell? ⟨B, 0, none⟩ = some (.func (.func F) #[] lb)) G := by
  constructor
  rintro x hx w ⟨hI, hc⟩
  have hq := hT.h x hx w hI
  go_enter Tryz.func122, Tryz.ntmps122
  go_wp2_with (refine hq.mono ?_; rintro e w1 ⟨rfl, hI1, hs1⟩)
  go_ret
  exact ⟨rfl, ⟨hI1, hs1.cell hc hB⟩, hs1⟩

theorem kept_any (F : Nat) (lb : Array Value) (so : Int → Bool) (xs : List Int) (Inv : World → Prop) (G : Nat → Prop) (hT : Tells F lb so xs Inv G) (eg : ∀ args w, (callFunc F args).run Tryz.prog w = .ok (.enter F args) w) (A : Option Addr) (n c : Nat) (w : World) (hA : RI w A n xs) (hl : n < 1099511627776)
    (hG : ∀ k, G k → k < w.heap.size) (hstab : ∀ W W', Inv W → Step (fun k => w.heap.size ≤ k) W W' → Inv W') (hI : Inv w) :
    Calls Tryz.prog 89 #[.slice A n c, .func (.func F) #[] lb] w fun e w' => (∃ u, e = .returned u ∧ OwnI w' w.heap.size u (xs.filter so)) ∧ Inv w' ∧ Step (fun k => G k ∨ w.heap.size ≤ k) w w' := by
  have hlen := hA.len
  subst hlen
  have HA := Bx.mk hA
  have HG := Bx.mk hG
  have HST := Bx.mk hstab
  have hBG : ¬ G w.heap.size := fun h => Nat.lt_irrefl _ (hG _ h)
  have hK := kept1_tells F lb so xs Inv G hT eg w.heap.size hBG
  have hff : Bx (xs.filter (fun x => !(fun x => !so x) x) = xs.filter so) := ⟨by simp⟩
  clear hA hG hstab
  go_enter Tryz.func89, Tryz.ntmps89
  go_wp2_with (first
    | (go_at_call 97; refine (clone_any xs A _ c _ (((BB.refl w).al _).ri HA.out) hl).mono ?_; rintro e w1 ⟨⟨u, rfl, HO⟩, hb1⟩; have HW := (BB.refl w).call1 hb1; have hcB := (BB.mk hb1).cell (box_cell w #[.func (.func F) #[] lb] 79 (0, 0) 0); have hsz := (BB.mk hb1).size; rw [World.size_alloc] at hsz; rw [World.size_alloc] at HO; have HI1 := HST.out _ _ hI ((step_of_bb HW).mono (F := fun _ => False) fun k _ h => h.elim))
    | (go_at_call 121; refine (deleteFunc_any 122 #[.pointer (some ⟨w.heap.size, 0, none⟩)] (fun x => !so x) xs _ G hK (enters_of Tryz.func122 (by kernel_rfl) rfl) (w.heap.size + 1) u _ HO hl (fun k hk h => by have := HG.out k h; have := (HO.lt k hk).1; omega) (fun W W' hi hs => ⟨HST.out _ _ hi.1 (hs.mono fun k _ e => by have := (HO.lt k e.symm).1; omega), hs.cell hi.2 (fun e => by have := (HO.lt _ e.symm).1; dsimp only at this; omega)⟩) ⟨HI1, hcB⟩).mono ?_; rintro e w2 ⟨⟨u2, rfl, HO2⟩, hI2, hs2⟩))
  go_ret
  refine ⟨⟨_, rfl, (hff.out ▸ HO2).mono (by omega)⟩, hI2.1, ?_⟩
  refine (step_of_bb HW).then hs2 fun k hk h => ?_
  rcases h with h | h
  · exact .inl h
  · have := (HO.lt k h.symm).1
    exact .inr (by omega)
end Go.Proofs.YtefhmlgepnlaoaaGreat
