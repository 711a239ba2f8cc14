/- Walks: the closure of walk.Pieces. -/
import Derived.Test.YtefhmlgepnlaoaaGreatSj
import Derived.Test.YtefhmlgepnlaoaaGreatSd
import Derived.Deep.RegionHeld3
set_option linter.unusedVariables false
set_option linter.unusedSimpArgs false
namespace Go.Proofs.YtefhmlgepnlaoaaGreat
open Go.RowKit

/-- What the closure reads: the sets; the graph; a group's list. -/
structure PInv (bs bg bl base : Nat) (s : Value) (all : List Int) (rep : Nat → Nat) (U : Option Nat) (g : Gr) (AE : Option Addr) (ce : Nat) (l : List Int) (AL : Option Addr) (cl : Nat) (W : World) : Prop where
  st : SetsAt W base s all rep U
  cs : W.cell? ⟨bs, 0, none⟩ = some s
  cg : W.cell? ⟨bg, 1, none⟩ = some (.slice AE g.E.length ce)
  re : RE W AE g.E.length g.E
  cl : W.cell? ⟨bl, 0, none⟩ = some (.slice AL l.length cl)
  rl : RI W AL l.length l
theorem RE.step {F : Nat → Prop} {w w' : World} {A : Option Addr} {n : Nat} {xs : List (Int × Int)} (h : RE w A n xs) (hs : Step F w w') (hf : ∀ a, A = some a → 0 < n → ¬ F a.block) : RE w' A n xs :=
  ⟨h.len, h.le, h.rc.step hs fun a ha h0 => hf a ha (by rw [edgeCells_length, h.len] at h0; omega)⟩

set_option maxHeartbeats 2000000 in
theorem pieces1_tells (bs bg bl base : Nat) (s : Value) (all : List Int) (rep : Nat → Nat) (U : Option Nat) (g : Gr) (AE : Option Addr) (ce : Nat) (l : List Int) (AL : Option Addr) (cl : Nat) (es : List Int)
    (hes : ∀ e ∈ es, 0 ≤ e ∧ e < g.E.length ∧ (ge g.E e.toNat).1 ∈ all) (hl : 0 < l.length) (hl0 : gi l 0 ∈ all) (hbs : ¬ some bs = U) (hbg : ¬ some bg = U) (hbl : ¬ some bl = U) (hAE : ∀ a, AE = some a → 0 < g.E.length → ¬ some a.block = U) (hAL : ∀ a, AL = some a → 0 < l.length → ¬ some a.block = U) :
    Tells 87 #[.pointer (some ⟨bs, 0, none⟩), .pointer (some ⟨bg, 0, none⟩), .pointer (some ⟨bl, 0, none⟩)] (fun e => sameR all rep (ge g.E e.toNat).1 (gi l 0)) es (PInv bs bg bl base s all rep U g AE ce l AL cl) (fun k => some k = U) := by
  constructor
  rintro e he w hI
  obtain ⟨he0, he1, he2⟩ := hes e he
  obtain ⟨k, rfl⟩ : ∃ k : Nat, e = (k : Int) := ⟨e.toNat, by omega⟩
  rw [Int.toNat_natCast] at he2
  have hk : k < g.E.length := by omega
  have hc1 := hI.cs
  have hc2 := hI.cg
  have hc3 := hI.cl
  obtain ⟨b1, o1, rfl, hce⟩ := hI.re.at (by omega)
  obtain ⟨b2, o2, rfl, hcl⟩ := hI.rl.at hl
  have hc4 := (hce k hk).1
  have hc5 := hcl 0 hl
  rw [Nat.add_zero] at hc5
  have hleE := hI.re.le
  have HI := Bx.mk hI
  have hS := Bx.mk hI.st
  have HD : Bx (SetsAt w.drew base s all rep U) := ⟨hI.st.below (BB.drawn (BB.refl w) 1).b⟩
  have hsame := Bx.mk (same_any base s all rep U (ge g.E k).1 (gi l 0) he2 hl0 w.drew HD.out)
  have hd1 : w.drew.cell? ⟨bs, 0, none⟩ = some s := hc1
  have hd2 : w.drew.cell? ⟨bg, 1, none⟩ = some (.slice (some ⟨b1, o1, none⟩) g.E.length ce) := hc2
  have hd3 : w.drew.cell? ⟨bl, 0, none⟩ = some (.slice (some ⟨b2, o2, none⟩) l.length cl) := hc3
  have hd4 : w.drew.cell? ⟨b1, o1 + k * 2, none⟩ = some (.int .i64 (ge g.E k).1) := hc4
  have hd5 : w.drew.cell? ⟨b2, o2, none⟩ = some (.int .i64 (gi l 0)) := hc5
  have nE : ¬ some b1 = U := hAE _ rfl (by omega)
  have nL : ¬ some b2 = U := hAL _ rfl hl
  obtain ⟨R, rfl⟩ : ∃ q, s = .pointer q := by obtain ⟨R, _, _, _, _, _, rfl, _⟩ := hI.st.h; exact ⟨_, rfl⟩
  have HU := Bx.mk (And.intro hbs (And.intro hbg (And.intro hbl (And.intro nE nL))))
  clear hce hcl hI hes he he2 hl0 hAE hAL hbs hbg hbl nE nL
  go_enter Tryz.func87, Tryz.ntmps87
  go_wp2
  go_region_held3 (fun w' => w'.cell? ⟨bs, 0, none⟩ = some (.pointer R) ∧ w'.cell? ⟨bg, 1, none⟩ = some (.slice (some ⟨b1, o1, none⟩) g.E.length ce) ∧ w'.cell? ⟨bl, 0, none⟩ = some (.slice (some ⟨b2, o2, none⟩) l.length cl) ∧ w'.cell? ⟨b1, o1 + k * 2, none⟩ = some (.int .i64 (ge g.E k).1) ∧ w'.cell? ⟨b2, o2, none⟩ = some (.int .i64 (gi l 0)))
    (first | exact ⟨hd1, hd2, hd3, hd4, hd5⟩ | exact ⟨hs1.cell hd1 HU.out.1, hs1.cell hd2 HU.out.2.1, hs1.cell hd3 HU.out.2.2.1, hs1.cell hd4 HU.out.2.2.2.1, hs1.cell hd5 HU.out.2.2.2.2⟩ | fail)
    (first
      | (go_simp; go_at_call 88; refine hsame.out.mono ?_; rintro e w1 ⟨rfl, hS1, hs1⟩)
      | fail)
  all_goals
    go_wp2
    go_ret
    have hsw : Step (fun k => some k = U) w w1 := ⟨hs1.os, hs1.tape, hs1.output, hs1.size, hs1.block⟩
    refine ⟨rfl, ⟨hS1, hs1.cell hd1 HU.out.1, hs1.cell hd2 HU.out.2.1, HI.out.re.step hsw (fun a ha _ => by cases ha; exact HU.out.2.2.2.1), hs1.cell hd3 HU.out.2.2.1, HI.out.rl.step hsw (fun a ha _ => by cases ha; exact HU.out.2.2.2.2)⟩, hsw⟩
end Go.Proofs.YtefhmlgepnlaoaaGreat
