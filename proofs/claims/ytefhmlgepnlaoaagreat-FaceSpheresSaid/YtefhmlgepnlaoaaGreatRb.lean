/- Walks: rota's own, Before, After, Next; ring's step. -/
import Derived.Test.YtefhmlgepnlaoaaGreatRa
set_option linter.unusedVariables false
set_option linter.unusedSimpArgs false
namespace Go.Proofs.YtefhmlgepnlaoaaGreat
open Go.RowKit

def twinI (d : Int) : Int := if d % 2 = 0 then d + 1 else d - 1
/-- The number n places on from x. -/
def stepL (l : List Int) (x n : Int) : Option Int := if idx l x < 0 then none else some (gi l ((idx l x + n) % l.length).toNat)
/-- A rota in memory: its turns; in which turn a dart stands. -/
structure RotaX (w : World) (n0 : Nat) (v : Value) (g : Gr) (p : Pt) (tn : List (List Int)) (at_ : Int → Option Nat) : Prop where
  r : ∃ m, RotaAt w n0 v g p tn m ∧ ∀ d, m.lookup d = (at_ d).map fun v : Nat => Value.int .i64 (v : Int)
  lt : ∀ d v, at_ d = some v → v < tn.length ∧ 0 ≤ d ∧ d < 1048576
  sz : tn.length < 1099511627776 ∧ ∀ l ∈ tn, l.length < 1099511627776
def ownL (tn : List (List Int)) (at_ : Int → Option Nat) (d : Int) : List Int := match at_ d with | some v => gl tn v | none => []
def nextL (tn : List (List Int)) (at_ : Int → Option Nat) (d : Int) : Option Int := if (ownL tn at_ d).length = 0 then none else stepL (ownL tn at_ (twinI d)) (twinI d) (-1)

theorem RotaAt.below {w w' : World} {n0 : Nat} {v : Value} {g : Gr} {p : Pt} {tn : List (List Int)} {m : List (Int × Value)} (h : RotaAt w n0 v g p tn m) (hb : Below w.heap.size w w') : RotaAt w' n0 v g p tn m := by
  obtain ⟨R, A, n, c, A1, n1, c1, A2, n2, c2, A3, n3, c3, M, h1, h2, h3, h4, h5, h6, h7, h8, h9⟩ := h.h
  exact ⟨R, A, n, c, A1, n1, c1, A2, n2, c2, A3, n3, c3, M, h1, (hb.block R (Array.getElem?_eq_some_iff.1 h2).1).trans h2, h3.below hb, h4.below hb, h5.below hb, h6.below hb, h7, h8.below hb, h9⟩
theorem RotaX.below {w w' : World} {n0 : Nat} {v : Value} {g : Gr} {p : Pt} {tn : List (List Int)} {at_ : Int → Option Nat} (h : RotaX w n0 v g p tn at_) (hb : Below w.heap.size w w') : RotaX w' n0 v g p tn at_ :=
  ⟨by obtain ⟨m, h1, h2⟩ := h.r; exact ⟨m, h1.below hb, h2⟩, h.lt, h.sz⟩
theorem zero_int (w : World) : (zeroValue 3).run Tryz.prog w = .ok (.int .i64 0) w := by kernel_rfl

theorem nat_xor_one (n : Nat) : n ^^^ 1 = if n % 2 = 0 then n + 1 else n - 1 := by
  have h2 : (n ^^^ 1) / 2 = n / 2 := by
    have := @Nat.xor_div_two n 1
    simpa using this
  have h1 : (n ^^^ 1) % 2 = (n + 1) % 2 := by
    have := @Nat.xor_mod_two_eq_one n 1
    have h3 : (n ^^^ 1) % 2 < 2 := Nat.mod_lt _ (by omega)
    by_cases h : n % 2 = 0
    · have : (n ^^^ 1) % 2 = 1 := this.2 (by omega)
      omega
    · have h4 : ¬ (n ^^^ 1) % 2 = 1 := fun h5 => by have := this.1 h5; omega
      omega
  split <;> omega
theorem bits_xor_one (d : Int) (h0 : 0 ≤ d) (h1 : d < 1048576) : bits .xor .i64 d 1 = twinI d := by
  obtain ⟨n, rfl⟩ := Int.eq_ofNat_of_zero_le h0
  have hx := nat_xor_one n
  have h2 : (BitVec.ofInt 64 (n : Int)).toNat = n := by
    rw [BitVec.ofInt_natCast, BitVec.toNat_ofNat]; exact Nat.mod_eq_of_lt (by omega)
  have h3 : (BitVec.ofInt 64 (1 : Int)).toNat = 1 := rfl
  have e : bits .xor .i64 (n : Int) 1 = IntKind.i64.wrap ((BitVec.ofInt 64 (n : Int) ^^^ BitVec.ofInt 64 (1 : Int)).toNat : Int) := rfl
  rw [e, BitVec.toNat_xor, h2, h3, hx]
  unfold twinI
  split
  · rename_i h
    rw [if_pos (by omega)]
    simp [IntKind.wrap, IntKind.bits, IntKind.signed]
    omega
  · rename_i h
    rw [if_neg (by omega)]
    simp [IntKind.wrap, IntKind.bits, IntKind.signed]
    omega

theorem twin_any (d : Int) (w : World) (h0 : 0 ≤ d) (h1 : d < 1048576) :
    Calls Tryz.prog 129 #[.int .i64 d] w fun e w' => e = .returned (.int .i64 (twinI d)) ∧ w = w' := by
  go_enter Tryz.func129, Tryz.ntmps129
  go_wp2
  go_ret
  exact ⟨ret_int (bits_xor_one d h0 h1), rfl⟩

theorem own_any (g : Gr) (p : Pt) (tn : List (List Int)) (at_ : Int → Option Nat) (v : Value) (d : Int) (w : World) {n0 : Nat} (hR : RotaX w n0 v g p tn at_) :
    Calls Tryz.prog 127 #[v, .int .i64 d] w fun e w' => (∃ A c, e = .returned (.slice A (ownL tn at_ d).length c) ∧ (ownL tn at_ d).length ≤ c ∧ RI w A (ownL tn at_ d).length (ownL tn at_ d)) ∧ w = w' := by
  obtain ⟨m, ⟨R, A, n, c, A1, n1, c1, A2, n2, c2, A3, n3, c3, M, rfl, h2, h3, h4, h5, h6, h7, h8, -⟩, hl⟩ := hR.r
  have h66 := Bx.mk h6
  have hr2 := cell_of_row w R 4 _ _ _ h2
  have hr3 := cell_of_row w R 5 _ _ _ h2
  simp only [List.getElem?_toArray, List.getElem?_cons_succ, List.getElem?_cons_zero] at hr2 hr3
  have hld := hl d
  have hlen3 := h6.len
  subst hlen3
  clear h3 h4 h5 hl
  cases ha : at_ d with
  | none =>
    rw [ha] at hld
    have hown : Bx (ownL tn at_ d = []) := ⟨by unfold ownL; rw [ha]⟩
    have HLD := Bx.mk hld
    have hs : (List.lookup d m).isSome = false := by rw [hld]; rfl
    clear h6 h2 hld
    go_enter Tryz.func127, Tryz.ntmps127
    go_wp2_with (at_lookup; refine arm_lookup_ok h8 (.int .i64 0) Tryz.underlying100 Tryz.underlying3 (zero_int _) rfl rfl rfl rfl ?_)
    go_ret
    exact ⟨⟨none, 0, by rw [hown.out]; rfl, by rw [hown.out]; exact Nat.le_refl _, by rw [hown.out]; exact RI.nil _ _⟩, rfl⟩
  | some k =>
    rw [ha] at hld
    have hown : Bx (ownL tn at_ d = gl tn k) := ⟨by unfold ownL; rw [ha]⟩
    have hk := (hR.lt d k ha).1
    have hs : (List.lookup d m).isSome = true := by rw [hld]; rfl
    have hg : (List.lookup d m).getD (.int .i64 0) = .int .i64 (k : Int) := by rw [hld]; rfl
    obtain ⟨b3, off3, a5, m5, c5, rfl, hc5, hmc5, hr5⟩ := h66.out.get hk
    have hm5 := hr5.len
    subst hm5
    have HR5 := Bx.mk hr5
    clear h6 h2 hld hr5
    go_enter Tryz.func127, Tryz.ntmps127
    go_wp2_with (at_lookup; refine arm_lookup_ok h8 (.int .i64 0) Tryz.underlying100 Tryz.underlying3 (zero_int _) rfl rfl rfl rfl ?_)
    go_ret
    exact ⟨⟨a5, c5, by rw [hown.out]; rfl, by rw [hown.out]; exact hmc5, by rw [hown.out]; exact HR5.out⟩, rfl⟩

theorem stepL_range {l : List Int} {x n : Int} (hn1 : -1 ≤ n) (hn2 : n ≤ 1) (h : ¬ idx l x < 0) (hl : x ∈ l) : 0 ≤ (idx l x + n) % l.length ∧ (idx l x + n) % l.length < l.length := by
  have := idx_mem hl
  exact ⟨Int.emod_nonneg _ (by omega), Int.emod_lt_of_pos _ (by omega)⟩
theorem idx_neg {l : List Int} {x : Int} (h : x ∉ l) : idx l x = -1 := by
  have key : ∀ (l : List Int) (k : Nat), x ∉ l → idxFrom k l x = -1 := by
    intro l
    induction l with
    | nil => intros; rfl
    | cons y ys ih =>
      intro k h
      unfold idxFrom
      rw [if_neg (fun e => h (by rw [e]; exact List.mem_cons_self ..)), ih (k + 1) (fun hm => h (List.mem_cons_of_mem _ hm))]
  exact key l 0 h
theorem step_any (l : List Int) (x n : Int) (A : Option Addr) (c : Nat) (w : World) (hA : RI w A l.length l) (hn1 : -1 ≤ n) (hn2 : n ≤ 1) :
    Calls Tryz.prog 170 #[.slice A l.length c, .int .i64 x, .int .i64 n] w fun e w' => e = .returned (.tuple #[.int .i64 ((stepL l x n).getD 0), .bool (stepL l x n).isSome]) ∧ w = w' := by
  have hI := index_any l x A l.length c w hA
  have hle := hA.le
  by_cases hx : x ∈ l
  · have hm := idx_mem hx
    obtain ⟨i, hi⟩ : ∃ i : Nat, idx l x = (i : Int) := ⟨_, (Int.toNat_of_nonneg hm.1).symm⟩
    rw [hi] at hI hm
    have hs : Bx (stepL l x n = some (gi l (((i : Int) + n) % l.length).toNat)) := ⟨by unfold stepL; rw [hi, if_neg (by omega)]⟩
    have h1 : 0 ≤ ((i : Int) + n) % l.length := Int.emod_nonneg _ (by omega)
    have h2 : ((i : Int) + n) % l.length < l.length := Int.emod_lt_of_pos _ (by omega)
    obtain ⟨b, off, rfl, hc⟩ := hA.at (by omega)
    have hcj := hc (((i : Int) + n) % l.length).toNat (by omega)
    have hm2 : i < l.length := by omega
    have h3 : 0 ≤ (i : Int) + n + l.length := by omega
    clear hc hi hm hx hA
    go_enter Tryz.func170, Tryz.ntmps170
    go_wp2_with (go_at_call 106; refine hI.mono ?_; rintro e w' ⟨rfl, rfl⟩)
    go_ret2
    exact ⟨by rw [hs.out]; rfl, rfl⟩
  · have hs : Bx (stepL l x n = none) := ⟨by unfold stepL; rw [idx_neg hx]; rfl⟩
    rw [idx_neg hx] at hI
    go_enter Tryz.func170, Tryz.ntmps170
    go_wp2_with (go_at_call 106; refine hI.mono ?_; rintro e w' ⟨rfl, rfl⟩)
    go_ret2
    exact ⟨by rw [hs.out]; rfl, rfl⟩

theorem before_ring (l : List Int) (x : Int) (A : Option Addr) (c : Nat) (w : World) (hA : RI w A l.length l) :
    Calls Tryz.prog 158 #[.slice A l.length c, .int .i64 x] w fun e w' => e = .returned (.tuple #[.int .i64 ((stepL l x (-1)).getD 0), .bool (stepL l x (-1)).isSome]) ∧ w = w' := by
  have hS := step_any l x (-1) A c w hA (by omega) (by omega)
  go_enter Tryz.func158, Tryz.ntmps158
  go_wp2_with (go_at_call 170; refine hS.mono ?_; rintro e w' ⟨rfl, rfl⟩)
  go_ret2
  exact ⟨rfl, rfl⟩

theorem before_any (g : Gr) (p : Pt) (tn : List (List Int)) (at_ : Int → Option Nat) (v : Value) (d : Int) (w : World) {n0 : Nat} (hR : RotaX w n0 v g p tn at_) :
    Calls Tryz.prog 128 #[v, .int .i64 d] w fun e w' => e = .returned (.tuple #[.int .i64 ((stepL (ownL tn at_ d) d (-1)).getD 0), .bool (stepL (ownL tn at_ d) d (-1)).isSome]) ∧ w = w' := by
  have hO := own_any g p tn at_ v d w hR
  go_enter Tryz.func128, Tryz.ntmps128
  go_wp2_with (first | (go_at_call 127; refine hO.mono ?_; rintro e w' ⟨⟨A, c, rfl, hc, hr⟩, rfl⟩) | (go_at_call 158; refine (before_ring (ownL tn at_ d) d A c _ hr).mono ?_; rintro e w' ⟨rfl, rfl⟩))
  go_ret2
  exact ⟨rfl, rfl⟩

theorem next_any (g : Gr) (p : Pt) (tn : List (List Int)) (at_ : Int → Option Nat) (v : Value) (d : Int) (w : World) {n0 : Nat} (hR : RotaX w n0 v g p tn at_) :
    Calls Tryz.prog 102 #[v, .int .i64 d] w fun e w' => e = .returned (.tuple #[.int .i64 ((nextL tn at_ d).getD 0), .bool (nextL tn at_ d).isSome]) ∧ w = w' := by
  have hO := own_any g p tn at_ v d w hR
  by_cases h0 : (ownL tn at_ d).length = 0
  · have hn : Bx (nextL tn at_ d = none) := ⟨by unfold nextL; rw [if_pos h0]⟩
    go_enter Tryz.func102, Tryz.ntmps102
    go_wp2_with (go_at_call 127; refine hO.mono ?_; rintro e w' ⟨⟨A, c, rfl, hc, hr⟩, rfl⟩)
    go_ret2
    exact ⟨by rw [hn.out]; rfl, rfl⟩
  · have hn : Bx (nextL tn at_ d = stepL (ownL tn at_ (twinI d)) (twinI d) (-1)) := ⟨by unfold nextL; rw [if_neg h0]⟩
    have hd : 0 ≤ d ∧ d < 1048576 := by
      cases ha : at_ d with
      | none => unfold ownL at h0; rw [ha] at h0; exact absurd rfl h0
      | some k => exact (hR.lt d k ha).2
    have hT := twin_any d w hd.1 hd.2
    have hB := before_any g p tn at_ v (twinI d) w hR
    clear hd
    have h1 : (((ownL tn at_ d).length : Nat) : Int) ≠ 0 := by omega
    go_enter Tryz.func102, Tryz.ntmps102
    go_wp2_with (first | (go_at_call 127; refine hO.mono ?_; rintro e w' ⟨⟨A, c, rfl, hc, hr⟩, rfl⟩) | (go_at_call 129; refine hT.mono ?_; rintro e w' ⟨rfl, rfl⟩) | (go_at_call 128; refine hB.mono ?_; rintro e w' ⟨rfl, rfl⟩))
    go_ret2
    exact ⟨by rw [hn.out]; rfl, rfl⟩
end Go.Proofs.YtefhmlgepnlaoaaGreat
