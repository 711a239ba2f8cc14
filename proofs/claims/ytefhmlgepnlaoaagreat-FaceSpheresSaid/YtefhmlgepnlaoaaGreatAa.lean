/- Walks: face.Sphere; the laws' In, Equal. -/
import Derived.Test.YtefhmlgepnlaoaaGreatGe
import Derived.Test.YtefhmlgepnlaoaaGreatSm
set_option linter.unusedVariables false
set_option linter.unusedSimpArgs false
namespace Go.Proofs.YtefhmlgepnlaoaaGreat
open Go.RowKit

def SphereLaw (g : Gr) (p : Pt) (tn : List (List Int)) (w : World) (e : Ending) (w' : World) : Prop :=
  (∃ b, e = .returned (.bool b) ∧ (if g.rotaErr p tn = 0 then ∃ us, us.Perm (wF p tn) ∧ WalksOk p us ∧ b = !(genusF g p us).any (fun x => x != 0) else b = false)) ∧ Below w.heap.size w w'
theorem sphere_law (g : Gr) (p : Pt) (tn : List (List Int)) (A A1 A2 A3 : Option Addr) (n c n1 c1 n2 c2 n3 c3 : Nat) (w : World) (hA : RE w A n g.E) (h1 : RI w A1 n1 p.V) (h2 : RI w A2 n2 p.E) (h3 : RL w A3 n3 tn) (hs3 : tn.length < 1099511627776) (hs : ∀ l ∈ tn, l.length < 1099511627776) :
    Calls Tryz.prog 15 #[.agg #[.int .i64 g.N, .slice A n c], .agg #[.slice A1 n1 c1, .slice A2 n2 c2], .slice A3 n3 c3] w fun e w' => SphereLaw g p tn w e w' := by
  have HA := Bx.mk hA
  have H1 := Bx.mk h1
  have H2 := Bx.mk h2
  have H3 := Bx.mk h3
  have HS := Bx.mk hs
  clear hA h1 h2 h3 hs
  have BA := Bx.mk (((BB.refl w).al (.cells #[.int .i64 g.N, .slice A n c] 24)).al (.cells #[.slice A1 n1 c1, .slice A2 n2 c2] 27))
  by_cases h0 : g.rotaErr p tn = 0
  case neg =>
    have h0b : (g.rotaErr p tn == 0) = false := by simp [h0]
    have H0 := Bx.mk h0
    clear h0
    go_enter Tryz.func15, Tryz.ntmps15
    go_wp2_with (go_at_call 13; (with_reducible refine (genus_law g p tn A A1 A2 A3 n c n1 c1 n2 c2 n3 c3 _ (BA.out.re HA.out) (BA.out.ri H1.out) (BA.out.ri H2.out) (BA.out.rl H3.out) hs3 HS.out).mono ?_); rintro e w1 ⟨⟨u1, rfl, hu1⟩, hb1⟩; rw [if_neg H0.out] at hu1; subst hu1)
    go_ret
    exact ⟨⟨false, rfl, by rw [if_neg H0.out]⟩, (BA.out.call hb1).b⟩
  case pos =>
    have h0b : (g.rotaErr p tn == 0) = true := by simp [h0]
    have H0 := Bx.mk h0
    have hp0 := (rotaErr_part h0).1
    have HPK := Bx.mk (pieces_ok hp0)
    have hvl := (verts_len h0).1
    clear h0 hp0
    go_enter Tryz.func15, Tryz.ntmps15
    go_wp2_with (first
      | (go_at_call 13; (with_reducible refine (genus_law g p tn A A1 A2 A3 n c n1 c1 n2 c2 n3 c3 _ (BA.out.re HA.out) (BA.out.ri H1.out) (BA.out.ri H2.out) (BA.out.rl H3.out) hs3 HS.out).mono ?_); rintro e w1 ⟨⟨u1, rfl, hu1⟩, hb1⟩; rw [if_pos H0.out] at hu1; obtain ⟨us, hpu, hwk, hOW⟩ := hu1; obtain ⟨A4, c4, hv4, hc4, hr4, -⟩ := hOW.read (by have := HPK.out.1; unfold genusF; rw [List.length_map]; omega); subst hv4; have HPU := Bx.mk (And.intro hpu hwk); clear hpu)
      | (go_at_call 46; refine (containsFunc_any 47 #[] (fun x => x != 0) (genusF g p us) (fun _ => True) (fun _ => False) (sphere1_tells _) (enters_of Tryz.func47 (by kernel_rfl) rfl) A4 _ c4 _ hr4 (fun _ _ _ h => h) trivial).mono ?_; rintro e w2 ⟨rfl, -, hs2⟩)
      | fail)
    go_ret
    refine ⟨⟨_, rfl, ?_⟩, (BA.out.call hb1).b.trans (hs2.below (BA.out.call hb1).size fun _ _ h => h)⟩
    rw [if_pos H0.out]
    exact ⟨us, HPU.out.1, HPU.out.2, rfl⟩
theorem in_any (xs : List Int) (x : Int) (A : Option Addr) (n c : Nat) (w : World) (hA : RI w A n xs) :
    Calls Tryz.prog 32 #[.slice A n c, .int .i64 x] w fun e w' => e = .returned (.bool (decide (x ∈ xs))) ∧ w = w' := by
  have hlen := hA.len
  subst hlen
  have HA := Bx.mk hA
  have hle := hA.le
  clear hA
  go_enter Tryz.func32, Tryz.ntmps32
  go_wp2
  go_loopw [5] (fun iv wr => ∃ k : Nat, k ≤ xs.length ∧ iv = .int .i64 k ∧ Bx (x ∉ xs.take k) ∧ w = wr) (fun iv _ => xs.length - (intOf iv).toNat)
  case atStart => exact ⟨0, Nat.zero_le _, rfl, ⟨by simp⟩, rfl⟩
  case round =>
    obtain ⟨k, hk, rfl, HN, rfl⟩ := hrel
    by_cases hlt : k < xs.length
    · obtain ⟨b, off, rfl, hc⟩ := HA.out.at (by omega)
      have hck := hc k hlt
      clear hc
      by_cases he : gi xs k = x
      · have hb : (gi xs k == x) = true := by simp [he]
        have hm : Bx (decide (x ∈ xs) = true) := ⟨by simp; exact he ▸ gi_mem hlt⟩
        clear he
        go_wp2
        go_ret
        exact ⟨ret_bool hm.out.symm, rfl⟩
      · have hb : (gi xs k == x) = false := by simp [he]
        have HN2 : Bx (x ∉ xs.take (k + 1)) := ⟨by
          rw [List.take_succ_eq_append_getElem hlt, ← gi_eq hlt, List.mem_append, List.mem_singleton]
          exact fun h => h.elim HN.out fun e => he e.symm⟩
        clear he
        go_wp2
        go_roundw
        case rel => exact ⟨k + 1, hlt, by go_num, HN2, trivial⟩
        case measure => simp [intOf]; omega
    · have hm : Bx (decide (x ∈ xs) = false) := ⟨by
        have := HN.out
        rw [List.take_of_length_le (by omega)] at this
        simp [this]⟩
      go_wp2
      go_ret
      exact ⟨ret_bool hm.out.symm, rfl⟩
theorem equal4_any (xs ys : List Int) (A B : Option Addr) (n c m d : Nat) (w : World) (hA : RI w A n xs) (hB : RI w B m ys) :
    Calls Tryz.prog 16 #[.slice A n c, .slice B m d] w fun e w' => e = .returned (.bool (decide (xs = ys))) ∧ BB w w' := by
  have hlen := hA.len
  subst hlen
  have hlen := hB.len
  subst hlen
  have HA := Bx.mk hA
  have HB := Bx.mk hB
  have hle := hA.le
  clear hA hB
  by_cases hl : xs.length = ys.length
  case neg =>
    have hb : ((xs.length : Int) != (ys.length : Int)) = true := by simp; omega
    have hm : Bx (decide (xs = ys) = false) := ⟨by simp; intro e; exact hl (by rw [e])⟩
    clear hl
    go_enter Tryz.func16, Tryz.ntmps16
    go_wp2
    go_ret
    exact ⟨ret_bool hm.out.symm, BB.refl _⟩
  case pos =>
    rw [← hl]
    rw [← hl] at HB
    have HL := Bx.mk hl
    have hb : ((xs.length : Int) != (xs.length : Int)) = false := by simp
    clear hl
    go_enter Tryz.func16, Tryz.ntmps16
    go_wp2
    go_loopw [5] (fun iv wr => ∃ k : Nat, k ≤ xs.length ∧ iv = .int .i64 k ∧ Bx (xs.take k = ys.take k) ∧ BB w wr) (fun iv _ => xs.length - (intOf iv).toNat)
    case atStart => exact ⟨0, Nat.zero_le _, rfl, ⟨by simp⟩, BB.refl _⟩
    case round =>
      obtain ⟨k, hk, rfl, HN, HW⟩ := hrel
      by_cases hlt : k < xs.length
      · obtain ⟨b, off, rfl, hc⟩ := (HW.ri HA.out).at (by omega)
        obtain ⟨b2, off2, rfl, hc2⟩ := (HW.ri HB.out).at (by omega)
        have hck := hc k hlt
        have hck2 := hc2 k hlt
        have hly : k < ys.length := by rw [← HL.out]; exact hlt
        have HLY := Bx.mk hly
        clear hc hc2 hly
        by_cases he : gi xs k = gi ys k
        · have hb : (gi xs k != gi ys k) = false := by simp [he]
          have HN2 : Bx (xs.take (k + 1) = ys.take (k + 1)) := ⟨by
            rw [List.take_succ_eq_append_getElem hlt, List.take_succ_eq_append_getElem HLY.out, HN.out, ← gi_eq hlt, ← gi_eq HLY.out, he]⟩
          clear he
          go_wp2
          go_region
          go_wp2
          go_roundw
          case rel => exact ⟨k + 1, hlt, by go_num, HN2, HW.drawn 1⟩
          case measure => simp [intOf]; omega
        · have hb : (gi xs k != gi ys k) = true := by simp [he]
          have hm : Bx (decide (xs = ys) = false) := ⟨by simp; intro e; exact he (by rw [e])⟩
          clear he
          go_wp2
          go_region
          go_wp2
          go_ret
          exact ⟨ret_bool hm.out.symm, HW.drawn 1⟩
      · have hm : Bx (decide (xs = ys) = true) := ⟨by
          have := HN.out
          rw [List.take_of_length_le (by omega), List.take_of_length_le (by rw [← HL.out]; omega)] at this
          simp [this]⟩
        go_wp2
        go_ret
        exact ⟨ret_bool hm.out.symm, HW⟩
end Go.Proofs.YtefhmlgepnlaoaaGreat
