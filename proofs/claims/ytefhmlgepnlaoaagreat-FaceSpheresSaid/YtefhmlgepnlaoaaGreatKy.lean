/- Walks: slices.Contains; face.Key. -/
import Derived.Test.YtefhmlgepnlaoaaGreatGe
set_option linter.unusedVariables false
set_option linter.unusedSimpArgs false
namespace Go.Proofs.YtefhmlgepnlaoaaGreat
open Go.RowKit

theorem idxFrom_none (x : Int) : ∀ (xs : List Int) (k : Nat), x ∉ xs → idxFrom k xs x = -1 := by
  intro xs
  induction xs with
  | nil => intro k _; rfl
  | cons y ys ih =>
    intro k h
    unfold idxFrom
    rw [if_neg fun e => h (by simp [e])]
    exact ih (k + 1) fun hm => h (List.mem_cons_of_mem _ hm)
theorem contains_any (xs : List Int) (x : Int) (A : Option Addr) (n c : Nat) (w : World) (hA : RI w A n xs) :
    Calls Tryz.prog 57 #[.slice A n c, .int .i64 x] w fun e w' => e = .returned (.bool (decide (x ∈ xs))) ∧ w = w' := by
  have hq := index_any xs x A n c w hA
  have hx : Bx (decide (0 ≤ idx xs x) = decide (x ∈ xs)) := ⟨by
    by_cases h : x ∈ xs
    · have := idx_mem h
      simp [h, this.1]
    · have : idx xs x = -1 := idxFrom_none x xs 0 h
      rw [this]
      simp [h]⟩
  generalize idx xs x = r at hq hx
  clear hA
  go_enter Tryz.func57, Tryz.ntmps57
  go_wp2_with (go_at_call 106; refine hq.mono ?_; rintro e w1 ⟨rfl, rfl⟩)
  go_ret
  exact ⟨ret_bool hx.out, rfl⟩
/-- Is d of a walk? -/
def ofW (d : Int) (u : Int × List Int) : Bool := decide (u.1 = d) || decide (d ∈ u.2)
def keyF (d : Int) : List (Int × List Int) → Int × Bool
  | [] => (0, false)
  | u :: us => if ofW d u then (u.1, true) else keyF d us
theorem keyF_drop {d : Int} {us : List (Int × List Int)} {k : Nat} (hk : k < us.length) : keyF d (us.drop k) = if ofW d us[k] then (us[k].1, true) else keyF d (us.drop (k + 1)) := by
  rw [List.drop_eq_getElem_cons hk]
  rfl
def KeyLaw (g : Gr) (p : Pt) (tn : List (List Int)) (d : Int) (w : World) (e : Ending) (w' : World) : Prop :=
  (∃ k b, e = .returned (.tuple #[.int .i64 k, .bool b]) ∧ (if g.rotaErr p tn = 0 then ∃ us, us.Perm (wF p tn) ∧ WalksOk p us ∧ (k, b) = keyF d us else k = 0 ∧ b = false)) ∧ BB w w'
set_option maxHeartbeats 4000000 in
theorem key_law (g : Gr) (p : Pt) (tn : List (List Int)) (d : Int) (A A1 A2 A3 : Option Addr) (n c n1 c1 n2 c2 n3 c3 : Nat) (w : World) (hA : RE w A n g.E) (h1 : RI w A1 n1 p.V) (h2 : RI w A2 n2 p.E) (h3 : RL w A3 n3 tn) (hs3 : tn.length < 1099511627776) (hs : ∀ l ∈ tn, l.length < 1099511627776) :
    Calls Tryz.prog 20 #[.agg #[.int .i64 g.N, .slice A n c], .agg #[.slice A1 n1 c1, .slice A2 n2 c2], .slice A3 n3 c3, .int .i64 d] w fun e w' => KeyLaw g p tn d w e w' := by
  have HA := Bx.mk hA
  have H1 := Bx.mk h1
  have H2 := Bx.mk h2
  have H3 := Bx.mk h3
  have HS := Bx.mk hs
  clear hA h1 h2 h3 hs
  have BA := Bx.mk (((BB.refl w).al (.cells #[.int .i64 g.N, .slice A n c] 24)).al (.cells #[.slice A1 n1 c1, .slice A2 n2 c2] 27))
  by_cases h0 : g.rotaErr p tn = 0
  case neg =>
    have H0 := Bx.mk h0
    clear h0
    go_enter Tryz.func20, Tryz.ntmps20
    go_wp2_with (go_at_call 19; (with_reducible refine (walks_law g p tn A A1 A2 A3 n c n1 c1 n2 c2 n3 c3 _ (BA.out.re HA.out) (BA.out.ri H1.out) (BA.out.ri H2.out) (BA.out.rl H3.out) hs3 HS.out).mono ?_); rintro e w1 ⟨⟨u1, rfl, hu1⟩, hb1⟩; rw [if_neg H0.out] at hu1; subst hu1)
    have HW1 := Bx.mk (BA.out.call hb1)
    clear hb1
    go_loopw [23] (fun iv wr => iv = .int .i64 0 ∧ w1 = wr) (fun iv _ => 0)
    case atStart => exact ⟨rfl, rfl⟩
    case round =>
      obtain ⟨rfl, rfl⟩ := hrel
      go_wp2
      go_ret2
      exact ⟨⟨0, false, rfl, by rw [if_neg H0.out]; exact ⟨rfl, rfl⟩⟩, HW1.out⟩
  case pos =>
    have H0 := Bx.mk h0
    have hvl := (verts_len h0).1
    have hel := (verts_len h0).2
    clear h0
    go_enter Tryz.func20, Tryz.ntmps20
    go_wp2_with (go_at_call 19; (with_reducible refine (walks_law g p tn A A1 A2 A3 n c n1 c1 n2 c2 n3 c3 _ (BA.out.re HA.out) (BA.out.ri H1.out) (BA.out.ri H2.out) (BA.out.rl H3.out) hs3 HS.out).mono ?_); rintro e w1 ⟨⟨u1, rfl, hu1⟩, hb1⟩; rw [if_pos H0.out] at hu1; obtain ⟨us, hpu, hwk, hOW⟩ := hu1; obtain ⟨A4, c4, hv4, hc4⟩ := hOW.shape; subst hv4)
    have HW1 := Bx.mk (BA.out.call hb1)
    have hul : us.length ≤ 3072 := by have := hwk.few; rw [dartsAll_len] at this; omega
    have HOW := Bx.mk hOW
    have HPU := Bx.mk (And.intro hpu hwk)
    clear hb1 hpu hwk hOW
    go_loopw [23] (fun iv wr => ∃ k : Nat, k ≤ us.length ∧ iv = .int .i64 k ∧ Bx (keyF d (us.drop k) = keyF d us) ∧ BB w1 wr) (fun iv _ => us.length - (intOf iv).toNat)
    case atStart => exact ⟨0, Nat.zero_le _, rfl, ⟨rfl⟩, BB.refl _⟩
    case round =>
      obtain ⟨k, hk, rfl, HK, HBr⟩ := hrel
      by_cases hlt : k < us.length
      · obtain ⟨g5, cap5, ⟨kq, aq, mq, cq⟩, hv5, -, -, hk1, hk2, hwk1, hmq, hrq, -⟩ := (HOW.out.below HBr.b).get hlt
        dsimp only at hk1 hk2 hwk1 hmq hrq
        cases hv5
        have HKD := Bx.mk (keyF_drop (d := d) hlt)
        generalize us[k] = u at *
        obtain ⟨key, ds⟩ := u
        dsimp only at hwk1 hrq HKD
        rw [hwk1] at hk1
        clear hwk1
        have hbx := (BB.refl wr).al (.cells #[.int .i64 key, .slice aq mq cq] 45)
        have HRQ := Bx.mk (hbx.ri hrq)
        have HBX := Bx.mk hbx
        clear hrq hbx
        by_cases he : key = d
        · have hb : ((key : Int) == d) = true := by simp [he]
          have HR : Bx (keyF d us = (key, true)) := ⟨by rw [← HK.out, HKD.out]; unfold ofW; simp [he]⟩
          clear he
          go_wp2
          go_ret2
          exact ⟨⟨key, true, rfl, by rw [if_pos H0.out]; exact ⟨us, HPU.out.1, HPU.out.2, HR.out.symm⟩⟩, (HW1.out.trans HBr).trans HBX.out⟩
        · have hb : ((key : Int) == d) = false := by simp [he]
          by_cases hm : d ∈ ds
          · have HR : Bx (keyF d us = (key, true)) := ⟨by rw [← HK.out, HKD.out]; unfold ofW; simp [hm]⟩
            have hdm : Bx (decide (d ∈ ds) = true) := ⟨by simp [hm]⟩
            clear he hm
            go_wp2_with (go_at_call 57; (with_reducible refine (contains_any ds d aq mq cq _ HRQ.out).mono ?_); rintro e w5 ⟨rfl, rfl⟩; rw [hdm.out])
            go_ret2
            exact ⟨⟨key, true, rfl, by rw [if_pos H0.out]; exact ⟨us, HPU.out.1, HPU.out.2, HR.out.symm⟩⟩, (HW1.out.trans HBr).trans HBX.out⟩
          · have HR : Bx (keyF d (us.drop (k + 1)) = keyF d us) := ⟨by rw [← HK.out, HKD.out]; unfold ofW; simp [he, hm]⟩
            have hdm : Bx (decide (d ∈ ds) = false) := ⟨by simp [hm]⟩
            clear he hm
            go_wp2_with (go_at_call 57; (with_reducible refine (contains_any ds d aq mq cq _ HRQ.out).mono ?_); rintro e w5 ⟨rfl, rfl⟩; rw [hdm.out])
            go_roundw
            case rel => exact ⟨k + 1, hlt, by go_num, HR, HBr.trans HBX.out⟩
            case measure => simp [intOf]; omega
      · have HR : Bx (keyF d us = (0, false)) := ⟨by rw [← HK.out, List.drop_of_length_le (by omega)]; rfl⟩
        go_wp2
        go_ret2
        exact ⟨⟨0, false, rfl, by rw [if_pos H0.out]; exact ⟨us, HPU.out.1, HPU.out.2, HR.out.symm⟩⟩, HW1.out.trans HBr⟩
end Go.Proofs.YtefhmlgepnlaoaaGreat
