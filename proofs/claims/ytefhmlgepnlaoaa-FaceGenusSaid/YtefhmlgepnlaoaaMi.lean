/- Walks: slices.Reverse, ring.About, rota.Mirror, rota.Turn. -/
import Derived.Test.YtefhmlgepnlaoaaFd
import Derived.Deep.RegionHeld3
set_option linter.unusedVariables false
set_option linter.unusedSimpArgs false
namespace Go.Proofs.Ytefhmlgepnlaoaa
open Go.RowKit Go.Sort

theorem reverse_any (xs : List Int) (v : Value) (base : Nat) (w : World) (HO : OwnI w base v xs) (hl : xs.length < 1099511627776) :
    Calls Try.prog 60 #[v] w fun e w' => e = .returned (.tuple #[]) ∧ OwnI w' base v xs.reverse ∧ Step (fun k => some k = v.ownBlock) w w' := by
  rcases HO.o.2 with ⟨rfl, hn⟩ | ⟨g, cap, cur, rfl, hb, hg, hc, hm, hs, ht⟩
  · have hx : xs = [] := List.eq_nil_of_length_eq_zero hn
    subst hx
    exact (Any.slices_Reverse_int_empty Try.lays112 none 0 w).mono fun e w' h => ⟨h.1, h.2 ▸ OwnI.nil w base, h.2 ▸ Step.refl _ _⟩
  · have hH : Holds (Value.int .i64) w g 0 xs.toArray := holds_of_blockI hg (by simpa using ht)
    refine (Any.slices_Reverse_int Try.lays112 g 0 cap xs w hH (by omega)).mono fun e w' h => ?_
    obtain ⟨he, n, rfl⟩ := h
    have e0 : grow (putRow (Value.int .i64) (Sort.ahead w n) g 0 xs.reverse.toArray) #[] = putRow (Value.int .i64) (Sort.ahead w n) g 0 xs.reverse.toArray := grow_empty _
    refine ⟨he, ⟨?_⟩, Step.of_grown (e0 ▸ grownBy_sortedI (os := #[]) _)⟩
    have h1 : xs.reverse.length = xs.length := List.length_reverse
    have := ownsRow_sortedI (w := w) (n := n) (os := #[]) (ts := xs.reverse) h1 hb hg hc hm hs
    rw [h1, ← e0]
    exact this
theorem about_any (xs : List Int) (A : Option Addr) (n c : Nat) (w : World) (hA : RI w A n xs) (hl : xs.length < 1099511627776) :
    Calls Try.prog 38 #[.slice A n c] w fun e w' => (∃ u, e = .returned u ∧ OwnI w' w.heap.size u xs.reverse) ∧ Below w.heap.size w w' := by
  have hlen := hA.len
  subst hlen
  have HA := Bx.mk hA
  clear hA
  go_enter Try.func38, Try.ntmps38
  go_wp2_with (first
    | (go_at_call 31; (with_reducible refine (clone_any _ A _ _ _ HA.out hl).mono ?_); rintro e w2 ⟨⟨u2, rfl, HO⟩, hb2⟩)
    | (go_at_call 60; (with_reducible go_loud (refine (reverse_any xs u2 w.heap.size _ HO hl).mono ?_)); rintro e w3 ⟨rfl, HO3, hs3⟩))
  go_ret
  exact ⟨⟨_, rfl, HO3⟩, (BB.own (BB.mk hb2) HO (Nat.le_refl _) hs3).b⟩
theorem turn_any (g : Gr) (p : Pt) (tn : List (List Int)) (at_ : Int → Option Nat) (v : Value) (w : World) {n0 : Nat} (hR : RotaX w n0 v g p tn at_) :
    Calls Try.prog 15 #[v] w fun e w' => (∃ u, e = .returned u ∧ OwnL w' w.heap.size u tn) ∧ Below w.heap.size w w' := by
  have HX := Bx.mk hR
  obtain ⟨m, ⟨R, A, n, c, A1, n1, c1, A2, n2, c2, A3, n3, c3, M, rfl, h2, h3, h4, h5, h6, h7, h8, -⟩, hl⟩ := hR.r
  have hlen3 := h6.len
  subst hlen3
  have hle6 := h6.le
  have hr2 := cell_of_row w R 4 _ _ _ h2
  simp only [List.getElem?_toArray, List.getElem?_cons_succ, List.getElem?_cons_zero] at hr2
  have HSZ := Bx.mk hR.sz
  have hsz := hR.sz.1
  clear h2 h3 h4 h5 h6 h8 hl hR
  go_enter Try.func15, Try.ntmps15
  go_wp2
  go_loopw [12, 3] (fun iv ov wr => ∃ k : Nat, k ≤ tn.length ∧ iv = .int .i64 k ∧ OwnL wr w.heap.size ov (tn.take k) ∧ BB w wr) (fun iv _ _ => tn.length - (intOf iv).toNat)
  case atStart => exact ⟨0, Nat.zero_le _, rfl, OwnL.nil _ _, BB.refl _⟩
  case round =>
    obtain ⟨k, hk, rfl, HO, HBr⟩ := hrel
    clear hr2
    by_cases hlt : k < tn.length
    · have HTK : Bx (tn.take (k + 1) = tn.take k ++ [gl tn k]) := ⟨by rw [List.take_succ_eq_append_getElem hlt, gl_eq hlt]⟩
      have HAL : Bx (atL tn (k : Int) = gl tn k) := ⟨by unfold atL; rw [if_pos (by omega)]; rfl⟩
      have HGL : Bx ((gl tn k).length < 1099511627776) := ⟨HSZ.out.2 _ (gl_mem hlt)⟩
      have HTL : Bx ((tn.take k).length < 1099511627776) := ⟨by rw [List.length_take]; omega⟩
      have HO1 := Bx.mk HO
      clear HO
      go_wp2_with (first
        | (go_at_call 19; (with_reducible refine (at_any g p tn at_ _ (k : Int) _ (HX.out.below HBr.b)).mono ?_); rintro e w2 ⟨⟨u2, rfl, HO2⟩, hb2⟩; rw [HAL.out] at HO2; obtain ⟨A6, c6, hv6, hc6, hr6, ha6⟩ := HO2.read (by have := HGL.out; omega); subst hv6; have HB2 := BB.mk hb2; have hz2 := HB2.size; have HOW := Bx.mk (HO1.out.below hb2); have HRQ := Bx.mk (And.intro hr6 ha6); have hzr := HBr.size; clear hr6 ha6 HO2)
        | (at_builtin; refine app_list w.heap.size (tn.take k) _ HOW.out (gl tn k) A6 _ c6 hc6 HRQ.out.1 (fun ad ha h0 => ⟨Nat.le_trans hzr (HRQ.out.2 ad ha).1, fun e => by have h1 := (HO1.out.lt _ e).2; have h2 := (HRQ.out.2 ad ha).1; omega⟩) rfl rfl rfl rfl (by omega) HTL.out ?_; intro v1 w3 ho3 hs3 hb3; have HB3 := (HBr.trans HB2).ownL HOW.out (Nat.le_refl _) hs3)
        | fail)
      go_roundw
      case rel => exact ⟨k + 1, hlt, by go_num, by rw [HTK.out]; exact ho3, HB3⟩
      case measure => simp [intOf]; omega
    · have hkk : k = tn.length := by omega
      subst hkk
      rw [List.take_length] at HO
      go_wp2
      go_ret
      exact ⟨⟨_, rfl, HO⟩, HBr.b⟩
/-- What the mirror does to one turn. -/
def mir1 (l : List Int) : List Int := firstR l.reverse
theorem mir1_len (l : List Int) : (mir1 l).length = l.length := by unfold mir1; rw [firstR_len, List.length_reverse]
set_option maxRecDepth 8000 in
set_option maxHeartbeats 4000000 in
theorem mirror_any (g : Gr) (p : Pt) (tn : List (List Int)) (at_ : Int → Option Nat) (v : Value) (w : World) {n0 : Nat} (hR : RotaX w n0 v g p tn at_) :
    Calls Try.prog 14 #[v] w fun e w' => (∃ u, e = .returned u ∧ RotaX w' n0 u g p (tn.map mir1) at_) ∧ Below w.heap.size w w' := by
  obtain ⟨m, ⟨R, A, n, c, A1, n1, c1, A2, n2, c2, A3, n3, c3, M, rfl, h2, h3, h4, h5, h6, h7, h8, h9⟩, hl⟩ := hR.r
  have hlen3 := h6.len
  subst hlen3
  have hle6 := h6.le
  have hcell : ∀ i : Nat, i < 6 → w.drew.cell? ⟨R, i, none⟩ = #[Value.int .i64 g.N, .slice A n c, .slice A1 n1 c1, .slice A2 n2 c2, .slice A3 tn.length c3, .map (some M)][i]? := fun i _ => cell_of_row w R i _ _ _ h2
  have hd0 := hcell 0 (by omega)
  have hd1 := hcell 1 (by omega)
  have hd2 := hcell 2 (by omega)
  have hd3 := hcell 3 (by omega)
  have hd4 := hcell 4 (by omega)
  have hd5 := hcell 5 (by omega)
  simp only [List.getElem?_toArray, List.getElem?_cons_succ, List.getElem?_cons_zero] at hd0 hd1 hd2 hd3 hd4 hd5
  have hB0 : BB w (w.alloc (.cells #[.int .i64 g.N, .slice A n c, .slice A1 n1 c1, .slice A2 n2 c2, .slice none 0 0, .map (some M)] 71)).drew := ((BB.refl w).al _).drawn 1
  have hq : ∀ i : Nat, i < 6 → (w.alloc (.cells #[.int .i64 g.N, .slice A n c, .slice A1 n1 c1, .slice A2 n2 c2, .slice none 0 0, .map (some M)] 71)).drew.cell? ⟨R, i, none⟩ = #[Value.int .i64 g.N, .slice A n c, .slice A1 n1 c1, .slice A2 n2 c2, .slice A3 tn.length c3, .map (some M)][i]? := fun i _ => cell_of_row _ R i _ _ _ ((hB0.b.block R (Array.getElem?_eq_some_iff.1 h2).1).trans h2)
  have hq0 := hq 0 (by omega)
  have hq1 := hq 1 (by omega)
  have hq2 := hq 2 (by omega)
  have hq3 := hq 3 (by omega)
  have hq4 := hq 4 (by omega)
  have hq5 := hq 5 (by omega)
  simp only [List.getElem?_toArray, List.getElem?_cons_succ, List.getElem?_cons_zero] at hq0 hq1 hq2 hq3 hq4 hq5
  have HR := Bx.mk h2
  have HB0 := Bx.mk hB0
  have HS := Bx.mk (And.intro h3 (And.intro h4 (And.intro h5 (And.intro h6 (And.intro h8 h9)))))
  have HL := Bx.mk hl
  have HX := Bx.mk (And.intro hR.lt hR.sz)
  have hsz := hR.sz.1
  clear h2 h3 h4 h5 h6 h8 h9 hl hR hcell hq hB0
  go_enter Try.func14, Try.ntmps14
  go_wp2
  go_region_held3 (fun w' => w'.cell? ⟨R, 0, none⟩ = some (.int .i64 g.N) ∧ w'.cell? ⟨R, 1, none⟩ = some (.slice A n c) ∧ w'.cell? ⟨R, 2, none⟩ = some (.slice A1 n1 c1) ∧ w'.cell? ⟨R, 3, none⟩ = some (.slice A2 n2 c2) ∧ w'.cell? ⟨R, 5, none⟩ = some (.map (some M))) (first | exact ⟨hd0, hd1, hd2, hd3, hd5⟩ | exact ⟨hq0, hq1, hq2, hq3, hq5⟩ | fail) (fail)
  all_goals
    have hR1 : (w.alloc (.cells #[.int .i64 g.N, .slice A n c, .slice A1 n1 c1, .slice A2 n2 c2, .slice none 0 0, .map (some M)] 71)).drew.heap[w.heap.size]? = some (.cells #[.int .i64 g.N, .slice A n c, .slice A1 n1 c1, .slice A2 n2 c2, .slice none 0 0, .map (some M)] 71 (0, 0)) := heap_alloc_new w _
    have hz1 : w.heap.size + 1 ≤ (w.alloc (.cells #[.int .i64 g.N, .slice A n c, .slice A1 n1 c1, .slice A2 n2 c2, .slice none 0 0, .map (some M)] 71)).drew.heap.size := (Array.getElem?_eq_some_iff.1 hR1).1
    generalize (w.alloc (.cells #[.int .i64 g.N, .slice A n c, .slice A1 n1 c1, .slice A2 n2 c2, .slice none 0 0, .map (some M)] 71)).drew = W1 at *
    have HR1 := Bx.mk hR1
    clear hd0 hd1 hd2 hd3 hd4 hd5 hq0 hq1 hq2 hq3 hq5 hR1
    go_wp2
    clear hq4
    go_loopw [27] (fun iv wr => ∃ (k : Nat) (vt : Value), k ≤ tn.length ∧ iv = .int .i64 k ∧ Bx (wr.heap[w.heap.size]? = some (.cells #[.int .i64 g.N, .slice A n c, .slice A1 n1 c1, .slice A2 n2 c2, vt, .map (some M)] 71 (0, 0))) ∧ OwnL wr (w.heap.size + 1) vt ((tn.take k).map mir1) ∧ BB w wr ∧ w.heap.size + 1 ≤ wr.heap.size) (fun iv _ => tn.length - (intOf iv).toNat)
    case atStart => exact ⟨0, .slice none 0 0, Nat.zero_le _, rfl, HR1, OwnL.nil _ _, HB0.out, hz1⟩
    case round =>
      obtain ⟨k, vt, hk, rfl, HRr, HT, HBr, hzr⟩ := hrel
      by_cases hlt : k < tn.length
      · obtain ⟨b3, off3, a5, m5, c5, rfl, hc5, hmc5, hr5⟩ := (HBr.rl HS.out.2.2.2.1).get hlt
        have hm5 := hr5.len
        subst hm5
        have hml := HX.out.2.2 _ (gl_mem hlt)
        have HR5 := Bx.mk hr5
        have HTK : Bx ((tn.take (k + 1)).map mir1 = (tn.take k).map mir1 ++ [mir1 (gl tn k)]) := ⟨map_take_succ mir1 hlt⟩
        have HTL : Bx (((tn.take k).map mir1).length < 1099511627776) := ⟨by rw [List.length_map, List.length_take]; omega⟩
        have HTL2 : Bx (((tn.take k).map mir1 ++ [mir1 (gl tn k)]).length ≤ 17592186044416) := ⟨by rw [List.length_append, List.length_map, List.length_take, List.length_singleton]; omega⟩
        have HL6 : Bx ((gl tn k).reverse.length ≤ 17592186044416) := ⟨by rw [List.length_reverse]; omega⟩
        have HL7 : Bx ((mir1 (gl tn k)).length ≤ 17592186044416) := ⟨by rw [mir1_len]; omega⟩
        have HNE : Bx (∀ x, vt.ownBlock = some x → w.heap.size + 1 ≤ x ∧ x < wr.heap.size) := ⟨HT.lt⟩
        have HRF : Bx (¬ some w.heap.size = vt.ownBlock) := ⟨fun e => by have := (HNE.out _ e.symm).1; omega⟩
        have hdt : wr.drew.cell? ⟨w.heap.size, 4, none⟩ = some vt := cell_of_row wr w.heap.size 4 _ _ _ HRr.out
        have HTB := Bx.mk HT
        clear hr5 HT
        go_wp2
        go_region_law
          (first
            | (go_simp; go_at_call 38; (refine (about_any (gl tn k) a5 _ c5 _ (((BB.refl wr).drawn 1).ri HR5.out) hml).mono ?_); rintro e w6 ⟨⟨u6, rfl, HO6⟩, hb6⟩; have HW6 := ((BB.refl wr).drawn 1).call hb6; obtain ⟨A6, c6, hv6, hc6, hr6, ha6⟩ := HO6.read HL6.out; rw [List.length_reverse] at hv6 hc6 hr6; subst hv6; have hR6 := (HW6.b.block _ (show w.heap.size < wr.heap.size by omega)).trans HRr.out; have he6 : w6.cell? ⟨w.heap.size, 4, none⟩ = some vt := cell_of_row w6 w.heap.size 4 _ _ _ hR6; have HA6 := Bx.mk (And.intro hc6 hr6); clear hr6 ha6 HO6 hR6 hc6)
            | (go_simp; go_at_call 35; (refine (first_any (gl tn k).reverse A6 _ c6 _ HA6.out.2 HA6.out.1 hml).mono ?_); rintro e w7 ⟨⟨u7, rfl, HO7⟩, hb7⟩; have HW7 := HW6.call hb7; replace HO7 : OwnI w7 w6.heap.size u7 (mir1 (gl tn k)) := HO7; obtain ⟨A7, c7, hv7, hc7, hr7, ha7⟩ := HO7.read HL7.out; subst hv7; have hR7 := (HW7.b.block _ (show w.heap.size < wr.heap.size by omega)).trans HRr.out; have he7 : w7.cell? ⟨w.heap.size, 4, none⟩ = some vt := cell_of_row w7 w.heap.size 4 _ _ _ hR7; have HR7 := Bx.mk hR7; have HA7 := Bx.mk (And.intro hc7 (And.intro hr7 ha7)); clear hR7 HO7 hr7 ha7 hc7; have hz7 : wr.heap.size ≤ w6.heap.size := HW6.size; have hz67 : wr.heap.size ≤ w7.heap.size := HW7.size; have hT7 := HTB.out.below HW7.b; have he7a : (w7.alloc (.cells #[.slice A7 (mir1 (gl tn k)).length c7] 25)).cell? ⟨w.heap.size, 4, none⟩ = some vt := ((BB.refl w7).al _).cell he7)
            | (refine step_app_list (w.heap.size + 1) _ vt hT7 (mir1 (gl tn k)) A7 _ c7 HA7.out.1 HA7.out.2.1 (fun ad ha h0 => ⟨by have := (HA7.out.2.2 ad ha).1; omega, fun e => by have h1 := (HNE.out _ e).2; have h2 := (HA7.out.2.2 ad ha).1; omega⟩) rfl rfl rfl rfl (by omega) HTL.out ?_; intro v8 w8 ho8 hs8 hb8; obtain ⟨A8, c8, hv8, -, -, -⟩ := ho8.read HTL2.out; subst hv8; have hR8 := hs8.heap HR7.out HRF.out; have he8 : w8.cell? ⟨w.heap.size, 4, none⟩ = some vt := cell_of_row w8 w.heap.size 4 _ _ _ hR8; have hf8 := frozen_of_row w8 w.heap.size 4 hR8; have HR8 := Bx.mk hR8; clear hR8)
            | fail)
        all_goals
          go_wp2
          go_roundw
          case rel =>
            have e9 : ((tn.take k).map mir1 ++ [mir1 (gl tn k)]).length = k + 1 := by rw [List.length_append, List.length_map, List.length_take, List.length_singleton]; omega
            rw [e9] at ho8
            refine ⟨k + 1, _, hlt, by go_num, ⟨heap_setCell_own w8 w.heap.size 4 _ HR8.out⟩, ?_, ((HBr.trans HW7).ownL hT7 (by omega) hs8).set (Nat.le_refl _) _, ?_⟩
            · rw [HTK.out]
              exact ho8.step (Step.setCell (F := fun x => x = w.heap.size) w8 (p := ⟨w.heap.size, 4, none⟩) rfl _) (fun x hx _ e => by omega)
            · rw [setCell_size]
              have := hs8.size
              omega
          case measure => simp [intOf]; omega
      · have hkk : k = tn.length := by omega
        subst hkk
        rw [List.take_length] at HT
        obtain ⟨A9, c9, hv9, hc9, hr9, -⟩ := HT.read (by rw [List.length_map]; omega)
        subst hv9
        have HT9 := Bx.mk (And.intro hr9 hc9)
        clear hr9 hc9 HT
        go_wp2
        go_ret
        refine ⟨⟨_, rfl, ⟨m, ⟨w.heap.size, A, n, c, A1, n1, c1, A2, n2, c2, A9, _, c9, M, rfl, HRr.out, HBr.re HS.out.1, HBr.ri HS.out.2.1, HBr.ri HS.out.2.2.1, HT9.out.1, HT9.out.2, HS.out.2.2.2.2.1.below HBr.b, HS.out.2.2.2.2.2⟩, HL.out⟩, fun d v h => ?_, ?_⟩, HBr.b⟩
        · rw [List.length_map]; exact HX.out.1 d v h
        · refine ⟨by rw [List.length_map]; exact hsz, fun l hl => ?_⟩
          obtain ⟨l0, hl0, rfl⟩ := List.mem_map.1 hl
          rw [mir1_len]
          exact HX.out.2.2 _ hl0
end Go.Proofs.Ytefhmlgepnlaoaa
