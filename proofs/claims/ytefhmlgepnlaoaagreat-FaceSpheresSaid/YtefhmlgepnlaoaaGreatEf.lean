/- Walks: the document's Darts (layer 4). Walks: the document's Right of turns (layer 6): plain. Walks: the document's Right of turns (layer 6): the walk. -/
import Derived.Test.YtefhmlgepnlaoaaGreatEa
import Derived.Test.YtefhmlgepnlaoaaGreatGb
import Derived.Test.YtefhmlgepnlaoaaGreatPb
set_option linter.unusedVariables false
set_option linter.unusedSimpArgs false
namespace Go.Proofs.YtefhmlgepnlaoaaGreat
open Go.RowKit

/-- The darts of one edge that leave v: of the first s sides. -/
def sideD (g : Gr) (v : Int) (x s : Nat) : List Int := (if 0 < s ∧ tail4 g (2 * x) = v then [2 * (x : Int)] else []) ++ (if 1 < s ∧ tail4 g (2 * x + 1) = v then [2 * (x : Int) + 1] else [])
theorem sideD_succ (g : Gr) (v : Int) (x s : Nat) (hs : s < 2) : sideD g v x (s + 1) = sideD g v x s ++ (if tail4 g (2 * x + s) = v then [2 * (x : Int) + (s : Int)] else []) := by
  unfold sideD
  rcases s with _ | _ | s
  · simp
  · simp
  · omega
theorem sideD_all (g : Gr) (v : Int) (E : List Int) (k x : Nat) (hk : k < E.length) (hx : gi E k = (x : Int)) : g.dartsOf v (E.take (k + 1)) = g.dartsOf v (E.take k) ++ sideD g v x 2 := by
  rw [dartsOf_take hk, hx, Int.toNat_natCast]
  unfold sideD tail4
  have e1 : 2 * x / 2 = x := by omega
  have e2 : (2 * x + 1) / 2 = x := by omega
  have e3 : 2 * x % 2 = 0 := by omega
  have e4 : ¬ (2 * x + 1) % 2 = 0 := by omega
  rw [e1, e2, if_pos e3, if_neg e4]
  simp
set_option maxHeartbeats 4000000 in
theorem darts4_any (g : Gr) (p : Pt) (v : Int) (A A1 A2 : Option Addr) (n1 c c1 c2 : Nat) (w : World) (hA : RE w A g.E.length g.E) (h2 : RI w A2 p.E.length p.E) (hE : ∀ x ∈ p.E, 0 ≤ x ∧ x < (g.E.length : Int)) (hgl : g.E.length ≤ 1024) (hpl : p.E.length ≤ 1024) :
    Calls Tryz.prog 44 #[.agg #[.int .i64 g.N, .slice A g.E.length c], .agg #[.slice A1 n1 c1, .slice A2 p.E.length c2], .int .i64 v] w fun e w' => (∃ u, e = .returned u ∧ OwnI w' w.heap.size u (g.dartsOf v p.E)) ∧ Below w.heap.size w w' := by
  have HA := Bx.mk hA
  have H2 := Bx.mk h2
  have HE := Bx.mk hE
  clear hA h2 hE
  go_enter Tryz.func44, Tryz.ntmps44
  go_wp2
  go_loopw [8, 7] (fun i ov wr => ∃ k : Nat, k ≤ p.E.length ∧ i = .int .i64 k ∧ OwnI wr (w.heap.size + 2) ov (g.dartsOf v (p.E.take k)) ∧ BB ((w.alloc (.cells #[.int .i64 g.N, .slice A g.E.length c] 24)).alloc (.cells #[.slice A1 n1 c1, .slice A2 p.E.length c2] 27)) wr) (fun i _ _ => p.E.length - (intOf i).toNat)
  case atStart => exact ⟨0, Nat.zero_le _, rfl, OwnI.nil _ _, BB.refl _⟩
  case round =>
    obtain ⟨k, hk, rfl, HO, HW⟩ := hrel
    have hP2 := HW.cell (box_cell2 w #[.slice A1 n1 c1, .slice A2 p.E.length c2] 27 (0, 0) (.cells #[.int .i64 g.N, .slice A g.E.length c] 24) 1)
    by_cases hlt : k < p.E.length
    · have hm := (HE.out _ (gi_mem hlt))
      obtain ⟨x, hx⟩ : ∃ x : Nat, Bx (gi p.E k = (x : Int)) := ⟨(gi p.E k).toNat, ⟨by omega⟩⟩
      rw [hx.out] at hm
      have hxl : x < g.E.length := by omega
      have hdl := dartsOf_len g v (p.E.take k)
      simp only [List.length_take] at hdl
      have HALL := Bx.mk (sideD_all g v p.E k x hlt hx.out)
      go_wp2
      go_loopw [9, 7] (fun i ov wr => ∃ s : Nat, s ≤ 2 ∧ i = .int .i64 s ∧ OwnI wr (w.heap.size + 2) ov (g.dartsOf v (p.E.take k) ++ sideD g v x s) ∧ BB ((w.alloc (.cells #[.int .i64 g.N, .slice A g.E.length c] 24)).alloc (.cells #[.slice A1 n1 c1, .slice A2 p.E.length c2] 27)) wr) (fun i _ _ => 2 - (intOf i).toNat)
      case atStart => exact ⟨0, Nat.zero_le _, rfl, by simpa [sideD] using HO, HW⟩
      case round =>
        rename World => wi
        obtain ⟨s, hs, rfl, HO2, HWi⟩ := hrel
        clear hP2
        have hP2 := HWi.cell (box_cell2 w #[.slice A1 n1 c1, .slice A2 p.E.length c2] 27 (0, 0) (.cells #[.int .i64 g.N, .slice A g.E.length c] 24) 1)
        have hz := HWi.pos2
        by_cases hs2 : s < 2
        · have hG1 := HWi.cell (box_cell1 w #[.int .i64 g.N, .slice A g.E.length c] 24 (0, 0) (.cells #[.slice A1 n1 c1, .slice A2 p.E.length c2] 27) 0)
          have hG2 := HWi.cell (box_cell1 w #[.int .i64 g.N, .slice A g.E.length c] 24 (0, 0) (.cells #[.slice A1 n1 c1, .slice A2 p.E.length c2] 27) 1)
          have HWw := HWi.under.under
          obtain ⟨b2, off2, rfl, hc⟩ := (HWw.ri H2.out).at (by omega)
          have hck := hc k hlt
          rw [hx.out] at hck
          have HSU := Bx.mk (sideD_succ g v x s hs2)
          have HBD : Bx (BB ((w.alloc (.cells #[.int .i64 g.N, .slice A g.E.length c] 24)).alloc (.cells #[.slice A1 n1 c1, .slice (some ⟨b2, off2, none⟩) p.E.length c2] 27)) wi.drew) := ⟨HWi.drawn 1⟩
          have hT := tail4_any g (2 * x + s) (by omega) A g.E.length c wi.drew (HBD.out.under.under.re HA.out)
          rw [show (((2 * x + s : Nat)) : Int) = 2 * (x : Int) + (s : Int) by omega] at hT
          have HT : Bx (Calls Tryz.prog 94 #[.agg #[.int .i64 g.N, .slice A g.E.length c], .int .i64 (2 * (x : Int) + (s : Int))] wi.drew fun e w' => e = .returned (.int .i64 (tail4 g (2 * x + s))) ∧ BB wi.drew w') := ⟨hT⟩
          have hbD : BB wi wi.drew := (BB.refl wi).drawn 1
          have hd0 : wi.drew.cell? ⟨w.heap.size, 0, none⟩ = some (.int .i64 g.N) := hbD.cell hG1
          have hd1 : wi.drew.cell? ⟨w.heap.size, 1, none⟩ = some (.slice A g.E.length c) := hbD.cell hG2
          have hd2 : wi.drew.cell? ⟨w.heap.size + 1, 1, none⟩ = some (.slice (some ⟨b2, off2, none⟩) p.E.length c2) := hbD.cell hP2
          have hd3 : wi.drew.cell? ⟨b2, off2 + k, none⟩ = some (.int .i64 (x : Int)) := hbD.cell hck
          have HO3 := Bx.mk (HO2.below hbD.b)
          have hsl : (g.dartsOf v (p.E.take k) ++ sideD g v x s).length ≤ 2 * min k p.E.length + 2 := by
            rw [List.length_append]
            have : (sideD g v x s).length ≤ 2 := by unfold sideD; split <;> split <;> simp
            omega
          have HSL := Bx.mk hsl
          generalize tail4 g (2 * x + s) = y at *
          have hw1 : IntKind.i64.wrap (2 * (x : Int)) = 2 * (x : Int) := wrap_id4 (by omega) (by omega)
          have hw2 : IntKind.i64.wrap (2 * (x : Int) + (s : Int)) = 2 * (x : Int) + (s : Int) := wrap_id4 (by omega) (by omega)
          clear hc hT hG1 hG2 HO2 HWi hP2 hck hbD hsl hdl HWw hm
          by_cases hy : y = v
          · have hyb : (y == v) = true := by simp [hy]
            have HY := Bx.mk hy
            clear hy
            go_wp2
            go_region_held3 (fun w' => w'.cell? ⟨w.heap.size, 0, none⟩ = some (.int .i64 g.N) ∧ w'.cell? ⟨w.heap.size, 1, none⟩ = some (.slice A g.E.length c) ∧ w'.cell? ⟨w.heap.size + 1, 1, none⟩ = some (.slice (some ⟨b2, off2, none⟩) p.E.length c2) ∧ w'.cell? ⟨b2, off2 + k, none⟩ = some (.int .i64 (x : Int)))
              (first | exact ⟨hd0, hd1, hd2, hd3⟩ | exact ⟨he0, he1, he2, he3⟩ | fail)
              (first
                | (go_simp; go_at_call 94; (with_reducible refine HT.out.mono ?_); rintro e w2 ⟨rfl, hb2⟩; have he0 := hb2.cell hd0; have he1 := hb2.cell hd1; have he2 := hb2.cell hd2; have he3 := hb2.cell hd3)
                | fail)
            all_goals
              have HB2 := Bx.mk (HBD.out.trans hb2)
              have hz2 := HB2.out.pos2
              go_wp2_with (at_builtin; refine app_int (w.heap.size + 2) _ _ (HO3.out.below hb2.b) _ rfl rfl rfl rfl (by omega) (by have := HSL.out; omega) ?_; intro v1 w3 ho3 hs3 _; have HB3 := HB2.out.own (HO3.out.below hb2.b) (by simp) hs3)
              go_roundw
              case rel =>
                refine ⟨s + 1, by omega, by go_num, ?_, HB3⟩
                rw [HSU.out, if_pos HY.out, ← List.append_assoc]
                exact ho3
              case measure => simp [intOf]; omega
          · have hyb : (y == v) = false := by simp [hy]
            have HY := Bx.mk hy
            clear hy
            go_wp2
            go_region_held3 (fun w' => w'.cell? ⟨w.heap.size, 0, none⟩ = some (.int .i64 g.N) ∧ w'.cell? ⟨w.heap.size, 1, none⟩ = some (.slice A g.E.length c) ∧ w'.cell? ⟨w.heap.size + 1, 1, none⟩ = some (.slice (some ⟨b2, off2, none⟩) p.E.length c2) ∧ w'.cell? ⟨b2, off2 + k, none⟩ = some (.int .i64 (x : Int)))
              (first | exact ⟨hd0, hd1, hd2, hd3⟩ | exact ⟨he0, he1, he2, he3⟩ | fail)
              (first
                | (go_simp; go_at_call 94; (with_reducible refine HT.out.mono ?_); rintro e w2 ⟨rfl, hb2⟩; have he0 := hb2.cell hd0; have he1 := hb2.cell hd1; have he2 := hb2.cell hd2; have he3 := hb2.cell hd3)
                | fail)
            all_goals
              go_wp2
              go_roundw
              case rel =>
                refine ⟨s + 1, by omega, by go_num, ?_, HBD.out.trans hb2⟩
                rw [HSU.out, if_neg HY.out, List.append_nil]
                exact HO3.out.below hb2.b
              case measure => simp [intOf]; omega
        · obtain rfl : s = 2 := by omega
          rw [← HALL.out] at HO2
          go_wp2
          go_roundw
          case rel => exact ⟨k + 1, hlt, by go_num, HO2, HWi⟩
          case measure => simp [intOf]; omega
    · go_wp2
      go_ret
      refine ⟨⟨_, rfl, ?_⟩, HW.under.under.b⟩
      have := HO.mono (base' := w.heap.size) (by omega)
      rwa [List.take_of_length_le (show p.E.length ≤ k by omega)] at this

theorem onceF_at {xs : List Int} : ∀ (m k : Nat), k + m = xs.length → onceF xs k (xs.drop k) = true → ∀ j, k ≤ j → j < xs.length → idx xs (gi xs j) = (j : Int) := by
  intro m
  induction m with
  | zero => intro k hk _ j h1 h2; omega
  | succ m ih =>
    intro k hk h j h1 h2
    rw [onceF_drop (by omega), Bool.and_eq_true, decide_eq_true_eq] at h
    by_cases hj : j = k
    · rw [hj]; exact h.1
    · exact ih (k + 1) (by omega) h.2 j (by omega) h2
theorem onceF_of {xs : List Int} (h : ∀ j, j < xs.length → idx xs (gi xs j) = (j : Int)) : ∀ (m k : Nat), k + m = xs.length → onceF xs k (xs.drop k) = true := by
  intro m
  induction m with
  | zero => intro k hk; rw [List.drop_of_length_le (by omega)]; rfl
  | succ m ih =>
    intro k hk
    rw [onceF_drop (by omega), ih (k + 1) (by omega), h k (by omega)]
    simp
theorem onceF_nodup {xs : List Int} : onceF xs 0 xs = true ↔ xs.Nodup := by
  constructor
  · intro h
    have h1 := onceF_at (xs := xs) xs.length 0 (by omega) (by simpa using h)
    refine List.nodup_iff_pairwise_ne.2 (List.pairwise_iff_getElem.2 fun i j hi hj hij he => ?_)
    have a := h1 i (by omega) hi
    have b := h1 j (by omega) hj
    rw [gi_eq hi] at a
    rw [gi_eq hj] at b
    rw [he, b] at a
    omega
  · intro h
    have h5 : ∀ j, j < xs.length → idx xs (gi xs j) = (j : Int) := fun j hj => by
      obtain ⟨i, h1, h2, h3, _⟩ := gi_idx (gi_mem hj)
      rw [h1]
      have h2' : i < xs.length := h2
      rw [gi_eq h2', gi_eq hj] at h3
      rw [nodup_inj h h2' hj h3]
    simpa using onceF_of h5 xs.length 0 (by omega)
/-- Are all of a list's numbers in another one? -/
def allIn (l : List Int) : List Int → Bool
  | [] => true
  | d :: ds => decide (d ∈ l) && allIn l ds
theorem allIn_drop {l ds : List Int} {k : Nat} (h : k < ds.length) : allIn l (ds.drop k) = (decide (gi ds k ∈ l) && allIn l (ds.drop (k + 1))) := by
  rw [List.drop_eq_getElem_cons h, gi_eq h]; rfl
theorem allIn_iff {l : List Int} : ∀ {ds : List Int}, allIn l ds = true ↔ ∀ d ∈ ds, d ∈ l := by
  intro ds
  induction ds with
  | nil => simp [allIn]
  | cons d ds ih => simp [allIn, ih]
def row4 (D l : List Int) : Bool := decide (D.length = l.length) && (onceF l 0 l && allIn l D)
theorem row4_eq {D l : List Int} (hD : D.Pairwise (· < ·)) : (sortI l == D) = row4 D l := by
  have hDn : D.Nodup := hD.imp fun h => by omega
  rw [Bool.eq_iff_iff, beq_iff_eq]
  unfold row4
  rw [Bool.and_eq_true, Bool.and_eq_true, decide_eq_true_eq, onceF_nodup, allIn_iff]
  constructor
  · intro h
    have hp : D.Perm l := by rw [← h]; exact sortI_perm l
    exact ⟨hp.length_eq, hp.nodup_iff.1 hDn, fun d hd => hp.mem_iff.1 hd⟩
  · rintro ⟨h1, h2, h3⟩
    have hp : D.Perm l := (List.perm_ext_iff_of_nodup hDn h2).2 fun d => ⟨h3 d, fun hd => Decidable.byContradiction fun hn => by
      have := nodup_subset_len (l := d :: D) (m := l) (List.nodup_cons.2 ⟨hn, hDn⟩) fun x hx => by
        rcases List.mem_cons.1 hx with rfl | hx
        · exact hd
        · exact h3 x hx
      simp only [List.length_cons] at this
      omega⟩
    refine List.Perm.eq_of_pairwise (le := fun a b : Int => a ≤ b) (fun a b _ _ h1 h2 => by omega) ?_ (hD.imp fun h => by omega) ((sortI_perm l).trans hp.symm)
    have := List.pairwise_mergeSort (le := fun x y : Int => decide (x ≤ y)) (fun a b c h1 h2 => by simp at *; omega) (fun a b => by simp; omega) l
    exact this.imp fun h => by simpa using h
def Gr.rows4 (g : Gr) (p : Pt) : Nat → List (List Int) → Bool
  | _, [] => true
  | v, l :: ls => row4 (g.dartsOf v p.E) l && g.rows4 p (v + 1) ls
theorem rows4_drop {g : Gr} {p : Pt} {tn : List (List Int)} {k : Nat} (h : k < tn.length) : g.rows4 p k (tn.drop k) = (row4 (g.dartsOf k p.E) (gl tn k) && g.rows4 p (k + 1) (tn.drop (k + 1))) := by
  rw [List.drop_eq_getElem_cons h, gl_eq h]; rfl
theorem rows4_eq {g : Gr} {p : Pt} (h0 : g.rightPart p = 0) : ∀ (tn : List (List Int)) (v : Nat), g.rowsOk p v tn = g.rows4 p v tn := by
  intro tn
  induction tn with
  | nil => intro v; rfl
  | cons l tn ih =>
    intro v
    have hd : g.darts p v = g.dartsOf v p.E := by unfold Gr.darts; rw [if_neg (by omega)]
    have hE := (risesF_sound _ _ _ (Gr.rightPart_ok h0).2.2.1).1
    unfold Gr.rowsOk Gr.rows4
    rw [ih, hd, row4_eq ((dartsAll_rises hE).sublist (dartsOf_sub g v p.E))]

set_option maxHeartbeats 4000000 in
theorem right6_any (g : Gr) (p : Pt) (tn : List (List Int)) (A A1 A2 A3 : Option Addr) (c c1 c2 c3 : Nat) (w : World) (hA : RE w A g.E.length g.E) (h1 : RI w A1 p.V.length p.V) (h2 : RI w A2 p.E.length p.E) (h3 : RL w A3 tn.length tn) :
    Calls Tryz.prog 14 #[.agg #[.int .i64 g.N, .slice A g.E.length c], .agg #[.slice A1 p.V.length c1, .slice A2 p.E.length c2], .slice A3 tn.length c3] w fun e w' => e = .returned (.int .i64 (g.rotaErr p tn)) ∧ BB w w' := by
  have HA := Bx.mk hA
  have H1 := Bx.mk h1
  have H2 := Bx.mk h2
  have H3 := Bx.mk h3
  have hle3 := h3.le
  clear hA h1 h2 h3
  have BA := Bx.mk (((BB.refl w).al (.cells #[.int .i64 g.N, .slice A g.E.length c] 24)).al (.cells #[.slice A1 p.V.length c1, .slice A2 p.E.length c2] 27))
  have hG1 := box_cell1 w #[.int .i64 g.N, .slice A g.E.length c] 24 (0, 0) (.cells #[.slice A1 p.V.length c1, .slice A2 p.E.length c2] 27) 0
  have hG2 := box_cell1 w #[.int .i64 g.N, .slice A g.E.length c] 24 (0, 0) (.cells #[.slice A1 p.V.length c1, .slice A2 p.E.length c2] 27) 1
  have hP1 := box_cell2 w #[.slice A1 p.V.length c1, .slice A2 p.E.length c2] 27 (0, 0) (.cells #[.int .i64 g.N, .slice A g.E.length c] 24) 0
  have hP2 := box_cell2 w #[.slice A1 p.V.length c1, .slice A2 p.E.length c2] 27 (0, 0) (.cells #[.int .i64 g.N, .slice A g.E.length c] 24) 1
  have HB := Bx.mk (And.intro hG1 (And.intro hG2 (And.intro hP1 hP2)))
  clear hG1 hG2 hP1 hP2
  by_cases h0 : g.rightPart p = 0
  case neg =>
    have h0b : (g.rightPart p != 0) = true := by simp [h0]
    have hr : Bx (g.rotaErr p tn = g.rightPart p) := ⟨by unfold Gr.rotaErr; rw [if_pos h0]⟩
    clear h0
    go_enter Tryz.func14, Tryz.ntmps14
    go_wp2_with (go_at_call 43; (with_reducible refine (rightPart4_any g p A A1 A2 _ c _ c1 _ c2 _ (BA.out.re HA.out) (BA.out.ri H1.out) (BA.out.ri H2.out)).mono ?_); rintro e w1 ⟨rfl, hb1⟩)
    go_ret
    exact ⟨ret_int hr.out.symm, BA.out.trans hb1⟩
  case pos =>
    have h0b : (g.rightPart p != 0) = false := by simp [h0]
    have H0 := Bx.mk h0
    clear h0
    by_cases hN : (tn.length : Int) = g.N
    case neg =>
      have hNb : (((tn.length : Nat) : Int) != g.N) = true := by simp [hN]
      have hNc : (((tn.length : Nat) : Int) == g.N) = false := by simp [hN]
      have hr : Bx (g.rotaErr p tn = 5) := ⟨by unfold Gr.rotaErr; rw [if_neg (by simp [H0.out]), if_pos hN]⟩
      clear hN
      go_enter Tryz.func14, Tryz.ntmps14
      go_wp2_with (go_at_call 43; (with_reducible refine (rightPart4_any g p A A1 A2 _ c _ c1 _ c2 _ (BA.out.re HA.out) (BA.out.ri H1.out) (BA.out.ri H2.out)).mono ?_); rintro e w1 ⟨rfl, hb1⟩; have hG1 := hb1.cell HB.out.1)
      go_ret
      exact ⟨ret_int hr.out.symm, BA.out.trans hb1⟩
    case pos =>
      have hNb : (((tn.length : Nat) : Int) != g.N) = false := by simp [hN]
      have hNc : (((tn.length : Nat) : Int) == g.N) = true := by simp [hN]
      have HN := Bx.mk hN
      have hr : Bx (g.rotaErr p tn = if g.rows4 p 0 tn then 0 else 5) := ⟨by unfold Gr.rotaErr; rw [if_neg (by simp [H0.out]), if_neg (by simp [hN]), rows4_eq H0.out]⟩
      clear hN
      go_enter Tryz.func14, Tryz.ntmps14
      go_wp2_with (go_at_call 43; (with_reducible refine (rightPart4_any g p A A1 A2 _ c _ c1 _ c2 _ (BA.out.re HA.out) (BA.out.ri H1.out) (BA.out.ri H2.out)).mono ?_); rintro e w1 ⟨rfl, hb1⟩; have HW1 := Bx.mk (BA.out.trans hb1); have hG1 := hb1.cell HB.out.1; have hG2 := hb1.cell HB.out.2.1; have hP1 := hb1.cell HB.out.2.2.1; have hP2 := hb1.cell HB.out.2.2.2; clear hb1)
      have HC := Bx.mk (And.intro hG1 (And.intro hG2 (And.intro hP1 hP2)))
      clear hG1 hG2 hP1 hP2
      have hE : Bx (∀ x ∈ p.E, 0 ≤ x ∧ x < (g.E.length : Int)) := ⟨fun x hx => by have := (risesF_sound _ _ _ (Gr.rightPart_ok H0.out).2.2.1).2 x hx; omega⟩
      have hgl : g.E.length ≤ 1024 := by have := Gr.right_ok (Gr.rightPart_ok H0.out).1; omega
      have hpl : p.E.length ≤ 1024 := by have := risesF_len _ _ _ (Gr.rightPart_ok H0.out).2.2.1 (by omega); omega
      go_loopw [8] (fun iv wr => ∃ k : Nat, k ≤ tn.length ∧ iv = .int .i64 k ∧ Bx (g.rows4 p 0 tn = g.rows4 p k (tn.drop k)) ∧ BB w1 wr) (fun iv _ => tn.length - (intOf iv).toNat)
      case atStart => exact ⟨0, Nat.zero_le _, rfl, ⟨rfl⟩, BB.refl _⟩
      case round =>
        obtain ⟨k, hk, rfl, HR, HBr⟩ := hrel
        have hG1 := HBr.cell HC.out.1
        have hG2 := HBr.cell HC.out.2.1
        have hP1 := HBr.cell HC.out.2.2.1
        have hP2 := HBr.cell HC.out.2.2.2
        have HWr := Bx.mk (HW1.out.trans HBr)
        by_cases hlt : k < tn.length
        · have hkN : (k : Int) < g.N := by have := HN.out; omega
          have hkb : decide ((k : Int) < g.N) = true := by simp [hkN]
          have HD := Bx.mk (rows4_drop (g := g) (p := p) hlt)
          obtain ⟨b3, off3, a5, m5, c5, rfl, hc5, hmc5, hr5⟩ := (HWr.out.rl H3.out).get hlt
          have hm5 := hr5.len
          subst hm5
          have HC5 := Bx.mk hc5
          have HR5 := Bx.mk hr5
          have HDA := Bx.mk (darts4_any g p (k : Int) A A1 A2 p.V.length c c1 c2 wr (HWr.out.re HA.out) (HWr.out.ri H2.out) hE.out hgl hpl)
          have hDl := dartsOf_len g (k : Int) p.E
          generalize gl tn k = l at *
          generalize g.dartsOf (k : Int) p.E = D at *
          by_cases hq : D.length = l.length
          case neg =>
            have hqb : ((D.length : Int) != (l.length : Int)) = true := by simp; omega
            have hqc : ((D.length : Int) == (l.length : Int)) = false := by simp; omega
            have hr2 : Bx (g.rotaErr p tn = 5) := ⟨by rw [hr.out, HR.out, HD.out, show row4 D l = false by unfold row4; simp [hq]]; rfl⟩
            clear hq
            go_wp2_with (first
              | (go_at_call 44; (with_reducible refine HDA.out.mono ?_); rintro e w2 ⟨⟨u8, rfl, ho2⟩, hb2⟩; obtain ⟨A8, c8, hv8, hc8, hr8, _⟩ := ho2.read (by omega); subst hv8; have HB2 := Bx.mk (BB.mk hb2); have HR8 := Bx.mk hr8; have HR52 := Bx.mk (HB2.out.ri HR5.out); have hc52 := HB2.out.cell HC5.out; have HW2 := Bx.mk (HWr.out.trans HB2.out); clear hb2 hr8 ho2 hc5 hr5)
              | fail)
            go_ret
            exact ⟨ret_int hr2.out.symm, HW2.out⟩
          case pos =>
            have hqb : ((D.length : Int) != (l.length : Int)) = false := by simp; omega
            have hqc : ((D.length : Int) == (l.length : Int)) = true := by simp; omega
            have HQ := Bx.mk hq
            clear hq
            cases hon : onceF l 0 l with
            | false =>
              have HON := Bx.mk hon
              have hr2 : Bx (g.rotaErr p tn = 5) := ⟨by rw [hr.out, HR.out, HD.out, show row4 D l = false by unfold row4; simp [hon]]; rfl⟩
              clear hon
              go_wp2_with (first
                | (go_at_call 44; (with_reducible refine HDA.out.mono ?_); rintro e w2 ⟨⟨u8, rfl, ho2⟩, hb2⟩; obtain ⟨A8, c8, hv8, hc8, hr8, _⟩ := ho2.read (by omega); subst hv8; have HB2 := Bx.mk (BB.mk hb2); have HR8 := Bx.mk hr8; have HR52 := Bx.mk (HB2.out.ri HR5.out); have hc52 := HB2.out.cell HC5.out; have HW2 := Bx.mk (HWr.out.trans HB2.out); clear hb2 hr8 ho2 hc5 hr5)
                | (go_at_call 45; (with_reducible refine (right2_any l a5 _ c5 _ HR52.out).mono ?_); rintro e w4 ⟨rfl, hb4⟩; rw [HON.out])
                | fail)
              go_ret
              exact ⟨ret_int hr2.out.symm, HW2.out.trans hb4⟩
            | true =>
              have HON := Bx.mk hon
              have HRO : Bx (row4 D l = allIn l D) := ⟨by unfold row4; simp [hon, HQ.out]⟩
              clear hon
              go_wp2_with (first
                | (go_at_call 44; (with_reducible refine HDA.out.mono ?_); rintro e w2 ⟨⟨u8, rfl, ho2⟩, hb2⟩; obtain ⟨A8, c8, hv8, hc8, hr8, _⟩ := ho2.read (by omega); subst hv8; have HB2 := Bx.mk (BB.mk hb2); have HR8 := Bx.mk hr8; have HR52 := Bx.mk (HB2.out.ri HR5.out); have hc52 := HB2.out.cell HC5.out; have HW2 := Bx.mk (HWr.out.trans HB2.out); clear hb2 hr8 ho2 hc5 hr5)
                | (go_at_call 45; (with_reducible refine (right2_any l a5 _ c5 _ HR52.out).mono ?_); rintro e w4 ⟨rfl, hb4⟩; rw [HON.out]; have HB4 := Bx.mk hb4; clear hb4)
                | fail)
              have HW4 := Bx.mk (HW2.out.trans HB4.out)
              have HR84 := Bx.mk (HB4.out.ri HR8.out)
              have HR54 := Bx.mk (HB4.out.ri HR52.out)
              have HC54 := Bx.mk (HB4.out.cell hc52)
              have HBr4 := Bx.mk ((HBr.trans HB2.out).trans HB4.out)
              clear hc52 hG1 hG2 hP1 hP2
              go_loopw [10] (fun iv wr => ∃ j : Nat, j ≤ D.length ∧ iv = .int .i64 j ∧ Bx (allIn l D = allIn l (D.drop j)) ∧ BB w4 wr) (fun iv _ => D.length - (intOf iv).toNat)
              case atStart => exact ⟨0, Nat.zero_le _, rfl, ⟨rfl⟩, BB.refl _⟩
              case round =>
                rename World => wi
                obtain ⟨j, hj, rfl, HJ, HBi⟩ := hrel
                have HWi := Bx.mk (HW4.out.trans HBi)
                by_cases hjt : j < D.length
                · have HJD := Bx.mk (allIn_drop (l := l) hjt)
                  obtain ⟨b8, off8, rfl, hcl⟩ := (HBi.ri HR84.out).at (by omega)
                  have hcj := hcl j hjt
                  have hc5i := HBi.cell HC54.out
                  have HR5i := Bx.mk (HBi.ri HR54.out)
                  clear hcl
                  generalize gi D j = x at *
                  by_cases hm : x ∈ l
                  · have d1 : Bx (decide (x ∈ l) = true) := ⟨by simp [hm]⟩
                    have HJ2 : Bx (allIn l D = allIn l (D.drop (j + 1))) := ⟨by rw [HJ.out, HJD.out, d1.out]; rfl⟩
                    clear hm
                    go_wp2
                    go_quiet ((go_at_call 32; with_reducible exact Calls.quiet_of_same ((in_any l x a5 _ c5 _ (HR5i.out.drawnN _)).mono fun _ _ h => ⟨h.1.trans (ret_bool d1.out), h.2.symm⟩)))
                    go_wp2
                    go_roundw
                    case rel => exact ⟨j + 1, hjt, by go_num, HJ2, HBi.drawn _⟩
                    case measure => simp [intOf]; omega
                  · have d1 : Bx (decide (x ∈ l) = false) := ⟨by simp [hm]⟩
                    have hr2 : Bx (g.rotaErr p tn = 5) := ⟨by rw [hr.out, HR.out, HD.out, HRO.out, HJ.out, HJD.out, d1.out]; rfl⟩
                    clear hm
                    go_wp2
                    go_quiet ((go_at_call 32; with_reducible exact Calls.quiet_of_same ((in_any l x a5 _ c5 _ (HR5i.out.drawnN _)).mono fun _ _ h => ⟨h.1.trans (ret_bool d1.out), h.2.symm⟩)))
                    go_wp2
                    go_ret
                    exact ⟨ret_int hr2.out.symm, HWi.out.drawn _⟩
                · have HRK : Bx (g.rows4 p 0 tn = g.rows4 p (k + 1) (tn.drop (k + 1))) := ⟨by rw [HR.out, HD.out, HRO.out, HJ.out, List.drop_of_length_le (by omega)]; rfl⟩
                  go_wp2
                  go_roundw
                  case rel => exact ⟨k + 1, hlt, by go_num, HRK, HBr4.out.trans HBi⟩
                  case measure => simp [intOf]; omega
        · have hkN : ¬ (k : Int) < g.N := by have := HN.out; omega
          have hkb : decide ((k : Int) < g.N) = false := by simp [hkN]
          have hr2 : Bx (g.rotaErr p tn = 0) := ⟨by rw [hr.out, HR.out, List.drop_of_length_le (by omega)]; rfl⟩
          go_wp2
          go_ret
          exact ⟨ret_int hr2.out.symm, HWr.out⟩
end Go.Proofs.YtefhmlgepnlaoaaGreat
