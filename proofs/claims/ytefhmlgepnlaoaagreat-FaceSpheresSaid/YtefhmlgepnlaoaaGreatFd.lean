/- Walks: rota's At; face.lone; the walks of any turns, in plain words. -/
import Derived.Test.YtefhmlgepnlaoaaGreatFc
import Derived.Test.YtefhmlgepnlaoaaGreatFb
set_option linter.unusedVariables false
set_option linter.unusedSimpArgs false
namespace Go.Proofs.YtefhmlgepnlaoaaGreat
open Go.RowKit

def atL (tn : List (List Int)) (v : Int) : List Int := if 0 ≤ v ∧ v < tn.length then gl tn v.toNat else []
theorem at_any (g : Gr) (p : Pt) (tn : List (List Int)) (at_ : Int → Option Nat) (v : Value) (x : Int) (w : World) {n0 : Nat} (hR : RotaX w n0 v g p tn at_) :
    Calls Tryz.prog 50 #[v, .int .i64 x] w fun e w' => (∃ u, e = .returned u ∧ OwnI w' w.heap.size u (atL tn x)) ∧ Below w.heap.size w w' := by
  obtain ⟨m, ⟨R, A, n, c, A1, n1, c1, A2, n2, c2, A3, n3, c3, M, rfl, h2, h3, h4, h5, h6, h7, h8, -⟩, hl⟩ := hR.r
  have hlen3 := h6.len
  subst hlen3
  have h66 := Bx.mk h6
  have hr2 := cell_of_row w R 4 _ _ _ h2
  simp only [List.getElem?_toArray, List.getElem?_cons_succ, List.getElem?_cons_zero] at hr2
  have HSZ := Bx.mk hR.sz
  clear h2 h3 h4 h5 h6 h8 hl hR
  by_cases hx0 : x < 0
  · have hn : Bx (atL tn x = []) := ⟨by unfold atL; rw [if_neg (by omega)]⟩
    go_enter Tryz.func50, Tryz.ntmps50
    go_wp2
    go_ret
    exact ⟨⟨_, rfl, by rw [hn.out]; exact OwnI.nil _ _⟩, Below.refl _ _⟩
  · by_cases hx1 : (tn.length : Int) ≤ x
    · have hn : Bx (atL tn x = []) := ⟨by unfold atL; rw [if_neg (by omega)]⟩
      go_enter Tryz.func50, Tryz.ntmps50
      go_wp2
      go_ret
      exact ⟨⟨_, rfl, by rw [hn.out]; exact OwnI.nil _ _⟩, Below.refl _ _⟩
    · obtain ⟨k, rfl⟩ : ∃ k : Nat, x = (k : Int) := ⟨x.toNat, by omega⟩
      have hk : k < tn.length := by omega
      have hn : Bx (atL tn k = gl tn k) := ⟨by unfold atL; rw [if_pos (by omega)]; rfl⟩
      obtain ⟨b3, off3, a5, m5, c5, rfl, hc5, hmc5, hr5⟩ := h66.out.get hk
      have hm5 := hr5.len
      subst hm5
      have HR5 := Bx.mk hr5
      have hsz := Bx.mk (HSZ.out.2 _ (gl_mem hk))
      clear hr5
      go_enter Tryz.func50, Tryz.ntmps50
      go_wp2_with (go_at_call 97; (with_reducible refine (clone_any (gl tn k) a5 _ c5 _ HR5.out hsz.out).mono ?_); rintro e w1 ⟨⟨u, rfl, HO⟩, hb1⟩)
      go_ret
      exact ⟨⟨u, rfl, by rw [hn.out]; exact HO⟩, hb1⟩
theorem lone_any (x : Int) (w : World) (h0 : 0 ≤ x) (h1 : x < 1048576) : Calls Tryz.prog 51 #[.int .i64 x] w fun e w' => e = .returned (.int .i64 (-1 - x)) ∧ w = w' := by
  go_enter Tryz.func51, Tryz.ntmps51
  go_wp2
  go_ret
  exact ⟨rfl, rfl⟩

/-- How many steps until a dart comes again, of bound at most. -/
def perN (nx : Int → Int) (bound : Nat) (d : Int) : Nat := ((List.range bound).find? fun i => it nx (i + 1) d == d).getD 0 + 1
def cycN (nx : Int → Int) (bound : Nat) (d : Int) : List Int := firstR (orbL nx (perN nx bound d) d)
theorem perN_spec {nx : Int → Int} {bound : Nat} {d : Int} (h : ∃ n, 0 < n ∧ n ≤ bound ∧ it nx n d = d) :
    0 < perN nx bound d ∧ perN nx bound d ≤ bound ∧ it nx (perN nx bound d) d = d ∧ ∀ i, 0 < i → i < perN nx bound d → it nx i d ≠ d := by
  obtain ⟨n, h0, h1, h2⟩ := h
  have hs : ((List.range bound).find? fun i => it nx (i + 1) d == d).isSome := by
    rw [List.find?_isSome]
    exact ⟨n - 1, List.mem_range.2 (by omega), by rw [show n - 1 + 1 = n by omega, h2]; simp⟩
  obtain ⟨k, hk⟩ := Option.isSome_iff_exists.1 hs
  have he : perN nx bound d = k + 1 := by unfold perN; rw [hk]; rfl
  rw [he]
  have hk1 := List.find?_some hk
  have hk2 := List.mem_of_find?_eq_some hk
  rw [List.mem_range] at hk2
  refine ⟨by omega, by omega, by simpa using hk1, fun i hi hik => ?_⟩
  rw [List.find?_range_eq_some] at hk
  have := hk.2.2 (i - 1) (by omega)
  rw [show i - 1 + 1 = i by omega] at this
  simpa using this
def metW (ws : List (Int × List Int)) (d : Int) : Bool := ws.any fun u => u.2.contains d
def addW (cyc : Int → List Int) (ws : List (Int × List Int)) (d : Int) : List (Int × List Int) := if metW ws d then ws else ws ++ [(gi (cyc d) 0, cyc d)]
def lonesF (tn : List (List Int)) (V : List Int) : List (Int × List Int) := V.flatMap fun v => if (atL tn v).length = 0 then [(-1 - v, [])] else []
def walksF (cyc : Int → List Int) (tn : List (List Int)) (p : Pt) : List (Int × List Int) := (dartsAll p.E).foldl (addW cyc) (lonesF tn p.V)
theorem lonesF_take {tn : List (List Int)} {V : List Int} {k : Nat} (h : k < V.length) : lonesF tn (V.take (k + 1)) = lonesF tn (V.take k) ++ if (atL tn (gi V k)).length = 0 then [(-1 - gi V k, [])] else [] := by
  unfold lonesF
  rw [List.take_succ_eq_append_getElem h, List.flatMap_append, gi_eq h]
  simp
theorem lonesF_len (tn : List (List Int)) (V : List Int) : (lonesF tn V).length ≤ V.length := by
  induction V with
  | nil => exact Nat.le_refl _
  | cons v V ih =>
    unfold lonesF at ih ⊢
    rw [List.flatMap_cons, List.length_append, List.length_cons]
    split
    · rw [List.length_singleton]; omega
    · rw [List.length_nil]; omega
theorem lonesF_met (tn : List (List Int)) (V : List Int) (d : Int) : metW (lonesF tn V) d = false := by
  unfold metW lonesF
  rw [List.any_eq_false]
  intro u hu
  obtain ⟨v, _, hv⟩ := List.mem_flatMap.1 hu
  split at hv
  · rw [List.mem_singleton] at hv; subst hv; simp
  · simp at hv
theorem foldW_len (cyc : Int → List Int) (ds : List Int) : ∀ ws, (ds.foldl (addW cyc) ws).length ≤ ws.length + ds.length := by
  induction ds with
  | nil => intro ws; exact Nat.le_refl _
  | cons d ds ih =>
    intro ws
    rw [List.foldl_cons, List.length_cons]
    refine Nat.le_trans (ih _) ?_
    unfold addW
    split
    · omega
    · simp; omega
end Go.Proofs.YtefhmlgepnlaoaaGreat
