/- The row of the law FaceSpheres, proved for every graph, part and turns (conditions: those of the row alone). -/
import Derived.Test.YtefhmlgepnlaoaaGreatRows
import Derived.Test.YtefhmlgepnlaoaaGreatOp
import Derived.Test.YtefhmlgepnlaoaaGreatLs
set_option linter.unusedVariables false
namespace Go.Proofs.YtefhmlgepnlaoaaGreat
open Go.ChangeShapes Go.WideShapes Go.ChangeAt Go.RowKit Go.Joins Go.Deep

theorem Tryz.own : ownKnob Tryz.prog.godebug = none := by kernel_rfl
theorem Tryz.laidOut : laidOutB Tryz.prog = true := by kernel_rfl
section
variable {H : Type}
theorem near_arg {ts : List TypeId} {ds : List (DataW H)} (h : (DataW.weightsEach Tryz.prog ts ds).all (· ≤ reachBytes) = true) {j : Nat} {t : TypeId} {d : DataW H} (ht : ts[j]? = some t) (hd : ds[j]? = some d) : Near t d := fun n hn => by
  simpa using List.all_eq_true.1 h _ (DataW.weights_mem_each ht hd n hn)
theorem near_field {t : TypeId} {fs : Array Field} (hu : Tryz.prog.underlying t = some (.struct fs)) {ds : List (DataW H)} (h : Near t (.agg ds)) {j : Nat} {u : TypeId} {d : DataW H} (ht : (fs.toList.map (·.type))[j]? = some u) (hd : ds[j]? = some d) : Near u d := fun n hn => by
  refine h n ?_
  unfold DataW.weights
  rw [hu]
  exact DataW.weights_mem_each ht hd n hn
end
set_option maxHeartbeats 4000000 in
set_option maxRecDepth 100000 in
theorem faceSpheres_lifted (os : Os) (started : os.Started) (H : Type) (enc : TypeId × Value → H) :
    ReturnsInHanded {} Tryz.checked os 3 .any (Rows.faceSpheresSpec.pre6 enc Tryz.prog Tryz.f3 Rows.faceSpheresRow.domain false) (Rows.faceSpheresSpec.post enc Tryz.prog Tryz.f3 false true false false) := by
  refine returnsInHanded_of_change_sized (C := Tryz.checked) Tryz.own started (by kernel_rfl) Tryz.func3
    (ChangeSpec.witness6 (enc := enc) (C := Tryz.checked) false ⟨#[], #[.agg #[.int .i64 0, .slice none 0 0], .agg #[.slice none 0 0, .slice none 0 0], .slice none 0 0], []⟩ 8 (by kernel_rfl) (by kernel_rfl) (by kernel_rfl) (by kernel_rfl)) ?_
  intro W base args ds gs before hval0 hW _ hsz0 _
  have hsz : (DataW.weightsEach Tryz.prog (Tryz.f3.params.toList ++ Rows.faceSpheresSpec.plain.varTypes Tryz.prog) (ds ++ gs)).all (· ≤ reachBytes) = true := hsz0
  clear hsz0
  have hval : ∀ (j : Nat) t v, Tryz.f3.params[j]? = some t → args[j]? = some v → Value.okWide Tryz.prog W .any base t v := hval0
  have hW' := hW
  obtain ⟨p, q, hA0, hV, rfl, _, _⟩ := hW
  have hA : DataW.TrodAll enc Tryz.prog W 0 (fun _ => true) true Tryz.f3.params.toList args.toList ds p := hA0
  rw [Tryz.params3] at hA hval hsz
  obtain ⟨v0, v1, v2, d0, d1, d2, p0, p1, p2, rfl, rfl, rfl, h0, h1, h2⟩ := trodAll_three hA
  obtain ⟨rfl, rfl⟩ := trodVars_none hV
  clear hA0 hval0
  simp only [List.append_nil] at hW' hsz
  have hn0 : Near 24 d0 := near_arg hsz (j := 0) rfl rfl
  have hn1 : Near 27 d1 := near_arg hsz (j := 1) rfl rfl
  have hn2 : Near 28 d2 := near_arg hsz (j := 2) rfl rfl
  have hlt : ∀ x ∈ p0 ++ p1 ++ p2, MemPlace.block x < W.heap.size := fun x hx => hW'.lt x hx
  have again : ∀ W' : World, Below W.heap.size W W' → DataW.Trod enc Tryz.prog W' 0 (fun b => decide (b < W.heap.size)) true 24 v0 d0 p0 ∧ DataW.Trod enc Tryz.prog W' 0 (fun b => decide (b < W.heap.size)) true 27 v1 d1 p1 ∧ DataW.Trod enc Tryz.prog W' 0 (fun b => decide (b < W.heap.size)) true 28 v2 d2 p2 := fun W' hb =>
    ⟨Below.trod Tryz.laidOut (by kernel_rfl) (of_decide_eq_true (by kernel_rfl)) h0 hb fun x hx => hlt x (by simp [hx]), Below.trod Tryz.laidOut (by kernel_rfl) (of_decide_eq_true (by kernel_rfl)) h1 hb fun x hx => hlt x (by simp [hx]), Below.trod Tryz.laidOut (by kernel_rfl) (of_decide_eq_true (by kernel_rfl)) h2 hb fun x hx => hlt x (by simp [hx])⟩
  obtain ⟨a0, a1, y0, y1, m0, rfl, rfl, rfl, hy0, hy1⟩ := open_agg2 Tryz.underlying24 (by kernel_rfl) cells_graph (hval 0 24 v0 rfl rfl) h0
  obtain ⟨b0, b1, z0, z1, m1, rfl, rfl, rfl, hz0, hz1⟩ := open_agg2 Tryz.underlying27 (by kernel_rfl) cells_part (hval 1 27 v1 rfl rfl) h1
  obtain ⟨N, e0, _, _⟩ := DataW.trod_int Tryz.underlying3 hy0
  simp only [List.cons.injEq, and_true] at e0
  subst e0
  obtain ⟨A, n, c, es, rfl, hnc, hRE⟩ := edges_open hy1 (near_field Tryz.underlying24 hn0 (j := 1) rfl rfl)
  obtain ⟨A1, n1, c1, xs, rfl, hnc1, hRV⟩ := ints_open hz0 (near_field Tryz.underlying27 hn1 (j := 0) rfl rfl)
  obtain ⟨A2, n2, c2, ys, rfl, hnc2, hRI⟩ := ints_open hz1 (near_field Tryz.underlying27 hn1 (j := 1) rfl rfl)
  obtain ⟨a3, len3, cap3, rfl⟩ := okWide_slice Tryz.underlying28 (hval 2 28 v2 rfl rfl)
  obtain ⟨fuel2, hf2⟩ := h2
  obtain ⟨A3, n3, c3, tn, e3, hnc3, hRL⟩ := rows_open (by simpa [Value.cells] using hf2) hn2
  cases e3
  have hl := hRE.len
  subst hl
  have hl := hRV.len
  subst hl
  have hl := hRI.len
  subst hl
  have hl := hRL.len
  subst hl
  refine (faceSpheres_any ⟨N, es⟩ ⟨xs, ys⟩ tn A A1 A2 a3 c c1 c2 cap3 W hRE hRV hRI hRL).mono fun e W' ⟨he, hb⟩ => ?_
  subst he
  obtain ⟨r0, r1, r2⟩ := again W' hb.b
  exact ⟨_, rfl, ⟨_, _, _, [], _, [], hW', trodAll_mk1 (shut_bool Tryz.underlying4 true), trodAll_mk3 r0 r1 r2, rfl, hb.b.frame _, fun h => by cases h⟩⟩
theorem faceSpheres_holds : Rows.FaceSpheresSaid :=
  OpenClaim.holds_of_wide 3 Tryz.f3 rfl rfl rfl rfl rfl rfl rfl ⟨rfl, rfl, rfl, rfl, rfl⟩ rfl rfl rfl rfl rfl (by kernel_rfl) Tryz.func3 (by kernel_rfl)
    (of_decide_eq_true (by kernel_rfl)) (by unfold Func.isWrapper; first | (rw [if_pos (by decide +kernel)]; kernel_rfl) | (rw [if_neg (by decide +kernel)]; exact ⟨rfl, rfl⟩))
    (fun os started H enc _ => faceSpheres_lifted os started H enc)
end Go.Proofs.YtefhmlgepnlaoaaGreat
