/- The row of the law CodecSames, out of its pure law and the printed walk. Conditions: none. -/
import Derived.Test.YtdoghfenhoigmaaRw2
import Derived.Test.YtdoghfenhoigmaaPlLwD
namespace Go.Proofs.Ytdoghfenhoigmaa.codecSames
open Go.RowKit Go.ChangeShapes Go.WideShapes Go.ChangeAt
open Go.ChangeMaps (open_string shut_string)
set_option linter.unusedVariables false
theorem own : ownKnob Try.prog.godebug = none := by kernel_rfl
theorem laidOut : laidOutB Try.prog = true := by kernel_rfl
theorem opensT61 {H : Type} (W : World) (held : Bool) (enc : TypeId × Value → H) : Opens enc Try.prog W held 61 (V61 (heapF W)) Ok61 :=
  (opens_struct Try.underlying61 (by kernel_rfl) (by kernel_rfl) (by kernel_rfl) (opensL_cons (opens_int Try.underlying3 (by kernel_rfl)) (opensL_cons (opens_int Try.underlying3 (by kernel_rfl)) (opensL_cons (opens_int Try.underlying3 (by kernel_rfl)) (opensL_one (opens_bytes Try.underlying27 Try.underlying5 (by kernel_rfl) (by kernel_rfl) (by kernel_rfl))))))).mono (fun x r h => by obtain ⟨_, _, rfl, rfl, ⟨_, _, rfl, rfl, ⟨_, _, rfl, rfl, ⟨a3, c3, rfl, h3, k3, m3⟩⟩⟩⟩ := h; exact ⟨a3, c3, rfl, ⟨h3, k3, m3⟩⟩) (fun x h => h)
set_option maxRecDepth 100000 in
theorem lifted (os : Os) (started : os.Started) (H : Type) (enc : TypeId × Value → H) :
    ReturnsInHanded {} Try.checked os 3 .any (Rows.codecSamesSpec.pre6 enc Try.prog Try.f3 Rows.codecSamesRow.domain false) (Rows.codecSamesSpec.post enc Try.prog Try.f3 false true false false) := by
  refine returnsInHanded_of_change_sized (C := Try.checked) own started (by kernel_rfl) Try.func3
    (ChangeSpec.witness6 (enc := enc) (C := Try.checked) false ⟨#[], #[.agg #[.int .i64 0, .int .i64 0, .int .i64 0], .agg #[.int .i64 0, .int .i64 0, .int .i64 0], .agg #[.int .i64 0, .int .i64 0, .int .i64 0, str ([] : List UInt8), str ([] : List UInt8), str ([] : List UInt8)], .agg #[.int .i64 0, .int .i64 0, .int .i64 0, str ([] : List UInt8), str ([] : List UInt8), str ([] : List UInt8)], .agg #[.int .i64 0, .int .i64 0, .int .i64 0, .int .i64 0, .int .i64 0, .int .i64 0, .int .i64 0, .int .i64 0, .int .i64 0, .bool false, .slice none 0 0, .int .i64 0, .int .i64 0, .slice none 0 0], .agg #[.int .i64 0, .int .i64 0, .int .i64 0, .int .i64 0, .int .i64 0, .int .i64 0, .int .i64 0, .int .i64 0, .int .i64 0, .bool false, .slice none 0 0, .int .i64 0, .int .i64 0, .slice none 0 0]], []⟩ 8 (by kernel_rfl) (by kernel_rfl) (by kernel_rfl) (by kernel_rfl)) ?_
  intro W base args ds gs before hval0 hW hcnd hsz0 _
  have hsz : (DataW.weightsEach Try.prog (Try.f3.params.toList ++ Rows.codecSamesSpec.plain.varTypes Try.prog) (ds ++ gs)).all (· ≤ reachBytes) = true := hsz0
  have hval : ∀ (j : Nat) t v, Try.f3.params[j]? = some t → args[j]? = some v → Value.okWide Try.prog W .any base t v := hval0
  have hW' := hW
  obtain ⟨p, q, hA0, hV, rfl, hfz, hnd⟩ := hW
  have hA : DataW.TrodAll enc Try.prog W 0 (fun _ => true) true Try.f3.params.toList args.toList ds p := hA0
  rw [Try.params3] at hA hval hsz
  obtain ⟨v0, vs0, d0, ds0, p0, q0, hargs, rfl, rfl, h0, r0⟩ := trodAll_cons hA
  obtain ⟨v1, vs1, d1, ds1, p1, q1, rfl, rfl, rfl, h1, r1⟩ := trodAll_cons r0
  obtain ⟨v2, vs2, d2, ds2, p2, q2, rfl, rfl, rfl, h2, r2⟩ := trodAll_cons r1
  obtain ⟨v3, vs3, d3, ds3, p3, q3, rfl, rfl, rfl, h3, r3⟩ := trodAll_cons r2
  obtain ⟨v4, vs4, d4, ds4, p4, q4, rfl, rfl, rfl, h4, r4⟩ := trodAll_cons r3
  obtain ⟨v5, vs5, d5, ds5, p5, q5, rfl, rfl, rfl, h5, r5⟩ := trodAll_cons r4
  obtain ⟨rfl, rfl, rfl⟩ := trodAll_nil r5
  obtain rfl : args = #[v0, v1, v2, v3, v4, v5] := by cases args; simp_all
  obtain ⟨rfl, rfl⟩ := trodVars_none hV
  obtain ⟨cs0, rfl, _⟩ := okWide_struct Try.underlying23 (hval 0 23 v0 rfl rfl)
  have k0 := h0
  have lt0 : ∀ x ∈ p0, x.block < W.heap.size := by obtain ⟨m, hm⟩ := k0; exact DataW.trod_lt m _ _ _ hm
  obtain ⟨fuel0, hf0⟩ := h0
  obtain ⟨⟨z0_0, z0_1, z0_2⟩, ⟨_, _, hcs0, rfl, ⟨_, _, rfl, rfl, rfl⟩⟩, _, _, ok0⟩ := (opens_struct Try.underlying23 (by kernel_rfl) (by kernel_rfl) (by kernel_rfl) (opensL_cons (opens_int Try.underlying3 (by kernel_rfl)) (opensL_cons (opens_int Try.underlying3 (by kernel_rfl)) (opensL_one (opens_int Try.underlying3 (by kernel_rfl)))))) _ _ _ hf0 (weights_of hsz (j := 0) (t := 23) rfl rfl)
  have e0 : cs0.toList = [.int .i64 z0_0, .int .i64 z0_1, .int .i64 z0_2] := by simpa [Value.cells] using hcs0
  obtain rfl : cs0 = [.int .i64 z0_0, .int .i64 z0_1, .int .i64 z0_2].toArray := by rw [← e0, Array.toArray_toList]
  obtain ⟨cs1, rfl, _⟩ := okWide_struct Try.underlying23 (hval 1 23 v1 rfl rfl)
  have k1 := h1
  have lt1 : ∀ x ∈ p1, x.block < W.heap.size := by obtain ⟨m, hm⟩ := k1; exact DataW.trod_lt m _ _ _ hm
  obtain ⟨fuel1, hf1⟩ := h1
  obtain ⟨⟨z1_0, z1_1, z1_2⟩, ⟨_, _, hcs1, rfl, ⟨_, _, rfl, rfl, rfl⟩⟩, _, _, ok1⟩ := (opens_struct Try.underlying23 (by kernel_rfl) (by kernel_rfl) (by kernel_rfl) (opensL_cons (opens_int Try.underlying3 (by kernel_rfl)) (opensL_cons (opens_int Try.underlying3 (by kernel_rfl)) (opensL_one (opens_int Try.underlying3 (by kernel_rfl)))))) _ _ _ hf1 (weights_of hsz (j := 1) (t := 23) rfl rfl)
  have e1 : cs1.toList = [.int .i64 z1_0, .int .i64 z1_1, .int .i64 z1_2] := by simpa [Value.cells] using hcs1
  obtain rfl : cs1 = [.int .i64 z1_0, .int .i64 z1_1, .int .i64 z1_2].toArray := by rw [← e1, Array.toArray_toList]
  obtain ⟨cs2, rfl, _⟩ := okWide_struct Try.underlying25 (hval 2 25 v2 rfl rfl)
  have k2 := h2
  have lt2 : ∀ x ∈ p2, x.block < W.heap.size := by obtain ⟨m, hm⟩ := k2; exact DataW.trod_lt m _ _ _ hm
  obtain ⟨fuel2, hf2⟩ := h2
  obtain ⟨⟨z2_0, z2_1, z2_2, z2_3, z2_4, z2_5⟩, ⟨_, _, hcs2, rfl, ⟨_, _, rfl, rfl, ⟨_, _, rfl, rfl, ⟨_, _, rfl, rfl, ⟨_, _, rfl, rfl, rfl⟩⟩⟩⟩⟩, _, _, ok2⟩ := (opens_struct Try.underlying25 (by kernel_rfl) (by kernel_rfl) (by kernel_rfl) (opensL_cons (opens_int Try.underlying3 (by kernel_rfl)) (opensL_cons (opens_int Try.underlying3 (by kernel_rfl)) (opensL_cons (opens_int Try.underlying3 (by kernel_rfl)) (opensL_cons (opens_str Try.underlying9 (by kernel_rfl)) (opensL_cons (opens_str Try.underlying9 (by kernel_rfl)) (opensL_one (opens_str Try.underlying9 (by kernel_rfl))))))))) _ _ _ hf2 (weights_of hsz (j := 2) (t := 25) rfl rfl)
  have e2 : cs2.toList = [.int .i64 z2_0, .int .i64 z2_1, .int .i64 z2_2, str z2_3, str z2_4, str z2_5] := by simpa [Value.cells] using hcs2
  obtain rfl : cs2 = [.int .i64 z2_0, .int .i64 z2_1, .int .i64 z2_2, str z2_3, str z2_4, str z2_5].toArray := by rw [← e2, Array.toArray_toList]
  obtain ⟨cs3, rfl, _⟩ := okWide_struct Try.underlying25 (hval 3 25 v3 rfl rfl)
  have k3 := h3
  have lt3 : ∀ x ∈ p3, x.block < W.heap.size := by obtain ⟨m, hm⟩ := k3; exact DataW.trod_lt m _ _ _ hm
  obtain ⟨fuel3, hf3⟩ := h3
  obtain ⟨⟨z3_0, z3_1, z3_2, z3_3, z3_4, z3_5⟩, ⟨_, _, hcs3, rfl, ⟨_, _, rfl, rfl, ⟨_, _, rfl, rfl, ⟨_, _, rfl, rfl, ⟨_, _, rfl, rfl, rfl⟩⟩⟩⟩⟩, _, _, ok3⟩ := (opens_struct Try.underlying25 (by kernel_rfl) (by kernel_rfl) (by kernel_rfl) (opensL_cons (opens_int Try.underlying3 (by kernel_rfl)) (opensL_cons (opens_int Try.underlying3 (by kernel_rfl)) (opensL_cons (opens_int Try.underlying3 (by kernel_rfl)) (opensL_cons (opens_str Try.underlying9 (by kernel_rfl)) (opensL_cons (opens_str Try.underlying9 (by kernel_rfl)) (opensL_one (opens_str Try.underlying9 (by kernel_rfl))))))))) _ _ _ hf3 (weights_of hsz (j := 3) (t := 25) rfl rfl)
  have e3 : cs3.toList = [.int .i64 z3_0, .int .i64 z3_1, .int .i64 z3_2, str z3_3, str z3_4, str z3_5] := by simpa [Value.cells] using hcs3
  obtain rfl : cs3 = [.int .i64 z3_0, .int .i64 z3_1, .int .i64 z3_2, str z3_3, str z3_4, str z3_5].toArray := by rw [← e3, Array.toArray_toList]
  obtain ⟨cs4, rfl, _⟩ := okWide_struct Try.underlying31 (hval 4 31 v4 rfl rfl)
  have k4 := h4
  have lt4 : ∀ x ∈ p4, x.block < W.heap.size := by obtain ⟨m, hm⟩ := k4; exact DataW.trod_lt m _ _ _ hm
  obtain ⟨fuel4, hf4⟩ := h4
  obtain ⟨⟨z4_0, z4_1, z4_2, z4_3, z4_4, z4_5, z4_6, z4_7, z4_8, z4_9, z4_10, ⟨z4_11, z4_12, z4_13⟩⟩, ⟨_, _, hcs4, rfl, ⟨_, _, rfl, rfl, ⟨_, _, rfl, rfl, ⟨_, _, rfl, rfl, ⟨_, _, rfl, rfl, ⟨_, _, rfl, rfl, ⟨_, _, rfl, rfl, ⟨_, _, rfl, rfl, ⟨_, _, rfl, rfl, ⟨_, _, rfl, rfl, ⟨_, _, rfl, ⟨a4_10, c4_10, rfl, h4_10, k4_10, m4_10⟩, ⟨_, _, rfl, rfl, ⟨_, _, rfl, rfl, ⟨a4_13, c4_13, rfl, h4_13, k4_13, m4_13⟩⟩⟩⟩⟩⟩⟩⟩⟩⟩⟩⟩⟩⟩, _, _, ok4⟩ := (opens_struct Try.underlying31 (by kernel_rfl) (by kernel_rfl) (by kernel_rfl) (opensL_cons (opens_int Try.underlying3 (by kernel_rfl)) (opensL_cons (opens_int Try.underlying3 (by kernel_rfl)) (opensL_cons (opens_int Try.underlying3 (by kernel_rfl)) (opensL_cons (opens_int Try.underlying3 (by kernel_rfl)) (opensL_cons (opens_int Try.underlying3 (by kernel_rfl)) (opensL_cons (opens_int Try.underlying3 (by kernel_rfl)) (opensL_cons (opens_int Try.underlying3 (by kernel_rfl)) (opensL_cons (opens_int Try.underlying3 (by kernel_rfl)) (opensL_cons (opens_int Try.underlying3 (by kernel_rfl)) (opensL_cons (opens_bool Try.underlying4 (by kernel_rfl)) (opensL_cons (opens_list (n := 4) (B := 48) Try.underlying26 (by kernel_rfl) (by kernel_rfl) (by kernel_rfl) (opensT61 W true enc)) (opensL_one (opens_struct Try.underlying29 (by kernel_rfl) (by kernel_rfl) (by kernel_rfl) (opensL_cons (opens_int Try.underlying3 (by kernel_rfl)) (opensL_cons (opens_int Try.underlying3 (by kernel_rfl)) (opensL_one (opens_bytes Try.underlying27 Try.underlying5 (by kernel_rfl) (by kernel_rfl) (by kernel_rfl))))))))))))))))))) _ _ _ hf4 (weights_of hsz (j := 4) (t := 31) rfl rfl)
  have e4 : cs4.toList = [.int .i64 z4_0, .int .i64 z4_1, .int .i64 z4_2, .int .i64 z4_3, .int .i64 z4_4, .int .i64 z4_5, .int .i64 z4_6, .int .i64 z4_7, .int .i64 z4_8, .bool z4_9, .slice a4_10 z4_10.length c4_10, .int .i64 z4_11, .int .i64 z4_12, .slice a4_13 z4_13.length c4_13] := by simpa [Value.cells] using hcs4
  obtain rfl : cs4 = [.int .i64 z4_0, .int .i64 z4_1, .int .i64 z4_2, .int .i64 z4_3, .int .i64 z4_4, .int .i64 z4_5, .int .i64 z4_6, .int .i64 z4_7, .int .i64 z4_8, .bool z4_9, .slice a4_10 z4_10.length c4_10, .int .i64 z4_11, .int .i64 z4_12, .slice a4_13 z4_13.length c4_13].toArray := by rw [← e4, Array.toArray_toList]
  obtain ⟨cs5, rfl, _⟩ := okWide_struct Try.underlying31 (hval 5 31 v5 rfl rfl)
  have k5 := h5
  have lt5 : ∀ x ∈ p5, x.block < W.heap.size := by obtain ⟨m, hm⟩ := k5; exact DataW.trod_lt m _ _ _ hm
  obtain ⟨fuel5, hf5⟩ := h5
  obtain ⟨⟨z5_0, z5_1, z5_2, z5_3, z5_4, z5_5, z5_6, z5_7, z5_8, z5_9, z5_10, ⟨z5_11, z5_12, z5_13⟩⟩, ⟨_, _, hcs5, rfl, ⟨_, _, rfl, rfl, ⟨_, _, rfl, rfl, ⟨_, _, rfl, rfl, ⟨_, _, rfl, rfl, ⟨_, _, rfl, rfl, ⟨_, _, rfl, rfl, ⟨_, _, rfl, rfl, ⟨_, _, rfl, rfl, ⟨_, _, rfl, rfl, ⟨_, _, rfl, ⟨a5_10, c5_10, rfl, h5_10, k5_10, m5_10⟩, ⟨_, _, rfl, rfl, ⟨_, _, rfl, rfl, ⟨a5_13, c5_13, rfl, h5_13, k5_13, m5_13⟩⟩⟩⟩⟩⟩⟩⟩⟩⟩⟩⟩⟩⟩, _, _, ok5⟩ := (opens_struct Try.underlying31 (by kernel_rfl) (by kernel_rfl) (by kernel_rfl) (opensL_cons (opens_int Try.underlying3 (by kernel_rfl)) (opensL_cons (opens_int Try.underlying3 (by kernel_rfl)) (opensL_cons (opens_int Try.underlying3 (by kernel_rfl)) (opensL_cons (opens_int Try.underlying3 (by kernel_rfl)) (opensL_cons (opens_int Try.underlying3 (by kernel_rfl)) (opensL_cons (opens_int Try.underlying3 (by kernel_rfl)) (opensL_cons (opens_int Try.underlying3 (by kernel_rfl)) (opensL_cons (opens_int Try.underlying3 (by kernel_rfl)) (opensL_cons (opens_int Try.underlying3 (by kernel_rfl)) (opensL_cons (opens_bool Try.underlying4 (by kernel_rfl)) (opensL_cons (opens_list (n := 4) (B := 48) Try.underlying26 (by kernel_rfl) (by kernel_rfl) (by kernel_rfl) (opensT61 W true enc)) (opensL_one (opens_struct Try.underlying29 (by kernel_rfl) (by kernel_rfl) (by kernel_rfl) (opensL_cons (opens_int Try.underlying3 (by kernel_rfl)) (opensL_cons (opens_int Try.underlying3 (by kernel_rfl)) (opensL_one (opens_bytes Try.underlying27 Try.underlying5 (by kernel_rfl) (by kernel_rfl) (by kernel_rfl))))))))))))))))))) _ _ _ hf5 (weights_of hsz (j := 5) (t := 31) rfl rfl)
  have e5 : cs5.toList = [.int .i64 z5_0, .int .i64 z5_1, .int .i64 z5_2, .int .i64 z5_3, .int .i64 z5_4, .int .i64 z5_5, .int .i64 z5_6, .int .i64 z5_7, .int .i64 z5_8, .bool z5_9, .slice a5_10 z5_10.length c5_10, .int .i64 z5_11, .int .i64 z5_12, .slice a5_13 z5_13.length c5_13] := by simpa [Value.cells] using hcs5
  obtain rfl : cs5 = [.int .i64 z5_0, .int .i64 z5_1, .int .i64 z5_2, .int .i64 z5_3, .int .i64 z5_4, .int .i64 z5_5, .int .i64 z5_6, .int .i64 z5_7, .int .i64 z5_8, .bool z5_9, .slice a5_10 z5_10.length c5_10, .int .i64 z5_11, .int .i64 z5_12, .slice a5_13 z5_13.length c5_13].toArray := by rw [← e5, Array.toArray_toList]
  clear hA0 hval0 hsz0 hsz
  obtain ⟨k, hk⟩ := pure_CodecSames z0_0 z0_1 z0_2 ok0 z1_0 z1_1 z1_2 ok1 z2_0 z2_1 z2_2 z2_3 z2_4 z2_5 ok2 z3_0 z3_1 z3_2 z3_3 z3_4 z3_5 ok3 z4_0 z4_1 z4_2 z4_3 z4_4 z4_5 z4_6 z4_7 z4_8 z4_9 z4_10 z4_11 z4_12 z4_13 ok4 z5_0 z5_1 z5_2 z5_3 z5_4 z5_5 z5_6 z5_7 z5_8 z5_9 z5_10 z5_11 z5_12 z5_13 ok5
  refine (row_of_fn (synodlaw3_CodecSames.calls W (heapF W) k z0_0 z0_1 z0_2 z1_0 z1_1 z1_2 z2_0 z2_1 z2_2 z2_3 z2_4 z2_5 z3_0 z3_1 z3_2 z3_3 z3_4 z3_5 z4_0 z4_1 z4_2 z4_3 z4_4 z4_5 z4_6 z4_7 z4_8 z4_9 _ _ z4_10 z4_11 z4_12 _ _ z4_13 z5_0 z5_1 z5_2 z5_3 z5_4 z5_5 z5_6 z5_7 z5_8 z5_9 _ _ z5_10 z5_11 z5_12 _ _ z5_13 h4_10 k4_10 m4_10 h4_13 k4_13 m4_13 h5_10 k5_10 m5_10 h5_13 k5_13 m5_13) hk (fun _ => rfl)).mono fun e W' ⟨he, bel⟩ => ?_
  subst he
  exact ⟨_, rfl, _, _, _, [], _, [], hW', trodAll_mk1 (shut_bool Try.underlying4 _), (trodAll_cons_mk (Below.trod laidOut (by kernel_rfl) (of_decide_eq_true (by kernel_rfl)) k0 bel lt0) (trodAll_cons_mk (Below.trod laidOut (by kernel_rfl) (of_decide_eq_true (by kernel_rfl)) k1 bel lt1) (trodAll_cons_mk (Below.trod laidOut (by kernel_rfl) (of_decide_eq_true (by kernel_rfl)) k2 bel lt2) (trodAll_cons_mk (Below.trod laidOut (by kernel_rfl) (of_decide_eq_true (by kernel_rfl)) k3 bel lt3) (trodAll_cons_mk (Below.trod laidOut (by kernel_rfl) (of_decide_eq_true (by kernel_rfl)) k4 bel lt4) (trodAll_cons_mk (Below.trod laidOut (by kernel_rfl) (of_decide_eq_true (by kernel_rfl)) k5 bel lt5) trodAll_mk0)))))), rfl, bel.frame _, fun h => by cases h⟩
theorem over : Rows.codecSamesRow.holds Try.pinned (OpenSpec.ofChange Rows.codecSamesSpec) :=
  OpenClaim.holds_of_wide 3 Try.f3 rfl rfl rfl rfl rfl rfl rfl ⟨rfl, rfl, rfl, rfl, rfl⟩ rfl rfl rfl rfl rfl (by kernel_rfl) Try.func3 (by kernel_rfl)
    (of_decide_eq_true (by kernel_rfl)) (by unfold Func.isWrapper; first | (rw [if_pos (by decide +kernel)]; kernel_rfl) | (rw [if_neg (by decide +kernel)]; exact ⟨rfl, rfl⟩))
    (fun os started H enc _ => lifted os started H enc)
end Go.Proofs.Ytdoghfenhoigmaa.codecSames
namespace Go.Proofs.Ytdoghfenhoigmaa
/-- The row, under a short name, for the claim. -/
theorem codecSames_holds : Rows.CodecSamesSaid := codecSames.over
end Go.Proofs.Ytdoghfenhoigmaa
