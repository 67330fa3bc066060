/- The row of the law LinSteps, out of its pure law and the printed walk. Conditions: none. -/
import Derived.Test.YtlblpegbgbgliaaRw2
import Derived.Test.YtlblpegbgbgliaaPlLwVS
namespace Go.Proofs.Ytlblpegbgbgliaa.linSteps
open Go.RowKit Go.ChangeShapes Go.WideShapes Go.ChangeAt
open Go.ChangeMaps (open_string shut_string)
set_option linter.unusedVariables false
theorem own : ownKnob Try.prog.godebug = none := by kernel_rfl
theorem laidOut : laidOutB Try.prog = true := by kernel_rfl
set_option maxRecDepth 100000 in
theorem lifted (os : Os) (started : os.Started) (H : Type) (enc : TypeId × Value → H) :
    ReturnsInHanded {} Try.checked os 5 .any (Rows.linStepsSpec.pre6 enc Try.prog Try.f5 Rows.linStepsRow.domain false) (Rows.linStepsSpec.post enc Try.prog Try.f5 false true false false) := by
  refine returnsInHanded_of_change_sized (C := Try.checked) own started (by kernel_rfl) Try.func5
    (ChangeSpec.witness6 (enc := enc) (C := Try.checked) false ⟨#[], #[.bool false, .string ⟨#[]⟩, .agg #[.int .i64 0, .int .i64 0, .int .i64 0, str ([] : List UInt8), str ([] : List UInt8), str ([] : List UInt8), .int .i64 0, .int .i64 0, .int .i64 0, str ([] : List UInt8)]], []⟩ 8 (by kernel_rfl) (by kernel_rfl) (by kernel_rfl) (by kernel_rfl)) ?_
  intro W base args ds gs before hval0 hW hcnd hsz0 _
  have hsz : (DataW.weightsEach Try.prog (Try.f5.params.toList ++ Rows.linStepsSpec.plain.varTypes Try.prog) (ds ++ gs)).all (· ≤ reachBytes) = true := hsz0
  have hval : ∀ (j : Nat) t v, Try.f5.params[j]? = some t → args[j]? = some v → Value.okWide Try.prog W .any base t v := hval0
  have hW' := hW
  obtain ⟨p, q, hA0, hV, rfl, hfz, hnd⟩ := hW
  have hA : DataW.TrodAll enc Try.prog W 0 (fun _ => true) true Try.f5.params.toList args.toList ds p := hA0
  rw [Try.params5] at hA hval hsz
  obtain ⟨v0, vs0, d0, ds0, p0, q0, hargs, rfl, rfl, h0, r0⟩ := trodAll_cons hA
  obtain ⟨v1, vs1, d1, ds1, p1, q1, rfl, rfl, rfl, h1, r1⟩ := trodAll_cons r0
  obtain ⟨v2, vs2, d2, ds2, p2, q2, rfl, rfl, rfl, h2, r2⟩ := trodAll_cons r1
  obtain ⟨rfl, rfl, rfl⟩ := trodAll_nil r2
  obtain rfl : args = #[v0, v1, v2] := by cases args; simp_all
  obtain ⟨rfl, rfl⟩ := trodVars_none hV
  obtain ⟨a0, rfl, rfl, rfl⟩ := open_bool Try.underlying4 (hval 0 4 v0 rfl rfl) h0
  obtain ⟨ss1, rfl⟩ := okWide_string Try.underlying9 (hval 1 9 v1 rfl rfl)
  have k1 := h1
  have lt1 : ∀ x ∈ p1, x.block < W.heap.size := by obtain ⟨m, hm⟩ := k1; exact DataW.trod_lt m _ _ _ hm
  obtain ⟨fuel1, hf1⟩ := h1
  obtain ⟨z1_0, hcs1, _, _, ok1⟩ := (opens_str Try.underlying9 (by kernel_rfl)) _ _ _ hf1 (weights_of hsz (j := 1) (t := 9) rfl rfl)
  have e1 : Value.string ss1 = str z1_0 := by simpa [Value.cells] using hcs1
  unfold str at e1
  injection e1 with ea1
  subst ea1
  obtain ⟨cs2, rfl, _⟩ := okWide_struct Try.underlying35 (hval 2 35 v2 rfl rfl)
  have k2 := h2
  have lt2 : ∀ x ∈ p2, x.block < W.heap.size := by obtain ⟨m, hm⟩ := k2; exact DataW.trod_lt m _ _ _ hm
  obtain ⟨fuel2, hf2⟩ := h2
  obtain ⟨⟨z2_0, z2_1, z2_2, z2_3, z2_4, z2_5, z2_6, z2_7, ⟨z2_8, z2_9⟩⟩, ⟨_, _, hcs2, rfl, ⟨_, _, rfl, rfl, ⟨_, _, rfl, rfl, ⟨_, _, rfl, rfl, ⟨_, _, rfl, rfl, ⟨_, _, rfl, rfl, ⟨_, _, rfl, rfl, ⟨_, _, rfl, rfl, ⟨_, _, rfl, rfl, rfl⟩⟩⟩⟩⟩⟩⟩⟩⟩, _, _, ok2⟩ := (opens_struct Try.underlying35 (by kernel_rfl) (by kernel_rfl) (by kernel_rfl) (opensL_cons (opens_int Try.underlying3 (by kernel_rfl)) (opensL_cons (opens_int Try.underlying3 (by kernel_rfl)) (opensL_cons (opens_int Try.underlying3 (by kernel_rfl)) (opensL_cons (opens_str Try.underlying9 (by kernel_rfl)) (opensL_cons (opens_str Try.underlying9 (by kernel_rfl)) (opensL_cons (opens_str Try.underlying9 (by kernel_rfl)) (opensL_cons (opens_int Try.underlying3 (by kernel_rfl)) (opensL_cons (opens_int Try.underlying3 (by kernel_rfl)) (opensL_one (opens_struct Try.underlying33 (by kernel_rfl) (by kernel_rfl) (by kernel_rfl) (opensL_cons (opens_int Try.underlying3 (by kernel_rfl)) (opensL_one (opens_str Try.underlying9 (by kernel_rfl))))))))))))))) _ _ _ hf2 (weights_of hsz (j := 2) (t := 35) rfl rfl)
  have e2 : cs2.toList = [.int .i64 z2_0, .int .i64 z2_1, .int .i64 z2_2, str z2_3, str z2_4, str z2_5, .int .i64 z2_6, .int .i64 z2_7, .int .i64 z2_8, str z2_9] := by simpa [Value.cells] using hcs2
  obtain rfl : cs2 = [.int .i64 z2_0, .int .i64 z2_1, .int .i64 z2_2, str z2_3, str z2_4, str z2_5, .int .i64 z2_6, .int .i64 z2_7, .int .i64 z2_8, str z2_9].toArray := by rw [← e2, Array.toArray_toList]
  clear hA0 hval0 hsz0 hsz
  obtain ⟨k, hk⟩ := pure_LinSteps a0 z1_0 ok1 z2_0 z2_1 z2_2 z2_3 z2_4 z2_5 z2_6 z2_7 z2_8 z2_9 ok2
  refine (row_of_fn (synodlaw16_LinSteps.calls W (heapF W) k a0 z1_0 z2_0 z2_1 z2_2 z2_3 z2_4 z2_5 z2_6 z2_7 z2_8 z2_9) hk (fun _ => rfl)).mono fun e W' ⟨he, bel⟩ => ?_
  subst he
  exact ⟨_, rfl, _, _, _, [], _, [], hW', trodAll_mk1 (shut_bool Try.underlying4 _), (trodAll_cons_mk (shut_bool Try.underlying4 _) (trodAll_cons_mk (Below.trod laidOut (by kernel_rfl) (of_decide_eq_true (by kernel_rfl)) k1 bel lt1) (trodAll_cons_mk (Below.trod laidOut (by kernel_rfl) (of_decide_eq_true (by kernel_rfl)) k2 bel lt2) trodAll_mk0))), rfl, bel.frame _, fun h => by cases h⟩
theorem over : Rows.linStepsRow.holds Try.pinned (OpenSpec.ofChange Rows.linStepsSpec) :=
  OpenClaim.holds_of_wide 5 Try.f5 rfl rfl rfl rfl rfl rfl rfl ⟨rfl, rfl, rfl, rfl, rfl⟩ rfl rfl rfl rfl rfl (by kernel_rfl) Try.func5 (by kernel_rfl)
    (of_decide_eq_true (by kernel_rfl)) (by unfold Func.isWrapper; first | (rw [if_pos (by decide +kernel)]; kernel_rfl) | (rw [if_neg (by decide +kernel)]; exact ⟨rfl, rfl⟩))
    (fun os started H enc _ => lifted os started H enc)
end Go.Proofs.Ytlblpegbgbgliaa.linSteps
namespace Go.Proofs.Ytlblpegbgbgliaa
/-- The row, under a short name, for the claim. -/
theorem linSteps_holds : Rows.LinStepsSaid := linSteps.over
end Go.Proofs.Ytlblpegbgbgliaa
