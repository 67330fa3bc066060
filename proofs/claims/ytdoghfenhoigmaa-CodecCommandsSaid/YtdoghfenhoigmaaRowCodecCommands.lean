/- The row of the law CodecCommands, out of its pure law and the printed walk. Conditions: none. -/
import Derived.Test.YtdoghfenhoigmaaRw2
import Derived.Test.YtdoghfenhoigmaaPlLwC
namespace Go.Proofs.Ytdoghfenhoigmaa.codecCommands
open Go.RowKit Go.ChangeShapes Go.WideShapes Go.ChangeAt
open Go.ChangeMaps (open_string shut_string)
set_option linter.unusedVariables false
theorem own : ownKnob Try.prog.godebug = none := by kernel_rfl
theorem laidOut : laidOutB Try.prog = true := by kernel_rfl
set_option maxRecDepth 100000 in
theorem lifted (os : Os) (started : os.Started) (H : Type) (enc : TypeId × Value → H) :
    ReturnsInHanded {} Try.checked os 8 .any (Rows.codecCommandsSpec.pre6 enc Try.prog Try.f8 Rows.codecCommandsRow.domain false) (Rows.codecCommandsSpec.post enc Try.prog Try.f8 false true false false) := by
  refine returnsInHanded_of_change_sized (C := Try.checked) own started (by kernel_rfl) Try.func8
    (ChangeSpec.witness6 (enc := enc) (C := Try.checked) false ⟨#[], #[.agg #[.int .i64 0, .int .i64 0, .int .i64 0, str ([] : List UInt8), str ([] : List UInt8), str ([] : List UInt8)], .slice none 0 0], []⟩ 8 (by kernel_rfl) (by kernel_rfl) (by kernel_rfl) (by kernel_rfl)) ?_
  intro W base args ds gs before hval0 hW hcnd hsz0 _
  have hsz : (DataW.weightsEach Try.prog (Try.f8.params.toList ++ Rows.codecCommandsSpec.plain.varTypes Try.prog) (ds ++ gs)).all (· ≤ reachBytes) = true := hsz0
  have hval : ∀ (j : Nat) t v, Try.f8.params[j]? = some t → args[j]? = some v → Value.okWide Try.prog W .any base t v := hval0
  have hW' := hW
  obtain ⟨p, q, hA0, hV, rfl, hfz, hnd⟩ := hW
  have hA : DataW.TrodAll enc Try.prog W 0 (fun _ => true) true Try.f8.params.toList args.toList ds p := hA0
  rw [Try.params8] at hA hval hsz
  obtain ⟨v0, vs0, d0, ds0, p0, q0, hargs, rfl, rfl, h0, r0⟩ := trodAll_cons hA
  obtain ⟨v1, vs1, d1, ds1, p1, q1, rfl, rfl, rfl, h1, r1⟩ := trodAll_cons r0
  obtain ⟨rfl, rfl, rfl⟩ := trodAll_nil r1
  obtain rfl : args = #[v0, v1] := by cases args; simp_all
  obtain ⟨rfl, rfl⟩ := trodVars_none hV
  obtain ⟨cs0, rfl, _⟩ := okWide_struct Try.underlying25 (hval 0 25 v0 rfl rfl)
  have k0 := h0
  have lt0 : ∀ x ∈ p0, x.block < W.heap.size := by obtain ⟨m, hm⟩ := k0; exact DataW.trod_lt m _ _ _ hm
  obtain ⟨fuel0, hf0⟩ := h0
  obtain ⟨⟨z0_0, z0_1, z0_2, z0_3, z0_4, z0_5⟩, ⟨_, _, hcs0, rfl, ⟨_, _, rfl, rfl, ⟨_, _, rfl, rfl, ⟨_, _, rfl, rfl, ⟨_, _, rfl, rfl, rfl⟩⟩⟩⟩⟩, _, _, ok0⟩ := (opens_struct Try.underlying25 (by kernel_rfl) (by kernel_rfl) (by kernel_rfl) (opensL_cons (opens_int Try.underlying3 (by kernel_rfl)) (opensL_cons (opens_int Try.underlying3 (by kernel_rfl)) (opensL_cons (opens_int Try.underlying3 (by kernel_rfl)) (opensL_cons (opens_str Try.underlying9 (by kernel_rfl)) (opensL_cons (opens_str Try.underlying9 (by kernel_rfl)) (opensL_one (opens_str Try.underlying9 (by kernel_rfl))))))))) _ _ _ hf0 (weights_of hsz (j := 0) (t := 25) rfl rfl)
  have e0 : cs0.toList = [.int .i64 z0_0, .int .i64 z0_1, .int .i64 z0_2, str z0_3, str z0_4, str z0_5] := by simpa [Value.cells] using hcs0
  obtain rfl : cs0 = [.int .i64 z0_0, .int .i64 z0_1, .int .i64 z0_2, str z0_3, str z0_4, str z0_5].toArray := by rw [← e0, Array.toArray_toList]
  obtain ⟨a1, len1, cap1, rfl⟩ := okWide_slice Try.underlying27 (hval 1 27 v1 rfl rfl)
  have k1 := h1
  have lt1 : ∀ x ∈ p1, x.block < W.heap.size := by obtain ⟨m, hm⟩ := k1; exact DataW.trod_lt m _ _ _ hm
  obtain ⟨fuel1, hf1⟩ := h1
  obtain ⟨b1, c1, z1, hcs1, rd1, le1, mx1, sz1⟩ := open_bytes Try.underlying27 Try.underlying5 (by kernel_rfl) (by kernel_rfl) hf1 (weights_of hsz (j := 1) (t := 27) rfl rfl)
  have e1 : Value.slice a1 len1 cap1 = .slice b1 z1.length c1 := by simpa [Value.cells] using hcs1
  injection e1 with ea1 eb1 ec1
  subst ea1 eb1 ec1
  clear hA0 hval0 hsz0 hsz
  obtain ⟨k, hk⟩ := pure_CodecCommands z0_0 z0_1 z0_2 z0_3 z0_4 z0_5 ok0 z1 sz1
  refine (row_of_fn (synodlaw3_CodecCommands.calls W (heapF W) k z0_0 z0_1 z0_2 z0_3 z0_4 z0_5 _ _ z1 rd1 le1 mx1) hk (fun _ => rfl)).mono fun e W' ⟨he, bel⟩ => ?_
  subst he
  exact ⟨_, rfl, _, _, _, [], _, [], hW', trodAll_mk1 (shut_bool Try.underlying4 _), (trodAll_cons_mk (Below.trod laidOut (by kernel_rfl) (of_decide_eq_true (by kernel_rfl)) k0 bel lt0) (trodAll_cons_mk (Below.trod laidOut (by kernel_rfl) (of_decide_eq_true (by kernel_rfl)) k1 bel lt1) trodAll_mk0)), rfl, bel.frame _, fun h => by cases h⟩
theorem over : Rows.codecCommandsRow.holds Try.pinned (OpenSpec.ofChange Rows.codecCommandsSpec) :=
  OpenClaim.holds_of_wide 8 Try.f8 rfl rfl rfl rfl rfl rfl rfl ⟨rfl, rfl, rfl, rfl, rfl⟩ rfl rfl rfl rfl rfl (by kernel_rfl) Try.func8 (by kernel_rfl)
    (of_decide_eq_true (by kernel_rfl)) (by unfold Func.isWrapper; first | (rw [if_pos (by decide +kernel)]; kernel_rfl) | (rw [if_neg (by decide +kernel)]; exact ⟨rfl, rfl⟩))
    (fun os started H enc _ => lifted os started H enc)
end Go.Proofs.Ytdoghfenhoigmaa.codecCommands
namespace Go.Proofs.Ytdoghfenhoigmaa
/-- The row, under a short name, for the claim. -/
theorem codecCommands_holds : Rows.CodecCommandsSaid := codecCommands.over
end Go.Proofs.Ytdoghfenhoigmaa
