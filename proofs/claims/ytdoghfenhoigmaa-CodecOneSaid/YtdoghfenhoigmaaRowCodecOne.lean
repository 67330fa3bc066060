/- The row of the law CodecOne, out of its pure law and the printed walk. Conditions: none. -/
import Derived.Test.YtdoghfenhoigmaaRw2
import Derived.Test.YtdoghfenhoigmaaPlLwO
namespace Go.Proofs.Ytdoghfenhoigmaa.codecOne
open Go.RowKit Go.ChangeShapes Go.WideShapes Go.ChangeAt
open Go.ChangeMaps (open_string shut_string)
set_option linter.unusedVariables false
theorem own : ownKnob Try.prog.godebug = none := by kernel_rfl
theorem laidOut : laidOutB Try.prog = true := by kernel_rfl
theorem opensT61 {H : Type} (W : World) (held : Bool) (enc : TypeId × Value → H) : Opens enc Try.prog W held 61 (V61 (heapF W)) Ok61 :=
  (opens_struct Try.underlying61 (by kernel_rfl) (by kernel_rfl) (by kernel_rfl) (opensL_cons (opens_int Try.underlying3 (by kernel_rfl)) (opensL_cons (opens_int Try.underlying3 (by kernel_rfl)) (opensL_cons (opens_int Try.underlying3 (by kernel_rfl)) (opensL_one (opens_bytes Try.underlying27 Try.underlying5 (by kernel_rfl) (by kernel_rfl) (by kernel_rfl))))))).mono (fun x r h => by obtain ⟨_, _, rfl, rfl, ⟨_, _, rfl, rfl, ⟨_, _, rfl, rfl, ⟨a3, c3, rfl, h3, k3, m3⟩⟩⟩⟩ := h; exact ⟨a3, c3, rfl, ⟨h3, k3, m3⟩⟩) (fun x h => h)
set_option maxRecDepth 100000 in
theorem lifted (os : Os) (started : os.Started) (H : Type) (enc : TypeId × Value → H) :
    ReturnsInHanded {} Try.checked os 11 .any (Rows.codecOneSpec.pre6 enc Try.prog Try.f11 Rows.codecOneRow.domain false) (Rows.codecOneSpec.post enc Try.prog Try.f11 false true false false) := by
  refine returnsInHanded_of_change_sized (C := Try.checked) own started (by kernel_rfl) Try.func11
    (ChangeSpec.witness6 (enc := enc) (C := Try.checked) false ⟨#[], #[.agg #[.int .i64 0, .int .i64 0, .int .i64 0, .int .i64 0, .int .i64 0, .int .i64 0, .int .i64 0, .int .i64 0, .int .i64 0, .bool false, .slice none 0 0, .int .i64 0, .int .i64 0, .slice none 0 0], .agg #[.int .i64 0, .int .i64 0, .int .i64 0, .int .i64 0, .int .i64 0, .int .i64 0, .int .i64 0, .int .i64 0, .int .i64 0, .bool false, .slice none 0 0, .int .i64 0, .int .i64 0, .slice none 0 0], .int .i64 0, .int .u8 0], []⟩ 8 (by kernel_rfl) (by kernel_rfl) (by kernel_rfl) (by kernel_rfl)) ?_
  intro W base args ds gs before hval0 hW hcnd hsz0 _
  have hsz : (DataW.weightsEach Try.prog (Try.f11.params.toList ++ Rows.codecOneSpec.plain.varTypes Try.prog) (ds ++ gs)).all (· ≤ reachBytes) = true := hsz0
  have hval : ∀ (j : Nat) t v, Try.f11.params[j]? = some t → args[j]? = some v → Value.okWide Try.prog W .any base t v := hval0
  have hW' := hW
  obtain ⟨p, q, hA0, hV, rfl, hfz, hnd⟩ := hW
  have hA : DataW.TrodAll enc Try.prog W 0 (fun _ => true) true Try.f11.params.toList args.toList ds p := hA0
  rw [Try.params11] at hA hval hsz
  obtain ⟨v0, vs0, d0, ds0, p0, q0, hargs, rfl, rfl, h0, r0⟩ := trodAll_cons hA
  obtain ⟨v1, vs1, d1, ds1, p1, q1, rfl, rfl, rfl, h1, r1⟩ := trodAll_cons r0
  obtain ⟨v2, vs2, d2, ds2, p2, q2, rfl, rfl, rfl, h2, r2⟩ := trodAll_cons r1
  obtain ⟨v3, vs3, d3, ds3, p3, q3, rfl, rfl, rfl, h3, r3⟩ := trodAll_cons r2
  obtain ⟨rfl, rfl, rfl⟩ := trodAll_nil r3
  obtain rfl : args = #[v0, v1, v2, v3] := by cases args; simp_all
  obtain ⟨rfl, rfl⟩ := trodVars_none hV
  obtain ⟨cs0, rfl, _⟩ := okWide_struct Try.underlying31 (hval 0 31 v0 rfl rfl)
  have k0 := h0
  have lt0 : ∀ x ∈ p0, x.block < W.heap.size := by obtain ⟨m, hm⟩ := k0; exact DataW.trod_lt m _ _ _ hm
  obtain ⟨fuel0, hf0⟩ := h0
  obtain ⟨⟨z0_0, z0_1, z0_2, z0_3, z0_4, z0_5, z0_6, z0_7, z0_8, z0_9, z0_10, ⟨z0_11, z0_12, z0_13⟩⟩, ⟨_, _, hcs0, rfl, ⟨_, _, rfl, rfl, ⟨_, _, rfl, rfl, ⟨_, _, rfl, rfl, ⟨_, _, rfl, rfl, ⟨_, _, rfl, rfl, ⟨_, _, rfl, rfl, ⟨_, _, rfl, rfl, ⟨_, _, rfl, rfl, ⟨_, _, rfl, rfl, ⟨_, _, rfl, ⟨a0_10, c0_10, rfl, h0_10, k0_10, m0_10⟩, ⟨_, _, rfl, rfl, ⟨_, _, rfl, rfl, ⟨a0_13, c0_13, rfl, h0_13, k0_13, m0_13⟩⟩⟩⟩⟩⟩⟩⟩⟩⟩⟩⟩⟩⟩, _, _, ok0⟩ := (opens_struct Try.underlying31 (by kernel_rfl) (by kernel_rfl) (by kernel_rfl) (opensL_cons (opens_int Try.underlying3 (by kernel_rfl)) (opensL_cons (opens_int Try.underlying3 (by kernel_rfl)) (opensL_cons (opens_int Try.underlying3 (by kernel_rfl)) (opensL_cons (opens_int Try.underlying3 (by kernel_rfl)) (opensL_cons (opens_int Try.underlying3 (by kernel_rfl)) (opensL_cons (opens_int Try.underlying3 (by kernel_rfl)) (opensL_cons (opens_int Try.underlying3 (by kernel_rfl)) (opensL_cons (opens_int Try.underlying3 (by kernel_rfl)) (opensL_cons (opens_int Try.underlying3 (by kernel_rfl)) (opensL_cons (opens_bool Try.underlying4 (by kernel_rfl)) (opensL_cons (opens_list (n := 4) (B := 48) Try.underlying26 (by kernel_rfl) (by kernel_rfl) (by kernel_rfl) (opensT61 W true enc)) (opensL_one (opens_struct Try.underlying29 (by kernel_rfl) (by kernel_rfl) (by kernel_rfl) (opensL_cons (opens_int Try.underlying3 (by kernel_rfl)) (opensL_cons (opens_int Try.underlying3 (by kernel_rfl)) (opensL_one (opens_bytes Try.underlying27 Try.underlying5 (by kernel_rfl) (by kernel_rfl) (by kernel_rfl))))))))))))))))))) _ _ _ hf0 (weights_of hsz (j := 0) (t := 31) rfl rfl)
  have e0 : cs0.toList = [.int .i64 z0_0, .int .i64 z0_1, .int .i64 z0_2, .int .i64 z0_3, .int .i64 z0_4, .int .i64 z0_5, .int .i64 z0_6, .int .i64 z0_7, .int .i64 z0_8, .bool z0_9, .slice a0_10 z0_10.length c0_10, .int .i64 z0_11, .int .i64 z0_12, .slice a0_13 z0_13.length c0_13] := by simpa [Value.cells] using hcs0
  obtain rfl : cs0 = [.int .i64 z0_0, .int .i64 z0_1, .int .i64 z0_2, .int .i64 z0_3, .int .i64 z0_4, .int .i64 z0_5, .int .i64 z0_6, .int .i64 z0_7, .int .i64 z0_8, .bool z0_9, .slice a0_10 z0_10.length c0_10, .int .i64 z0_11, .int .i64 z0_12, .slice a0_13 z0_13.length c0_13].toArray := by rw [← e0, Array.toArray_toList]
  obtain ⟨cs1, rfl, _⟩ := okWide_struct Try.underlying31 (hval 1 31 v1 rfl rfl)
  have k1 := h1
  have lt1 : ∀ x ∈ p1, x.block < W.heap.size := by obtain ⟨m, hm⟩ := k1; exact DataW.trod_lt m _ _ _ hm
  obtain ⟨fuel1, hf1⟩ := h1
  obtain ⟨⟨z1_0, z1_1, z1_2, z1_3, z1_4, z1_5, z1_6, z1_7, z1_8, z1_9, z1_10, ⟨z1_11, z1_12, z1_13⟩⟩, ⟨_, _, hcs1, rfl, ⟨_, _, rfl, rfl, ⟨_, _, rfl, rfl, ⟨_, _, rfl, rfl, ⟨_, _, rfl, rfl, ⟨_, _, rfl, rfl, ⟨_, _, rfl, rfl, ⟨_, _, rfl, rfl, ⟨_, _, rfl, rfl, ⟨_, _, rfl, rfl, ⟨_, _, rfl, ⟨a1_10, c1_10, rfl, h1_10, k1_10, m1_10⟩, ⟨_, _, rfl, rfl, ⟨_, _, rfl, rfl, ⟨a1_13, c1_13, rfl, h1_13, k1_13, m1_13⟩⟩⟩⟩⟩⟩⟩⟩⟩⟩⟩⟩⟩⟩, _, _, ok1⟩ := (opens_struct Try.underlying31 (by kernel_rfl) (by kernel_rfl) (by kernel_rfl) (opensL_cons (opens_int Try.underlying3 (by kernel_rfl)) (opensL_cons (opens_int Try.underlying3 (by kernel_rfl)) (opensL_cons (opens_int Try.underlying3 (by kernel_rfl)) (opensL_cons (opens_int Try.underlying3 (by kernel_rfl)) (opensL_cons (opens_int Try.underlying3 (by kernel_rfl)) (opensL_cons (opens_int Try.underlying3 (by kernel_rfl)) (opensL_cons (opens_int Try.underlying3 (by kernel_rfl)) (opensL_cons (opens_int Try.underlying3 (by kernel_rfl)) (opensL_cons (opens_int Try.underlying3 (by kernel_rfl)) (opensL_cons (opens_bool Try.underlying4 (by kernel_rfl)) (opensL_cons (opens_list (n := 4) (B := 48) Try.underlying26 (by kernel_rfl) (by kernel_rfl) (by kernel_rfl) (opensT61 W true enc)) (opensL_one (opens_struct Try.underlying29 (by kernel_rfl) (by kernel_rfl) (by kernel_rfl) (opensL_cons (opens_int Try.underlying3 (by kernel_rfl)) (opensL_cons (opens_int Try.underlying3 (by kernel_rfl)) (opensL_one (opens_bytes Try.underlying27 Try.underlying5 (by kernel_rfl) (by kernel_rfl) (by kernel_rfl))))))))))))))))))) _ _ _ hf1 (weights_of hsz (j := 1) (t := 31) rfl rfl)
  have e1 : cs1.toList = [.int .i64 z1_0, .int .i64 z1_1, .int .i64 z1_2, .int .i64 z1_3, .int .i64 z1_4, .int .i64 z1_5, .int .i64 z1_6, .int .i64 z1_7, .int .i64 z1_8, .bool z1_9, .slice a1_10 z1_10.length c1_10, .int .i64 z1_11, .int .i64 z1_12, .slice a1_13 z1_13.length c1_13] := by simpa [Value.cells] using hcs1
  obtain rfl : cs1 = [.int .i64 z1_0, .int .i64 z1_1, .int .i64 z1_2, .int .i64 z1_3, .int .i64 z1_4, .int .i64 z1_5, .int .i64 z1_6, .int .i64 z1_7, .int .i64 z1_8, .bool z1_9, .slice a1_10 z1_10.length c1_10, .int .i64 z1_11, .int .i64 z1_12, .slice a1_13 z1_13.length c1_13].toArray := by rw [← e1, Array.toArray_toList]
  obtain ⟨a2, rfl, rfl, rfl, w2⟩ := open_int Try.underlying3 (hval 2 3 v2 rfl rfl) h2
  obtain ⟨a3, rfl, rfl, rfl, w3⟩ := open_int Try.underlying5 (hval 3 5 v3 rfl rfl) h3
  clear hA0 hval0 hsz0 hsz
  obtain ⟨k, hk⟩ := pure_CodecOne z0_0 z0_1 z0_2 z0_3 z0_4 z0_5 z0_6 z0_7 z0_8 z0_9 z0_10 z0_11 z0_12 z0_13 ok0 z1_0 z1_1 z1_2 z1_3 z1_4 z1_5 z1_6 z1_7 z1_8 z1_9 z1_10 z1_11 z1_12 z1_13 ok1 a2 w2 a3 w3
  refine (row_of_fn (synodlaw3_CodecOne.calls W (heapF W) k z0_0 z0_1 z0_2 z0_3 z0_4 z0_5 z0_6 z0_7 z0_8 z0_9 _ _ z0_10 z0_11 z0_12 _ _ z0_13 z1_0 z1_1 z1_2 z1_3 z1_4 z1_5 z1_6 z1_7 z1_8 z1_9 _ _ z1_10 z1_11 z1_12 _ _ z1_13 a2 a3 h0_10 k0_10 m0_10 h0_13 k0_13 m0_13 h1_10 k1_10 m1_10 h1_13 k1_13 m1_13) hk (fun _ => rfl)).mono fun e W' ⟨he, bel⟩ => ?_
  subst he
  exact ⟨_, rfl, _, _, _, [], _, [], hW', trodAll_mk1 (shut_bool Try.underlying4 _), (trodAll_cons_mk (Below.trod laidOut (by kernel_rfl) (of_decide_eq_true (by kernel_rfl)) k0 bel lt0) (trodAll_cons_mk (Below.trod laidOut (by kernel_rfl) (of_decide_eq_true (by kernel_rfl)) k1 bel lt1) (trodAll_cons_mk (shut_int Try.underlying3 w2) (trodAll_cons_mk (shut_int Try.underlying5 w3) trodAll_mk0)))), rfl, bel.frame _, fun h => by cases h⟩
theorem over : Rows.codecOneRow.holds Try.pinned (OpenSpec.ofChange Rows.codecOneSpec) :=
  OpenClaim.holds_of_wide 11 Try.f11 rfl rfl rfl rfl rfl rfl rfl ⟨rfl, rfl, rfl, rfl, rfl⟩ rfl rfl rfl rfl rfl (by kernel_rfl) Try.func11 (by kernel_rfl)
    (of_decide_eq_true (by kernel_rfl)) (by unfold Func.isWrapper; first | (rw [if_pos (by decide +kernel)]; kernel_rfl) | (rw [if_neg (by decide +kernel)]; exact ⟨rfl, rfl⟩))
    (fun os started H enc _ => lifted os started H enc)
end Go.Proofs.Ytdoghfenhoigmaa.codecOne
namespace Go.Proofs.Ytdoghfenhoigmaa
/-- The row, under a short name, for the claim. -/
theorem codecOne_holds : Rows.CodecOneSaid := codecOne.over
end Go.Proofs.Ytdoghfenhoigmaa
