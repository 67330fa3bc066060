/- The row of the law KvFull, out of its pure law and the printed walk. Conditions: none. -/
import Derived.Test.YtdaedoklkmdhcaaRw3
import Derived.Test.YtdaedoklkmdhcaaPlKvF
namespace Go.Proofs.Ytdaedoklkmdhcaa.kvFull
open Go.RowKit Go.ChangeShapes Go.WideShapes Go.ChangeAt
open Go.ChangeMaps (open_string shut_string)
set_option linter.unusedVariables false
theorem own : ownKnob Try.prog.godebug = none := by kernel_rfl
theorem laidOut : laidOutB Try.prog = true := by kernel_rfl
theorem opensT33 {H : Type} (W : World) (held : Bool) (enc : TypeId × Value → H) : OpensU enc Try.prog W held 33 (V33 tt) Ok33 :=
  (opensU_struct Try.underlying33 (by kernel_rfl) (by kernel_rfl) (by kernel_rfl) (opensLU_cons (opensU_int Try.underlying3 (by kernel_rfl)) (opensLU_cons (opensU_int Try.underlying3 (by kernel_rfl)) (opensLU_cons (opensU_int Try.underlying3 (by kernel_rfl)) (opensLU_cons (opensU_str Try.underlying9 (by kernel_rfl)) (opensLU_cons (opensU_str Try.underlying9 (by kernel_rfl)) (opensLU_one (opensU_str Try.underlying9 (by kernel_rfl))))))))).mono (fun x r h => by obtain ⟨_, _, rfl, rfl, ⟨_, _, rfl, rfl, ⟨_, _, rfl, rfl, ⟨_, _, rfl, rfl, ⟨_, _, rfl, rfl, rfl⟩⟩⟩⟩⟩ := h; exact rfl) (fun x h => h)
set_option maxRecDepth 100000 in
theorem lifted (os : Os) (started : os.Started) (H : Type) (enc : TypeId × Value → H) (F : Stop.Interp) :
    ReturnsInHanded {} Try.checked os 6 .any ((Rows.OpenSpec.upto Rows.kvFullSpec).pre6 enc Try.prog Try.f6 Rows.kvFullUptoRow.domain false) (((Rows.OpenSpec.upto Rows.kvFullSpec).at F).post enc Try.prog Try.f6 false true false false) := by
  refine returnsInHanded_of_cond_sized (C := Try.checked) (s := (Rows.OpenSpec.upto Rows.kvFullSpec)) (k := Rows.uptoSmall) rfl own started (by kernel_rfl) Try.func6
    (OpenSpec.witness (enc := enc) (C := Try.checked) (s := (Rows.OpenSpec.upto Rows.kvFullSpec)) (k := Rows.uptoSmall) rfl false ⟨#[], #[.int .i64 0, .int .i64 0, .slice none 0 0], []⟩ 8 (by kernel_rfl) (by kernel_rfl) (by kernel_rfl) (x := ([.lit (.int .i64 0), .lit (.int .i64 0), .nil], [], [])) (by kernel_rfl) rfl (by kernel_rfl)) ?_
  intro W base args ds gs before hval0 hW hcnd hk0 hsz0 _
  have hsz : (DataW.weightsEach Try.prog (Try.f6.params.toList ++ (Rows.OpenSpec.upto Rows.kvFullSpec).bare.plain.varTypes Try.prog) (ds ++ gs)).all (· ≤ reachBytes) = true := hsz0
  have hval : ∀ (j : Nat) t v, Try.f6.params[j]? = some t → args[j]? = some v → Value.okWide Try.prog W .any base t v := hval0
  have hW' := hW
  obtain ⟨p, q, hA0, hV, rfl, hfz, hnd⟩ := hW
  have hA : DataW.TrodAll enc Try.prog W 0 (fun _ => true) true Try.f6.params.toList args.toList ds p := hA0
  rw [Try.params6] at hA hval hsz
  obtain ⟨v0, vs0, d0, ds0, p0, q0, hargs, rfl, rfl, h0, r0⟩ := trodAll_cons hA
  obtain ⟨v1, vs1, d1, ds1, p1, q1, rfl, rfl, rfl, h1, r1⟩ := trodAll_cons r0
  obtain ⟨v2, vs2, d2, ds2, p2, q2, rfl, rfl, rfl, h2, r2⟩ := trodAll_cons r1
  obtain ⟨rfl, rfl, rfl⟩ := trodAll_nil r2
  obtain rfl : args = #[v0, v1, v2] := by cases args; simp_all
  obtain ⟨rfl, rfl⟩ := trodVars_none hV
  obtain ⟨a0, rfl, rfl, rfl, w0⟩ := open_int Try.underlying3 (hval 0 3 v0 rfl rfl) h0
  obtain ⟨a1, rfl, rfl, rfl, w1⟩ := open_int Try.underlying3 (hval 1 3 v1 rfl rfl) h1
  obtain ⟨aa2, len2, cap2, rfl⟩ := okWide_slice Try.underlying22 (hval 2 22 v2 rfl rfl)
  have k2 := h2
  have lt2 : ∀ x ∈ p2, x.block < W.heap.size := by obtain ⟨m, hm⟩ := k2; exact DataW.trod_lt m _ _ _ hm
  obtain ⟨fuel2, hf2⟩ := h2
  obtain ⟨z2_0, ⟨a2_0, c2_0, hcs2, h2_0, k2_0, m2_0⟩, _, _, ok2, mu2⟩ := (opensU_list (n := 6) (B := 72) Try.underlying22 (by kernel_rfl) (by kernel_rfl) (by kernel_rfl) (opensT33 W true enc)) _ _ _ hf2 (weights_of hsz (j := 2) (t := 22) rfl rfl)
  replace mu2 : _ ≤ Rows.uptoBulk d2 := mu2
  have e2 : Value.slice aa2 len2 cap2 = .slice a2_0 z2_0.length c2_0 := by simpa [Value.cells] using hcs2
  injection e2 with ea2 eb2 ec2
  subst ea2 eb2 ec2
  have hu0 : Rows.uptoBulkAll [_, _, _] ≤ 1048576 := of_decide_eq_true hk0
  simp only [Rows.uptoBulkAll] at hu0
  have hu : Mu.mu z2_0 ≤ 1048576 := by omega
  clear hA0 hval0 hsz0 hsz
  obtain ⟨k, hk⟩ := pure_KvFull a0 w0 a1 w1 z2_0 ok2 hu
  refine (row_of_fn (synodlaw11_KvFull.calls W (heapF W) k a0 a1 _ _ z2_0 h2_0 k2_0 m2_0) hk (fun _ => rfl)).mono fun e W' ⟨he, bel⟩ => ?_
  subst he
  exact ⟨_, rfl, _, _, _, [], _, [], hW', trodAll_mk1 (shut_bool Try.underlying4 _), (trodAll_cons_mk (shut_int Try.underlying3 w0) (trodAll_cons_mk (shut_int Try.underlying3 w1) (trodAll_cons_mk (Below.trod laidOut (by kernel_rfl) (of_decide_eq_true (by kernel_rfl)) k2 bel lt2) trodAll_mk0))), rfl, bel.frame _, fun h => by cases h⟩
theorem over : Rows.kvFullUptoRow.holds Try.pinned (Rows.OpenSpec.upto Rows.kvFullSpec) :=
  OpenClaim.holds_of_cond 6 Try.f6 rfl rfl rfl rfl rfl rfl rfl ⟨rfl, rfl, rfl, rfl, rfl⟩ rfl rfl rfl rfl rfl (by kernel_rfl) Try.func6 (by kernel_rfl)
    (of_decide_eq_true (by kernel_rfl)) (by unfold Func.isWrapper; first | (rw [if_pos (by decide +kernel)]; kernel_rfl) | (rw [if_neg (by decide +kernel)]; exact ⟨rfl, rfl⟩))
    (fun os started H enc _ F => lifted os started H enc F)
end Go.Proofs.Ytdaedoklkmdhcaa.kvFull
namespace Go.Proofs.Ytdaedoklkmdhcaa
/-- The row, under a short name, for the claim. -/
theorem kvFull_holds : Rows.KvFullUptoSaid := kvFull.over
end Go.Proofs.Ytdaedoklkmdhcaa
