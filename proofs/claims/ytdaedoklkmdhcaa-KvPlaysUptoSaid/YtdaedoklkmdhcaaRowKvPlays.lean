/- The row of the law KvPlays, out of its pure law and the printed walk. Conditions: none. -/
import Derived.Test.YtdaedoklkmdhcaaRw3
import Derived.Test.YtdaedoklkmdhcaaPlKvL
namespace Go.Proofs.Ytdaedoklkmdhcaa.kvPlays
open Go.RowKit Go.ChangeShapes Go.WideShapes Go.ChangeAt
open Go.ChangeMaps (open_string shut_string)
set_option linter.unusedVariables false
theorem own : ownKnob Try.prog.godebug = none := by kernel_rfl
theorem laidOut : laidOutB Try.prog = true := by kernel_rfl
theorem opensT33 {H : Type} (W : World) (held : Bool) (enc : TypeId × Value → H) : OpensU enc Try.prog W held 33 (V33 tt) Ok33 :=
  (opensU_struct Try.underlying33 (by kernel_rfl) (by kernel_rfl) (by kernel_rfl) (opensLU_cons (opensU_int Try.underlying3 (by kernel_rfl)) (opensLU_cons (opensU_int Try.underlying3 (by kernel_rfl)) (opensLU_cons (opensU_int Try.underlying3 (by kernel_rfl)) (opensLU_cons (opensU_str Try.underlying9 (by kernel_rfl)) (opensLU_cons (opensU_str Try.underlying9 (by kernel_rfl)) (opensLU_one (opensU_str Try.underlying9 (by kernel_rfl))))))))).mono (fun x r h => by obtain ⟨_, _, rfl, rfl, ⟨_, _, rfl, rfl, ⟨_, _, rfl, rfl, ⟨_, _, rfl, rfl, ⟨_, _, rfl, rfl, rfl⟩⟩⟩⟩⟩ := h; exact rfl) (fun x h => h)
set_option maxRecDepth 100000 in
theorem lifted (os : Os) (started : os.Started) (H : Type) (enc : TypeId × Value → H) (F : Stop.Interp) :
    ReturnsInHanded {} Try.checked os 5 .any ((Rows.OpenSpec.upto Rows.kvPlaysSpec).pre6 enc Try.prog Try.f5 Rows.kvPlaysUptoRow.domain false) (((Rows.OpenSpec.upto Rows.kvPlaysSpec).at F).post enc Try.prog Try.f5 false true false false) := by
  refine returnsInHanded_of_cond_sized (C := Try.checked) (s := (Rows.OpenSpec.upto Rows.kvPlaysSpec)) (k := Rows.uptoSmall) rfl own started (by kernel_rfl) Try.func5
    (OpenSpec.witness (enc := enc) (C := Try.checked) (s := (Rows.OpenSpec.upto Rows.kvPlaysSpec)) (k := Rows.uptoSmall) rfl false ⟨#[], #[.slice none 0 0, .string ⟨#[]⟩, .int .i64 0], []⟩ 8 (by kernel_rfl) (by kernel_rfl) (by kernel_rfl) (x := ([.nil, .lit (.string []), .lit (.int .i64 0)], [], [])) (by kernel_rfl) rfl (by kernel_rfl)) ?_
  intro W base args ds gs before hval0 hW hcnd hk0 hsz0 _
  have hsz : (DataW.weightsEach Try.prog (Try.f5.params.toList ++ (Rows.OpenSpec.upto Rows.kvPlaysSpec).bare.plain.varTypes Try.prog) (ds ++ gs)).all (· ≤ reachBytes) = true := hsz0
  have hval : ∀ (j : Nat) t v, Try.f5.params[j]? = some t → args[j]? = some v → Value.okWide Try.prog W .any base t v := hval0
  have hW' := hW
  obtain ⟨p, q, hA0, hV, rfl, hfz, hnd⟩ := hW
  have hA : DataW.TrodAll enc Try.prog W 0 (fun _ => true) true Try.f5.params.toList args.toList ds p := hA0
  rw [Try.params5] at hA hval hsz
  obtain ⟨v0, vs0, d0, ds0, p0, q0, hargs, rfl, rfl, h0, r0⟩ := trodAll_cons hA
  obtain ⟨v1, vs1, d1, ds1, p1, q1, rfl, rfl, rfl, h1, r1⟩ := trodAll_cons r0
  obtain ⟨v2, vs2, d2, ds2, p2, q2, rfl, rfl, rfl, h2, r2⟩ := trodAll_cons r1
  obtain ⟨rfl, rfl, rfl⟩ := trodAll_nil r2
  obtain rfl : args = #[v0, v1, v2] := by cases args; simp_all
  obtain ⟨rfl, rfl⟩ := trodVars_none hV
  obtain ⟨aa0, len0, cap0, rfl⟩ := okWide_slice Try.underlying22 (hval 0 22 v0 rfl rfl)
  have k0 := h0
  have lt0 : ∀ x ∈ p0, x.block < W.heap.size := by obtain ⟨m, hm⟩ := k0; exact DataW.trod_lt m _ _ _ hm
  obtain ⟨fuel0, hf0⟩ := h0
  obtain ⟨z0_0, ⟨a0_0, c0_0, hcs0, h0_0, k0_0, m0_0⟩, _, _, ok0, mu0⟩ := (opensU_list (n := 6) (B := 72) Try.underlying22 (by kernel_rfl) (by kernel_rfl) (by kernel_rfl) (opensT33 W true enc)) _ _ _ hf0 (weights_of hsz (j := 0) (t := 22) rfl rfl)
  replace mu0 : _ ≤ Rows.uptoBulk d0 := mu0
  have e0 : Value.slice aa0 len0 cap0 = .slice a0_0 z0_0.length c0_0 := by simpa [Value.cells] using hcs0
  injection e0 with ea0 eb0 ec0
  subst ea0 eb0 ec0
  obtain ⟨ss1, rfl⟩ := okWide_string Try.underlying9 (hval 1 9 v1 rfl rfl)
  have k1 := h1
  have lt1 : ∀ x ∈ p1, x.block < W.heap.size := by obtain ⟨m, hm⟩ := k1; exact DataW.trod_lt m _ _ _ hm
  obtain ⟨fuel1, hf1⟩ := h1
  obtain ⟨z1_0, hcs1, _, _, ok1, mu1⟩ := (opensU_str Try.underlying9 (by kernel_rfl)) _ _ _ hf1 (weights_of hsz (j := 1) (t := 9) rfl rfl)
  replace mu1 : _ ≤ Rows.uptoBulk d1 := mu1
  have e1 : Value.string ss1 = str z1_0 := by simpa [Value.cells] using hcs1
  unfold str at e1
  injection e1 with ea1
  subst ea1
  obtain ⟨a2, rfl, rfl, rfl, w2⟩ := open_int Try.underlying3 (hval 2 3 v2 rfl rfl) h2
  have hu0 : Rows.uptoBulkAll [_, _, _] ≤ 1048576 := of_decide_eq_true hk0
  simp only [Rows.uptoBulkAll] at hu0
  have hu : Mu.mu z0_0 + Mu.mu z1_0 ≤ 1048576 := by omega
  clear hA0 hval0 hsz0 hsz
  obtain ⟨k, hk⟩ := pure_KvPlays z0_0 ok0 z1_0 ok1 a2 w2 hu
  refine (row_of_fn (synodlaw11_KvPlays.calls W (heapF W) k _ _ z0_0 z1_0 a2 h0_0 k0_0 m0_0) hk (fun _ => rfl)).mono fun e W' ⟨he, bel⟩ => ?_
  subst he
  exact ⟨_, rfl, _, _, _, [], _, [], hW', trodAll_mk1 (shut_bool Try.underlying4 _), (trodAll_cons_mk (Below.trod laidOut (by kernel_rfl) (of_decide_eq_true (by kernel_rfl)) k0 bel lt0) (trodAll_cons_mk (Below.trod laidOut (by kernel_rfl) (of_decide_eq_true (by kernel_rfl)) k1 bel lt1) (trodAll_cons_mk (shut_int Try.underlying3 w2) trodAll_mk0))), rfl, bel.frame _, fun h => by cases h⟩
theorem over : Rows.kvPlaysUptoRow.holds Try.pinned (Rows.OpenSpec.upto Rows.kvPlaysSpec) :=
  OpenClaim.holds_of_cond 5 Try.f5 rfl rfl rfl rfl rfl rfl rfl ⟨rfl, rfl, rfl, rfl, rfl⟩ rfl rfl rfl rfl rfl (by kernel_rfl) Try.func5 (by kernel_rfl)
    (of_decide_eq_true (by kernel_rfl)) (by unfold Func.isWrapper; first | (rw [if_pos (by decide +kernel)]; kernel_rfl) | (rw [if_neg (by decide +kernel)]; exact ⟨rfl, rfl⟩))
    (fun os started H enc _ F => lifted os started H enc F)
end Go.Proofs.Ytdaedoklkmdhcaa.kvPlays
namespace Go.Proofs.Ytdaedoklkmdhcaa
/-- The row, under a short name, for the claim. -/
theorem kvPlays_holds : Rows.KvPlaysUptoSaid := kvPlays.over
end Go.Proofs.Ytdaedoklkmdhcaa
