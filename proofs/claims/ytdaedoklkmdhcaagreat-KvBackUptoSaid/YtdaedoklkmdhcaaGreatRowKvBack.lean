/- The row of the law KvBack, out of its pure law and the printed walk. Conditions: none. -/
import Derived.Test.YtdaedoklkmdhcaaGreatRw3
import Derived.Test.YtdaedoklkmdhcaaGreatPlKvB
namespace Go.Proofs.YtdaedoklkmdhcaaGreat.kvBack
open Go.RowKit Go.ChangeShapes Go.WideShapes Go.ChangeAt
open Go.ChangeMaps (open_string shut_string)
set_option linter.unusedVariables false
theorem own : ownKnob Tryz.prog.godebug = none := by kernel_rfl
theorem laidOut : laidOutB Tryz.prog = true := by kernel_rfl
theorem opensT49 {H : Type} (W : World) (held : Bool) (enc : TypeId × Value → H) : OpensU enc Tryz.prog W held 49 (V49 tt) Ok49 :=
  (opensU_struct Tryz.underlying49 (by kernel_rfl) (by kernel_rfl) (by kernel_rfl) (opensLU_cons (opensU_int Tryz.underlying3 (by kernel_rfl)) (opensLU_cons (opensU_int Tryz.underlying3 (by kernel_rfl)) (opensLU_cons (opensU_int Tryz.underlying3 (by kernel_rfl)) (opensLU_cons (opensU_str Tryz.underlying9 (by kernel_rfl)) (opensLU_cons (opensU_str Tryz.underlying9 (by kernel_rfl)) (opensLU_one (opensU_str Tryz.underlying9 (by kernel_rfl))))))))).mono (fun x r h => by obtain ⟨_, _, rfl, rfl, ⟨_, _, rfl, rfl, ⟨_, _, rfl, rfl, ⟨_, _, rfl, rfl, ⟨_, _, rfl, rfl, rfl⟩⟩⟩⟩⟩ := h; exact rfl) (fun x h => h)
set_option maxRecDepth 100000 in
theorem lifted (os : Os) (started : os.Started) (H : Type) (enc : TypeId × Value → H) (F : Stop.Interp) :
    ReturnsInHanded {} Tryz.checked os 3 .any ((Rows.OpenSpec.upto Rows.kvBackSpec).pre6 enc Tryz.prog Tryz.f3 Rows.kvBackUptoRow.domain false) (((Rows.OpenSpec.upto Rows.kvBackSpec).at F).post enc Tryz.prog Tryz.f3 false true false false) := by
  refine returnsInHanded_of_cond_sized (C := Tryz.checked) (s := (Rows.OpenSpec.upto Rows.kvBackSpec)) (k := Rows.uptoSmall) rfl own started (by kernel_rfl) Tryz.func3
    (OpenSpec.witness (enc := enc) (C := Tryz.checked) (s := (Rows.OpenSpec.upto Rows.kvBackSpec)) (k := Rows.uptoSmall) rfl false ⟨#[], #[.slice none 0 0, .slice none 0 0, .slice none 0 0], []⟩ 8 (by kernel_rfl) (by kernel_rfl) (by kernel_rfl) (x := ([.nil, .nil, .nil], [], [])) (by kernel_rfl) rfl (by kernel_rfl)) ?_
  intro W base args ds gs before hval0 hW hcnd hk0 hsz0 _
  have hsz : (DataW.weightsEach Tryz.prog (Tryz.f3.params.toList ++ (Rows.OpenSpec.upto Rows.kvBackSpec).bare.plain.varTypes Tryz.prog) (ds ++ gs)).all (· ≤ reachBytes) = true := hsz0
  have hval : ∀ (j : Nat) t v, Tryz.f3.params[j]? = some t → args[j]? = some v → Value.okWide Tryz.prog W .any base t v := hval0
  have hW' := hW
  obtain ⟨p, q, hA0, hV, rfl, hfz, hnd⟩ := hW
  have hA : DataW.TrodAll enc Tryz.prog W 0 (fun _ => true) true Tryz.f3.params.toList args.toList ds p := hA0
  rw [Tryz.params3] at hA hval hsz
  obtain ⟨v0, vs0, d0, ds0, p0, q0, hargs, rfl, rfl, h0, r0⟩ := trodAll_cons hA
  obtain ⟨v1, vs1, d1, ds1, p1, q1, rfl, rfl, rfl, h1, r1⟩ := trodAll_cons r0
  obtain ⟨v2, vs2, d2, ds2, p2, q2, rfl, rfl, rfl, h2, r2⟩ := trodAll_cons r1
  obtain ⟨rfl, rfl, rfl⟩ := trodAll_nil r2
  obtain rfl : args = #[v0, v1, v2] := by cases args; simp_all
  obtain ⟨rfl, rfl⟩ := trodVars_none hV
  obtain ⟨aa0, len0, cap0, rfl⟩ := okWide_slice Tryz.underlying22 (hval 0 22 v0 rfl rfl)
  have k0 := h0
  have lt0 : ∀ x ∈ p0, x.block < W.heap.size := by obtain ⟨m, hm⟩ := k0; exact DataW.trod_lt m _ _ _ hm
  obtain ⟨fuel0, hf0⟩ := h0
  obtain ⟨z0_0, ⟨a0_0, c0_0, hcs0, h0_0, k0_0, m0_0⟩, _, _, ok0, mu0⟩ := (opensU_list (n := 6) (B := 72) Tryz.underlying22 (by kernel_rfl) (by kernel_rfl) (by kernel_rfl) (opensT49 W true enc)) _ _ _ hf0 (weights_of hsz (j := 0) (t := 22) rfl rfl)
  replace mu0 : _ ≤ Rows.uptoBulk d0 := mu0
  have e0 : Value.slice aa0 len0 cap0 = .slice a0_0 z0_0.length c0_0 := by simpa [Value.cells] using hcs0
  injection e0 with ea0 eb0 ec0
  subst ea0 eb0 ec0
  obtain ⟨aa1, len1, cap1, rfl⟩ := okWide_slice Tryz.underlying22 (hval 1 22 v1 rfl rfl)
  have k1 := h1
  have lt1 : ∀ x ∈ p1, x.block < W.heap.size := by obtain ⟨m, hm⟩ := k1; exact DataW.trod_lt m _ _ _ hm
  obtain ⟨fuel1, hf1⟩ := h1
  obtain ⟨z1_0, ⟨a1_0, c1_0, hcs1, h1_0, k1_0, m1_0⟩, _, _, ok1, mu1⟩ := (opensU_list (n := 6) (B := 72) Tryz.underlying22 (by kernel_rfl) (by kernel_rfl) (by kernel_rfl) (opensT49 W true enc)) _ _ _ hf1 (weights_of hsz (j := 1) (t := 22) rfl rfl)
  replace mu1 : _ ≤ Rows.uptoBulk d1 := mu1
  have e1 : Value.slice aa1 len1 cap1 = .slice a1_0 z1_0.length c1_0 := by simpa [Value.cells] using hcs1
  injection e1 with ea1 eb1 ec1
  subst ea1 eb1 ec1
  obtain ⟨aa2, len2, cap2, rfl⟩ := okWide_slice Tryz.underlying23 (hval 2 23 v2 rfl rfl)
  have k2 := h2
  have lt2 : ∀ x ∈ p2, x.block < W.heap.size := by obtain ⟨m, hm⟩ := k2; exact DataW.trod_lt m _ _ _ hm
  obtain ⟨fuel2, hf2⟩ := h2
  obtain ⟨z2_0, ⟨a2_0, c2_0, hcs2, h2_0, k2_0, m2_0⟩, _, _, ok2, mu2⟩ := (opensU_bytes Tryz.underlying23 Tryz.underlying5 (by kernel_rfl) (by kernel_rfl) (by kernel_rfl)) _ _ _ hf2 (weights_of hsz (j := 2) (t := 23) rfl rfl)
  replace mu2 : _ ≤ Rows.uptoBulk d2 := mu2
  have e2 : Value.slice aa2 len2 cap2 = .slice a2_0 z2_0.length c2_0 := by simpa [Value.cells] using hcs2
  injection e2 with ea2 eb2 ec2
  subst ea2 eb2 ec2
  have hu0 : Rows.uptoBulkAll [_, _, _] ≤ 1048576 := of_decide_eq_true hk0
  simp only [Rows.uptoBulkAll] at hu0
  have hu : Mu.mu z0_0 + Mu.mu z1_0 + Mu.mu z2_0 ≤ 1048576 := by omega
  clear hA0 hval0 hsz0 hsz
  obtain ⟨k, hk⟩ := pure_KvBack z0_0 ok0 z1_0 ok1 z2_0 ok2 hu
  refine (row_of_fn (synodlaw11_KvBack.calls W (heapF W) k _ _ z0_0 _ _ z1_0 _ _ z2_0 h0_0 k0_0 m0_0 h1_0 k1_0 m1_0 h2_0 k2_0 m2_0) hk (fun _ => rfl)).mono fun e W' ⟨he, bel⟩ => ?_
  subst he
  exact ⟨_, rfl, _, _, _, [], _, [], hW', trodAll_mk1 (shut_bool Tryz.underlying4 _), (trodAll_cons_mk (Below.trod laidOut (by kernel_rfl) (of_decide_eq_true (by kernel_rfl)) k0 bel lt0) (trodAll_cons_mk (Below.trod laidOut (by kernel_rfl) (of_decide_eq_true (by kernel_rfl)) k1 bel lt1) (trodAll_cons_mk (Below.trod laidOut (by kernel_rfl) (of_decide_eq_true (by kernel_rfl)) k2 bel lt2) trodAll_mk0))), rfl, bel.frame _, fun h => by cases h⟩
theorem over : Rows.kvBackUptoRow.holds Tryz.pinned (Rows.OpenSpec.upto Rows.kvBackSpec) :=
  OpenClaim.holds_of_cond 3 Tryz.f3 rfl rfl rfl rfl rfl rfl rfl ⟨rfl, rfl, rfl, rfl, rfl⟩ rfl rfl rfl rfl rfl (by kernel_rfl) Tryz.func3 (by kernel_rfl)
    (of_decide_eq_true (by kernel_rfl)) (by unfold Func.isWrapper; first | (rw [if_pos (by decide +kernel)]; kernel_rfl) | (rw [if_neg (by decide +kernel)]; exact ⟨rfl, rfl⟩))
    (fun os started H enc _ F => lifted os started H enc F)
end Go.Proofs.YtdaedoklkmdhcaaGreat.kvBack
namespace Go.Proofs.YtdaedoklkmdhcaaGreat
/-- The row, under a short name, for the claim. -/
theorem kvBack_holds : Rows.KvBackUptoSaid := kvBack.over
end Go.Proofs.YtdaedoklkmdhcaaGreat
