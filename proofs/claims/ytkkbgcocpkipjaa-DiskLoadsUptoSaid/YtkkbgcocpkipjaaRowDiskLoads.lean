/- The row of the law DiskLoads, out of its pure law and the printed walk. Conditions: none. -/
import Derived.Test.YtkkbgcocpkipjaaRw3
import Derived.Test.YtkkbgcocpkipjaaPlDkR
namespace Go.Proofs.Ytkkbgcocpkipjaa.diskLoads
open Go.RowKit Go.ChangeShapes Go.WideShapes Go.ChangeAt
open Go.ChangeMaps (open_string shut_string)
set_option linter.unusedVariables false
theorem own : ownKnob Try.prog.godebug = none := by kernel_rfl
theorem laidOut : laidOutB Try.prog = true := by kernel_rfl
theorem opensT36 {H : Type} (W : World) (held : Bool) (enc : TypeId × Value → H) : OpensU enc Try.prog W held 36 (V36 (heapF W)) Ok36 :=
  (opensU_struct Try.underlying36 (by kernel_rfl) (by kernel_rfl) (by kernel_rfl) (opensLU_cons (opensU_str Try.underlying9 (by kernel_rfl)) (opensLU_cons (opensU_bytes Try.underlying34 Try.underlying5 (by kernel_rfl) (by kernel_rfl) (by kernel_rfl)) (opensLU_one (opensU_int Try.underlying3 (by kernel_rfl)))))).mono (fun x r h => by obtain ⟨_, _, rfl, rfl, ⟨_, _, rfl, ⟨a1, c1, rfl, h1, k1, m1⟩, rfl⟩⟩ := h; exact ⟨a1, c1, rfl, ⟨h1, k1, m1⟩⟩) (fun x h => h)
theorem opensT52 {H : Type} (W : World) (held : Bool) (enc : TypeId × Value → H) : OpensU enc Try.prog W held 52 (V52 (heapF W)) Ok52 :=
  (opensU_struct Try.underlying52 (by kernel_rfl) (by kernel_rfl) (by kernel_rfl) (opensLU_cons (opensU_int Try.underlying3 (by kernel_rfl)) (opensLU_cons (opensU_int Try.underlying3 (by kernel_rfl)) (opensLU_cons (opensU_str Try.underlying9 (by kernel_rfl)) (opensLU_cons (opensU_str Try.underlying9 (by kernel_rfl)) (opensLU_one (opensU_bytes Try.underlying34 Try.underlying5 (by kernel_rfl) (by kernel_rfl) (by kernel_rfl)))))))).mono (fun x r h => by obtain ⟨_, _, rfl, rfl, ⟨_, _, rfl, rfl, ⟨_, _, rfl, rfl, ⟨_, _, rfl, rfl, ⟨a4, c4, rfl, h4, k4, m4⟩⟩⟩⟩⟩ := h; exact ⟨a4, c4, rfl, ⟨h4, k4, m4⟩⟩) (fun x h => h)
set_option maxRecDepth 100000 in
theorem lifted (os : Os) (started : os.Started) (H : Type) (enc : TypeId × Value → H) (F : Stop.Interp) :
    ReturnsInHanded {} Try.checked os 8 .any ((Rows.OpenSpec.upto Rows.diskLoadsSpec).pre6 enc Try.prog Try.f8 Rows.diskLoadsUptoRow.domain false) (((Rows.OpenSpec.upto Rows.diskLoadsSpec).at F).post enc Try.prog Try.f8 false true false false) := by
  refine returnsInHanded_of_cond_sized (C := Try.checked) (s := (Rows.OpenSpec.upto Rows.diskLoadsSpec)) (k := Rows.uptoSmall) rfl own started (by kernel_rfl) Try.func8
    (OpenSpec.witness (enc := enc) (C := Try.checked) (s := (Rows.OpenSpec.upto Rows.diskLoadsSpec)) (k := Rows.uptoSmall) rfl false ⟨#[], #[.slice none 0 0, .slice none 0 0], []⟩ 8 (by kernel_rfl) (by kernel_rfl) (by kernel_rfl) (x := ([.nil, .nil], [], [])) (by kernel_rfl) rfl (by kernel_rfl)) ?_
  intro W base args ds gs before hval0 hW hcnd hk0 hsz0 _
  have hsz : (DataW.weightsEach Try.prog (Try.f8.params.toList ++ (Rows.OpenSpec.upto Rows.diskLoadsSpec).bare.plain.varTypes Try.prog) (ds ++ gs)).all (· ≤ reachBytes) = true := hsz0
  have hval : ∀ (j : Nat) t v, Try.f8.params[j]? = some t → args[j]? = some v → Value.okWide Try.prog W .any base t v := hval0
  have hW' := hW
  obtain ⟨p, q, hA0, hV, rfl, hfz, hnd⟩ := hW
  have hA : DataW.TrodAll enc Try.prog W 0 (fun _ => true) true Try.f8.params.toList args.toList ds p := hA0
  rw [Try.params8] at hA hval hsz
  obtain ⟨v0, vs0, d0, ds0, p0, q0, hargs, rfl, rfl, h0, r0⟩ := trodAll_cons hA
  obtain ⟨v1, vs1, d1, ds1, p1, q1, rfl, rfl, rfl, h1, r1⟩ := trodAll_cons r0
  obtain ⟨rfl, rfl, rfl⟩ := trodAll_nil r1
  obtain rfl : args = #[v0, v1] := by cases args; simp_all
  obtain ⟨rfl, rfl⟩ := trodVars_none hV
  obtain ⟨aa0, len0, cap0, rfl⟩ := okWide_slice Try.underlying27 (hval 0 27 v0 rfl rfl)
  have k0 := h0
  have lt0 : ∀ x ∈ p0, x.block < W.heap.size := by obtain ⟨m, hm⟩ := k0; exact DataW.trod_lt m _ _ _ hm
  obtain ⟨fuel0, hf0⟩ := h0
  obtain ⟨z0_0, ⟨a0_0, c0_0, hcs0, h0_0, k0_0, m0_0⟩, _, _, ok0, mu0⟩ := (opensU_list (n := 3) (B := 48) Try.underlying27 (by kernel_rfl) (by kernel_rfl) (by kernel_rfl) (opensT36 W true enc)) _ _ _ hf0 (weights_of hsz (j := 0) (t := 27) rfl rfl)
  replace mu0 : _ ≤ Rows.uptoBulk d0 := mu0
  have e0 : Value.slice aa0 len0 cap0 = .slice a0_0 z0_0.length c0_0 := by simpa [Value.cells] using hcs0
  injection e0 with ea0 eb0 ec0
  subst ea0 eb0 ec0
  obtain ⟨aa1, len1, cap1, rfl⟩ := okWide_slice Try.underlying42 (hval 1 42 v1 rfl rfl)
  have k1 := h1
  have lt1 : ∀ x ∈ p1, x.block < W.heap.size := by obtain ⟨m, hm⟩ := k1; exact DataW.trod_lt m _ _ _ hm
  obtain ⟨fuel1, hf1⟩ := h1
  obtain ⟨z1_0, ⟨a1_0, c1_0, hcs1, h1_0, k1_0, m1_0⟩, _, _, ok1, mu1⟩ := (opensU_list (n := 5) (B := 72) Try.underlying42 (by kernel_rfl) (by kernel_rfl) (by kernel_rfl) (opensT52 W true enc)) _ _ _ hf1 (weights_of hsz (j := 1) (t := 42) rfl rfl)
  replace mu1 : _ ≤ Rows.uptoBulk d1 := mu1
  have e1 : Value.slice aa1 len1 cap1 = .slice a1_0 z1_0.length c1_0 := by simpa [Value.cells] using hcs1
  injection e1 with ea1 eb1 ec1
  subst ea1 eb1 ec1
  have hu0 : Rows.uptoBulkAll [_, _] ≤ 1048576 := of_decide_eq_true hk0
  simp only [Rows.uptoBulkAll] at hu0
  have hu : Mu.mu z0_0 + Mu.mu z1_0 ≤ 1048576 := by omega
  clear hA0 hval0 hsz0 hsz
  obtain ⟨k, hk⟩ := pure_DiskLoads z0_0 ok0 z1_0 ok1 hu
  refine (row_of_fn (synodlaw4_DiskLoads.calls W (heapF W) k _ _ z0_0 _ _ z1_0 h0_0 k0_0 m0_0 h1_0 k1_0 m1_0) hk (fun _ => rfl)).mono fun e W' ⟨he, bel⟩ => ?_
  subst he
  exact ⟨_, rfl, _, _, _, [], _, [], hW', trodAll_mk1 (shut_bool Try.underlying4 _), (trodAll_cons_mk (Below.trod laidOut (by kernel_rfl) (of_decide_eq_true (by kernel_rfl)) k0 bel lt0) (trodAll_cons_mk (Below.trod laidOut (by kernel_rfl) (of_decide_eq_true (by kernel_rfl)) k1 bel lt1) trodAll_mk0)), rfl, bel.frame _, fun h => by cases h⟩
theorem over : Rows.diskLoadsUptoRow.holds Try.pinned (Rows.OpenSpec.upto Rows.diskLoadsSpec) :=
  OpenClaim.holds_of_cond 8 Try.f8 rfl rfl rfl rfl rfl rfl rfl ⟨rfl, rfl, rfl, rfl, rfl⟩ rfl rfl rfl rfl rfl (by kernel_rfl) Try.func8 (by kernel_rfl)
    (of_decide_eq_true (by kernel_rfl)) (by unfold Func.isWrapper; first | (rw [if_pos (by decide +kernel)]; kernel_rfl) | (rw [if_neg (by decide +kernel)]; exact ⟨rfl, rfl⟩))
    (fun os started H enc _ F => lifted os started H enc F)
end Go.Proofs.Ytkkbgcocpkipjaa.diskLoads
namespace Go.Proofs.Ytkkbgcocpkipjaa
/-- The row, under a short name, for the claim. -/
theorem diskLoads_holds : Rows.DiskLoadsUptoSaid := diskLoads.over
end Go.Proofs.Ytkkbgcocpkipjaa
