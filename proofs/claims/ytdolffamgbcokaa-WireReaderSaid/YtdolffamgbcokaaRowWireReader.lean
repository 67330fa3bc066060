/- The row of the law WireReader, out of its pure law and the printed walk. Conditions: none. -/
import Derived.Test.YtdolffamgbcokaaRw2
import Derived.Test.YtdolffamgbcokaaPlRw
namespace Go.Proofs.Ytdolffamgbcokaa.wireReader
open Go.RowKit Go.ChangeShapes Go.WideShapes Go.ChangeAt
open Go.ChangeMaps (open_string shut_string)
set_option linter.unusedVariables false
theorem own : ownKnob Try.prog.godebug = none := by kernel_rfl
theorem laidOut : laidOutB Try.prog = true := by kernel_rfl
theorem opensT48 {H : Type} (W : World) (held : Bool) (enc : TypeId × Value → H) : Opens enc Try.prog W held 48 (V48 (heapF W)) Ok48 :=
  (opens_struct Try.underlying48 (by kernel_rfl) (by kernel_rfl) (by kernel_rfl) (opensL_cons (opens_int Try.underlying3 (by kernel_rfl)) (opensL_one (opens_int Try.underlying3 (by kernel_rfl))))).mono (fun x r h => by obtain ⟨_, _, rfl, rfl, rfl⟩ := h; exact rfl) (fun x h => h)
set_option maxRecDepth 100000 in
theorem lifted (os : Os) (started : os.Started) (H : Type) (enc : TypeId × Value → H) :
    ReturnsInHanded {} Try.checked os 7 .any (Rows.wireReaderSpec.pre6 enc Try.prog Try.f7 Rows.wireReaderRow.domain false) (Rows.wireReaderSpec.post enc Try.prog Try.f7 false true false false) := by
  refine returnsInHanded_of_change_sized (C := Try.checked) own started (by kernel_rfl) Try.func7
    (ChangeSpec.witness6 (enc := enc) (C := Try.checked) false ⟨#[], #[.slice none 0 0, .slice none 0 0], []⟩ 8 (by kernel_rfl) (by kernel_rfl) (by kernel_rfl) (by kernel_rfl)) ?_
  intro W base args ds gs before hval0 hW hcnd hsz0 _
  have hsz : (DataW.weightsEach Try.prog (Try.f7.params.toList ++ Rows.wireReaderSpec.plain.varTypes Try.prog) (ds ++ gs)).all (· ≤ reachBytes) = true := hsz0
  have hval : ∀ (j : Nat) t v, Try.f7.params[j]? = some t → args[j]? = some v → Value.okWide Try.prog W .any base t v := hval0
  have hW' := hW
  obtain ⟨p, q, hA0, hV, rfl, hfz, hnd⟩ := hW
  have hA : DataW.TrodAll enc Try.prog W 0 (fun _ => true) true Try.f7.params.toList args.toList ds p := hA0
  rw [Try.params7] at hA hval hsz
  obtain ⟨v0, vs0, d0, ds0, p0, q0, hargs, rfl, rfl, h0, r0⟩ := trodAll_cons hA
  obtain ⟨v1, vs1, d1, ds1, p1, q1, rfl, rfl, rfl, h1, r1⟩ := trodAll_cons r0
  obtain ⟨rfl, rfl, rfl⟩ := trodAll_nil r1
  obtain rfl : args = #[v0, v1] := by cases args; simp_all
  obtain ⟨rfl, rfl⟩ := trodVars_none hV
  obtain ⟨a0, len0, cap0, rfl⟩ := okWide_slice Try.underlying23 (hval 0 23 v0 rfl rfl)
  have k0 := h0
  have lt0 : ∀ x ∈ p0, x.block < W.heap.size := by obtain ⟨m, hm⟩ := k0; exact DataW.trod_lt m _ _ _ hm
  obtain ⟨fuel0, hf0⟩ := h0
  obtain ⟨b0, c0, z0, hcs0, rd0, le0, mx0, sz0⟩ := open_bytes Try.underlying23 Try.underlying5 (by kernel_rfl) (by kernel_rfl) hf0 (weights_of hsz (j := 0) (t := 23) rfl rfl)
  have e0 : Value.slice a0 len0 cap0 = .slice b0 z0.length c0 := by simpa [Value.cells] using hcs0
  injection e0 with ea0 eb0 ec0
  subst ea0 eb0 ec0
  obtain ⟨a1, len1, cap1, rfl⟩ := okWide_slice Try.underlying40 (hval 1 40 v1 rfl rfl)
  have k1 := h1
  have lt1 : ∀ x ∈ p1, x.block < W.heap.size := by obtain ⟨m, hm⟩ := k1; exact DataW.trod_lt m _ _ _ hm
  obtain ⟨fuel1, hf1⟩ := h1
  obtain ⟨z1, ⟨b1, c1, hcs1, rd1, le1, mx1⟩, _, _, ok1⟩ := (opens_list (n := 2) (B := 16) Try.underlying40 (by kernel_rfl) (by kernel_rfl) (by kernel_rfl) (opensT48 W true enc)) _ _ _ hf1 (weights_of hsz (j := 1) (t := 40) rfl rfl)
  have e1 : Value.slice a1 len1 cap1 = .slice b1 z1.length c1 := by simpa [Value.cells] using hcs1
  injection e1 with ea1 eb1 ec1
  subst ea1 eb1 ec1
  clear hA0 hval0 hsz0 hsz
  obtain ⟨k, hk⟩ := pure_WireReader z0 sz0 z1 ok1
  refine (row_of_fn (synodlaw1_WireReader.calls W (heapF W) k _ _ z0 _ _ z1 rd0 le0 mx0 rd1 le1 mx1) hk (fun _ => rfl)).mono fun e W' ⟨he, bel⟩ => ?_
  subst he
  exact ⟨_, rfl, _, _, _, [], _, [], hW', trodAll_mk1 (shut_bool Try.underlying4 _), (trodAll_cons_mk (Below.trod laidOut (by kernel_rfl) (of_decide_eq_true (by kernel_rfl)) k0 bel lt0) (trodAll_cons_mk (Below.trod laidOut (by kernel_rfl) (of_decide_eq_true (by kernel_rfl)) k1 bel lt1) trodAll_mk0)), rfl, bel.frame _, fun h => by cases h⟩
theorem over : Rows.wireReaderRow.holds Try.pinned (OpenSpec.ofChange Rows.wireReaderSpec) :=
  OpenClaim.holds_of_wide 7 Try.f7 rfl rfl rfl rfl rfl rfl rfl ⟨rfl, rfl, rfl, rfl, rfl⟩ rfl rfl rfl rfl rfl (by kernel_rfl) Try.func7 (by kernel_rfl)
    (of_decide_eq_true (by kernel_rfl)) (by unfold Func.isWrapper; first | (rw [if_pos (by decide +kernel)]; kernel_rfl) | (rw [if_neg (by decide +kernel)]; exact ⟨rfl, rfl⟩))
    (fun os started H enc _ => lifted os started H enc)
end Go.Proofs.Ytdolffamgbcokaa.wireReader
namespace Go.Proofs.Ytdolffamgbcokaa
/-- The row, under a short name, for the claim. -/
theorem wireReader_holds : Rows.WireReaderSaid := wireReader.over
end Go.Proofs.Ytdolffamgbcokaa
