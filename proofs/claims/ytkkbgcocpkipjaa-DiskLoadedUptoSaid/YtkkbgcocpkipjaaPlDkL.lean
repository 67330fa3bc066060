/- The plain law DiskLoaded. Conditions: none. -/
import Derived.Test.YtkkbgcocpkipjaaPlDkE
namespace Go.Proofs.Ytkkbgcocpkipjaa
set_option linter.unusedVariables false
set_option linter.unusedSimpArgs false
open Go.RowKit
theorem loaded_loop (l : List OpD) {M : Nat} (hl : smallL M l) (hn : l.length < 2 ^ 60) : ∀ (d i k : Nat) (s t : DS), i + d = l.length → d + M + 1 ≤ k → InvN 256 s.1 → InvN 256 t.1 → EqD s t →
    ∃ s' t' : DS, synodlaw4_DiskLoaded.l0 l k (i : Int) t.1 t.2.1 t.2.2.1 t.2.2.2 s.1 s.2.1 s.2.2.1 s.2.2.2 = some (.inl (t'.1, t'.2.1, t'.2.2.1, t'.2.2.2, s')) ∧ InvN 256 s'.1 ∧ InvN 256 t'.1 ∧ EqD s' t'
  | d, i, 0, s, t, _, hk, _, _, _ => by omega
  | 0, i, k + 1, s, t, h, _, hs, ht, he => by
    refine ⟨s, t, ?_, hs, ht, he⟩
    simp only [synodlaw4_DiskLoaded.l0]
    rw [if_neg (by omega)]
  | d + 1, i, k + 1, s, t, h, hk, hs, ht, he => by
    have hi : i < l.length := by omega
    have hm := hl _ (getD_mem (d := dz52) hi)
    have h1 := told_eqv he hs ht (l.getD i dz52)
    obtain ⟨s', t', e1, e2, e3, e4⟩ := loaded_loop l hl hn d (i + 1) k (toldM s (l.getD i dz52)).2 (toldM t (l.getD i dz52)).2 (by omega) (by omega) (inv_told hs _) (inv_told ht _) h1.2
    refine ⟨s', t', ?_, e2, e3, e4⟩
    simp only [synodlaw4_DiskLoaded.l0]
    rw [if_pos (by omega), if_pos (by omega), wi1 (by omega), Int.toNat_natCast, told_eq hs hm.1 ⟨by omega, by omega⟩, Option.bind_some, if_pos (by omega), told_eq ht hm.1 ⟨by omega, by omega⟩, Option.bind_some, if_pos h1.1]
    exact e1
theorem pure_DiskLoaded {P Q : OpD → Prop} (l : List OpD) (h : l.length * 72 ≤ reachBytes ∧ ∀ e ∈ l, P e) (m : List OpD) (hm : m.length * 72 ≤ reachBytes ∧ ∀ e ∈ m, Q e) (hu : Mu.mu l + Mu.mu m ≤ 1048576) :
    ∃ k, synodlaw4_DiskLoaded.f k l m = some true := by
  obtain ⟨k, hk0⟩ : ∃ k, k = 40000000 + 60 := ⟨_, rfl⟩
  have hf : synodlaw4_first.f k = some true := by rw [hk0]; exact first_eq 40000000
  refine ⟨k, ?_⟩
  have hk : 40000000 ≤ k := by omega
  clear hk0
  obtain ⟨h1, h2⟩ := ops_small (l := l) (by omega)
  obtain ⟨m1, m2⟩ := ops_small (l := m) (by omega)
  obtain ⟨b1, hb1⟩ := few_eq (x := l) (by omega) (k := k) (by omega)
  obtain ⟨b2, hb2⟩ := few_eq (x := m) (by omega) (k := k) (by omega)
  unfold synodlaw4_DiskLoaded.f
  rw [hf, hb1, hb2]
  simp only [Option.bind_some]
  have e0 : ((if b1 = true then some b2 else some false) : Option Bool) = some (b1 && b2) := by cases b1 <;> rfl
  rw [e0, Option.bind_some]
  cases hb : (b1 && b2) with
  | false => rfl
  | true =>
    simp only [Bool.not_true, Bool.or_self, Bool.false_eq_true, if_false]
    rw [made_eq l h1 (by omega) (by omega)]
    simp only [Option.bind_some]
    have ia := inv_fold l (s := d0) (inv0 256)
    have na := named_fold l (s := d0) (fun x hx => by cases hx)
    generalize l.foldl tM d0 = s at ia na
    obtain ⟨hload, ib, he⟩ := Load_eq ia na (k := k) (by omega)
    rw [Files_eq ia (by decide) _ _ _ (by omega)]
    simp only [Option.bind_some]
    rw [hload]
    obtain ⟨fc, hfc⟩ : ∃ fc, ((keysS s.1).map fun x => (x, getF s.1 x)) = fc := ⟨_, rfl⟩
    simp only [hfc] at ib he ⊢
    simp only [Option.bind_some, if_true, synodref_Num.f]
    rw [Files_eq ib (by decide) _ _ _ (by omega), he.files ib.nd ia.nd]
    simp only [decide_true, Bool.not_true, Bool.or_self, Bool.false_eq_true, if_false, Option.bind_some]
    rw [SameFiles_M ia (by decide) (by omega), Crash_eq ib, Crash_eq ia]
    simp only [Option.bind_some, decide_true]
    have ic := inv_crash ib [] 5
    have id := inv_crash ia s.2.1 0
    have hq : EqD (crashM fc [] 5, ([] : List UInt8), (0 : Int), false) (crashM s.1 s.2.1 0, [], 0, false) := by
      refine ⟨fun x => ?_, rfl⟩
      simp only
      rw [mget_crash, mget_crash, he x]
      cases hx : mget s.1 x with
      | none => rfl
      | some v =>
        have hs : (mget s.1 x).isSome = true := by rw [hx]; rfl
        have hv : getF s.1 x = v := by rw [getF, hx]; rfl
        have hsy := getF_sy ia hs
        rw [hv] at hsy
        have hne : x ≠ [] := by
          rintro rfl
          have := named_nil na
          rw [hx] at this; cases this
        simp only [Option.map_some]
        congr 1
        have e1 : crN [] 5 x v = v.2 := by unfold crN; rw [if_neg hne]
        have e2 : crN s.2.1 0 x v = v.2 := by unfold crN; split <;> omega
        unfold crF
        rw [e1, e2]
    obtain ⟨s', t', g1, g2, g3, g4⟩ := loaded_loop m m1 (by omega) m.length 0 k _ _ (by omega) (by omega) ic id hq
    simp only at g1
    rw [show synodlaw4_DiskLoaded.l0 m k 0 (crashM s.1 s.2.1 0) [] 0 false (crashM fc [] 5) [] 0 false = _ from g1]
    simp only [orR]
    rw [Files_eq g2 (by decide) _ _ _ (by omega), Files_eq g3 (by decide) _ _ _ (by omega), g4.fs.files g2.nd g3.nd]
    simp only [Option.bind_some]
    rw [SameFiles_M g3 (by decide) (by omega)]
    simp only [Option.bind_some, decide_true, Bool.and_self, if_true, Down_eq]
    rw [Size_eq g2, Size_eq g3, g4.fs.szF g2.nd g3.nd, g4.rest]
    simp
end Go.Proofs.Ytkkbgcocpkipjaa
