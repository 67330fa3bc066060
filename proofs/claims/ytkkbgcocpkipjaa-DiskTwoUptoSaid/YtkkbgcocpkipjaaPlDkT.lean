/- The plain law DiskTwo. Conditions: none. -/
import Derived.Test.YtkkbgcocpkipjaaPlDkF
namespace Go.Proofs.Ytkkbgcocpkipjaa
set_option linter.unusedVariables false
set_option linter.unusedSimpArgs false
open Go.RowKit
theorem two_loop (x y : List OpD) {M : Nat} (hx : smallL M x) (hy : smallL M y) (hx2 : x.length < 2 ^ 60) (hy2 : y.length < 2 ^ 60) : ∀ (d i k : Nat) (s t : DS), (x.length ≤ i + d ∧ y.length ≤ i + d) → i + d < 2 ^ 61 → d + M + 1 ≤ k → InvN 256 s.1 → InvN 256 t.1 →
    synodlaw4_DiskTwo.l0 x y k (i : Int) t.1 t.2.1 t.2.2.1 t.2.2.2 s.1 s.2.1 s.2.2.1 s.2.2.2 = some (((y.drop i).foldl tM t).1, ((y.drop i).foldl tM t).2.1, ((y.drop i).foldl tM t).2.2.1, ((y.drop i).foldl tM t).2.2.2, (x.drop i).foldl tM s)
  | d, i, 0, s, t, _, _, hk, _, _ => by omega
  | 0, i, k + 1, s, t, h, _, _, _, _ => by
    simp only [synodlaw4_DiskTwo.l0]
    rw [if_neg (by simp; omega), List.drop_of_length_le (by omega), List.drop_of_length_le (by omega)]; rfl
  | d + 1, i, k + 1, s, t, h, hi, hk, hs, ht => by
    simp only [synodlaw4_DiskTwo.l0]
    by_cases hc : i < x.length ∨ i < y.length
    · rw [if_pos (by simp; omega)]
      have e1 : ((if (i : Int) < (x.length : Int) then (if 0 ≤ (i : Int) ∧ (i : Int) < (x.length : Int) then ((synodlaw4_told.f k s.1 s.2.1 s.2.2.1 s.2.2.2 ((x.getD (i : Int).toNat dz52).1) ((x.getD (i : Int).toNat dz52).2.1) ((x.getD (i : Int).toNat dz52).2.2.1) ((x.getD (i : Int).toNat dz52).2.2.2.1) ((x.getD (i : Int).toNat dz52).2.2.2.2)).bind fun s54v => (some (s54v.2.1, s54v.2.2.1, s54v.2.2.2.1, s54v.2.2.2.2))) else none) else (some (s.1, s.2.1, s.2.2.1, s.2.2.2))) : Option DS) = some (if i < x.length then tM s (x.getD i dz52) else s) := by
        by_cases hxi : i < x.length
        · have hm := hx _ (getD_mem (d := dz52) hxi)
          rw [if_pos (by omega), if_pos (by omega), Int.toNat_natCast, told_eq hs hm.1 ⟨by omega, by omega⟩, if_pos hxi]; rfl
        · rw [if_neg (by omega), if_neg hxi]
      rw [e1, Option.bind_some]
      have hs' : InvN 256 (if i < x.length then tM s (x.getD i dz52) else s).1 := by split; exact inv_told hs _; exact hs
      have ex : (x.drop i).foldl tM s = (x.drop (i + 1)).foldl tM (if i < x.length then tM s (x.getD i dz52) else s) := by
        by_cases hxi : i < x.length
        · rw [if_pos hxi, drop_at x dz52 hxi, List.foldl_cons]
        · rw [if_neg hxi, List.drop_of_length_le (by omega), List.drop_of_length_le (by omega)]
      rw [ex, wi1 (by omega)]
      by_cases hyi : i < y.length
      · have hm := hy _ (getD_mem (d := dz52) hyi)
        rw [if_pos (by omega), if_pos (by omega), Int.toNat_natCast, told_eq ht hm.1 ⟨by omega, by omega⟩, Option.bind_some]
        rw [drop_at y dz52 hyi, List.foldl_cons]
        exact two_loop x y hx hy hx2 hy2 d (i + 1) k _ _ (by omega) (by omega) (by omega) hs' (inv_told ht _)
      · rw [if_neg (by omega)]
        have := two_loop x y hx hy hx2 hy2 d (i + 1) k _ t (by omega) (by omega) (by omega) hs' ht
        rw [List.drop_of_length_le (i := i + 1) (l := y) (by omega)] at this
        rw [List.drop_of_length_le (i := i) (l := y) (by omega)]
        exact this
    · rw [if_neg (by simp; omega), List.drop_of_length_le (by omega), List.drop_of_length_le (by omega)]; rfl
theorem pure_DiskTwo {P Q : OpD → Prop} (l : List OpD) (h : l.length * 72 ≤ reachBytes ∧ ∀ e ∈ l, P e) (m : List OpD) (hm : m.length * 72 ≤ reachBytes ∧ ∀ e ∈ m, Q e) (hu : Mu.mu l + Mu.mu m ≤ 1048576) :
    ∃ k, synodlaw4_DiskTwo.f k l m = some true := by
  obtain ⟨k, hk0⟩ : ∃ k, k = 40000000 + 60 := ⟨_, rfl⟩
  have hf : synodlaw4_first.f k = some true := by rw [hk0]; exact first_eq 40000000
  refine ⟨k, ?_⟩
  have hk : 40000000 ≤ k := by omega
  clear hk0
  obtain ⟨h1, h2⟩ := ops_small (l := l) (by omega)
  obtain ⟨m1, m2⟩ := ops_small (l := m) (by omega)
  obtain ⟨b1, hb1⟩ := few_eq (x := l) (by omega) (k := k) (by omega)
  obtain ⟨b2, hb2⟩ := few_eq (x := m) (by omega) (k := k) (by omega)
  unfold synodlaw4_DiskTwo.f
  rw [hf, hb1, hb2]
  simp only [Option.bind_some]
  have e0 : ((if b1 = true then some b2 else some false) : Option Bool) = some (b1 && b2) := by cases b1 <;> rfl
  rw [e0, Option.bind_some]
  cases hb : (b1 && b2) with
  | false => rfl
  | true =>
    simp only [Bool.not_true, Bool.or_self, Bool.false_eq_true, if_false]
    rw [show disk_New.f = some d0 from rfl]
    simp only [Option.bind_some]
    have ht := two_loop l m h1 m1 (by omega) (by omega) (l.length + m.length) 0 k d0 d0 (by omega) (by omega) (by omega) (inv0 256) (inv0 256)
    rw [show ((0 : Nat) : Int) = 0 from rfl, List.drop_zero, List.drop_zero] at ht
    rw [ht, made_eq l h1 (by omega) (by omega), made_eq m m1 (by omega) (by omega)]
    simp only [Option.bind_some]
    have ia := inv_fold l (s := d0) (inv0 256)
    have ib := inv_fold m (s := d0) (inv0 256)
    have ic := inv_crash ia (l.foldl tM d0).2.1 3
    rw [Files_eq ia (by decide) _ _ _ (by omega), Files_eq ib (by decide) _ _ _ (by omega), Crash_eq ia]
    simp only [Option.bind_some]
    rw [SameFiles_M ia (by decide) (by omega), SameFiles_M ib (by decide) (by omega), Files_eq ic (by decide) _ _ _ (by omega)]
    simp only [Option.bind_some, decide_true, if_true, Down_eq, beq_self_eq_true, Bool.and_self]
    rw [SameFiles_M ic (by decide) (by omega)]
    simp
end Go.Proofs.Ytkkbgcocpkipjaa
