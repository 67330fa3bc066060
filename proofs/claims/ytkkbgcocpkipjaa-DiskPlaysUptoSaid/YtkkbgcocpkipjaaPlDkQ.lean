/- The plain law DiskPlays. Conditions: none. -/
import Derived.Test.YtkkbgcocpkipjaaPlDkP
namespace Go.Proofs.Ytkkbgcocpkipjaa
set_option linter.unusedVariables false
set_option linter.unusedSimpArgs false
set_option linter.unusedSectionVars false
open Go.RowKit
theorem plays_loop (l : List OpD) {M : Nat} (hl : smallL M l) (hn : l.length < 2 ^ 60) (ho : ∀ e ∈ l, okI .i64 e.2.1) (hM : ∀ e ∈ l, e.2.2.2.2.length + 1 ≤ M) : ∀ (d i k : Nat) (s : DS), i + d = l.length → d + M + 20001000 ≤ k → Inv4 s →
    synodlaw4_DiskPlays.l0 l k (i : Int) (filesM s.1) s.2.2.1 s.2.2.2 s.2.1 s.1 s.2.1 s.2.2.1 s.2.2.2 = some (.inl ())
  | d, i, 0, s, _, hk, _ => by omega
  | 0, i, k + 1, s, h, _, _ => by
    simp only [synodlaw4_DiskPlays.l0]
    rw [if_neg (by omega)]
  | d + 1, i, k + 1, s, h, hk, hs => by
    have hi : i < l.length := by omega
    have hmem := getD_mem (d := dz52) hi
    have hsm := hl _ hmem
    have hB := hM _ hmem
    have hok := ho _ hmem
    obtain ⟨e, he⟩ : ∃ e, l.getD i dz52 = e := ⟨_, rfl⟩
    rw [he] at hsm hB hok
    have hT := inv4_told hs hok
    simp only [synodlaw4_DiskPlays.l0]
    rw [if_pos (by omega), if_pos (by omega), Int.toNat_natCast, he, does_eq hs hsm.1 (by omega) ⟨by omega, by omega, by omega⟩, Option.bind_some]
    unfold bothR
    simp only [Bool.not_true, Bool.false_eq_true, if_false]
    rw [same_eq hT.inv _ _ _ (by omega)]
    simp only [Option.bind_some, Bool.not_true, Bool.false_eq_true, if_false]
    rw [wi1 (by omega)]
    exact plays_loop l hl hn ho hM d (i + 1) k (toldM s e).2 (by omega) (by omega) hT
theorem ops_data {l : List OpD} (h : Mu.mu l ≤ 1048576) : ∀ e ∈ l, e.2.2.2.2.length + 1 ≤ 1048577 := fun e he => by
  have h1 := mu_mem he
  rw [mu_op] at h1
  omega
theorem pure_DiskPlays (l : List OpD) (h : l.length * 72 ≤ reachBytes ∧ ∀ e ∈ l, Ok52 e) (hu : Mu.mu l ≤ 1048576) :
    ∃ k, synodlaw4_DiskPlays.f k l = some true := by
  obtain ⟨k, hk0⟩ : ∃ k, k = 40000000 + 60 := ⟨_, rfl⟩
  have hf : synodlaw4_first.f k = some true := by rw [hk0]; exact first_eq 40000000
  refine ⟨k, ?_⟩
  have hk : 40000000 ≤ k := by omega
  clear hk0
  obtain ⟨h1, h2⟩ := ops_small (l := l) (by omega)
  obtain ⟨b1, hb1⟩ := few_eq (x := l) (by omega) (k := k) (by omega)
  unfold synodlaw4_DiskPlays.f
  rw [hf, hb1]
  simp only [Option.bind_some]
  cases b1 with
  | false => rfl
  | true =>
    simp only [Bool.not_true, Bool.or_self, Bool.false_eq_true, if_false]
    rw [show disk_New.f = some d0 from rfl]
    simp only [Option.bind_some]
    have := plays_loop l h1 (by omega) (fun e he => (h.2 e he).2.1) (ops_data hu) l.length 0 k d0 (by omega) (by omega) inv4_0
    rw [show ((0 : Nat) : Int) = 0 from rfl, show filesM d0.1 = [] from by simp [filesM, d0, keysS]] at this
    simp only [d0] at this ⊢
    rw [this]; rfl
end Go.Proofs.Ytkkbgcocpkipjaa
