/- The plain law KvBack. Conditions: none. -/
import Derived.Test.YtdaedoklkmdhcaaGreatPlKv11
import Derived.Test.YtdaedoklkmdhcaaGreatPlKvE
import Derived.Test.YtdaedoklkmdhcaaGreatPlKvD
import Derived.Test.YtdaedoklkmdhcaaGreatRw3
namespace Go.Proofs.YtdaedoklkmdhcaaGreat
set_option linter.unusedVariables false
set_option linter.unusedSimpArgs false
open Go.RowKit
def valI (s : SS) : Prop := ∀ e ∈ s, okVal e.2.2.2.1 e.2.2.2.2 = true
theorem opC_val (p : PP) (c : Cmd) : okVal (opC p c).1 (opC p c).2.1 = true := by
  unfold opC opV okVal
  split <;> (repeat' split) <;> simp
theorem stC_val {st : PP × SS} (h : valI st.2) (c : Cmd) : valI (stC st c).2 := by
  rcases seen_or_runs st c with hs | hs
  · rw [stC_seen hs]; exact h
  · rw [stC_run hs]
    intro e he
    rcases mem_mput _ _ _ _ he with he | he
    · subst he; exact opC_val _ _
    · exact h e he
theorem stL_val : ∀ (l : List Cmd) (st : PP × SS), valI st.2 → valI (stL st l).2
  | [], st, h => h
  | c :: l, st, h => stL_val l (stC st c) (stC_val h c)
theorem repL_len : ∀ (l : List Cmd) (st : PP × SS), (repL st l).length = l.length
  | [], st => rfl
  | c :: l, st => by simp only [repL, List.length_cons, repL_len l]
theorem same_loop' (L : List (Int × List UInt8)) (hL : L.length ≤ 1000) : ∀ (d i k : Nat), i + d = L.length → d + 1 ≤ k → synodlaw11_same.l0 L L k (i : Int) = some (.inl ())
  | d, i, 0, _, hk => by omega
  | 0, i, k + 1, hi, _ => by
    simp only [synodlaw11_same.l0]
    rw [if_neg (by omega)]
  | d + 1, i, k + 1, hi, hk => by
    have hb : 0 ≤ (i : Int) ∧ (i : Int) < (L.length : Int) := by omega
    simp only [synodlaw11_same.l0]
    simp only [if_pos hb.2, if_pos hb, decide_true, Bool.and_self, Bool.not_true, Bool.false_eq_true, if_false]
    rw [inc64 i 2000 (by omega) (by decide)]
    exact same_loop' L hL d (i + 1) k (by omega) (by omega)
theorem same_eq (L : List (Int × List UInt8)) (hL : L.length ≤ 1000) {k : Nat} (hk : 2000 ≤ k) : synodlaw11_same.f k L L = some true := by
  unfold synodlaw11_same.f
  have e := same_loop' L hL L.length 0 k (by omega) (by omega)
  rw [show ((0 : Nat) : Int) = 0 from rfl] at e
  rw [if_pos rfl, e]; rfl
theorem pure_KvBack {Q R : Cmd → Prop} (l : List Cmd) (h : l.length * 72 ≤ reachBytes ∧ ∀ e ∈ l, Q e) (m : List Cmd) (hm : m.length * 72 ≤ reachBytes ∧ ∀ e ∈ m, R e) (b : List UInt8) (hb : b.length ≤ reachBytes) (hu : Mu.mu l + Mu.mu m + Mu.mu b ≤ 1048576) :
    ∃ k, synodlaw11_KvBack.f k l m b = some true := by
  have hr := reach_lt
  refine ⟨10000000, ?_⟩
  obtain ⟨k, hk0⟩ : ∃ k, k = 10000000 := ⟨_, rfl⟩
  rw [← hk0]
  have hk1 : 1000000 ≤ k := by omega
  clear hk0
  unfold synodlaw11_KvBack.f
  obtain ⟨b1, e1, hb1⟩ := few_eq (h := l) (by omega) (k := k) (by omega)
  obtain ⟨b2, e2, hb2⟩ := few_eq (h := m) (by omega) (k := k) (by omega)
  rw [first_eq, Option.bind_some, e1, Option.bind_some]
  have e : (if b1 = true then ((synodlaw11_few.f k m).bind fun s9v => (some s9v)) else (some false)) = some (b1 && b2) := by cases b1 <;> simp [e2]
  rw [e, Option.bind_some]
  split
  · rfl
  · rename_i hc
    have hl : (l.length ≤ 400 ∧ m.length ≤ 400) ∧ b.length ≤ 40000 := by
      simp only [Bool.or_eq_true, decide_eq_true_eq, not_or] at hc
      have hbb : (b1 && b2) = true := by simpa using hc.1.2
      rw [Bool.and_eq_true] at hbb
      exact ⟨⟨hb1 hbb.1, hb2 hbb.2⟩, by omega⟩
    unfold kv_New.f
    rw [Option.bind_some]
    have ed := does_eq l (by omega) (k := k) (by omega) ([], [])
    have hI := stL_inv l ([], []) inv0
    have hV := stL_val l ([], []) (fun e he => by simp at he)
    obtain ⟨st, hst⟩ : ∃ st, st = stL ([], []) l := ⟨_, rfl⟩
    rw [← hst] at ed hI hV
    simp only
    rw [ed, Option.bind_some]
    simp only
    have hlen := snapV_len hI
    have hR := resV_snap hI hV
    have hz : (resV (snapV st.1 st.2)).1 = 0 := by rw [hR]
    have hback := resV_back hz
    obtain ⟨-, -, hI2⟩ := resV_inv hz
    rw [hR] at hback hI2
    simp only at hback hI2
    have hn : ∀ x, synodref_Num.f x = some x := fun _ => rfl
    rw [Snapshot_eq hI (by omega), Option.bind_some, Restore_eq (by omega) (by omega), Option.bind_some, hR]
    simp only
    rw [if_pos (by simp), hn, Option.bind_some, if_pos rfl, Snapshot_eq hI2 (by omega), Option.bind_some, hback, SameBytes_eq (by omega) (by omega), Option.bind_some]
    have hq : Eqv st (canP st.1, canM st.2) := ⟨fun z => (canP_get z).symm, fun z => (canM_get z).symm⟩
    obtain ⟨r1, r2⟩ := stL_ext m st (canP st.1, canM st.2) hI hI2 hq
    have d1 := does_eq m (by omega) (k := k) (by omega) st
    have d2 := does_eq m (by omega) (k := k) (by omega) (canP st.1, canM st.2)
    simp only at d2
    rw [d1, Option.bind_some, d2, Option.bind_some]
    simp only
    rw [← r1, same_eq _ (by rw [repL_len]; omega) (by omega), Option.bind_some]
    have hJ := stL_inv m st hI
    have hJ2 := stL_inv m (canP st.1, canM st.2) hI2
    have hl1 := snapV_len hJ
    have hl2 := snapV_len hJ2
    rw [Snapshot_eq hJ2 (by omega), Option.bind_some, Snapshot_eq hJ (by omega), Option.bind_some, SameBytes_eq (by omega) (by omega), Option.bind_some, ← snapV_ext hJ hJ2 r2.1 r2.2]
    simp only [decide_true, Bool.and_self, Bool.true_and]
    rw [Restore_eq (by omega) (by omega), Option.bind_some]
    simp only
    by_cases he : (resV b).1 = 0
    · obtain ⟨-, -, hK⟩ := resV_inv he
      rw [if_pos (decide_eq_true he), hn, Option.bind_some, if_pos he]
      simp only [if_true]
      rw [Snapshot_eq hK (by omega), Option.bind_some, resV_back he, SameBytes_eq (by omega) (by omega)]
      simp
    · rw [if_neg (by simp [he]), hn, Option.bind_some, if_neg he]
end Go.Proofs.YtdaedoklkmdhcaaGreat
