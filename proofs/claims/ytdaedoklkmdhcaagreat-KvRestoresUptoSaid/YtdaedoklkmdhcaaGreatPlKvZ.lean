/- The plain law KvRestores. Conditions: none. -/
import Derived.Test.YtdaedoklkmdhcaaGreatPlKv10
import Derived.Test.YtdaedoklkmdhcaaGreatRw3
namespace Go.Proofs.YtdaedoklkmdhcaaGreat
set_option linter.unusedVariables false
set_option linter.unusedSimpArgs false
open Go.RowKit
theorem over_loop (L : Nat → List UInt8 → Int → Option Unit) (h0 : ∀ k l i, L (k + 1) l i = (if i < (l.length : Int) then (if 0 ≤ i ∧ i < (l.length : Int) then (L k (l.set i.toNat 54) (IntKind.i64.wrap (i + 1))) else none) else (some ()))) : ∀ (d i k : Nat) (l : List UInt8), i + d = l.length → l.length ≤ 1000000 → d + 1 ≤ k → L k l (i : Int) = some ()
  | d, i, 0, l, _, _, hk => by omega
  | 0, i, k + 1, l, hi, _, _ => by
    rw [h0, if_neg (by omega)]
  | d + 1, i, k + 1, l, hi, hl, hk => by
    rw [h0, if_pos (by omega), if_pos (by omega), inc64 i 2000000 (by omega) (by decide)]
    exact over_loop L h0 d (i + 1) k _ (by rw [List.length_set]; omega) (by rw [List.length_set]; omega) (by omega)
theorem rest_l1 (l : List Cmd) (hl : l.length ≤ 1000) : ∀ (d i k : Nat) (p : PP) (s : SS), i + d = l.length → d + 4000 ≤ k → Inv p s →
    ∃ p' s', synodlaw11_KvRestores.l1 l k (i : Int) (canP p) (canS s) p s = some (.inl (canP p', canS s', p', s')) ∧ Inv p' s'
  | d, i, 0, p, s, _, hk, _ => by omega
  | 0, i, k + 1, p, s, hi, _, h => by
    simp only [synodlaw11_KvRestores.l1]
    rw [if_neg (by omega)]
    exact ⟨p, s, rfl, h⟩
  | d + 1, i, k + 1, p, s, hi, hk, h => by
    simp only [synodlaw11_KvRestores.l1]
    have hb : 0 ≤ (i : Int) ∧ (i : Int) < (l.length : Int) := by omega
    obtain ⟨c, hc⟩ : ∃ c, l.getD i dCm = c := ⟨_, rfl⟩
    simp only [if_pos hb.2, if_pos hb, Int.toNat_natCast, hc]
    rw [Do_eq, Option.bind_some, refDo_eq h _ _ _ _ _ _ (by omega), Option.bind_some]
    simp only [decide_true, Bool.and_self, Bool.not_true, Bool.false_eq_true, if_false]
    rw [inc64 i 2000 (by omega) (by decide)]
    exact rest_l1 l hl d (i + 1) k _ _ (by omega) (by omega) (Do_inv h _ _ _ _ _ _)
theorem pure_KvRestores {Q : Cmd → Prop} (b : List UInt8) (hb : b.length ≤ reachBytes) (l : List Cmd) (h : l.length * 72 ≤ reachBytes ∧ ∀ e ∈ l, Q e) (hu : Mu.mu b + Mu.mu l ≤ 1048576) :
    ∃ k, synodlaw11_KvRestores.f k b l = some true := by
  have hr := reach_lt
  refine ⟨10000000, ?_⟩
  obtain ⟨k, hk0⟩ : ∃ k, k = 10000000 := ⟨_, rfl⟩
  rw [← hk0]
  have hk1 : 1000000 ≤ k := by omega
  clear hk0
  unfold synodlaw11_KvRestores.f
  obtain ⟨b1, e1, hb1⟩ := few_eq (h := l) (by omega) (k := k) (by omega)
  rw [first_eq, Option.bind_some, e1, Option.bind_some]
  split
  · rfl
  · rename_i hc
    have hl : l.length ≤ 400 ∧ b.length ≤ 40000 := by
      simp only [Bool.or_eq_true, decide_eq_true_eq, not_or] at hc
      exact ⟨hb1 (by simpa using hc.1.2), by omega⟩
    rw [Lent_eq (by omega), Option.bind_some]
    simp only
    rw [Restore_eq (by omega) (by omega), Option.bind_some]
    simp only
    rw [refRestore_eq (by omega) (by omega)]
    have o0 := over_loop synodlaw11_KvRestores.l0 (fun _ _ _ => rfl) b.length 0 k b (by omega) (by omega) (by omega)
    rw [show ((0 : Nat) : Int) = 0 from rfl] at o0
    have hn : ∀ x, synodref_Num.f x = some x := fun _ => rfl
    by_cases he : (resV b).1 = 0
    · obtain ⟨s1, s2, hI⟩ := resV_inv he
      have ep : (resV b).2.1 = canP (resV b).2.1 := (canP_self s1).symm
      have es : (resV b).2.2.map (·.2) = canS (resV b).2.2 := by rw [canS_M, canM_self s2]
      rw [es, if_pos (decide_eq_true he), Option.bind_some]
      simp only
      rw [if_pos (decide_eq_true he), Kept_eq (by omega) (by omega), Option.bind_some, o0, Option.bind_some, hn]
      simp only [Bool.not_true, Bool.false_eq_true, if_false, Option.bind_some, decide_true, Bool.or_false]
      have ecp : kv_Store_Copy.f (resV b).2.1 (resV b).2.2 = some ((resV b).2.1, (resV b).2.2) := by
        unfold kv_Store_Copy.f maps_Clone_map_string_string_string_string.f maps_Clone_Session.f; rfl
      have hpl := hI.pl
      have hsl := hI.sl
      have hcl := canS_len (resV b).2.2
      have ecr : synodref11_Store_Copy.f (resV b).2.1 (canS (resV b).2.2) = some (canP (resV b).2.1, canS (resV b).2.2) := by
        unfold synodref11_Store_Copy.f
        rw [if_pos (by simp; omega), if_pos (by simp; omega), ← ep]; rfl
      rw [ecp, Option.bind_some, ecr, Option.bind_some]
      have hS := Same_eq hI (k := k) (by omega)
      rw [← ep] at hS
      rw [hS, Option.bind_some]
      simp only [Bool.not_true, Bool.false_eq_true, if_false]
      obtain ⟨p', s', eL, hJ⟩ := rest_l1 l (by omega) l.length 0 k (resV b).2.1 (resV b).2.2 (by omega) (by omega) hI
      rw [show ((0 : Nat) : Int) = 0 from rfl] at eL
      rw [eL]
      simp only [orR]
      rw [Same_eq hJ (by omega), Option.bind_some, if_pos rfl]
      first | rfl | (rw [hS]; rfl) | (rw [ep] at hS; rw [hS]; rfl)
    · have o4 := over_loop synodlaw11_KvRestores.l4 (fun _ _ _ => rfl) b.length 0 k b (by omega) (by omega) (by omega)
      rw [show ((0 : Nat) : Int) = 0 from rfl] at o4
      rw [if_neg (by simp [he]), Option.bind_some]
      simp only
      rw [if_neg (by simp [he]), Kept_eq (by omega) (by omega), Option.bind_some, o4, Option.bind_some, hn]
      simp
end Go.Proofs.YtdaedoklkmdhcaaGreat
