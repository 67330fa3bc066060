/- The plain law KvFull. Conditions: none. -/
import Derived.Test.YtdaedoklkmdhcaaPlKv5
import Derived.Test.YtdaedoklkmdhcaaRw3
namespace Go.Proofs.Ytdaedoklkmdhcaa
set_option linter.unusedVariables false
set_option linter.unusedSimpArgs false
open Go.RowKit
theorem runeS_len (n : Int) : (runeS n).length ≤ 4 := by
  unfold runeS Utf8.encode
  simp only
  generalize (if Utf8.valid n = true then n.toNat else Utf8.runeError) = c
  by_cases h1 : c < 128
  · rw [if_pos h1]; simp
  · rw [if_neg h1]
    by_cases h2 : c < 2048
    · rw [if_pos h2]; simp
    · rw [if_neg h2]
      by_cases h3 : c < 65536
      · rw [if_pos h3]; simp
      · rw [if_neg h3]; simp
def capN (m x : Int) : Int := IntKind.i64.wrap (m - (Int.tmod (IntKind.i64.wrap ((Int.tmod x 3) + 3)) 3))
theorem capN_le (m x : Int) (h0 : 0 ≤ m) (h1 : m ≤ 200) : capN m x ≤ 300 := by
  unfold capN
  have a := Int.tmod_lt_of_pos x (show (0 : Int) < 3 by decide)
  have b := Int.lt_tmod_of_pos x (show (0 : Int) < 3 by decide)
  rw [w64 (n := Int.tmod x 3 + 3) (by omega) (by omega)]
  have c := Int.tmod_lt_of_pos (Int.tmod x 3 + 3) (show (0 : Int) < 3 by decide)
  have d := Int.lt_tmod_of_pos (Int.tmod x 3 + 3) (show (0 : Int) < 3 by decide)
  rw [w64 (by omega) (by omega)]
  omega
theorem full_l0 (x0 x1 : Int) : ∀ (d i k : Nat) (p : PP) (s : SS), capN 128 x0 - i ≤ d → i ≤ 300 → d + 4000 ≤ k → Inv p s →
    ∃ p' s', synodlaw11_KvFull.l0 x0 x1 k (i : Int) (canP p) (canS s) p s = some (.inl (canP p', canS s', p', s')) ∧ Inv p' s'
  | d, i, 0, p, s, _, _, hk, _ => by omega
  | 0, i, k + 1, p, s, hi, hi2, _, h => by
    simp only [synodlaw11_KvFull.l0]
    rw [show IntKind.i64.wrap (128 - (Int.tmod (IntKind.i64.wrap ((Int.tmod x0 3) + 3)) 3)) = capN 128 x0 from rfl, if_neg (by omega)]
    exact ⟨p, s, rfl, h⟩
  | d + 1, i, k + 1, p, s, hi, hi2, hk, h => by
    simp only [synodlaw11_KvFull.l0]
    rw [show IntKind.i64.wrap (128 - (Int.tmod (IntKind.i64.wrap ((Int.tmod x0 3) + 3)) 3)) = capN 128 x0 from rfl]
    by_cases hc : (i : Int) < capN 128 x0
    · have hcap := capN_le 128 x0 (by decide) (by decide)
      have r1 := runeS_len (IntKind.i32.wrap (IntKind.i64.wrap (65 + (IntKind.i64.wrap (Int.tdiv (i : Int) 16)))))
      have r2 := runeS_len (IntKind.i32.wrap (IntKind.i64.wrap (97 + (Int.tmod (i : Int) 16))))
      rw [if_pos hc, if_pos (by omega), Do_eq, Option.bind_some, refDo_eq h _ _ _ _ _ _ (by omega), Option.bind_some]
      rw [if_neg (by simp), inc64 i 2000 (by omega) (by decide)]
      exact full_l0 x0 x1 d (i + 1) k _ _ (by omega) (by omega) (by omega) (Do_inv h _ _ _ _ _ _)
    · rw [if_neg hc]; exact ⟨p, s, rfl, h⟩
theorem full_l1 (l : List Ty33) (hl : l.length ≤ 1000) : ∀ (d i k : Nat) (p : PP) (s : SS), i + d = l.length → d + 4000 ≤ k → Inv p s →
    ∃ p' s', synodlaw11_KvFull.l1 l k (i : Int) (canP p) (canS s) p s = some (.inl (canP p', canS s', p', s')) ∧ Inv p' s'
  | d, i, 0, p, s, _, hk, _ => by omega
  | 0, i, k + 1, p, s, hi, _, h => by
    simp only [synodlaw11_KvFull.l1]
    rw [if_neg (by omega)]
    exact ⟨p, s, rfl, h⟩
  | d + 1, i, k + 1, p, s, hi, hk, h => by
    simp only [synodlaw11_KvFull.l1]
    have hb : 0 ≤ (i : Int) ∧ (i : Int) < (l.length : Int) := by omega
    obtain ⟨c, hc⟩ : ∃ c, l.getD i dz33 = c := ⟨_, rfl⟩
    simp only [if_pos hb.2, if_pos hb, Int.toNat_natCast, hc]
    rw [Do_eq, Option.bind_some, refDo_eq h _ _ _ _ _ _ (by omega), Option.bind_some]
    rw [show ∀ x, synodref_Num.f x = some x from fun _ => rfl]
    simp only [decide_true, Bool.and_self, Bool.not_true, Bool.false_eq_true, if_false, Option.bind_some]
    rw [inc64 i 2000 (by omega) (by decide)]
    exact full_l1 l hl d (i + 1) k _ _ (by omega) (by omega) (Do_inv h _ _ _ _ _ _)
theorem pure_KvFull {Q : Ty33 → Prop} (x0 : Int) (hx0 : (Lit.int .i64 x0).wf = true) (x1 : Int) (hx1 : (Lit.int .i64 x1).wf = true) (l : List Ty33) (h : l.length * 72 ≤ reachBytes ∧ ∀ e ∈ l, Q e) (hu : Mu.mu l ≤ 1048576) :
    ∃ k, synodlaw11_KvFull.f k x0 x1 l = some true := by
  have hr := reach_lt
  refine ⟨10000000, ?_⟩
  obtain ⟨k, hk0⟩ : ∃ k, k = 10000000 := ⟨_, rfl⟩
  rw [← hk0]
  have hk1 : 1000000 ≤ k := by omega
  clear hk0
  unfold synodlaw11_KvFull.f
  obtain ⟨b1, e1, hb1⟩ := few_eq (h := l) (by omega) (k := k) (by omega)
  rw [first_eq, Option.bind_some, e1, Option.bind_some]
  split
  · rfl
  · rename_i hc
    have hl : l.length ≤ 400 := hb1 (by simpa using hc)
    unfold kv_New.f
    rw [Option.bind_some]
    have hcap := capN_le 128 x0 (by decide) (by decide)
    obtain ⟨p, s, eL, hI⟩ := full_l0 x0 x1 300 0 k [] [] (by omega) (by omega) (by omega) inv0
    have ec : canP ([] : PP) = [] := by
      have := canP_len (p := ([] : PP)); exact List.length_eq_zero_iff.1 this
    have es : canS ([] : SS) = [] := List.length_eq_zero_iff.1 (canS_len ([] : SS))
    rw [show ((0 : Nat) : Int) = 0 from rfl, ec, es] at eL
    simp only
    rw [eL]
    simp only [orR]
    obtain ⟨p', s', eM, hJ⟩ := full_l1 l (by omega) l.length 0 k p s (by omega) (by omega) hI
    rw [show ((0 : Nat) : Int) = 0 from rfl] at eM
    rw [eM]
    simp only [orR]
    rw [Same_eq hJ (by omega)]
    rfl
end Go.Proofs.Ytdaedoklkmdhcaa
