/- Kv: a store behind commands, and what each answered. Conditions: as each says. -/
import Derived.Test.YtdaedoklkmdhcaaGreatPlKv2
namespace Go.Proofs.YtdaedoklkmdhcaaGreat
set_option linter.unusedVariables false
set_option linter.unusedSimpArgs false
open Go.RowKit
theorem does_loop (l : List Cmd) (hl : l.length ≤ 1000) : ∀ (d i k : Nat) (a : List (Int × List UInt8)) (st : PP × SS), i + d = l.length → d + 1 ≤ k → a.length = i →
    synodlaw11_does.l0 l k a (i : Int) st.1 st.2 = some (a ++ repL st (l.drop i), stL st (l.drop i))
  | d, i, 0, a, st, _, hk, _ => by omega
  | 0, i, k + 1, a, st, hi, _, ha => by
    simp only [synodlaw11_does.l0]
    rw [if_neg (by omega), List.drop_eq_nil_of_le (by omega)]; simp [repL, stL]
  | d + 1, i, k + 1, a, st, hi, hk, ha => by
    simp only [synodlaw11_does.l0]
    rw [if_pos (by omega), if_pos (by omega), Int.toNat_natCast, stL_drop l st i (by omega)]
    have e := getD_drop_cons l i dCm (by omega)
    obtain ⟨c, hc⟩ : ∃ c, l.getD i dCm = c := ⟨_, rfl⟩
    rw [hc] at e
    simp only [hc]
    rw [DoC_eq, Option.bind_some, if_pos (by rw [ha]; simp; omega), inc64 i 2000 (by omega) (by decide)]
    have ih := does_loop l hl d (i + 1) k (a ++ [repC st c]) (stC st c) (by omega) (by omega) (by simp [ha])
    rw [e]
    simp only [repL]
    rw [List.append_assoc] at ih
    exact ih
theorem does_eq (l : List Cmd) (hl : l.length ≤ 1000) {k : Nat} (hk : 2000 ≤ k) (st : PP × SS) : synodlaw11_does.f k st.1 st.2 l = some (repL st l, (stL st l).1, (stL st l).2) := by
  unfold synodlaw11_does.f
  have e := does_loop l hl l.length 0 k [] st (by omega) (by omega) rfl
  rw [show ((0 : Nat) : Int) = 0 from rfl] at e
  rw [e]; rfl
end Go.Proofs.YtdaedoklkmdhcaaGreat
