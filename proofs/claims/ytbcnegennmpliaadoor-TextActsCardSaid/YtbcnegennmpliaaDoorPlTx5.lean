/- The document's number tells what the program's tells. Conditions: as each says. -/
import Derived.Test.YtbcnegennmpliaaDoorPlTx4
namespace Go.Proofs.YtbcnegennmpliaaDoor
set_option linter.unusedVariables false
set_option linter.unusedSimpArgs false
open Go.RowKit
theorem ff {p : Prop} (h : false = true) : p := by cases h
def tl45 (x : List UInt8) : List UInt8 := match x with
  | [] => []
  | c :: r => if c.toNat = 45 then r else c :: r
theorem tl45_cases (x : List UInt8) : tl45 x = x ∨ x = 45 :: tl45 x := by
  cases x with
  | nil => exact .inl rfl
  | cons c r =>
    unfold tl45
    simp only []
    split
    · rename_i h
      right
      rw [show c = 45 from UInt8.toNat_inj.1 h]
    · exact .inl rfl
theorem tl45_canon {x : List UInt8} {m : Int} (h : canon x m) : tl45 x = Lib.decDigits m.natAbs ∧ (m < 0 → x = 45 :: Lib.decDigits m.natAbs) ∧ (0 ≤ m → x = Lib.decDigits m.natAbs) := by
  by_cases hm : m < 0
  · have e := h.1
    rw [itoa_neg' hm] at e
    refine ⟨?_, fun _ => e, fun h => by omega⟩
    rw [e]; rfl
  · have e := h.1
    rw [itoa_pos (by omega), show m.toNat = m.natAbs by omega] at e
    refine ⟨?_, fun h => by omega, fun _ => e⟩
    rw [e]
    cases hd : Lib.decDigits m.natAbs with
    | nil => rfl
    | cons c t =>
      have := (dec_head hd).1
      unfold tl45
      simp only []
      rw [if_neg (by omega)]
theorem tl45_len (x : List UInt8) : (tl45 x).length ≤ x.length := by
  rcases tl45_cases x with h | h
  · rw [h]; exact Nat.le_refl _
  · have := congrArg List.length h; simp at this; omega
theorem numberD_f {x : List UInt8} {k : Nat} (hx : x.length ≤ 2 ^ 40) (hk : x.length + 2 < k) : ∃ n ok, synodref17_number.f k x = some (n, ok) ∧ (ok = true ↔ ∃ m, canon x m) ∧ (ok = true → canon x n) := by
  unfold synodref17_number.f
  have e1 : ((if (0 : Int) < (x.length : Int) then (if 0 ≤ (0 : Int) ∧ (0 : Int) < (x.length : Int) then (some (decide (((x.getD (0 : Int).toNat 0).toNat : Int) = (45 : Int)))) else none) else (some false)).bind fun s3v => (if s3v = true then (if 0 ≤ (1 : Int) ∧ (1 : Int) ≤ (x.length : Int) ∧ (x.length : Int) ≤ (x.length : Int) then (some (cut x (1 : Int) (x.length : Int))) else none) else (some x))) = some (tl45 x) := by
    cases x with
    | nil => rfl
    | cons c r =>
      rw [if_pos (by simp), if_pos (by simp), Option.bind_some]
      simp only [show (0 : Int).toNat = 0 from rfl, List.getD_cons_zero]
      unfold tl45
      simp only []
      by_cases h : c.toNat = 45
      · rw [if_pos (by simp; omega), if_pos (by simp; omega), if_pos h, cut_to]; rfl
      · rw [if_neg (by simp; omega), if_neg h]
  rw [e1, Option.bind_some]
  have hlen := tl45_len x
  by_cases hA : tl45 x = [] ∨ 19 < (tl45 x).length
  · rw [if_pos (by rcases hA with h | h; · simp [h]
                   · simp only [Bool.or_eq_true, decide_eq_true_eq]; right; omega), Option.bind_some, if_pos rfl]
    refine ⟨_, _, rfl, ⟨fun h => ff h, fun ⟨m, hm⟩ => ?_⟩, fun h => ff h⟩
    have := (tl45_canon hm).1
    obtain ⟨s1, s2, s3, s4⟩ := dec_spec m.natAbs
    have := dec_len 18 m.natAbs (by have := hm.2; omega)
    rcases hA with h | h
    · exact absurd ((tl45_canon hm).1.symm.trans h) s3
    · rw [(tl45_canon hm).1] at h; omega
  · obtain ⟨d, s, hd⟩ : ∃ d s, tl45 x = d :: s := by
      cases h : tl45 x with
      | nil => exact absurd (.inl h) hA
      | cons d s => exact ⟨d, s, rfl⟩
    rw [if_neg (by
      intro h
      simp only [Bool.or_eq_true, decide_eq_true_eq] at h
      rcases h with h | h
      · exact hA (.inl h)
      · exact hA (.inr (by omega))), if_pos (by rw [hd]; simp), Option.bind_some]
    have e2 : (((tl45 x).getD (0 : Int).toNat 0).toNat : Int) = (d.toNat : Int) := by rw [hd]; rfl
    rw [e2]
    by_cases hB : d.toNat = 48 ∧ x ≠ [48]
    · rw [if_pos (by simp [hB.1, hB.2])]
      refine ⟨_, _, rfl, ⟨fun h => ff h, fun ⟨m, hm⟩ => ?_⟩, fun h => ff h⟩
      obtain ⟨t1, t2, t3⟩ := tl45_canon hm
      obtain ⟨s1, s2, s3, s4⟩ := dec_spec m.natAbs
      rw [hd] at t1
      have : m.natAbs = 0 := by
        rcases Nat.eq_zero_or_pos m.natAbs with h | h
        · exact h
        · exact absurd hB.1 (s4 h d s t1.symm)
      refine absurd ?_ hB.2
      rw [t3 (by omega), this, Lib.decDigits, dif_pos (by omega)]; rfl
    · rw [if_neg (by
        intro h
        simp only [Bool.and_eq_true, decide_eq_true_eq, Bool.not_eq_true', decide_eq_false_iff_not] at h
        exact hB ⟨by omega, h.2⟩)]
      have el := number_l0 (t := tl45 x) (by omega) k 0 0 (by omega) (by omega) (by omega)
      simp only [List.drop_zero] at el
      rw [show (0 : Int) = ((0 : Nat) : Int) from rfl, el]
      cases hn : numLoop 0 (tl45 x) with
      | none =>
        refine ⟨_, _, rfl, ⟨fun h => ff h, fun ⟨m, hm⟩ => ?_⟩, fun h => ff h⟩
        obtain ⟨t1, t2, t3⟩ := tl45_canon hm
        obtain ⟨s1, s2, s3, s4⟩ := dec_spec m.natAbs
        rw [t1, numLoop_ok _ 0 s1 (by rw [s2]; have := hm.2; omega)] at hn
        cases hn
      | some n =>
        obtain ⟨g1, g2⟩ := numLoop_back _ _ _ hn
        simp only [orR]
        have hcan : n ≤ 4611686018427387904 → canon x (if tl45 x = x then (n : Int) else -(n : Int)) := fun hle => by
          have hdec : Lib.decDigits n = tl45 x := by
            rw [g2]
            refine dec_of _ _ rfl (by rw [hd]; simp) g1 fun c t e hc => ?_
            rw [hd] at e
            cases e
            have hx48 : x = [48] := Decidable.byContradiction fun h => hB ⟨hc, h⟩
            rw [hx48] at hd
            unfold tl45 at hd
            simp at hd
            exact hd.2
          by_cases he : tl45 x = x
          · rw [if_pos he]
            refine ⟨?_, by omega, by omega⟩
            rw [itoa_pos (by omega), Int.toNat_natCast, hdec, he]
          · rw [if_neg he]
            have hx45 : x = 45 :: tl45 x := (tl45_cases x).resolve_left he
            have hd48 : d.toNat ≠ 48 := fun e => hB ⟨e, fun e2 => by rw [e2] at hx45; simp at hx45⟩
            have hpos : 1 ≤ n := by
              rw [g2, hd]
              exact fold10_pos (g1 d (by rw [hd]; simp)) hd48
            refine ⟨?_, by omega, by omega⟩
            rw [itoa_neg' (by omega), show (-(n : Int)).natAbs = n by omega, hdec]
            exact hx45
        by_cases hle : 4611686018427387904 < n
        · rw [if_pos (by omega)]
          refine ⟨_, _, rfl, ⟨fun h => ff h, fun ⟨m, hm⟩ => ?_⟩, fun h => ff h⟩
          obtain ⟨t1, t2, t3⟩ := tl45_canon hm
          obtain ⟨s1, s2, s3, s4⟩ := dec_spec m.natAbs
          rw [t1, s2] at g2
          have := hm.2
          omega
        · have hc := hcan (by omega)
          rw [if_neg (by omega)]
          by_cases he : tl45 x = x
          · rw [if_pos he] at hc ⊢
            exact ⟨_, _, rfl, ⟨fun _ => ⟨_, hc⟩, fun _ => rfl⟩, fun _ => hc⟩
          · rw [if_neg he] at hc ⊢
            rw [w64 (by omega) (by omega)]
            exact ⟨_, _, rfl, ⟨fun _ => ⟨_, hc⟩, fun _ => rfl⟩, fun _ => hc⟩
theorem number_same {x : List UInt8} {k : Nat} (hx : x.length ≤ 2 ^ 40) (hk : x.length + 2 < k) : ∃ n m ok, text_number.f x = some (n, ok) ∧ synodref17_number.f k x = some (m, ok) ∧ (ok = true → n = m ∧ canon x n) ∧ (ok = true ↔ ∃ m, canon x m) := by
  obtain ⟨n, ok, h1, h2, h3⟩ := number_f hx
  obtain ⟨m, ok', k1, k2, k3⟩ := numberD_f hx hk
  have e : ok = ok' := by
    have : ok = true ↔ ok' = true := h2.trans k2.symm
    cases ok <;> cases ok' <;> simp_all
  subst e
  exact ⟨n, m, ok, h1, k1, fun h => ⟨canon_inj (h3 h) (k3 h), h3 h⟩, h2⟩
end Go.Proofs.YtbcnegennmpliaaDoor
