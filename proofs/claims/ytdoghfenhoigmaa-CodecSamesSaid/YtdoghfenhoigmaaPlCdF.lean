/- The codec's plain laws: the texts that the document fixes. Conditions: none. -/
import Derived.Test.YtdoghfenhoigmaaPlMsP
import Derived.Test.YtdoghfenhoigmaaPlCdS
namespace Go.Proofs.Ytdoghfenhoigmaa
set_option linter.unusedVariables false
set_option linter.unusedSimpArgs false
open Go.RowKit
theorem bytesV_nat (n : Nat) (h : n ≤ 4611686018427387904) : bytesV (n : Int) = sv n := by unfold bytesV; rw [if_pos ⟨by omega, by omega⟩]; rfl
theorem bV1 {n : Nat} (h : n < 128) : bytesV (n : Int) = [UInt8.ofNat n] := by rw [bytesV_nat n (by omega), sv_lt h]
theorem bV300 : bytesV 300 = [172, 2] := by
  rw [show (300 : Int) = ((300 : Nat) : Int) from rfl, bytesV_nat 300 (by omega), sv_ge (by omega), sv_lt (by omega)]; rfl
theorem txE1 : txE 3 300 1 [97, 98] = [3, 172, 2, 1, 2, 97, 98] := by
  unfold txE bB
  rw [show (([97, 98] : List UInt8).length : Int) = ((2 : Nat) : Int) from rfl, show (3 : Int) = ((3 : Nat) : Int) from rfl, show (1 : Int) = ((1 : Nat) : Int) from rfl, bV300, bV1 (by omega), bV1 (by omega), bV1 (by omega)]; rfl
theorem txS1 : txS 5 2 9 = [5, 2, 9] := by
  unfold txS
  rw [show (5 : Int) = ((5 : Nat) : Int) from rfl, show (2 : Int) = ((2 : Nat) : Int) from rfl, show (9 : Int) = ((9 : Nat) : Int) from rfl, bV1 (by omega), bV1 (by omega), bV1 (by omega)]; rfl
def m1 : Msg := ⟨1, 1, 2, 4, 7, 3, 0, 0, 0, false, [], 0, 0, []⟩
theorem txM1 : txM m1 = [1, 1, 2, 4, 7, 3] := by
  unfold txM txK m1
  simp only [if_true]
  rw [show (1 : Int) = ((1 : Nat) : Int) from rfl, show (2 : Int) = ((2 : Nat) : Int) from rfl, show (4 : Int) = ((4 : Nat) : Int) from rfl, show (7 : Int) = ((7 : Nat) : Int) from rfl, show (3 : Int) = ((3 : Nat) : Int) from rfl,
    bV1 (by omega), bV1 (by omega), bV1 (by omega), bV1 (by omega), bV1 (by omega)]; rfl
theorem first_k {k : Nat} (hk : 100 ≤ k) : synodlaw3_first.f k = some true := by
  have e1 : chkE 3 300 1 [97, 98] = 0 := by decide
  have e2 : chkS 5 2 9 = 0 := by decide
  have e3 : chkS 0 1 0 = 4 := by decide
  have e4 : chkM m1 = 0 := by decide
  have e5 := cPutM hk m1
  unfold putM at e5
  unfold putV at e5
  rw [if_pos e4, txM1] at e5
  simp only [m1] at e5
  unfold synodlaw3_first.f
  rw [cPutE (by omega), Option.bind_some, cPutS (by omega), Option.bind_some, cS, Option.bind_some, e5, Option.bind_some]
  unfold putV
  rw [if_pos e1, if_pos e2, txE1, txS1, e3]
  simp only []
  rw [SameBytes_eq (by decide) (by simp; omega), SameBytes_eq (by decide) (by simp; omega), SameBytes_eq (by decide) (by simp; omega)]
  simp [NumV]
/-- What is written over. -/
theorem over_of {f : Nat → List UInt8 → Int → Option Unit} (h0 : ∀ l i, f 0 l i = none) (h1 : ∀ k l i, f (k + 1) l i = if i < (l.length : Int) then (if 0 ≤ i ∧ i < (l.length : Int) then f k (l.set i.toNat 255) (IntKind.i64.wrap (i + 1)) else none) else some ()) :
    ∀ (d i k : Nat) (l : List UInt8), i + d = l.length → l.length < 2 ^ 47 → d + 1 ≤ k → f k l (i : Int) = some ()
  | d, i, 0, l, _, _, hk => by omega
  | 0, i, k + 1, l, h, _, _ => by rw [h1, if_neg (by omega)]
  | d + 1, i, k + 1, l, h, hl, hk => by
    rw [h1, if_pos (by omega), if_pos (by omega), w64 (by omega) (by omega)]
    exact over_of h0 h1 d (i + 1) k _ (by simp; omega) (by simpa using hl) (by omega)
theorem chk_big (c : Int) (t : List UInt8) : (putV c t).2 = c := by unfold putV; split <;> simp_all
theorem txE_len {t i kd : Int} {d : List UInt8} (h : chkE t i kd d = 0) : (txE t i kd d).length ≤ 4132 := tEnT_len (e := (t, i, kd, d)) h
theorem txS_len (t v c : Int) : (txS t v c).length ≤ 27 := by unfold txS; have := bytesV_len t; have := bytesV_len v; have := bytesV_len c; simp only [List.length_append]; omega
theorem putV_len {c : Int} {t : List UInt8} {n : Nat} (h : c = 0 → t.length ≤ n) : (putV c t).1.length ≤ n := by unfold putV; split; exact h ‹_›; simp
theorem v_of {α : Type} {x : Option α} {a d : α} (h : x = some a) : x.getD d = a := by rw [h]; rfl
end Go.Proofs.Ytdoghfenhoigmaa
