/- The codec's plain laws: a command's check, text and reading. Conditions: as each says. -/
import Derived.Test.YtdoghfenhoigmaaPlCd3
namespace Go.Proofs.Ytdoghfenhoigmaa
set_option linter.unusedVariables false
set_option linter.unusedSimpArgs false
open Go.RowKit
def chkC (o c s : Int) (k v w : List UInt8) : Int := if o ≠ 2 ∧ o ≠ 3 ∧ o ≠ 4 then 6 else if ¬ (rg c 1 ∧ rg s 1) then 1 else if 64 < (k.length : Int) ∨ 1024 < (v.length : Int) ∨ 1024 < (w.length : Int) then 3 else if k = [] ∨ (o = 3 ∧ v ≠ []) ∨ (o ≠ 4 ∧ w ≠ []) then 4 else 0
theorem cC (o c s : Int) (k v w : List UInt8) : codec_Commands_Check.f o c s k v w = some (chkC o c s k v w) := by
  unfold codec_Commands_Check.f chkC
  simp only [cwithin, Option.bind_some]
  by_cases h1 : rg c 1 <;> by_cases h2 : rg s 1 <;> by_cases h3 : k = [] <;> by_cases h4 : v = [] <;> by_cases h5 : w = [] <;> simp [h1, h2, h3, h4, h5] <;> (repeat' split) <;> simp_all <;> omega
theorem rC (o c s : Int) (k v w : List UInt8) : synodref3_CheckCommand.f o c s k v w = some (chkC o c s k v w) := by
  rw [← cC]
  unfold synodref3_CheckCommand.f codec_Commands_Check.f
  rw [rwithin_rg, rwithin_rg, rwithin, cwithin, cwithin]
  simp only [Option.bind_some]
  have e : (!decide (2 ≤ o ∧ o ≤ 4)) = (((!decide (o = (2 : Int))) && (!decide (o = (3 : Int)))) && (!decide (o = (4 : Int)))) := by
    rw [Bool.eq_iff_iff]; simp; omega
  rw [e]
theorem chkC_ok {o c s : Int} {k v w : List UInt8} (h : chkC o c s k v w = 0) : (o = 2 ∨ o = 3 ∨ o = 4) ∧ rg c 1 ∧ rg s 1 ∧ (k.length : Int) ≤ 64 ∧ (v.length : Int) ≤ 1024 ∧ (w.length : Int) ≤ 1024 := by
  unfold chkC at h
  split at h
  · omega
  · split at h
    · omega
    · split at h
      · omega
      · rename_i h1 h2 h3
        have h2 := Classical.not_not.1 h2
        exact ⟨by omega, h2.1, h2.2, by omega, by omega, by omega⟩
def txC (o c s : Int) (k v w : List UInt8) : List UInt8 := bytesV o ++ (bytesV c ++ (bytesV s ++ (bB k ++ (bB v ++ bB w))))
theorem cPutC {k : Nat} (hk : 10 ≤ k) (o c s : Int) (ky v w : List UInt8) : codec_Commands_Put.f k o c s ky v w = some (putV (chkC o c s ky v w) (txC o c s ky v w)) := by
  unfold codec_Commands_Put.f codec_text_codec_Commands_Put_1.f
  first
    | unfold codec_Commands_Put_1_s.f
    | unfold codec_Commands_Put_1.f
  unfold putV
  rw [cC, Option.bind_some]
  by_cases h : chkC o c s ky v w = 0
  · obtain ⟨h1, h2, h3, h4, h5, h6⟩ := chkC_ok h
    have b1 := bytesV_len o; have b2 := bytesV_len c; have b3 := bytesV_len s; have b4 := bytesV_len (ky.length : Int); have b5 := bytesV_len (v.length : Int); have b6 := bytesV_len (w.length : Int)
    rw [if_pos h, if_pos h, show wire_NewWriter.f = some ([], 0) from rfl]
    simp only [Option.bind_some]
    rw [wI hk (by simp) (by unfold okN; omega), Option.bind_some, wI hk (by simp; omega) (rg_ok h2 (by decide)), Option.bind_some, wI hk (by simp; omega) (rg_ok h3 (by decide)), Option.bind_some, wT hk (by simp; omega) h4 (by omega), Option.bind_some, wT hk (by simp; omega) h5 (by omega), Option.bind_some, wT hk (by simp; omega) h6 (by omega), Option.bind_some]
    simp only [Option.bind_some]
    rw [wD (by simp; omega)]
    simp [txC, bB]
  · rw [if_neg h, if_neg h]; rfl
theorem rPutC {k : Nat} (hk : 10 ≤ k) (o c s : Int) (ky v w : List UInt8) : synodref3_PutCommand.f k o c s ky v w = some (putV (chkC o c s ky v w) (txC o c s ky v w)) := by
  unfold synodref3_PutCommand.f putV
  rw [rC, Option.bind_some]
  by_cases h : chkC o c s ky v w = 0
  · obtain ⟨h1, h2, h3, h4, h5, h6⟩ := chkC_ok h
    have b1 := bytesV_len o; have b2 := bytesV_len c; have b3 := bytesV_len s; have b4 := bytesV_len (ky.length : Int); have b5 := bytesV_len (v.length : Int); have b6 := bytesV_len (w.length : Int)
    rw [if_pos h, if_pos h]
    rw [rwI hk (by simp) (by unfold okN; omega), Option.bind_some, rwI hk (by simp; omega) (rg_ok h2 (by decide)), Option.bind_some, rwI hk (by simp; omega) (rg_ok h3 (by decide)), Option.bind_some, rwT hk (by simp; omega) h4 (by omega), Option.bind_some, rwT hk (by simp; omega) h5 (by omega), Option.bind_some, rwT hk (by simp; omega) h6 (by omega), Option.bind_some]
    rw [rwD]
    simp [txC, bB]
  · rw [if_neg h, if_neg h]
def getC (b : List UInt8) : Int × Int × Int × List UInt8 × List UInt8 × List UInt8 × Int :=
  let o := rI b 0 0; let c := rI b o.2.1 o.2.2; let s := rI b c.2.1 c.2.2; let k := rBytes b s.2.1 s.2.2 64; let v := rBytes b k.2.1 k.2.2 1024; let w := rBytes b v.2.1 v.2.2 1024
  let e := ends (rEnd b w.2.1 w.2.2) (chkC o.1 c.1 s.1 k.1 v.1 w.1); if e = 0 then (o.1, c.1, s.1, k.1, v.1, w.1, 0) else (0, 0, 0, [], [], [], e)
section
variable {k : Nat} (hk : 12 ≤ k) {b : List UInt8} (hb : b.length ≤ 100000000)
include hk hb
theorem cGetC : codec_Commands_Get.f k b = some (getC b) := by
  have p0 : (0 : Nat) ≤ b.length := Nat.zero_le _
  have p1 := rI_le (e := 0) p0; have p2 := rI_le (e := (rI b 0 0).2.2) p1; have p3 := rI_le (e := (rI b (rI b 0 0).2.1 (rI b 0 0).2.2).2.2) p2
  unfold codec_Commands_Get.f codec_last_Command_Commands.f
  rw [cNew hb, Option.bind_some]; simp only []
  rw [cI hk hb p0, Option.bind_some]; simp only []
  rw [cI hk hb p1, Option.bind_some]; simp only []
  rw [cI hk hb p2, Option.bind_some]; simp only []
  rw [cT hk hb p3, Option.bind_some]; simp only []
  rw [cT hk hb (rBytes_le p3).1, Option.bind_some]; simp only []
  rw [cT hk hb (rBytes_le (rBytes_le p3).1).1, Option.bind_some]; simp only []
  rw [cDone hb (rBytes_le (rBytes_le (rBytes_le p3).1).1).1, Option.bind_some, cC]; simp only [Option.bind_some, ends_bind]
  unfold getC; simp only []
  split <;> rfl
theorem rGetC : synodref3_GetCommand.f k b = some (getC b) := by
  have p0 : (0 : Nat) ≤ b.length := Nat.zero_le _
  have p1 := rI_le (e := 0) p0; have p2 := rI_le (e := (rI b 0 0).2.2) p1; have p3 := rI_le (e := (rI b (rI b 0 0).2.1 (rI b 0 0).2.2).2.2) p2
  unfold synodref3_GetCommand.f
  rw [rI0 hk hb, Option.bind_some]; simp only []
  rw [rI' hk hb p1, Option.bind_some]; simp only []
  rw [rI' hk hb p2, Option.bind_some]; simp only []
  rw [rT' hk hb p3, Option.bind_some]; simp only []
  rw [rT' hk hb (rBytes_le p3).1, Option.bind_some]; simp only []
  rw [rT' hk hb (rBytes_le (rBytes_le p3).1).1, Option.bind_some]; simp only []
  rw [rDone hb (rBytes_le (rBytes_le (rBytes_le p3).1).1).1, Option.bind_some, rC]; simp only [Option.bind_some, ends_bind]
  unfold getC; simp only []
  split
  · rename_i h; rw [h]
  · rfl
end
theorem getC_tx {o c s : Int} {k v w : List UInt8} (h : chkC o c s k v w = 0) (r : List UInt8) : getC (txC o c s k v w ++ r) = if r = [] then (o, c, s, k, v, w, 0) else (0, 0, 0, [], [], [], 3) := by
  obtain ⟨h1, h2, h3, h4, h5, h6⟩ := chkC_ok h
  generalize hb : txC o c s k v w ++ r = b
  have e1 := rI_at (b := b) (pre := []) (r := bytesV c ++ (bytesV s ++ (bB k ++ (bB v ++ bB w))) ++ r) (x := o) (by rw [← hb]; simp [txC]) (by unfold okN; omega)
  have e2 := rI_at (b := b) (pre := [] ++ bytesV o) (r := bytesV s ++ (bB k ++ (bB v ++ bB w)) ++ r) (x := c) (by rw [← hb]; simp [txC]) (rg_ok h2 (by decide))
  have e3 := rI_at (b := b) (pre := [] ++ bytesV o ++ bytesV c) (r := bB k ++ (bB v ++ bB w) ++ r) (x := s) (by rw [← hb]; simp [txC]) (rg_ok h3 (by decide))
  have e4 := rB_at (b := b) (pre := [] ++ bytesV o ++ bytesV c ++ bytesV s) (r := bB v ++ bB w ++ r) (d := k) (most := 64) (by rw [← hb]; simp [txC]) h4 (by omega)
  have e6 := rB_at (b := b) (pre := [] ++ bytesV o ++ bytesV c ++ bytesV s ++ bB k) (r := bB w ++ r) (d := v) (most := 1024) (by rw [← hb]; simp [txC]) h5 (by omega)
  have e7 := rB_at (b := b) (pre := [] ++ bytesV o ++ bytesV c ++ bytesV s ++ bB k ++ bB v) (r := r) (d := w) (most := 1024) (by rw [← hb]; simp [txC]) h6 (by omega)
  have e5 := rEnd_at (b := b) (pre := [] ++ bytesV o ++ bytesV c ++ bytesV s ++ bB k ++ bB v ++ bB w) (r := r) (by rw [← hb]; simp [txC])
  unfold getC
  rw [show (0 : Nat) = ([] : List UInt8).length from rfl, e1]; simp only []
  rw [e2]; simp only []
  rw [e3]; simp only []
  rw [e4]; simp only []
  rw [e6]; simp only []
  rw [e7]; simp only []
  rw [e5, h, ends0]
  by_cases hr : r = [] <;> simp [hr]
theorem txC_len {o c s : Int} {k v w : List UInt8} (h : chkC o c s k v w = 0) : (txC o c s k v w).length ≤ 2200 := by
  obtain ⟨_, _, _, h4, h5, h6⟩ := chkC_ok h
  unfold txC; have := bytesV_len o; have := bytesV_len c; have := bytesV_len s; have := bB_len k; have := bB_len v; have := bB_len w; simp only [List.length_append]; omega
end Go.Proofs.Ytdoghfenhoigmaa
