/- The codec's plain laws: a reply's check, text and reading. Conditions: as each says. -/
import Derived.Test.YtdoghfenhoigmaaPlCd3
namespace Go.Proofs.Ytdoghfenhoigmaa
set_option linter.unusedVariables false
set_option linter.unusedSimpArgs false
open Go.RowKit
def chkR (c : Int) (v : List UInt8) : Int := if c < 1 ∨ 10 < c then 6 else if 1024 < (v.length : Int) then 3 else 0
theorem cR (c : Int) (v : List UInt8) : codec_Replies_Check.f c v = some (chkR c v) := by
  unfold codec_Replies_Check.f chkR
  (repeat' split) <;> simp_all <;> omega
theorem rR (c : Int) (v : List UInt8) : synodref3_CheckReply.f c v = some (chkR c v) := by
  unfold synodref3_CheckReply.f chkR
  simp only [rwithin, Option.bind_some]
  (repeat' split) <;> simp_all <;> omega
theorem chkR_ok {c : Int} {v : List UInt8} (h : chkR c v = 0) : 1 ≤ c ∧ c ≤ 10 ∧ (v.length : Int) ≤ 1024 := by
  unfold chkR at h
  (repeat' split at h) <;> omega
def txR (c : Int) (v : List UInt8) : List UInt8 := bytesV c ++ bB v
theorem cPutR {k : Nat} (hk : 10 ≤ k) (c : Int) (v : List UInt8) : codec_Replies_Put.f k c v = some (putV (chkR c v) (txR c v)) := by
  unfold codec_Replies_Put.f codec_text_codec_Replies_Put_1.f codec_Replies_Put_1.f putV
  rw [cR, Option.bind_some]
  by_cases h : chkR c v = 0
  · obtain ⟨h1, h2, h4⟩ := chkR_ok h
    have b1 := bytesV_len c; have b4 := bytesV_len (v.length : Int)
    rw [if_pos h, if_pos h, show wire_NewWriter.f = some ([], 0) from rfl]
    simp only [Option.bind_some]
    rw [wI hk (by simp) (by unfold okN; omega), Option.bind_some, wT hk (by simp; omega) h4 (by omega), Option.bind_some]
    simp only [Option.bind_some]
    rw [wD (by simp; omega)]
    simp [txR, bB]
  · rw [if_neg h, if_neg h]; rfl
theorem rPutR {k : Nat} (hk : 10 ≤ k) (c : Int) (v : List UInt8) : synodref3_PutReply.f k c v = some (putV (chkR c v) (txR c v)) := by
  unfold synodref3_PutReply.f putV
  rw [rR, Option.bind_some]
  by_cases h : chkR c v = 0
  · obtain ⟨h1, h2, h4⟩ := chkR_ok h
    have b1 := bytesV_len c; have b4 := bytesV_len (v.length : Int)
    rw [if_pos h, if_pos h]
    rw [rwI hk (by simp) (by unfold okN; omega), Option.bind_some, rwT hk (by simp; omega) h4 (by omega), Option.bind_some]
    rw [rwD]
    simp [txR, bB]
  · rw [if_neg h, if_neg h]
def getR (b : List UInt8) : Int × List UInt8 × Int :=
  let c := rI b 0 0; let v := rBytes b c.2.1 c.2.2 1024
  let e := ends (rEnd b v.2.1 v.2.2) (chkR c.1 v.1); if e = 0 then (c.1, v.1, 0) else (0, [], e)
section
variable {k : Nat} (hk : 12 ≤ k) {b : List UInt8} (hb : b.length ≤ 100000000)
include hk hb
theorem cGetR : codec_Replies_Get.f k b = some (getR b) := by
  have p0 : (0 : Nat) ≤ b.length := Nat.zero_le _
  have p1 := rI_le (e := 0) p0
  unfold codec_Replies_Get.f codec_last_Reply_Replies.f
  rw [cNew hb, Option.bind_some]; simp only []
  rw [cI hk hb p0, Option.bind_some]; simp only []
  rw [cT hk hb p1, Option.bind_some]; simp only []
  rw [cDone hb (rBytes_le p1).1, Option.bind_some, cR]; simp only [Option.bind_some, ends_bind]
  unfold getR; simp only []
  split <;> rfl
theorem rGetR : synodref3_GetReply.f k b = some (getR b) := by
  have p0 : (0 : Nat) ≤ b.length := Nat.zero_le _
  have p1 := rI_le (e := 0) p0
  unfold synodref3_GetReply.f
  rw [rI0 hk hb, Option.bind_some]; simp only []
  rw [rT' hk hb p1, Option.bind_some]; simp only []
  rw [rDone hb (rBytes_le p1).1, Option.bind_some, rR]; simp only [Option.bind_some, ends_bind]
  unfold getR; simp only []
  split
  · rename_i h; rw [h]
  · rfl
end
theorem getR_tx {c : Int} {v : List UInt8} (h : chkR c v = 0) (r : List UInt8) : getR (txR c v ++ r) = if r = [] then (c, v, 0) else (0, [], 3) := by
  obtain ⟨h1, h2, h4⟩ := chkR_ok h
  generalize hb : txR c v ++ r = b
  have e1 := rI_at (b := b) (pre := []) (r := bB v ++ r) (x := c) (by rw [← hb]; simp [txR]) (by unfold okN; omega)
  have e4 := rB_at (b := b) (pre := [] ++ bytesV c) (r := r) (d := v) (most := 1024) (by rw [← hb]; simp [txR]) h4 (by omega)
  have e5 := rEnd_at (b := b) (pre := [] ++ bytesV c ++ bB v) (r := r) (by rw [← hb]; simp [txR])
  unfold getR
  rw [show (0 : Nat) = ([] : List UInt8).length from rfl, e1]; simp only []
  rw [e4]; simp only []
  rw [e5, h, ends0]
  by_cases hr : r = [] <;> simp [hr]
theorem txR_len {c : Int} {v : List UInt8} (h : chkR c v = 0) : (txR c v).length ≤ 1100 := by
  obtain ⟨_, _, h4⟩ := chkR_ok h
  unfold txR; have := bytesV_len c; have := bB_len v; simp only [List.length_append]; omega
end Go.Proofs.Ytdoghfenhoigmaa
