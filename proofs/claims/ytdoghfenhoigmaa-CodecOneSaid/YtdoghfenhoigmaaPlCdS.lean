/- The codec's plain laws: a state's check, text and reading. Conditions: as each says. -/
import Derived.Test.YtdoghfenhoigmaaPlCd3
namespace Go.Proofs.Ytdoghfenhoigmaa
set_option linter.unusedVariables false
set_option linter.unusedSimpArgs false
open Go.RowKit
def chkS (t v c : Int) : Int := if ¬ (rg t 0 ∧ rg c 0) ∨ v < 0 ∨ 7 < v then 1 else if v ≠ 0 ∧ t = 0 then 4 else 0
theorem cS (t v c : Int) : codec_States_Check.f t v c = some (chkS t v c) := by
  unfold codec_States_Check.f chkS
  simp only [cwithin, Option.bind_some]
  by_cases h1 : rg t 0 <;> by_cases h2 : rg c 0 <;> simp [h1, h2] <;> (repeat' split) <;> simp_all
theorem rS (t v c : Int) : synodref3_CheckState.f t v c = some (chkS t v c) := by
  unfold synodref3_CheckState.f chkS
  rw [rwithin_rg, rwithin_rg, rwithin]
  simp only [Option.bind_some]
  by_cases h1 : rg t 0 <;> by_cases h2 : rg c 0 <;> by_cases h3 : v < 0 <;> by_cases h4 : 7 < v <;> simp [h1, h2, h3, h4] <;> (repeat' split) <;> first | rfl | (exfalso; omega) | simp_all
theorem chkS_ok {t v c : Int} (h : chkS t v c = 0) : rg t 0 ∧ rg c 0 ∧ 0 ≤ v ∧ v ≤ 7 := by
  unfold chkS at h
  split at h
  · omega
  · rename_i h1
    have : rg t 0 ∧ rg c 0 := Classical.byContradiction fun x => h1 (.inl x)
    exact ⟨this.1, this.2, by omega, by omega⟩
def txS (t v c : Int) : List UInt8 := bytesV t ++ (bytesV v ++ bytesV c)
theorem cPutS {k : Nat} (hk : 10 ≤ k) (t v c : Int) : codec_States_Put.f k t v c = some (putV (chkS t v c) (txS t v c)) := by
  unfold codec_States_Put.f codec_text_codec_States_Put_1.f codec_States_Put_1.f putV
  rw [cS, Option.bind_some]
  by_cases h : chkS t v c = 0
  · obtain ⟨h1, h2, h3, h4⟩ := chkS_ok h
    have b1 := bytesV_len t; have b2 := bytesV_len v; have b3 := bytesV_len c
    rw [if_pos h, if_pos h, show wire_NewWriter.f = some ([], 0) from rfl]
    simp only [Option.bind_some]
    rw [wI hk (by simp) (rg_ok h1 (by decide)), Option.bind_some, wI hk (by simp; omega) (by unfold okN; omega), Option.bind_some, wI hk (by simp; omega) (rg_ok h2 (by decide)), Option.bind_some]
    simp only [Option.bind_some]
    rw [wD (by simp; omega)]
    simp [txS, bB]
  · rw [if_neg h, if_neg h]; rfl
theorem rPutS {k : Nat} (hk : 10 ≤ k) (t v c : Int) : synodref3_PutState.f k t v c = some (putV (chkS t v c) (txS t v c)) := by
  unfold synodref3_PutState.f putV
  rw [rS, Option.bind_some]
  by_cases h : chkS t v c = 0
  · obtain ⟨h1, h2, h3, h4⟩ := chkS_ok h
    have b1 := bytesV_len t; have b2 := bytesV_len v; have b3 := bytesV_len c
    rw [if_pos h, if_pos h]
    rw [rwI hk (by simp) (rg_ok h1 (by decide)), Option.bind_some, rwI hk (by simp; omega) (by unfold okN; omega), Option.bind_some, rwI hk (by simp; omega) (rg_ok h2 (by decide)), Option.bind_some]
    rw [rwD]
    simp [txS, bB]
  · rw [if_neg h, if_neg h]
def getS (b : List UInt8) : Int × Int × Int × Int :=
  let t := rI b 0 0; let v := rI b t.2.1 t.2.2; let c := rI b v.2.1 v.2.2
  let e := ends (rEnd b c.2.1 c.2.2) (chkS t.1 v.1 c.1); if e = 0 then (t.1, v.1, c.1, 0) else (0, 0, 0, e)
section
variable {k : Nat} (hk : 12 ≤ k) {b : List UInt8} (hb : b.length ≤ 100000000)
include hk hb
theorem cGetS : codec_States_Get.f k b = some (getS b) := by
  have p0 : (0 : Nat) ≤ b.length := Nat.zero_le _
  have p1 := rI_le (e := 0) p0; have p2 := rI_le (e := (rI b 0 0).2.2) p1; have p3 := rI_le (e := (rI b (rI b 0 0).2.1 (rI b 0 0).2.2).2.2) p2
  unfold codec_States_Get.f codec_last_State_States.f
  rw [cNew hb, Option.bind_some]; simp only []
  rw [cI hk hb p0, Option.bind_some]; simp only []
  rw [cI hk hb p1, Option.bind_some]; simp only []
  rw [cI hk hb p2, Option.bind_some]; simp only []
  rw [cDone hb p3, Option.bind_some, cS]; simp only [Option.bind_some, ends_bind]
  unfold getS; simp only []
  split <;> rfl
theorem rGetS : synodref3_GetState.f k b = some (getS b) := by
  have p0 : (0 : Nat) ≤ b.length := Nat.zero_le _
  have p1 := rI_le (e := 0) p0; have p2 := rI_le (e := (rI b 0 0).2.2) p1; have p3 := rI_le (e := (rI b (rI b 0 0).2.1 (rI b 0 0).2.2).2.2) p2
  unfold synodref3_GetState.f
  rw [rI0 hk hb, Option.bind_some]; simp only []
  rw [rI' hk hb p1, Option.bind_some]; simp only []
  rw [rI' hk hb p2, Option.bind_some]; simp only []
  rw [rDone hb p3, Option.bind_some, rS]; simp only [Option.bind_some, ends_bind]
  unfold getS; simp only []
  split
  · rename_i h; rw [h]
  · rfl
end
theorem getS_tx {t v c : Int} (h : chkS t v c = 0) (r : List UInt8) : getS (txS t v c ++ r) = if r = [] then (t, v, c, 0) else (0, 0, 0, 3) := by
  obtain ⟨h1, h2, h3, h4⟩ := chkS_ok h
  generalize hb : txS t v c ++ r = b
  have e1 := rI_at (b := b) (pre := []) (r := bytesV v ++ bytesV c ++ r) (x := t) (by rw [← hb]; simp [txS]) (rg_ok h1 (by decide))
  have e2 := rI_at (b := b) (pre := [] ++ bytesV t) (r := bytesV c ++ r) (x := v) (by rw [← hb]; simp [txS]) (by unfold okN; omega)
  have e3 := rI_at (b := b) (pre := [] ++ bytesV t ++ bytesV v) (r := r) (x := c) (by rw [← hb]; simp [txS]) (rg_ok h2 (by decide))
  have e5 := rEnd_at (b := b) (pre := [] ++ bytesV t ++ bytesV v ++ bytesV c) (r := r) (by rw [← hb]; simp [txS])
  unfold getS
  rw [show (0 : Nat) = ([] : List UInt8).length from rfl, e1]; simp only []
  rw [e2]; simp only []
  rw [e3]; simp only []
  rw [e5, h, ends0]
  by_cases hr : r = [] <;> simp [hr]
end Go.Proofs.Ytdoghfenhoigmaa
