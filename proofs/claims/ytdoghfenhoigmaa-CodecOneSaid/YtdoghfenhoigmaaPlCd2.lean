/- The codec's plain laws: the texts that are put, of entries, states, snapshots, commands, replies. Conditions: as each says. -/
import Derived.Test.YtdoghfenhoigmaaPlCd
namespace Go.Proofs.Ytdoghfenhoigmaa
set_option linter.unusedVariables false
set_option linter.unusedSimpArgs false
open Go.RowKit
theorem wNum0 {x : Int} (h : okN x) (b : List UInt8) : wNum b 0 x = (b ++ bytesV x, 0) := by unfold wNum; rw [if_pos rfl, (errV_zero x).2 h]
theorem wBytes0 {d : List UInt8} {m : Int} (h : (d.length : Int) ≤ m) (b : List UInt8) : wBytes b 0 d m = (b ++ bytesV (d.length : Int) ++ d, 0) := by
  unfold wBytes; rw [if_pos rfl, if_neg (by omega)]
theorem wDone0 (b : List UInt8) : wDone b 0 = (b, 0) := by unfold wDone; rw [if_pos rfl]
theorem rDone_c0 (b : List UInt8) (e : Int) : synodref1_Writer_Done_s_c0p0.f b e = some (wDone b e) := by
  unfold synodref1_Writer_Done_s_c0p0.f wDone
  by_cases he : e = 0
  · rw [if_pos he, if_pos he]
  · rw [if_neg he, if_neg he]
/-- A text that is put, one number or bytes at a time. -/
theorem wI {k : Nat} (hk : 10 ≤ k) {b : List UInt8} (hb : b.length ≤ 100000000) {x : Int} (h : okN x) : wire_Writer_Int.f k b 0 x = some (b ++ bytesV x, 0) := by
  rw [wInt_eq hk (by omega), wNum0 h]
theorem wB {k : Nat} (hk : 10 ≤ k) {b d : List UInt8} (hb : b.length ≤ 100000000) {m : Int} (h : (d.length : Int) ≤ m) (hd : d.length ≤ 100000000) : wire_Writer_Bytes.f k b 0 d m = some (b ++ bytesV (d.length : Int) ++ d, 0) := by
  rw [wBytes_eq hk (by omega), wBytes0 h]
theorem wT {k : Nat} (hk : 10 ≤ k) {b d : List UInt8} (hb : b.length ≤ 100000000) {m : Int} (h : (d.length : Int) ≤ m) (hd : d.length ≤ 100000000) : wire_Writer_Text.f k b 0 d m = some (b ++ bytesV (d.length : Int) ++ d, 0) := by
  rw [wText_eq hk (by omega), wBytes0 h]
theorem wO {k : Nat} (hk : 10 ≤ k) {b : List UInt8} (hb : b.length ≤ 100000000) (v : Bool) : wire_Writer_Bool.f k b 0 v = some (b ++ bytesV (b01 v), 0) := by
  rw [wBool_eq hk (by omega), wNum0]
  cases v <;> (unfold okN b01; simp)
theorem wD {b : List UInt8} (hb : b.length ≤ 100000000) : wire_Writer_Done.f b 0 = some (b, 0) := by rw [wDone_eq (by omega), wDone0]
theorem rwI {k : Nat} (hk : 10 ≤ k) {b : List UInt8} (hb : b.length ≤ 100000000) {x : Int} (h : okN x) : synodref1_Writer_Int.f k b 0 x = some (b ++ bytesV x, 0) := by
  rw [refwInt_eq hk (by omega), wNum0 h]
theorem rwB {k : Nat} (hk : 10 ≤ k) {b d : List UInt8} (hb : b.length ≤ 100000000) {m : Int} (h : (d.length : Int) ≤ m) (hd : d.length ≤ 100000000) : synodref1_Writer_Bytes.f k b 0 d m = some (b ++ bytesV (d.length : Int) ++ d, 0) := by
  rw [refwBytes_eq hk (by omega), wBytes0 h]
theorem rwT {k : Nat} (hk : 10 ≤ k) {b d : List UInt8} (hb : b.length ≤ 100000000) {m : Int} (h : (d.length : Int) ≤ m) (hd : d.length ≤ 100000000) : synodref1_Writer_Text.f k b 0 d m = some (b ++ bytesV (d.length : Int) ++ d, 0) := by
  rw [refwText_eq hk (by omega), wBytes0 h]
theorem rwO {k : Nat} (hk : 10 ≤ k) {b : List UInt8} (hb : b.length ≤ 100000000) (v : Bool) : synodref1_Writer_Bool.f k b 0 v = some (b ++ bytesV (b01 v), 0) := by
  rw [refwBool_eq hk (by omega), wNum0]
  cases v <;> (unfold okN b01; simp)
theorem rwD (b : List UInt8) : synodref1_Writer_Done_s_c0p0.f b 0 = some (b, 0) := by rw [rDone_c0, wDone0]
/-! ### Texts -/
def bB (d : List UInt8) : List UInt8 := bytesV (d.length : Int) ++ d
theorem bB_len (d : List UInt8) : (bB d).length ≤ 9 + d.length := by unfold bB; have := bytesV_len (d.length : Int); rw [List.length_append]; omega
def txE (t i kd : Int) (d : List UInt8) : List UInt8 := bytesV t ++ (bytesV i ++ (bytesV kd ++ bB d))
def txP (i t : Int) (d : List UInt8) : List UInt8 := bytesV i ++ (bytesV t ++ bB d)
theorem chkE_ok {t i kd : Int} {d : List UInt8} (h : chkE t i kd d = 0) : rg t 1 ∧ rg i 1 ∧ (kd = 0 ∨ kd = 1) ∧ (d.length : Int) ≤ 4096 ∧ (kd = 0 → d = []) := by
  unfold chkE at h
  split at h
  · omega
  · split at h
    · omega
    · split at h
      · omega
      · split at h
        · omega
        · rename_i h1 h2 h3 h4
          have h1 := Classical.not_not.1 h1
          refine ⟨h1.1, h1.2, by omega, by omega, fun e => ?_⟩
          exact List.eq_nil_of_length_eq_zero (by omega)
theorem chkP_ok {i t : Int} {d : List UInt8} (h : chkP i t d = 0) : rg i 0 ∧ rg t 0 ∧ (d.length : Int) ≤ 524288 := by
  unfold chkP at h
  split at h
  · rename_i h1
    obtain ⟨⟨rfl, rfl⟩, h3⟩ := h1
    refine ⟨?_, ?_, by omega⟩ <;> (unfold rg; omega)
  · split at h
    · omega
    · split at h
      · omega
      · rename_i h1 h2 h3
        have h2 := Classical.not_not.1 h2
        unfold rg at *
        omega
def putV (c : Int) (t : List UInt8) : List UInt8 × Int := if c = 0 then (t, 0) else ([], c)
theorem cPutE {k : Nat} (hk : 10 ≤ k) (t i kd : Int) (d : List UInt8) : codec_Entries_Put.f k t i kd d = some (putV (chkE t i kd d) (txE t i kd d)) := by
  unfold codec_Entries_Put.f codec_text_codec_Entries_Put_1.f codec_Entries_Put_1.f putV
  rw [cE, Option.bind_some]
  by_cases h : chkE t i kd d = 0
  · obtain ⟨h1, h2, h3, h4, _⟩ := chkE_ok h
    have b1 := bytesV_len t; have b2 := bytesV_len i; have b3 := bytesV_len kd; have b4 := bytesV_len (d.length : Int)
    rw [if_pos h, if_pos h, show wire_NewWriter.f = some ([], 0) from rfl]
    simp only [Option.bind_some]
    rw [wI hk (by simp) (rg_ok h1 (by decide)), Option.bind_some, wI hk (by simp; omega) (rg_ok h2 (by decide)), Option.bind_some, wI hk (by simp; omega) (by unfold okN; omega), Option.bind_some, wB hk (by simp; omega) h4 (by omega), Option.bind_some]
    simp only [Option.bind_some]
    rw [wD (by simp; omega)]
    simp [txE, bB]
  · rw [if_neg h, if_neg h]; rfl
theorem rPutE {k : Nat} (hk : 10 ≤ k) (t i kd : Int) (d : List UInt8) : synodref3_PutEntry.f k t i kd d = some (putV (chkE t i kd d) (txE t i kd d)) := by
  unfold synodref3_PutEntry.f putV
  rw [rE, Option.bind_some]
  by_cases h : chkE t i kd d = 0
  · obtain ⟨h1, h2, h3, h4, _⟩ := chkE_ok h
    have b1 := bytesV_len t; have b2 := bytesV_len i; have b3 := bytesV_len kd; have b4 := bytesV_len (d.length : Int)
    rw [if_pos h, if_pos h]
    rw [rwI hk (by simp) (rg_ok h1 (by decide)), Option.bind_some, rwI hk (by simp; omega) (rg_ok h2 (by decide)), Option.bind_some, rwI hk (by simp; omega) (by unfold okN; omega), Option.bind_some, rwB hk (by simp; omega) h4 (by omega), Option.bind_some]
    rw [rwD]
    simp [txE, bB]
  · rw [if_neg h, if_neg h]
theorem cPutP {k : Nat} (hk : 10 ≤ k) (i t : Int) (d : List UInt8) : codec_Snaps_Put.f k i t d = some (putV (chkP i t d) (txP i t d)) := by
  unfold codec_Snaps_Put.f codec_text_codec_Snaps_Put_1.f codec_Snaps_Put_1.f putV
  rw [cP, Option.bind_some]
  by_cases h : chkP i t d = 0
  · obtain ⟨h1, h2, h4⟩ := chkP_ok h
    have b1 := bytesV_len i; have b2 := bytesV_len t; have b4 := bytesV_len (d.length : Int)
    rw [if_pos h, if_pos h, show wire_NewWriter.f = some ([], 0) from rfl]
    simp only [Option.bind_some]
    rw [wI hk (by simp) (rg_ok h1 (by decide)), Option.bind_some, wI hk (by simp; omega) (rg_ok h2 (by decide)), Option.bind_some, wB hk (by simp; omega) h4 (by omega), Option.bind_some]
    simp only [Option.bind_some]
    rw [wD (by simp; omega)]
    simp [txP, bB]
  · rw [if_neg h, if_neg h]; rfl
theorem rPutP {k : Nat} (hk : 10 ≤ k) (i t : Int) (d : List UInt8) : synodref3_PutSnap.f k i t d = some (putV (chkP i t d) (txP i t d)) := by
  unfold synodref3_PutSnap.f putV
  rw [rP, Option.bind_some]
  by_cases h : chkP i t d = 0
  · obtain ⟨h1, h2, h4⟩ := chkP_ok h
    have b1 := bytesV_len i; have b2 := bytesV_len t; have b4 := bytesV_len (d.length : Int)
    rw [if_pos h, if_pos h]
    rw [rwI hk (by simp) (rg_ok h1 (by decide)), Option.bind_some, rwI hk (by simp; omega) (rg_ok h2 (by decide)), Option.bind_some, rwB hk (by simp; omega) h4 (by omega), Option.bind_some]
    rw [rwD]
    simp [txP, bB]
  · rw [if_neg h, if_neg h]
end Go.Proofs.Ytdoghfenhoigmaa
