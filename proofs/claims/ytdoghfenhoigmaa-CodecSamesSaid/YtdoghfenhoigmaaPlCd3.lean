/- The codec's plain laws: what is read of any bytes, and of a text with anything behind it: entries, states, snapshots, commands, replies. Conditions: as each says. -/
import Derived.Test.YtdoghfenhoigmaaPlCd2
namespace Go.Proofs.Ytdoghfenhoigmaa
set_option linter.unusedVariables false
set_option linter.unusedSimpArgs false
open Go.RowKit
def rI (b : List UInt8) (p : Nat) (e : Int) : Int × Nat × Int := ((rNum b p e).1, rPos b p e, (rNum b p e).2.2)
def rEnd (b : List UInt8) (p : Nat) (e : Int) : Int := if e = 0 ∧ p < b.length then 3 else e
theorem rI_le {b : List UInt8} {p : Nat} {e : Int} (hp : p ≤ b.length) : (rI b p e).2.1 ≤ b.length := rPos_le hp
theorem cI {k : Nat} (hk : 12 ≤ k) {b : List UInt8} (hb : b.length ≤ 100000000) {p : Nat} (hp : p ≤ b.length) (e : Int) : wire_Reader_Int.f k b (p : Int) e = some ((rI b p e).1, (((rI b p e).2.1 : Nat) : Int), (rI b p e).2.2) := rInt_eq hk (by omega) p e hp
theorem rI' {k : Nat} (hk : 12 ≤ k) {b : List UInt8} (hb : b.length ≤ 100000000) {p : Nat} (hp : p ≤ b.length) (e : Int) : synodref1_Reader_Int.f k b (p : Int) e = some ((rI b p e).1, (((rI b p e).2.1 : Nat) : Int), (rI b p e).2.2) := refInt_eq hk (by omega) p e hp
theorem rI0 {k : Nat} (hk : 12 ≤ k) {b : List UInt8} (hb : b.length ≤ 100000000) : synodref1_Reader_Int.f k b 0 0 = some ((rI b 0 0).1, (((rI b 0 0).2.1 : Nat) : Int), (rI b 0 0).2.2) := rI' hk hb (Nat.zero_le _) 0
theorem cB {k : Nat} (hk : 12 ≤ k) {b : List UInt8} (hb : b.length ≤ 100000000) {p : Nat} (hp : p ≤ b.length) (e most : Int) : wire_Reader_Bytes.f k b (p : Int) e most = some ((rBytes b p e most).1, (((rBytes b p e most).2.1 : Nat) : Int), (rBytes b p e most).2.2) := rBytes_eq hk (by omega) p e most hp
theorem rB' {k : Nat} (hk : 12 ≤ k) {b : List UInt8} (hb : b.length ≤ 100000000) {p : Nat} (hp : p ≤ b.length) (e most : Int) : synodref1_Reader_Bytes.f k b (p : Int) e most = some ((rBytes b p e most).1, (((rBytes b p e most).2.1 : Nat) : Int), (rBytes b p e most).2.2) := refBytes_eq hk (by omega) p e most hp
theorem cT {k : Nat} (hk : 12 ≤ k) {b : List UInt8} (hb : b.length ≤ 100000000) {p : Nat} (hp : p ≤ b.length) (e most : Int) : wire_Reader_Text.f k b (p : Int) e most = some ((rBytes b p e most).1, (((rBytes b p e most).2.1 : Nat) : Int), (rBytes b p e most).2.2) := rText_eq hk (by omega) p e most hp
theorem rT' {k : Nat} (hk : 12 ≤ k) {b : List UInt8} (hb : b.length ≤ 100000000) {p : Nat} (hp : p ≤ b.length) (e most : Int) : synodref1_Reader_Text.f k b (p : Int) e most = some ((rBytes b p e most).1, (((rBytes b p e most).2.1 : Nat) : Int), (rBytes b p e most).2.2) := refText_eq hk (by omega) p e most hp
theorem cO {k : Nat} (hk : 12 ≤ k) {b : List UInt8} (hb : b.length ≤ 100000000) {p : Nat} (hp : p ≤ b.length) (e : Int) : wire_Reader_Bool.f k b (p : Int) e = some ((rBool b p e).1, (((rBool b p e).2.1 : Nat) : Int), (rBool b p e).2.2) := rBool_eq hk (by omega) p e hp
theorem rO' {k : Nat} (hk : 12 ≤ k) {b : List UInt8} (hb : b.length ≤ 100000000) {p : Nat} (hp : p ≤ b.length) (e : Int) : synodref1_Reader_Bool.f k b (p : Int) e = some ((rBool b p e).1, (((rBool b p e).2.1 : Nat) : Int), (rBool b p e).2.2) := refBool_eq hk (by omega) p e hp
theorem cNew {b : List UInt8} (hb : b.length ≤ 100000000) : wire_NewReader.f b = some (b, ((0 : Nat) : Int), 0) := by unfold wire_NewReader.f; rw [fresh_eq (by omega)]; rfl
theorem left_eq {b : List UInt8} (hb : b.length ≤ 100000000) {p : Nat} (hp : p ≤ b.length) : IntKind.i64.wrap ((b.length : Int) - (p : Int)) = (b.length : Int) - (p : Int) := w64 (by omega) (by omega)
theorem cDone {b : List UInt8} (hb : b.length ≤ 100000000) {p : Nat} (hp : p ≤ b.length) (e : Int) : wire_Reader_Done.f b (p : Int) e = some (rEnd b p e) := by
  unfold wire_Reader_Done.f wire_Reader_Left.f rEnd
  simp only [left_eq hb hp, Option.bind_some]
  by_cases h1 : e = 0 <;> by_cases h2 : p < b.length <;> simp [h1, h2] <;> (repeat' split) <;> first | rfl | omega
theorem rDone {b : List UInt8} (hb : b.length ≤ 100000000) {p : Nat} (hp : p ≤ b.length) (e : Int) : synodref1_Reader_Done.f b (p : Int) e = some (rEnd b p e) := by
  unfold synodref1_Reader_Done.f synodref1_Reader_Left.f rEnd
  simp only [left_eq hb hp, Option.bind_some]
  by_cases h1 : e = 0 <;> by_cases h2 : p < b.length <;> simp [h1, h2] <;> (repeat' split) <;> first | rfl | omega
/-! ### What is read of any bytes -/
/-- Behind the reading: the end's error, or the check's. -/
def ends (e c : Int) : Int := if e = 0 then c else e
def getE (b : List UInt8) : Int × Int × Int × List UInt8 × Int :=
  let a := rI b 0 0; let i := rI b a.2.1 a.2.2; let kd := rI b i.2.1 i.2.2; let d := rBytes b kd.2.1 kd.2.2 4096
  let e := ends (rEnd b d.2.1 d.2.2) (chkE a.1 i.1 kd.1 d.1); if e = 0 then (a.1, i.1, kd.1, d.1, 0) else (0, 0, 0, [], e)
def getP (b : List UInt8) : Int × Int × List UInt8 × Int :=
  let i := rI b 0 0; let t := rI b i.2.1 i.2.2; let d := rBytes b t.2.1 t.2.2 524288
  let e := ends (rEnd b d.2.1 d.2.2) (chkP i.1 t.1 d.1); if e = 0 then (i.1, t.1, d.1, 0) else (0, 0, [], e)
theorem ends_bind {e c : Int} : (if e = 0 then some c else some e) = some (ends e c) := by unfold ends; split <;> rfl
section
variable {k : Nat} (hk : 12 ≤ k) {b : List UInt8} (hb : b.length ≤ 100000000)
include hk hb
theorem cGetE : codec_Entries_Get.f k b = some (getE b) := by
  have p0 : (0 : Nat) ≤ b.length := Nat.zero_le _
  have p1 := rI_le (e := 0) p0; have p2 := rI_le (e := (rI b 0 0).2.2) p1; have p3 := rI_le (e := (rI b (rI b 0 0).2.1 (rI b 0 0).2.2).2.2) p2
  unfold codec_Entries_Get.f codec_last_Entry_Entries_c2.f
  rw [cNew hb, Option.bind_some]; simp only []
  rw [cI hk hb p0, Option.bind_some]; simp only []
  rw [cI hk hb p1, Option.bind_some]; simp only []
  rw [cI hk hb p2, Option.bind_some]; simp only []
  rw [cB hk hb p3, Option.bind_some]; simp only []
  rw [cDone hb (rBytes_le p3).1, Option.bind_some, cE]; simp only [Option.bind_some, ends_bind]
  unfold getE; simp only []
  split <;> rfl
theorem rGetE : synodref3_GetEntry.f k b = some (getE b) := by
  have p0 : (0 : Nat) ≤ b.length := Nat.zero_le _
  have p1 := rI_le (e := 0) p0; have p2 := rI_le (e := (rI b 0 0).2.2) p1; have p3 := rI_le (e := (rI b (rI b 0 0).2.1 (rI b 0 0).2.2).2.2) p2
  unfold synodref3_GetEntry.f
  rw [rI0 hk hb, Option.bind_some]; simp only []
  rw [rI' hk hb p1, Option.bind_some]; simp only []
  rw [rI' hk hb p2, Option.bind_some]; simp only []
  rw [rB' hk hb p3, Option.bind_some]; simp only []
  rw [rDone hb (rBytes_le p3).1, Option.bind_some, rE]; simp only [Option.bind_some, ends_bind]
  unfold getE; simp only []
  split
  · rename_i h; rw [h]
  · rfl
theorem cGetP : codec_Snaps_Get.f k b = some (getP b) := by
  have p0 : (0 : Nat) ≤ b.length := Nat.zero_le _
  have p1 := rI_le (e := 0) p0; have p2 := rI_le (e := (rI b 0 0).2.2) p1
  unfold codec_Snaps_Get.f codec_last_Snap_Snaps_c2.f
  rw [cNew hb, Option.bind_some]; simp only []
  rw [cI hk hb p0, Option.bind_some]; simp only []
  rw [cI hk hb p1, Option.bind_some]; simp only []
  rw [cB hk hb p2, Option.bind_some]; simp only []
  rw [cDone hb (rBytes_le p2).1, Option.bind_some, cP]; simp only [Option.bind_some, ends_bind]
  unfold getP; simp only []
  split <;> rfl
theorem rGetP : synodref3_GetSnap.f k b = some (getP b) := by
  have p0 : (0 : Nat) ≤ b.length := Nat.zero_le _
  have p1 := rI_le (e := 0) p0; have p2 := rI_le (e := (rI b 0 0).2.2) p1
  unfold synodref3_GetSnap.f
  rw [rI0 hk hb, Option.bind_some]; simp only []
  rw [rI' hk hb p1, Option.bind_some]; simp only []
  rw [rB' hk hb p2, Option.bind_some]; simp only []
  rw [rDone hb (rBytes_le p2).1, Option.bind_some, rP]; simp only [Option.bind_some, ends_bind]
  unfold getP; simp only []
  split
  · rename_i h; rw [h]
  · rfl
end
/-! ### What is read of a text -/
theorem rNum_at {b pre r : List UInt8} {x : Int} (h : b = pre ++ (bytesV x ++ r)) (hx : okN x) : rNum b pre.length 0 = (x, (((bytesV x).length : Nat) : Int), (0 : Int)) := by
  subst h
  obtain ⟨n, rfl⟩ := Int.eq_ofNat_of_zero_le hx.1
  have hn : n ≤ 2 ^ 62 := by have := hx.2; omega
  have hb : bytesV (n : Int) = sv n := by unfold bytesV; rw [if_pos hx]; rfl
  have hp := sv_pos n
  unfold rNum decAt
  rw [if_pos rfl, hb, if_neg (by rw [List.length_append, List.length_append]; omega), Int.toNat_natCast, List.drop_left']
  · exact dec_sv hn r
  · rfl
theorem rI_at {b pre r : List UInt8} {x : Int} (h : b = pre ++ (bytesV x ++ r)) (hx : okN x) : rI b pre.length 0 = (x, (pre ++ bytesV x).length, 0) := by
  unfold rI rPos
  rw [rNum_at h hx]; simp
theorem rB_at {b pre r d : List UInt8} {most : Int} (h : b = pre ++ (bB d ++ r)) (hd : (d.length : Int) ≤ most) (hl : d.length ≤ 100000000) : rBytes b pre.length 0 most = (d, (pre ++ bB d).length, 0) := by
  have hx : okN (d.length : Int) := ⟨by omega, by omega⟩
  have h' : b = pre ++ (bytesV (d.length : Int) ++ (d ++ r)) := by rw [h]; simp [bB]
  have e := rNum_at h' hx
  have e2 : rPos b pre.length 0 = pre.length + (bytesV (d.length : Int)).length := by unfold rPos; rw [e]; rfl
  unfold rBytes
  rw [e, e2]
  simp only [if_true, Int.toNat_natCast]
  rw [if_neg (by omega), if_neg (by rw [h']; simp only [List.length_append]; omega)]
  have e3 : b.drop (pre.length + (bytesV (d.length : Int)).length) = d ++ r := by
    rw [h', ← List.append_assoc, List.drop_left']; simp
  rw [e3, List.take_left' rfl]
  simp [bB, Nat.add_assoc]
theorem rO_at {b pre r : List UInt8} {v : Bool} (h : b = pre ++ (bytesV (b01 v) ++ r)) : rBool b pre.length 0 = (v, (pre ++ bytesV (b01 v)).length, 0) := by
  have hx : okN (b01 v) := by cases v <;> (unfold okN b01; simp)
  have e := rNum_at h hx
  unfold rBool rPos
  rw [e]
  cases v <;> simp [b01]
/-- The end: nothing is left, or something is. -/
theorem rEnd_at {b pre r : List UInt8} (h : b = pre ++ r) : rEnd b pre.length 0 = if r = [] then 0 else 3 := by
  subst h
  unfold rEnd
  by_cases hr : r = []
  · subst hr; simp
  · have : 0 < r.length := List.length_pos_iff.2 hr
    rw [if_pos ⟨rfl, by rw [List.length_append]; omega⟩, if_neg hr]
theorem ends0 {r : List UInt8} : ends (if r = [] then 0 else 3) 0 = if r = [] then 0 else 3 := by unfold ends; split <;> simp_all
theorem getE_tx {t i kd : Int} {d : List UInt8} (h : chkE t i kd d = 0) (r : List UInt8) : getE (txE t i kd d ++ r) = if r = [] then (t, i, kd, d, 0) else (0, 0, 0, [], 3) := by
  obtain ⟨h1, h2, h3, h4, _⟩ := chkE_ok h
  generalize hb : txE t i kd d ++ r = b
  have e1 := rI_at (b := b) (pre := []) (r := bytesV i ++ (bytesV kd ++ bB d) ++ r) (x := t) (by rw [← hb]; simp [txE]) (rg_ok h1 (by decide))
  have e2 := rI_at (b := b) (pre := [] ++ bytesV t) (r := bytesV kd ++ bB d ++ r) (x := i) (by rw [← hb]; simp [txE]) (rg_ok h2 (by decide))
  have e3 := rI_at (b := b) (pre := [] ++ bytesV t ++ bytesV i) (r := bB d ++ r) (x := kd) (by rw [← hb]; simp [txE]) (by unfold okN; omega)
  have e4 := rB_at (b := b) (pre := [] ++ bytesV t ++ bytesV i ++ bytesV kd) (r := r) (d := d) (most := 4096) (by rw [← hb]; simp [txE]) h4 (by omega)
  have e5 := rEnd_at (b := b) (pre := [] ++ bytesV t ++ bytesV i ++ bytesV kd ++ bB d) (r := r) (by rw [← hb]; simp [txE])
  unfold getE
  rw [show (0 : Nat) = ([] : List UInt8).length from rfl, e1]; simp only []
  rw [e2]; simp only []
  rw [e3]; simp only []
  rw [e4]; simp only []
  rw [e5, h, ends0]
  by_cases hr : r = [] <;> simp [hr]
theorem getP_tx {i t : Int} {d : List UInt8} (h : chkP i t d = 0) (r : List UInt8) : getP (txP i t d ++ r) = if r = [] then (i, t, d, 0) else (0, 0, [], 3) := by
  obtain ⟨h1, h2, h4⟩ := chkP_ok h
  generalize hb : txP i t d ++ r = b
  have e1 := rI_at (b := b) (pre := []) (r := bytesV t ++ bB d ++ r) (x := i) (by rw [← hb]; simp [txP]) (rg_ok h1 (by decide))
  have e2 := rI_at (b := b) (pre := [] ++ bytesV i) (r := bB d ++ r) (x := t) (by rw [← hb]; simp [txP]) (rg_ok h2 (by decide))
  have e4 := rB_at (b := b) (pre := [] ++ bytesV i ++ bytesV t) (r := r) (d := d) (most := 524288) (by rw [← hb]; simp [txP]) h4 (by omega)
  have e5 := rEnd_at (b := b) (pre := [] ++ bytesV i ++ bytesV t ++ bB d) (r := r) (by rw [← hb]; simp [txP])
  unfold getP
  rw [show (0 : Nat) = ([] : List UInt8).length from rfl, e1]; simp only []
  rw [e2]; simp only []
  rw [e4]; simp only []
  rw [e5, h, ends0]
  by_cases hr : r = [] <;> simp [hr]
theorem getE_len (b : List UInt8) : (getE b).2.2.2.1.length ≤ b.length := by
  have p0 : (0 : Nat) ≤ b.length := Nat.zero_le _
  have p1 := rI_le (e := 0) p0; have p2 := rI_le (e := (rI b 0 0).2.2) p1; have p3 := rI_le (e := (rI b (rI b 0 0).2.1 (rI b 0 0).2.2).2.2) p2
  have h := (rBytes_le (b := b) (e := (rI b (rI b (rI b 0 0).2.1 (rI b 0 0).2.2).2.1 (rI b (rI b 0 0).2.1 (rI b 0 0).2.2).2.2).2.2) (most := 4096) p3).2
  unfold getE
  simp only []
  split
  · exact h
  · simp
theorem getP_len (b : List UInt8) : (getP b).2.2.1.length ≤ b.length := by
  have p0 : (0 : Nat) ≤ b.length := Nat.zero_le _
  have p1 := rI_le (e := 0) p0; have p2 := rI_le (e := (rI b 0 0).2.2) p1
  have h := (rBytes_le (b := b) (e := (rI b (rI b 0 0).2.1 (rI b 0 0).2.2).2.2) (most := 524288) p2).2
  unfold getP
  simp only []
  split
  · exact h
  · simp
end Go.Proofs.Ytdoghfenhoigmaa
