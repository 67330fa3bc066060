/- The codec's plain laws: what is read of a message, by the program and by the document. Conditions: as each says. -/
import Derived.Test.YtdoghfenhoigmaaPlMs3
namespace Go.Proofs.Ytdoghfenhoigmaa
set_option linter.unusedVariables false
set_option linter.unusedSimpArgs false
open Go.RowKit
abbrev TupM := Int × Int × Int × Int × Int × Int × Int × Int × Int × Bool × (List (Int × Int × Int × List UInt8)) × Int × Int × List UInt8 × Int
def tupM (m : Msg) (e : Int) : TupM := (m.kd, m.fr, m.to, m.tm, m.ix, m.lt, m.cm, m.hi, m.cx, m.rj, m.es, m.si, m.st, m.sd, e)
def zM : Msg := ⟨0, 0, 0, 0, 0, 0, 0, 0, 0, false, [], 0, 0, []⟩
def rdK (b : List UInt8) (kd fr to tm : Int) (p : Nat) (e : Int) : Msg × Nat × Int :=
  if kd = 1 then
    let a := rI b p e; let c := rI b a.2.1 a.2.2
    (⟨kd, fr, to, tm, a.1, c.1, 0, 0, 0, false, [], 0, 0, []⟩, c.2.1, c.2.2)
  else if kd = 2 then
    let a := rBool b p e
    (⟨kd, fr, to, tm, 0, 0, 0, 0, 0, a.1, [], 0, 0, []⟩, a.2.1, a.2.2)
  else if kd = 3 then
    let a := rI b p e; let c := rI b a.2.1 a.2.2; let d := rI b c.2.1 c.2.2; let n := rI b d.2.1 d.2.2
    if n.2.2 ≠ 0 then (⟨kd, fr, to, tm, a.1, c.1, d.1, 0, 0, false, [], 0, 0, []⟩, n.2.1, n.2.2)
    else if 64 < n.1 then (⟨kd, fr, to, tm, a.1, c.1, d.1, 0, 0, false, [], 0, 0, []⟩, n.2.1, 3)
    else let r := rdEs b n.1.toNat n.2.1; (⟨kd, fr, to, tm, a.1, c.1, d.1, 0, 0, false, r.1, 0, 0, []⟩, r.2.1, r.2.2)
  else if kd = 4 then
    let a := rI b p e; let c := rBool b a.2.1 a.2.2; let d := rI b c.2.1 c.2.2
    (⟨kd, fr, to, tm, a.1, 0, 0, d.1, 0, c.1, [], 0, 0, []⟩, d.2.1, d.2.2)
  else if kd = 5 then
    let a := rI b p e; let c := rI b a.2.1 a.2.2
    (⟨kd, fr, to, tm, 0, 0, a.1, 0, c.1, false, [], 0, 0, []⟩, c.2.1, c.2.2)
  else if kd = 6 then
    let a := rI b p e
    (⟨kd, fr, to, tm, 0, 0, 0, 0, a.1, false, [], 0, 0, []⟩, a.2.1, a.2.2)
  else
    let d := rBytes b p e 1048576
    if d.2.2 ≠ 0 then (⟨kd, fr, to, tm, 0, 0, 0, 0, 0, false, [], 0, 0, []⟩, d.2.1, d.2.2)
    else let s := getP d.1; (⟨kd, fr, to, tm, 0, 0, 0, 0, 0, false, [], s.1, s.2.1, s.2.2.1⟩, d.2.1, s.2.2.2)
def finM (b : List UInt8) (x : Msg × Nat × Int) : Msg × Int :=
  let e := ends (rEnd b x.2.1 x.2.2) (chkM x.1); if e = 0 then (x.1, 0) else (zM, e)
def getM (b : List UInt8) : Msg × Int :=
  let a := rI b 0 0
  if a.2.2 ≠ 0 then (zM, a.2.2) else if ¬ nodeP a.1 then (zM, 6) else
  let f := rI b a.2.1 0; let t := rI b f.2.1 f.2.2; let m := rI b t.2.1 t.2.2
  finM b (rdK b a.1 f.1 t.1 m.1 m.2.1 m.2.2)
section
variable {b : List UInt8} {n p : Nat}
theorem rdEs_d (h : (rBytes b p 0 8192).2.2 ≠ 0) : rdEs b (n + 1) p = ([], (rBytes b p 0 8192).2.1, (rBytes b p 0 8192).2.2) := by
  simp only [rdEs]; rw [if_pos h]
theorem rdEs_x (h : (rBytes b p 0 8192).2.2 = 0) (hx : (getE (rBytes b p 0 8192).1).2.2.2.2 ≠ 0) : rdEs b (n + 1) p = ([], (rBytes b p 0 8192).2.1, (getE (rBytes b p 0 8192).1).2.2.2.2) := by
  simp only [rdEs]; rw [if_neg (not_not_intro h), if_pos hx]
theorem rdEs_r (h : (rBytes b p 0 8192).2.2 = 0) (hx : (getE (rBytes b p 0 8192).1).2.2.2.2 = 0) (hr : (rdEs b n (rBytes b p 0 8192).2.1).2.2 ≠ 0) : rdEs b (n + 1) p = ([], (rdEs b n (rBytes b p 0 8192).2.1).2.1, (rdEs b n (rBytes b p 0 8192).2.1).2.2) := by
  simp only [rdEs]; rw [if_neg (not_not_intro h), if_neg (not_not_intro hx), if_pos hr]
theorem rdEs_ok (h : (rBytes b p 0 8192).2.2 = 0) (hx : (getE (rBytes b p 0 8192).1).2.2.2.2 = 0) (hr : (rdEs b n (rBytes b p 0 8192).2.1).2.2 = 0) :
    rdEs b (n + 1) p = (((getE (rBytes b p 0 8192).1).1, (getE (rBytes b p 0 8192).1).2.1, (getE (rBytes b p 0 8192).1).2.2.1, (getE (rBytes b p 0 8192).1).2.2.2.1) :: (rdEs b n (rBytes b p 0 8192).2.1).1, (rdEs b n (rBytes b p 0 8192).2.1).2.1, 0) := by
  simp only [rdEs]; rw [if_neg (not_not_intro h), if_neg (not_not_intro hx), if_neg (not_not_intro hr)]
theorem rdEs_le : ∀ (n p : Nat), p ≤ b.length → (rdEs b n p).2.1 ≤ b.length
  | 0, p, h => h
  | n + 1, p, h => by
    have h1 := (rBytes_le (e := 0) (most := 8192) h).1
    have h2 := rdEs_le n _ h1
    unfold rdEs
    simp only []
    split
    · exact h1
    · split
      · exact h1
      · split <;> exact h2
end
theorem finM_err {b : List UInt8} {x : Msg × Nat × Int} (h : x.2.2 ≠ 0) : finM b x = (zM, x.2.2) := by
  unfold finM ends; rw [rEnd_err h, if_neg h]; simp only []; rw [if_neg h]
end Go.Proofs.Ytdoghfenhoigmaa
