/- The codec's plain laws: reading, with errors; the entries of a message. Conditions: as each says. -/
import Derived.Test.YtdoghfenhoigmaaPlMsP
namespace Go.Proofs.Ytdoghfenhoigmaa
set_option linter.unusedVariables false
set_option linter.unusedSimpArgs false
open Go.RowKit
/-! ### What is read -/
theorem rNum_err {b : List UInt8} {p : Nat} {e : Int} (h : e ≠ 0) : rNum b p e = (0, 0, e) := by unfold rNum; rw [if_neg h]
theorem rI_err {b : List UInt8} {p : Nat} {e : Int} (h : e ≠ 0) : rI b p e = (0, p, e) := by unfold rI rPos; rw [rNum_err h]; rfl
theorem rB_err {b : List UInt8} {p : Nat} {e most : Int} (h : e ≠ 0) : rBytes b p e most = ([], p, e) := by unfold rBytes; rw [rNum_err h]; simp [h]
theorem rO_err {b : List UInt8} {p : Nat} {e : Int} (h : e ≠ 0) : rBool b p e = (false, p, e) := by unfold rBool; rw [rNum_err h]; simp [h]
theorem rEnd_err {b : List UInt8} {p : Nat} {e : Int} (h : e ≠ 0) : rEnd b p e = e := by unfold rEnd; rw [if_neg (fun x => h x.1)]
/-- It went on just if there is no error. -/
theorem rNum_cases (b : List UInt8) (p : Nat) (e : Int) : ((rNum b p e).2.2 = 0 ∧ ∃ n j : Nat, rNum b p e = ((n : Int), (j : Int), 0) ∧ 1 ≤ j) ∨ ((rNum b p e).2.2 ≠ 0 ∧ (rNum b p e).1 = 0 ∧ (rNum b p e).2.1 = 0) := by
  by_cases h : (rNum b p e).2.2 = 0
  · obtain ⟨n, j, h1, h2, _⟩ := rNum_ok h
    exact .inl ⟨h, n, j, h1, h2⟩
  · exact .inr ⟨h, (rNum_bad h).1, (rNum_bad h).2⟩
theorem rI_moved (b : List UInt8) (p : Nat) (e : Int) : decide ((p : Int) < ((rI b p e).2.1 : Int)) = decide ((rI b p e).2.2 = 0) := by
  unfold rI rPos
  rcases rNum_cases b p e with ⟨h, n, j, h1, h2⟩ | ⟨h, h1, h2⟩
  · rw [h1]; simp; omega
  · rw [h2]; simp [h]
theorem rI_bad {b : List UInt8} {p : Nat} {e : Int} (h : (rI b p e).2.2 ≠ 0) : (rI b p e).1 = 0 := (rNum_bad h).1
theorem rB_moved (b : List UInt8) (p : Nat) (e most : Int) : decide ((p : Int) < ((rBytes b p e most).2.1 : Int)) = decide ((rBytes b p e most).2.2 = 0) := by
  unfold rBytes rPos
  rcases rNum_cases b p e with ⟨h, n, j, h1, h2⟩ | ⟨h, h1, h2⟩
  · rw [h1]
    simp only [if_true, Int.toNat_natCast]
    split
    · simp
    · split
      · simp
      · simp; omega
  · simp [h]
theorem rB_bad {b : List UInt8} {p : Nat} {e most : Int} (h : (rBytes b p e most).2.2 ≠ 0) : (rBytes b p e most).1 = [] := by
  unfold rBytes at h ⊢
  rcases rNum_cases b p e with ⟨h', n, j, h1, h2⟩ | ⟨h', h1, h2⟩
  · rw [h1] at h ⊢
    simp only [if_true] at h ⊢
    split
    · rfl
    · rename_i h3
      rw [if_neg h3] at h
      split
      · rfl
      · rename_i h4
        rw [if_neg h4] at h
        exact absurd rfl h
  · rw [if_neg h']
/-- The entries of a message, n of them; the place behind them, the error. -/
def rdEs (b : List UInt8) : Nat → Nat → List EnT × Nat × Int
  | 0, p => ([], p, 0)
  | n + 1, p =>
    let d := rBytes b p 0 8192
    if d.2.2 ≠ 0 then ([], d.2.1, d.2.2) else
    let x := getE d.1
    if x.2.2.2.2 ≠ 0 then ([], d.2.1, x.2.2.2.2) else
    let r := rdEs b n d.2.1
    if r.2.2 ≠ 0 then ([], r.2.1, r.2.2) else ((x.1, x.2.1, x.2.2.1, x.2.2.2.1) :: r.1, r.2.1, 0)
end Go.Proofs.Ytdoghfenhoigmaa
