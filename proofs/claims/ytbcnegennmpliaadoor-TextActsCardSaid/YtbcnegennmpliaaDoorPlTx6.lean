/- Fields of acts: the program's and the document's. Conditions: as each says. -/
import Derived.Test.YtbcnegennmpliaaDoorPlTx5
namespace Go.Proofs.YtbcnegennmpliaaDoor
set_option linter.unusedVariables false
set_option linter.unusedSimpArgs false
open Go.RowKit
abbrev ActT : Type := Int × Int × Int × Int × Int × Int × List UInt8 × List UInt8 × List UInt8
abbrev act0 : ActT := (0, 0, 0, 0, 0, 0, [], [], [])
def fl (a : ActT) (e : Int) : Int × Int × Int × Int × Int × Int × List UInt8 × List UInt8 × List UInt8 × Int := (a.1, a.2.1, a.2.2.1, a.2.2.2.1, a.2.2.2.2.1, a.2.2.2.2.2.1, a.2.2.2.2.2.2.1, a.2.2.2.2.2.2.2.1, a.2.2.2.2.2.2.2.2, e)
def numM (x : List UInt8) : Option Int := match text_number.f x with
  | some (n, true) => some n
  | _ => none
theorem num_p {x : List UInt8} (hx : x.length ≤ 2 ^ 40) : ∃ n, text_number.f x = some (match numM x with | some v => (v, true) | none => (n, false)) := by
  obtain ⟨n, ok, h1, h2, h3⟩ := number_f hx
  refine ⟨n, ?_⟩
  unfold numM
  rw [h1]
  cases ok <;> rfl
theorem num_d {x : List UInt8} {k : Nat} (hx : x.length ≤ 2 ^ 40) (hk : x.length + 2 < k) : ∃ n, synodref17_number.f k x = some (match numM x with | some v => (v, true) | none => (n, false)) := by
  obtain ⟨n, m, ok, h1, h2, h3, h4⟩ := number_same hx hk
  refine ⟨m, ?_⟩
  unfold numM
  rw [h1, h2]
  cases ok with
  | true => simp only []; rw [(h3 rfl).1]
  | false => rfl
abbrev picksL : List (List UInt8) := [[110, 111, 116, 105, 99, 101], [119, 111, 114, 107], [105, 110, 98, 111, 120], [116, 105, 99, 107], [99, 97, 108, 108], [119, 114, 105, 116, 101], [115, 121, 110, 99], [97, 112, 112, 108, 121], [115, 101, 110, 100]]
def pickN : List (List UInt8) → List UInt8 → Nat → Option Nat
  | [], _, _ => none
  | p :: ps, w, i => if p = w then some (i + 1) else pickN ps w (i + 1)
def fillM (l : UInt8) (a : ActT) (w : List UInt8) : ActT ⊕ Int :=
  if l = 107 then .inl (a.1, a.2.1, a.2.2.1, a.2.2.2.1, a.2.2.2.2.1, a.2.2.2.2.2.1, w, a.2.2.2.2.2.2.2.1, a.2.2.2.2.2.2.2.2)
  else if l = 118 then .inl (a.1, a.2.1, a.2.2.1, a.2.2.2.1, a.2.2.2.2.1, a.2.2.2.2.2.1, a.2.2.2.2.2.2.1, w, a.2.2.2.2.2.2.2.2)
  else if l = 111 then .inl (a.1, a.2.1, a.2.2.1, a.2.2.2.1, a.2.2.2.2.1, a.2.2.2.2.2.1, a.2.2.2.2.2.2.1, a.2.2.2.2.2.2.2.1, w)
  else if l = 112 then match pickN picksL w 0 with
    | some n => .inl (a.1, a.2.1, a.2.2.1, (n : Int), a.2.2.2.2.1, a.2.2.2.2.2.1, a.2.2.2.2.2.2.1, a.2.2.2.2.2.2.2.1, a.2.2.2.2.2.2.2.2)
    | none => .inr 20
  else match numM w with
    | none => .inr 22
    | some n =>
      if l = 78 then .inl (a.1, n, a.2.2.1, a.2.2.2.1, a.2.2.2.2.1, a.2.2.2.2.2.1, a.2.2.2.2.2.2.1, a.2.2.2.2.2.2.2.1, a.2.2.2.2.2.2.2.2)
      else if l = 67 then .inl (a.1, a.2.1, n, a.2.2.2.1, a.2.2.2.2.1, a.2.2.2.2.2.1, a.2.2.2.2.2.2.1, a.2.2.2.2.2.2.2.1, a.2.2.2.2.2.2.2.2)
      else if l = 110 then .inl (a.1, a.2.1, a.2.2.1, n, a.2.2.2.2.1, a.2.2.2.2.2.1, a.2.2.2.2.2.2.1, a.2.2.2.2.2.2.2.1, a.2.2.2.2.2.2.2.2)
      else .inl (a.1, a.2.1, a.2.2.1, a.2.2.2.1, n, a.2.2.2.2.2.1, a.2.2.2.2.2.2.1, a.2.2.2.2.2.2.2.1, a.2.2.2.2.2.2.2.2)
def fres (a : ActT) (r : ActT ⊕ Int) : Int × Int × Int × Int × Int × Int × Int × List UInt8 × List UInt8 × List UInt8 := match r with
  | .inl b => (0, b)
  | .inr c => (c, a)
def fld (l : UInt8) : Ty103 :=
  if l = 78 then (some 65, none, false) else if l = 67 then (some 66, none, false) else if l = 110 then (some 67, none, false) else if l = 109 then (some 68, none, false)
  else if l = 112 then (some 69, none, true) else if l = 107 then (none, some 70, false) else if l = 118 then (none, some 71, false) else (none, some 72, false)
abbrev lets : List UInt8 := [78, 67, 110, 109, 112, 107, 118, 111]
theorem picksP : text_picks.f = some picksL := rfl
theorem picksD : synodref17_Picks.f = some picksL := rfl
theorem pick_l0 (a : ActT) (w : List UInt8) : ∀ (ps : List (List UInt8)) (pre : List (List UInt8)) (k : Nat), ps.length < k → (pre ++ ps).length < 100 →
    text_field_fill.l0 (some 69) a.1 a.2.1 a.2.2.1 a.2.2.2.1 a.2.2.2.2.1 a.2.2.2.2.2.1 a.2.2.2.2.2.2.1 a.2.2.2.2.2.2.2.1 a.2.2.2.2.2.2.2.2 w (pre ++ ps) k (pre.length : Int) = some (match pickN ps w pre.length with
      | some n => .inr (0, a.1, a.2.1, a.2.2.1, (n : Int), a.2.2.2.2.1, a.2.2.2.2.2.1, a.2.2.2.2.2.2.1, a.2.2.2.2.2.2.2.1, a.2.2.2.2.2.2.2.2)
      | none => .inl ())
  | _, _, 0, h, _ => by omega
  | [], pre, k + 1, _, _ => by
    rw [text_field_fill.l0, List.append_nil, if_neg (by omega)]; rfl
  | p :: ps, pre, k + 1, hk, hl => by
    have hl' := hl
    rw [List.length_append, List.length_cons] at hl'
    rw [text_field_fill.l0, if_pos (by rw [List.length_append, List.length_cons]; omega), if_pos (by rw [List.length_append, List.length_cons]; omega)]
    have e : (pre ++ p :: ps).getD (pre.length : Int).toNat [] = p := by simp
    rw [e, pickN, wi1 (by omega)]
    by_cases h : p = w
    · rw [if_pos h, if_pos h]
      simp [text_lines_5.f]
    · rw [if_neg h, if_neg h]
      have := pick_l0 a w ps (pre ++ [p]) k (by simp at hk ⊢; omega) (by simpa using hl)
      simpa using this
theorem pickD_l0 (a : ActT) (w : List UInt8) : ∀ (ps : List (List UInt8)) (pre : List (List UInt8)) (k : Nat), ps.length < k → (pre ++ ps).length < 100 →
    synodref17_set.l0 a.1 a.2.1 a.2.2.1 a.2.2.2.2.1 a.2.2.2.2.2.1 a.2.2.2.2.2.2.1 a.2.2.2.2.2.2.2.1 a.2.2.2.2.2.2.2.2 w (pre ++ ps) k (pre.length : Int) = some (match pickN ps w pre.length with
      | some n => .inr (0, a.1, a.2.1, a.2.2.1, (n : Int), a.2.2.2.2.1, a.2.2.2.2.2.1, a.2.2.2.2.2.2.1, a.2.2.2.2.2.2.2.1, a.2.2.2.2.2.2.2.2)
      | none => .inl ())
  | _, _, 0, h, _ => by omega
  | [], pre, k + 1, _, _ => by
    rw [synodref17_set.l0, List.append_nil, if_neg (by omega)]; rfl
  | p :: ps, pre, k + 1, hk, hl => by
    have hl' := hl
    rw [List.length_append, List.length_cons] at hl'
    rw [synodref17_set.l0, if_pos (by rw [List.length_append, List.length_cons]; omega), if_pos (by rw [List.length_append, List.length_cons]; omega)]
    have e : (pre ++ p :: ps).getD (pre.length : Int).toNat [] = p := by simp
    rw [e, pickN, wi1 (by omega)]
    by_cases h : p = w
    · rw [if_pos h, if_pos h]
    · rw [if_neg h, if_neg h]
      have := pickD_l0 a w ps (pre ++ [p]) k (by simp at hk ⊢; omega) (by simpa using hl)
      simpa using this
theorem fill_f {l : UInt8} (hl : l ∈ lets) (a : ActT) {w : List UInt8} {k : Nat} (hw : w.length ≤ 2 ^ 40) (hk : 20 < k) :
    text_field_fill.f k (fld l).1 (fld l).2.1 (fld l).2.2 a.1 a.2.1 a.2.2.1 a.2.2.2.1 a.2.2.2.2.1 a.2.2.2.2.2.1 a.2.2.2.2.2.2.1 a.2.2.2.2.2.2.2.1 a.2.2.2.2.2.2.2.2 w = some (fres a (fillM l a w)) := by
  obtain ⟨n, hn⟩ := num_p hw
  have hp := pick_l0 a w picksL [] k (by simp; omega) (by simp)
  simp only [List.mem_cons, List.not_mem_nil, or_false] at hl
  unfold text_field_fill.f
  rcases hl with rfl | rfl | rfl | rfl | rfl | rfl | rfl | rfl
  · rw [hn]; unfold fillM; cases numM w <;> simp [fld, fres, text_lines_1.f]
  · rw [hn]; unfold fillM; cases numM w <;> simp [fld, fres, text_lines_2.f]
  · rw [hn]; unfold fillM; cases numM w <;> simp [fld, fres, text_lines_3.f]
  · rw [hn]; unfold fillM; cases numM w <;> simp [fld, fres, text_lines_4.f]
  · rw [picksP, Option.bind_some]
    rw [show (fld 112).1 = some 69 from rfl, show (fld 112).2.1 = none from rfl, show (fld 112).2.2 = true from rfl, if_neg (by simp), if_pos rfl]
    rw [show (([] : List (List UInt8)).length : Int) = (0 : Int) from rfl, List.nil_append] at hp
    rw [hp]
    unfold fillM
    cases hq : pickN picksL w 0 <;> simp [fres, orR]
  · simp [fld, fres, fillM, text_lines_6.f]
  · simp [fld, fres, fillM, text_lines_7.f]
  · simp [fld, fres, fillM, text_lines_8.f]
theorem set_f {l : UInt8} (hl : l ∈ lets) (a : ActT) {w : List UInt8} {k : Nat} (hw : w.length ≤ 2 ^ 40) (hk : 20 < k) (hk2 : w.length + 2 < k) :
    synodref17_set.f k a.1 a.2.1 a.2.2.1 a.2.2.2.1 a.2.2.2.2.1 a.2.2.2.2.2.1 a.2.2.2.2.2.2.1 a.2.2.2.2.2.2.2.1 a.2.2.2.2.2.2.2.2 (l.toNat : Int) w = some (fres a (fillM l a w)) := by
  obtain ⟨n, hn⟩ := num_d hw hk2
  have hp := pickD_l0 a w picksL [] k (by simp; omega) (by simp)
  simp only [List.mem_cons, List.not_mem_nil, or_false] at hl
  unfold synodref17_set.f
  rcases hl with rfl | rfl | rfl | rfl | rfl | rfl | rfl | rfl
  · rw [hn]; unfold fillM; cases numM w <;> simp [fres]
  · rw [hn]; unfold fillM; cases numM w <;> simp [fres]
  · rw [hn]; unfold fillM; cases numM w <;> simp [fres]
  · rw [hn]; unfold fillM; cases numM w <;> simp [fres]
  · rw [picksD, Option.bind_some]
    rw [show (([] : List (List UInt8)).length : Int) = (0 : Int) from rfl, List.nil_append] at hp
    rw [hp]
    unfold fillM
    cases hq : pickN picksL w 0 <;> simp [fres, orR]
  · simp [fres, fillM]
  · simp [fres, fillM]
  · simp [fres, fillM]
end Go.Proofs.YtbcnegennmpliaaDoor
