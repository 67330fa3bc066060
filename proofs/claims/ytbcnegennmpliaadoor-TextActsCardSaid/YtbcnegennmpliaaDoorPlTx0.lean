/- Words of a line: what a quoted word holds, by the program and by the document. Conditions: as each says. -/
import Derived.Test.YtbcnegennmpliaaDoorPl1
import Derived.Test.YtbcnegennmpliaaDoorG
namespace Go.Proofs.YtbcnegennmpliaaDoor
set_option linter.unusedVariables false
set_option linter.unusedSimpArgs false
open Go.RowKit
abbrev hexs : List UInt8 := [48, 49, 50, 51, 52, 53, 54, 55, 56, 57, 97, 98, 99, 100, 101, 102]
def plainB (c : UInt8) : Bool := decide (32 ≤ c.toNat) && decide (c.toNat ≤ 126)
def bareB (c : UInt8) : Bool := plainB c && !decide (c.toNat = 32) && !decide (c.toNat = 34)
def hexI (c : UInt8) : Int := Lib.indexByte hexs c
def escB (a b : UInt8) : Option UInt8 := if 0 ≤ hexI a ∧ 0 ≤ hexI b ∧ plainB (byte (16 * hexI a + hexI b)) = false then some (byte (16 * hexI a + hexI b)) else none
def qd : List UInt8 → Option (List UInt8 × List UInt8)
  | [] => none
  | c :: t =>
    if c.toNat = 34 then some ([], t)
    else if plainB c = false then none
    else if c.toNat ≠ 92 then (qd t).map fun p => (c :: p.1, p.2)
    else match t with
      | [] => none
      | d :: t1 =>
        if d.toNat = 34 ∨ d.toNat = 92 then (qd t1).map fun p => (d :: p.1, p.2)
        else match t1 with
          | h :: l :: t2 => if d.toNat = 120 then (escB h l).bind fun x => (qd t2).map fun p => (x :: p.1, p.2) else none
          | _ => none
theorem qd_nil : qd [] = none := by rw [qd.eq_def]
theorem qd_cons (c : UInt8) (t : List UInt8) : qd (c :: t) =
    if c.toNat = 34 then some ([], t)
    else if plainB c = false then none
    else if c.toNat ≠ 92 then (qd t).map fun p => (c :: p.1, p.2)
    else match t with
      | [] => none
      | d :: t1 =>
        if d.toNat = 34 ∨ d.toNat = 92 then (qd t1).map fun p => (d :: p.1, p.2)
        else match t1 with
          | h :: l :: t2 => if d.toNat = 120 then (escB h l).bind fun x => (qd t2).map fun p => (x :: p.1, p.2) else none
          | _ => none := by rw [qd.eq_def]
theorem getD_at {α : Type} {l : List α} {i : Nat} {d : α} (h : i < l.length) : l.getD i d = l[i] := by
  rw [List.getD_eq_getElem?_getD, List.getElem?_eq_getElem h]; rfl
theorem u8_all {p : UInt8 → Bool} (h : ((List.range 256).all fun n => p (UInt8.ofNat n)) = true) (c : UInt8) : p c = true := by
  have := List.all_eq_true.1 h c.toNat (List.mem_range.2 (UInt8.toNat_lt c))
  simpa using this
theorem hexI_lt (c : UInt8) : -1 ≤ hexI c ∧ hexI c ≤ 15 := by
  have := u8_all (p := fun c => decide (-1 ≤ hexI c) && decide (hexI c ≤ 15)) (by decide +kernel) c
  simpa using this
theorem getD_cons_of {l : List UInt8} {i : Nat} (h : i < l.length) : l.drop i = l.getD i 0 :: l.drop (i + 1) := by
  rw [List.getD_eq_getElem?_getD, List.getElem?_eq_getElem h]
  exact List.drop_eq_getElem_cons h
theorem wi1 {n : Nat} (h : n < 2 ^ 61) : IntKind.i64.wrap ((n : Int) + 1) = ((n + 1 : Nat) : Int) := by rw [w64 (by omega) (by omega)]; simp
theorem wi2 {n : Nat} (h : n < 2 ^ 61) : IntKind.i64.wrap ((n : Int) + 2) = ((n + 2 : Nat) : Int) := by rw [w64 (by omega) (by omega)]; simp
theorem wi3 {n : Nat} (h : n < 2 ^ 61) : IntKind.i64.wrap ((n : Int) + 3) = ((n + 3 : Nat) : Int) := by rw [w64 (by omega) (by omega)]; simp
theorem wi4 {n : Nat} (h : n < 2 ^ 61) : IntKind.i64.wrap ((n : Int) + 4) = ((n + 4 : Nat) : Int) := by rw [w64 (by omega) (by omega)]; simp
theorem plain_f (c : UInt8) : text_plain.f (c.toNat : Int) = some (plainB c) := by
  unfold text_plain.f plainB
  congr 1
  rw [show decide ((32 : Int) ≤ (c.toNat : Int)) = decide (32 ≤ c.toNat) by congr 1; exact propext (by omega), show decide ((c.toNat : Int) ≤ 126) = decide (c.toNat ≤ 126) by congr 1; exact propext (by omega)]
theorem bare_f (c : UInt8) : text_bare.f (c.toNat : Int) = some (bareB c) := by
  unfold text_bare.f bareB
  rw [plain_f, Option.bind_some]
  congr 3
  · congr 2; exact propext (by omega)
  · congr 1; exact propext (by omega)
theorem hexw {a b : Int} (ha : 0 ≤ a ∧ a ≤ 15) (hb : 0 ≤ b ∧ b ≤ 15) : IntKind.u8.wrap (IntKind.i64.wrap ((IntKind.i64.wrap (16 * a)) + b)) = 16 * a + b := by
  rw [w64 (n := 16 * a) (by omega) (by omega), w64 (by omega) (by omega), w8 (by omega) (by omega)]
theorem byte_eq {n : Int} (h0 : 0 ≤ n) (h1 : n < 256) : ((byte n).toNat : Int) = n := byte_toNat h0 h1
theorem escaped_f (s : List UInt8) : text_escaped.f s = some (match s with
    | d :: h :: l :: _ => if d.toNat = 120 then (IntKind.u8.wrap (IntKind.i64.wrap ((IntKind.i64.wrap (16 * hexI h)) + hexI l)), (escB h l).isSome) else (0, false)
    | _ => (0, false)) := by
  unfold text_escaped.f
  rcases s with _ | ⟨d, _ | ⟨h, _ | ⟨l, t⟩⟩⟩
  · simp
  · simp
  · simp
  · have e1 : ¬ (((d :: h :: l :: t).length : Int) < 3) := by simp; omega
    rw [if_neg e1, if_pos (by simp; omega)]
    simp only [Option.bind_some, List.getD_cons_zero, show (0 : Int).toNat = 0 from rfl, show (1 : Int).toNat = 1 from rfl, show (2 : Int).toNat = 2 from rfl]
    by_cases hd : d.toNat = 120
    · rw [if_neg (by simp [hd]), if_pos (by simp; omega), if_pos hd]
      simp only [List.getD_cons_succ, List.getD_cons_zero]
      rw [strings_IndexByte.f, Option.bind_some, if_pos (by simp; omega), strings_IndexByte.f, Option.bind_some]
      have eh : ∀ c : UInt8, ((c.toNat : Int).toNat).toUInt8 = c := fun c => by simp
      rw [eh, eh]
      have ei : ∀ c : UInt8, Lib.indexByte [48, 49, 50, 51, 52, 53, 54, 55, 56, 57, 97, 98, 99, 100, 101, 102] c = hexI c := fun _ => rfl
      simp only [ei]
      unfold escB
      by_cases h1 : 0 ≤ hexI h ∧ 0 ≤ hexI l
      · have b1 := hexI_lt h
        have b2 := hexI_lt l
        rw [if_pos (by simp [h1])]
        rw [hexw ⟨h1.1, b1.2⟩ ⟨h1.2, b2.2⟩, ← byte_eq (n := 16 * hexI h + hexI l) (by omega) (by omega), plain_f, Option.bind_some, Option.bind_some]
        rw [byte_eq (by omega) (by omega)]
        cases plainB (byte (16 * hexI h + hexI l)) <;> simp [h1] <;> exact hexw ⟨h1.1, b1.2⟩ ⟨h1.2, b2.2⟩
      · rw [if_neg (by simpa using h1), Option.bind_some, if_neg (fun x => h1 ⟨x.1, x.2.1⟩)]
        rfl
    · rw [if_pos (by simp; omega), if_neg hd]
end Go.Proofs.YtbcnegennmpliaaDoor
