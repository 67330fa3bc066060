/- Lists of our own: elements written, made, empty ones; cuts of lists, read, or the row going on under them; structs within structs compared. Conditions: none. -/
import Derived.Test.YtbcnegennmpliaaDoorSl15
namespace Go.Proofs.YtbcnegennmpliaaDoor
set_option linter.unusedVariables false
set_option linter.unusedSimpArgs false
set_option linter.unusedSectionVars false
open Go.RowKit
theorem setL_app_left (vs : List Value) (l m : List Value) (k : Nat) (h : k + vs.length ≤ l.length) : setL (l ++ m) k vs = setL l k vs ++ m := by
  rw [setL_eq _ _ _ (by simp; omega), setL_eq _ _ _ h, List.take_append_of_le_length (by omega), List.drop_append_of_le_length h]
  simp
theorem setL_app_right (vs : List Value) (l m : List Value) (k : Nat) (h : k + vs.length ≤ m.length) : setL (l ++ m) (l.length + k) vs = l ++ setL m k vs := by
  rw [setL_eq _ _ _ (by simp; omega), setL_eq _ _ _ h]
  rw [List.take_append, List.drop_append, List.take_of_length_le (by omega), List.drop_of_length_le (by omega)]
  rw [show l.length + k - l.length = k by omega, show l.length + k + vs.length - l.length = k + vs.length by omega]
  simp
section
variable {α : Type} {n : Nat} {V : α → List Value → Prop}
theorem ListV.set (u : α) (d : Nat) (vs : List Value) (hd : d + vs.length ≤ n) (h1 : one vs) (dflt : α) : ∀ {xs : List α} {rs : List (List Value)} (i : Nat), ListV n V xs rs → i < xs.length → (∀ r, V (xs.getD i dflt) r → r.length = n → one r → V u (setL r d vs)) →
    ∃ rs', ListV n V (xs.set i u) rs' ∧ setL rs.flatten (i * n + d) vs = rs'.flatten
  | x :: xs, r :: rs, 0, ⟨⟨a, b, c⟩, t⟩, _, hu => by
    refine ⟨setL r d vs :: rs, ⟨⟨by rw [setL_length]; exact a, ?_, hu r c a b⟩, t⟩, ?_⟩
    · rw [setL_eq _ _ _ (by omega)]
      intro v hv
      simp only [List.mem_append] at hv
      rcases hv with (hv | hv) | hv
      · exact b v (List.mem_of_mem_take hv)
      · exact h1 v hv
      · exact b v (List.mem_of_mem_drop hv)
    · simp only [List.flatten_cons, Nat.zero_mul, Nat.zero_add]
      exact setL_app_left vs r _ d (by omega)
  | x :: xs, r :: rs, i + 1, ⟨⟨a, b, c⟩, t⟩, h, hu => by
    obtain ⟨rs', h2, h3⟩ := ListV.set u d vs hd h1 dflt i t (by simpa using h) (by simpa using hu)
    refine ⟨r :: rs', ⟨⟨a, b, c⟩, h2⟩, ?_⟩
    simp only [List.flatten_cons]
    have hfl := t.flat
    have hi : i < xs.length := by simpa using h
    have hin : i * n + d + vs.length ≤ rs.flatten.length := by
      rw [hfl]
      have : (i + 1) * n ≤ xs.length * n := Nat.mul_le_mul_right _ hi
      rw [Nat.add_mul] at this
      omega
    rw [← h3, show (i + 1) * n + d = r.length + (i * n + d) by rw [Nat.add_mul, a]; omega]
    exact setL_app_right vs r _ _ hin
end
structure SlToV (n : Nat) (a : Option Addr) (c : Nat) (lo : Int) (a' : Option Addr) (c' : Nat) : Prop where
  addr : a' = (if c = lo.toNat then a else a.map (·.add (lo.toNat * n)))
  cap : c' = c - lo.toNat
section
variable {K : Cx} {R S Y α : Type} {Q : Post R} {E : Env} {H : List HA} {opt : Option R} {ops : Array Oper} {rest : List Oper} {o : Oper} {n : Nat} {V : α → List Value → Prop} {a : Option Addr} {xs : List α} {T : TypeId} {c : Nat}
end
/-! ### Structs within structs -/
section
variable {P : Program} {d : Nat} {xs ys : Array Value} {f : Field} {fs : List Field} {a b : Value} {r s : Bool} {w : World}
end
section
variable {K : Cx} {E : Env} {H : List HA} {o : Oper}
end
end Go.Proofs.YtbcnegennmpliaaDoor
