/- Arguments of any plain type as they come in: numbers, bools, strings, bytes, structs, slices of them. Conditions: none. -/
import Derived.Test.YtbcnegennmpliaaDoorRw
import Derived.Test.YtbcnegennmpliaaDoorSl12
namespace Go.Proofs.YtbcnegennmpliaaDoor
set_option linter.unusedVariables false
set_option linter.unusedSimpArgs false
open Go.RowKit Go.ChangeShapes Go.WideShapes Go.ChangeAt
section
variable {H : Type} {enc : TypeId × Value → H} {P : Program} {W : World} {held : Bool} {α β : Type}
def Opens (enc : TypeId × Value → H) (P : Program) (W : World) (held : Bool) (t : TypeId) (V : α → List Value → Prop) (Ok : α → Prop) : Prop :=
  ∀ fuel cs x, DataW.trod enc P W 0 (fun _ => true) held fuel t cs = some x → (∀ n ∈ x.1.weights P t, n ≤ reachBytes) → ∃ y, V y cs ∧ one cs ∧ cs.length = P.cellsOf t ∧ Ok y
theorem Opens.map {t : TypeId} {V : α → List Value → Prop} {V' : β → List Value → Prop} {Ok : α → Prop} {Ok' : β → Prop} (f : α → β) (h : Opens enc P W held t V Ok) (hV : ∀ x r, V x r → V' (f x) r) (hO : ∀ x, Ok x → Ok' (f x)) : Opens enc P W held t V' Ok' := fun fuel cs x h1 h2 =>
  let ⟨y, a, b, c, d⟩ := h fuel cs x h1 h2; ⟨f y, hV _ _ a, b, c, hO _ d⟩
theorem Opens.mono {t : TypeId} {V V' : α → List Value → Prop} {Ok Ok' : α → Prop} (h : Opens enc P W held t V Ok) (hV : ∀ x r, V x r → V' x r) (hO : ∀ x, Ok x → Ok' x) : Opens enc P W held t V' Ok' := fun fuel cs x h1 h2 =>
  let ⟨y, a, b, c, d⟩ := h fuel cs x h1 h2; ⟨y, hV _ _ a, b, c, hO _ d⟩
theorem opens_int {t : TypeId} {k : IntKind} (ht : P.underlying t = some (.int k)) (hc : P.cellsOf t = 1) : Opens enc P W held t (fun x r => r = [.int k x]) (okI k) := by
  intro fuel cs x h _
  cases fuel with
  | zero => simp [DataW.trod] at h
  | succ n =>
    unfold DataW.trod at h
    rw [ht] at h
    split at h <;> simp_all
    rename_i k' m
    obtain ⟨rfl, h1⟩ := h.1
    refine ⟨one_of rfl, ?_⟩
    simpa [Lit.wf, okI] using h1
theorem opens_str {t : TypeId} (ht : P.underlying t = some .string) (hc : P.cellsOf t = 1) : Opens enc P W held t (fun x r => r = [str x]) (fun x => x.length ≤ reachBytes) := by
  intro fuel cs x h hw
  cases fuel with
  | zero => simp [DataW.trod] at h
  | succ n =>
    unfold DataW.trod at h
    rw [ht] at h
    split at h <;> simp_all
    rename_i s
    obtain ⟨h1, rfl⟩ := h
    refine ⟨s.data.toList, ?_, one_of rfl, ?_⟩
    · simp [str]
    · exact hw s.data.toList.length (by simp [DataW.weights])
/-! Structs: their fields, one behind the other. -/
def trodL (enc : TypeId × Value → H) (P : Program) (W : World) (held : Bool) (fuel : Nat) : List TypeId → List Value → List (DataW H × List MemPlace) → Prop
  | [], cs, xs => cs = [] ∧ xs = []
  | t :: ts, cs, xs => ∃ c1 c2 x r, cs = c1 ++ c2 ∧ xs = x :: r ∧ DataW.trod enc P W 0 (fun _ => true) held fuel t c1 = some x ∧ trodL enc P W held fuel ts c2 r
def OpensL (enc : TypeId × Value → H) (P : Program) (W : World) (held : Bool) (ts : List TypeId) (V : α → List Value → Prop) (Ok : α → Prop) : Prop :=
  ∀ fuel cs xs, trodL enc P W held fuel ts cs xs → (∀ n ∈ DataW.weightsEach P ts (xs.map (·.1)), n ≤ reachBytes) → ∃ y, V y cs ∧ one cs ∧ Ok y
theorem opensL_one {t : TypeId} {V : α → List Value → Prop} {Ok : α → Prop} (h : Opens enc P W held t V Ok) : OpensL enc P W held [t] V Ok := by
  rintro fuel cs xs ⟨c1, c2, x, r, rfl, rfl, h1, rfl, rfl⟩ hw
  obtain ⟨y, a, b, c, d⟩ := h fuel c1 x h1 (fun n hn => hw n (by simp [DataW.weightsEach]; exact hn))
  exact ⟨y, by simpa using a, by simpa using b, d⟩
theorem opensL_cons {t : TypeId} {ts : List TypeId} {V : α → List Value → Prop} {Ok : α → Prop} {V2 : β → List Value → Prop} {Ok2 : β → Prop} (h : Opens enc P W held t V Ok) (h2 : OpensL enc P W held ts V2 Ok2) :
    OpensL enc P W held (t :: ts) (fun (x : α × β) cs => ∃ c1 c2, cs = c1 ++ c2 ∧ V x.1 c1 ∧ V2 x.2 c2) (fun x => Ok x.1 ∧ Ok2 x.2) := by
  rintro fuel cs xs ⟨c1, c2, x, r, rfl, rfl, h1, h3⟩ hw
  obtain ⟨y, a, b, c, d⟩ := h fuel c1 x h1 (fun n hn => hw n (by simp only [List.map_cons, DataW.weightsEach, List.mem_append]; exact .inl hn))
  obtain ⟨z, a2, b2, d2⟩ := h2 fuel c2 r h3 (fun n hn => hw n (by simp only [List.map_cons, DataW.weightsEach, List.mem_append]; exact .inr hn))
  exact ⟨(y, z), ⟨c1, c2, rfl, a, a2⟩, one_append b b2, d, d2⟩
def laidF (P : Program) : Nat → List Field → Bool
  | _, [] => true
  | k, f :: fs => Nat.beq f.offset k && laidF P (k + P.cellsOf f.type) fs
def sumF (P : Program) : List Field → Nat
  | [] => 0
  | f :: fs => P.cellsOf f.type + sumF P fs
theorem trodL_of (fuel : Nat) : ∀ (fs : List Field) (k : Nat) (cs : List Value) (xs : List (DataW H × List MemPlace)), laidF P k fs = true → cs.length = k + sumF P fs → xs.length = fs.length →
    (∀ (i : Nat) (f : Field), fs[i]? = some f → DataW.trod enc P W 0 (fun _ => true) held fuel f.type ((cs.drop f.offset).take (P.cellsOf f.type)) = xs[i]?) → trodL enc P W held fuel (fs.map (·.type)) (cs.drop k) xs
  | [], k, cs, xs, _, hl, hx, _ => by
    have : xs = [] := List.eq_nil_of_length_eq_zero (by simpa using hx)
    exact ⟨by rw [List.drop_of_length_le (by simp [sumF] at hl; omega)], this⟩
  | f :: fs, k, cs, [], _, _, hx, _ => by simp at hx
  | f :: fs, k, cs, x :: xs, hlaid, hl, hx, h => by
    simp only [laidF, Bool.and_eq_true] at hlaid
    have hoff : f.offset = k := Nat.eq_of_beq_eq_true hlaid.1
    simp only [sumF] at hl
    have h0 := h 0 f rfl
    rw [hoff] at h0
    refine ⟨(cs.drop k).take (P.cellsOf f.type), (cs.drop k).drop (P.cellsOf f.type), x, xs, (List.take_append_drop _ _).symm, rfl, by simpa using h0, ?_⟩
    have := trodL_of fuel fs (k + P.cellsOf f.type) cs xs hlaid.2 (by omega) (by simpa using hx) (fun i g hg => by simpa using h (i + 1) g (by simpa using hg))
    rw [List.drop_drop]
    exact this
theorem opens_struct {t : TypeId} {fs : Array Field} {V : α → List Value → Prop} {Ok : α → Prop} (ht : P.underlying t = some (.struct fs)) (hlaid : laidF P 0 fs.toList = true) (hsum : sumF P fs.toList = P.cellsOf t) {ts : List TypeId} (hts : fs.toList.map (·.type) = ts) (h : OpensL enc P W held ts V Ok) : Opens enc P W held t V Ok := by
  intro fuel cs x hx hw
  obtain ⟨xs, n, rfl, rfl, hl, hxl, hf⟩ := DataW.trod_struct ht hx
  have := trodL_of n fs.toList 0 cs xs hlaid (by rw [hl]; omega) (by simpa using hxl) (fun i f hi => hf i f (by simpa using hi))
  rw [hts] at this
  obtain ⟨y, a, b, c⟩ := h n cs xs (by simpa using this) (fun n hn => hw n (by simp only [DataW.weights, ht, hts]; exact hn))
  exact ⟨y, a, b, hl, c⟩
end
end Go.Proofs.YtbcnegennmpliaaDoor
