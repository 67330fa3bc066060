/- Arguments of any plain type as they come in: numbers, bools, strings, bytes, structs, slices of them. Conditions: none. -/
import Derived.Test.YtbcnegennmpliaaDoorRw
import Derived.Test.YtbcnegennmpliaaDoorSl12
namespace Go.Proofs.YtbcnegennmpliaaDoor
set_option linter.unusedVariables false
set_option linter.unusedSimpArgs false
open Go.RowKit Go.ChangeShapes Go.WideShapes Go.ChangeAt
section
variable {H : Type} {enc : TypeId × Value → H} {P : Program} {W : World} {held : Bool} {α β : Type}
def Opens (enc : TypeId × Value → H) (P : Program) (W : World) (held : Bool) (t : TypeId) (V : α → List Value → Prop) (Ok : α → Prop) : Prop :=
  ∀ fuel cs x, DataW.trod enc P W 0 (fun _ => true) held fuel t cs = some x → (∀ n ∈ x.1.weights P t, n ≤ reachBytes) → ∃ y, V y cs ∧ one cs ∧ cs.length = P.cellsOf t ∧ Ok y
theorem Opens.map {t : TypeId} {V : α → List Value → Prop} {V' : β → List Value → Prop} {Ok : α → Prop} {Ok' : β → Prop} (f : α → β) (h : Opens enc P W held t V Ok) (hV : ∀ x r, V x r → V' (f x) r) (hO : ∀ x, Ok x → Ok' (f x)) : Opens enc P W held t V' Ok' := fun fuel cs x h1 h2 =>
  let ⟨y, a, b, c, d⟩ := h fuel cs x h1 h2; ⟨f y, hV _ _ a, b, c, hO _ d⟩
theorem Opens.mono {t : TypeId} {V V' : α → List Value → Prop} {Ok Ok' : α → Prop} (h : Opens enc P W held t V Ok) (hV : ∀ x r, V x r → V' x r) (hO : ∀ x, Ok x → Ok' x) : Opens enc P W held t V' Ok' := fun fuel cs x h1 h2 =>
  let ⟨y, a, b, c, d⟩ := h fuel cs x h1 h2; ⟨y, hV _ _ a, b, c, hO _ d⟩
theorem opens_int {t : TypeId} {k : IntKind} (ht : P.underlying t = some (.int k)) (hc : P.cellsOf t = 1) : Opens enc P W held t (fun x r => r = [.int k x]) (okI k) := by
  intro fuel cs x h _
  cases fuel with
  | zero => simp [DataW.trod] at h
  | succ n =>
    unfold DataW.trod at h
    rw [ht] at h
    split at h <;> simp_all
    rename_i k' m
    obtain ⟨rfl, h1⟩ := h.1
    refine ⟨one_of rfl, ?_⟩
    simpa [Lit.wf, okI] using h1
theorem opens_bool {t : TypeId} (ht : P.underlying t = some .bool) (hc : P.cellsOf t = 1) : Opens enc P W held t (fun x r => r = [.bool x]) (fun _ => True) := by
  intro fuel cs x h _
  cases fuel with
  | zero => simp [DataW.trod] at h
  | succ n =>
    unfold DataW.trod at h
    rw [ht] at h
    split at h <;> simp_all
    exact one_of rfl
theorem opens_str {t : TypeId} (ht : P.underlying t = some .string) (hc : P.cellsOf t = 1) : Opens enc P W held t (fun x r => r = [str x]) (fun x => x.length ≤ reachBytes) := by
  intro fuel cs x h hw
  cases fuel with
  | zero => simp [DataW.trod] at h
  | succ n =>
    unfold DataW.trod at h
    rw [ht] at h
    split at h <;> simp_all
    rename_i s
    obtain ⟨h1, rfl⟩ := h
    refine ⟨s.data.toList, ?_, one_of rfl, ?_⟩
    · simp [str]
    · exact hw s.data.toList.length (by simp [DataW.weights])
theorem opens_bytes {t e : TypeId} (ht : P.underlying t = some (.slice e)) (he : P.underlying e = some (.int .u8)) (hc : P.cellsOf e = 1) (hB : P.bytesOf e = 1) (hct : P.cellsOf t = 1) :
    Opens enc P W held t (fun x r => ∃ a c, r = [.slice a x.length c] ∧ Rd (heapF W) a (encB x) ∧ x.length ≤ c ∧ c ≤ maxLen) (fun x => x.length ≤ reachBytes) := by
  intro fuel cs x h hw
  obtain ⟨a, c, l, h1, h2, h3, h4, h5⟩ := open_bytes ht he hc hB h hw
  exact ⟨l, ⟨a, c, h1, h2, h3, h4⟩, by rw [h1]; exact one_of rfl, by rw [h1, hct]; rfl, h5⟩
theorem weightsAll_mem {e : TypeId} : ∀ {ds : List (DataW H)} {d : DataW H}, d ∈ ds → ∀ n ∈ d.weights P e, n ∈ DataW.weightsAll P e ds
  | d' :: ds, d, h, n, hn => by
    simp only [DataW.weightsAll, List.mem_append]
    rcases List.mem_cons.1 h with rfl | h
    · exact .inl hn
    · exact .inr (weightsAll_mem h n hn)
theorem cells_mapM {W : World} {a : Addr} {n : Nat} {cs : List Value} (h : W.cells? 0 a n = some cs) : cs.length = n ∧ ∀ j v, cs[j]? = some v → W.cell? (a.add j) = some v := by
  unfold World.cells? at h
  rw [if_pos (Nat.zero_le _)] at h
  have hl := mapM_some_length h
  have hl : cs.length = n := by simpa using hl
  refine ⟨hl, fun j v hj => ?_⟩
  have hjn : j < n := by have := (List.getElem?_eq_some_iff.1 hj).1; omega
  have := mapM_some_get h j j (by simp [hjn])
  rw [this, hj]
theorem opens_list {t e : TypeId} {n B : Nat} {V : α → List Value → Prop} {Ok : α → Prop} (ht : P.underlying t = some (.slice e)) (hn : P.cellsOf e = n) (hB : P.bytesOf e = B) (hct : P.cellsOf t = 1) (hel : Opens enc P W held e V Ok) :
    Opens enc P W held t (fun (xs : List α) r => ∃ a c, r = [.slice a xs.length c] ∧ RdV (heapF W) n V a xs ∧ xs.length ≤ c ∧ c ≤ maxLen) (fun xs => xs.length * B ≤ reachBytes ∧ ∀ y ∈ xs, Ok y) := by
  intro fuel cs x h hw
  rcases DataW.trod_slice ht h with ⟨hcs, _⟩ | ⟨a, len, cap, elems, rest, m, _, rfl, rfl, hb, hl, hm, hlen, he2, _, _⟩
  · exact ⟨[], ⟨none, 0, hcs, RdV.nil, Nat.le_refl _, Nat.zero_le _⟩, by rw [hcs]; exact one_of rfl, by rw [hcs, hct]; rfl, by simp, by simp⟩
  · subst hn
    have hsz : len * B ≤ reachBytes := by
      have := hw (((elems.map (·.1)).length + (rest.map (·.1)).length) * P.bytesOf e) (by simp [DataW.weights, ht])
      rw [hB] at this
      simp only [List.length_map, hlen] at this
      exact Nat.le_trans (Nat.mul_le_mul_right _ (Nat.le_add_right _ _)) this
    have each : ∀ i, i < len → ∃ y r, V y r ∧ one r ∧ r.length = P.cellsOf e ∧ Ok y ∧ ∀ j v, r[j]? = some v → W.cell? (a.add (i * P.cellsOf e + j)) = some v := by
      intro i hi
      have h1 := he2 i hi
      obtain ⟨q, hq⟩ : ∃ q, elems[i]? = some q := ⟨_, List.getElem?_eq_getElem (by omega)⟩
      rw [hq] at h1
      obtain ⟨r, hr, htr⟩ := Option.bind_eq_some_iff.1 h1
      obtain ⟨hrl, hrc⟩ := cells_mapM hr
      obtain ⟨y, v1, v2, v3, v4⟩ := hel _ r q htr (fun n hn => hw n (by
        simp only [DataW.weights, ht, List.mem_cons, List.mem_append]
        exact .inr (.inl (weightsAll_mem (List.mem_map_of_mem (List.mem_of_getElem? hq)) n hn))))
      refine ⟨y, r, v1, v2, hrl, v4, fun j v hj => ?_⟩
      have := hrc j v hj
      have hadd : (a.add (i * P.cellsOf e)).add j = a.add (i * P.cellsOf e + j) := by
        by_cases h1 : i * P.cellsOf e = 0 <;> by_cases h2 : j = 0 <;> simp [Addr.add, h1, h2, Nat.add_assoc]
      rwa [hadd] at this
    have build : ∀ d i, i + d = len → ∃ xs rs, ListV (P.cellsOf e) V xs rs ∧ xs.length = d ∧ (∀ y ∈ xs, Ok y) ∧ ∀ j v, rs.flatten[j]? = some v → W.cell? (a.add (i * P.cellsOf e + j)) = some v := by
      intro d
      induction d with
      | zero => intro i hi; exact ⟨[], [], trivial, rfl, by simp, by simp⟩
      | succ d ih =>
        intro i hi
        obtain ⟨y, r, v1, v2, v3, v4, v5⟩ := each i (by omega)
        obtain ⟨xs, rs, w1, w2, w3, w4⟩ := ih (i + 1) (by omega)
        refine ⟨y :: xs, r :: rs, ⟨⟨v3, v2, v1⟩, w1⟩, by simp [w2], ?_, fun j v hj => ?_⟩
        · intro z hz
          rcases List.mem_cons.1 hz with rfl | hz
          · exact v4
          · exact w3 z hz
        · simp only [List.flatten_cons] at hj
          by_cases hjl : j < r.length
          · rw [List.getElem?_append_left hjl] at hj; exact v5 j v hj
          · rw [List.getElem?_append_right (by omega)] at hj
            have := w4 _ v hj
            rw [v3, Nat.add_mul] at this
            have e1 : i * P.cellsOf e + 1 * P.cellsOf e + (j - P.cellsOf e) = i * P.cellsOf e + j := by omega
            rwa [e1] at this
    obtain ⟨xs, rs, w1, w2, w3, w4⟩ := build len 0 (by omega)
    refine ⟨xs, ⟨some a, cap, by rw [w2], ⟨rs, w1, rd_cells fun j v hj => ?_⟩, by rw [w2]; exact hl, hm⟩, one_of rfl, by rw [hct]; rfl, by rw [w2]; exact hsz, w3⟩
    have := w4 j v hj
    simpa using this
/-! Structs: their fields, one behind the other. -/
def trodL (enc : TypeId × Value → H) (P : Program) (W : World) (held : Bool) (fuel : Nat) : List TypeId → List Value → List (DataW H × List MemPlace) → Prop
  | [], cs, xs => cs = [] ∧ xs = []
  | t :: ts, cs, xs => ∃ c1 c2 x r, cs = c1 ++ c2 ∧ xs = x :: r ∧ DataW.trod enc P W 0 (fun _ => true) held fuel t c1 = some x ∧ trodL enc P W held fuel ts c2 r
def OpensL (enc : TypeId × Value → H) (P : Program) (W : World) (held : Bool) (ts : List TypeId) (V : α → List Value → Prop) (Ok : α → Prop) : Prop :=
  ∀ fuel cs xs, trodL enc P W held fuel ts cs xs → (∀ n ∈ DataW.weightsEach P ts (xs.map (·.1)), n ≤ reachBytes) → ∃ y, V y cs ∧ one cs ∧ Ok y
theorem opensL_one {t : TypeId} {V : α → List Value → Prop} {Ok : α → Prop} (h : Opens enc P W held t V Ok) : OpensL enc P W held [t] V Ok := by
  rintro fuel cs xs ⟨c1, c2, x, r, rfl, rfl, h1, rfl, rfl⟩ hw
  obtain ⟨y, a, b, c, d⟩ := h fuel c1 x h1 (fun n hn => hw n (by simp [DataW.weightsEach]; exact hn))
  exact ⟨y, by simpa using a, by simpa using b, d⟩
theorem opensL_cons {t : TypeId} {ts : List TypeId} {V : α → List Value → Prop} {Ok : α → Prop} {V2 : β → List Value → Prop} {Ok2 : β → Prop} (h : Opens enc P W held t V Ok) (h2 : OpensL enc P W held ts V2 Ok2) :
    OpensL enc P W held (t :: ts) (fun (x : α × β) cs => ∃ c1 c2, cs = c1 ++ c2 ∧ V x.1 c1 ∧ V2 x.2 c2) (fun x => Ok x.1 ∧ Ok2 x.2) := by
  rintro fuel cs xs ⟨c1, c2, x, r, rfl, rfl, h1, h3⟩ hw
  obtain ⟨y, a, b, c, d⟩ := h fuel c1 x h1 (fun n hn => hw n (by simp only [List.map_cons, DataW.weightsEach, List.mem_append]; exact .inl hn))
  obtain ⟨z, a2, b2, d2⟩ := h2 fuel c2 r h3 (fun n hn => hw n (by simp only [List.map_cons, DataW.weightsEach, List.mem_append]; exact .inr hn))
  exact ⟨(y, z), ⟨c1, c2, rfl, a, a2⟩, one_append b b2, d, d2⟩
def laidF (P : Program) : Nat → List Field → Bool
  | _, [] => true
  | k, f :: fs => Nat.beq f.offset k && laidF P (k + P.cellsOf f.type) fs
def sumF (P : Program) : List Field → Nat
  | [] => 0
  | f :: fs => P.cellsOf f.type + sumF P fs
theorem trodL_of (fuel : Nat) : ∀ (fs : List Field) (k : Nat) (cs : List Value) (xs : List (DataW H × List MemPlace)), laidF P k fs = true → cs.length = k + sumF P fs → xs.length = fs.length →
    (∀ (i : Nat) (f : Field), fs[i]? = some f → DataW.trod enc P W 0 (fun _ => true) held fuel f.type ((cs.drop f.offset).take (P.cellsOf f.type)) = xs[i]?) → trodL enc P W held fuel (fs.map (·.type)) (cs.drop k) xs
  | [], k, cs, xs, _, hl, hx, _ => by
    have : xs = [] := List.eq_nil_of_length_eq_zero (by simpa using hx)
    exact ⟨by rw [List.drop_of_length_le (by simp [sumF] at hl; omega)], this⟩
  | f :: fs, k, cs, [], _, _, hx, _ => by simp at hx
  | f :: fs, k, cs, x :: xs, hlaid, hl, hx, h => by
    simp only [laidF, Bool.and_eq_true] at hlaid
    have hoff : f.offset = k := Nat.eq_of_beq_eq_true hlaid.1
    simp only [sumF] at hl
    have h0 := h 0 f rfl
    rw [hoff] at h0
    refine ⟨(cs.drop k).take (P.cellsOf f.type), (cs.drop k).drop (P.cellsOf f.type), x, xs, (List.take_append_drop _ _).symm, rfl, by simpa using h0, ?_⟩
    have := trodL_of fuel fs (k + P.cellsOf f.type) cs xs hlaid.2 (by omega) (by simpa using hx) (fun i g hg => by simpa using h (i + 1) g (by simpa using hg))
    rw [List.drop_drop]
    exact this
theorem opens_struct {t : TypeId} {fs : Array Field} {V : α → List Value → Prop} {Ok : α → Prop} (ht : P.underlying t = some (.struct fs)) (hlaid : laidF P 0 fs.toList = true) (hsum : sumF P fs.toList = P.cellsOf t) {ts : List TypeId} (hts : fs.toList.map (·.type) = ts) (h : OpensL enc P W held ts V Ok) : Opens enc P W held t V Ok := by
  intro fuel cs x hx hw
  obtain ⟨xs, n, rfl, rfl, hl, hxl, hf⟩ := DataW.trod_struct ht hx
  have := trodL_of n fs.toList 0 cs xs hlaid (by rw [hl]; omega) (by simpa using hxl) (fun i f hi => hf i f (by simpa using hi))
  rw [hts] at this
  obtain ⟨y, a, b, c⟩ := h n cs xs (by simpa using this) (fun n hn => hw n (by simp only [DataW.weights, ht, hts]; exact hn))
  exact ⟨y, a, b, hl, c⟩
end
end Go.Proofs.YtbcnegennmpliaaDoor
