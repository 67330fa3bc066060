/- Arguments as they come in, and how much they hold: for the laws' second form. Conditions: none. -/
import Derived.Test.YtbcnegennmpliaaDoorRw2
import Derived.Deep.CondSized
import Derived.JoinedCond
namespace Go.Proofs.YtbcnegennmpliaaDoor
set_option linter.unusedVariables false
set_option linter.unusedSimpArgs false
open Go.RowKit Go.ChangeShapes Go.WideShapes Go.ChangeAt
class Mu (α : Type) where
  mu : α → Nat
instance : Mu Int := ⟨fun _ => 1⟩
instance : Mu Bool := ⟨fun _ => 1⟩
instance : Mu UInt8 := ⟨fun _ => 1⟩
instance {α β : Type} [Mu α] [Mu β] : Mu (α × β) := ⟨fun x => Mu.mu x.1 + Mu.mu x.2⟩
instance {α : Type} [Mu α] : Mu (List α) := ⟨fun l => (l.map Mu.mu).sum + 1⟩
theorem mu_int (x : Int) : Mu.mu x = 1 := rfl
theorem mu_bool (x : Bool) : Mu.mu x = 1 := rfl
theorem mu_pair {α β : Type} [Mu α] [Mu β] (x : α) (y : β) : Mu.mu (x, y) = Mu.mu x + Mu.mu y := rfl
theorem mu_list {α : Type} [Mu α] (l : List α) : Mu.mu l = (l.map Mu.mu).sum + 1 := rfl
theorem mu_cons {α : Type} [Mu α] (x : α) (l : List α) : Mu.mu (x :: l) = Mu.mu x + Mu.mu l := by simp [mu_list]; omega
theorem mu_bytes (l : List UInt8) : Mu.mu l = l.length + 1 := by
  have : ∀ l : List UInt8, (l.map Mu.mu).sum = l.length := by
    intro l
    induction l with
    | nil => rfl
    | cons x l ih =>
      simp only [List.map_cons, List.sum_cons, ih, List.length_cons]
      show 1 + _ = _
      omega
  rw [mu_list, this]
theorem bulk_all {H : Type} : ∀ l : List (DataW H), (l.map Rows.uptoBulk).sum = Rows.uptoBulkAll l
  | [] => by simp [Rows.uptoBulkAll]
  | d :: l => by simp [Rows.uptoBulkAll, bulk_all l]
theorem bulk_append {H : Type} (l r : List (DataW H)) : Rows.uptoBulkAll (l ++ r) = Rows.uptoBulkAll l + Rows.uptoBulkAll r := by
  rw [← bulk_all, ← bulk_all, ← bulk_all]; simp
theorem bulk_one {H : Type} (d : DataW H) : 1 ≤ Rows.uptoBulk d := by
  cases d with
  | lit l => cases l <;> simp [Rows.uptoBulk]
  | nil => simp [Rows.uptoBulk]
  | ptr d => simp [Rows.uptoBulk]
  | slice elems spare => simp [Rows.uptoBulk]
  | agg parts => simp [Rows.uptoBulk]
  | iface t d => simp [Rows.uptoBulk]
  | map entries => simp [Rows.uptoBulk]
  | held h => simp [Rows.uptoBulk]
theorem bulk_len {H : Type} : ∀ l : List (DataW H), l.length ≤ Rows.uptoBulkAll l
  | [] => by simp
  | d :: l => by have := bulk_len l; have := bulk_one d; simp [Rows.uptoBulkAll]; omega
section
variable {H : Type} {enc : TypeId × Value → H} {P : Program} {W : World} {held : Bool} {α β : Type} [Mu α] [Mu β]
def OpensU (enc : TypeId × Value → H) (P : Program) (W : World) (held : Bool) (t : TypeId) (V : α → List Value → Prop) (Ok : α → Prop) : Prop :=
  ∀ fuel cs x, DataW.trod enc P W 0 (fun _ => true) held fuel t cs = some x → (∀ n ∈ x.1.weights P t, n ≤ reachBytes) → ∃ y, V y cs ∧ one cs ∧ cs.length = P.cellsOf t ∧ Ok y ∧ Mu.mu y ≤ Rows.uptoBulk x.1
theorem OpensU.mono {t : TypeId} {V V' : α → List Value → Prop} {Ok Ok' : α → Prop} (h : OpensU enc P W held t V Ok) (hV : ∀ x r, V x r → V' x r) (hO : ∀ x, Ok x → Ok' x) : OpensU enc P W held t V' Ok' := fun fuel cs x h1 h2 =>
  let ⟨y, a, b, c, d⟩ := h fuel cs x h1 h2; ⟨y, hV _ _ a, b, c, hO _ d.1, d.2⟩
theorem opensU_int {t : TypeId} {k : IntKind} (ht : P.underlying t = some (.int k)) (hc : P.cellsOf t = 1) : OpensU enc P W held t (fun x r => r = [.int k x]) (okI k) := by
  intro fuel cs x h _
  cases fuel with
  | zero => simp [DataW.trod] at h
  | succ n =>
    unfold DataW.trod at h
    rw [ht] at h
    split at h <;> simp_all
    rename_i k' m
    obtain ⟨rfl, h1⟩ := h.1
    refine ⟨one_of rfl, ?_, ?_⟩
    · simpa [Lit.wf, okI] using h1
    · first | exact bulk_one _ | (rw [← h.2]; exact bulk_one _)
theorem opensU_bool {t : TypeId} (ht : P.underlying t = some .bool) (hc : P.cellsOf t = 1) : OpensU enc P W held t (fun x r => r = [.bool x]) (fun _ => True) := by
  intro fuel cs x h _
  cases fuel with
  | zero => simp [DataW.trod] at h
  | succ n =>
    unfold DataW.trod at h
    rw [ht] at h
    split at h <;> simp_all
    exact ⟨one_of rfl, bulk_one _⟩
theorem opensU_str {t : TypeId} (ht : P.underlying t = some .string) (hc : P.cellsOf t = 1) : OpensU enc P W held t (fun x r => r = [str x]) (fun x => x.length ≤ reachBytes) := by
  intro fuel cs x h hw
  cases fuel with
  | zero => simp [DataW.trod] at h
  | succ n =>
    unfold DataW.trod at h
    rw [ht] at h
    split at h <;> simp_all
    rename_i s
    obtain ⟨h1, rfl⟩ := h
    refine ⟨s.data.toList, ?_, one_of rfl, ?_, ?_⟩
    · simp [str]
    · exact hw s.data.toList.length (by simp [DataW.weights])
    · rw [mu_bytes]; simp [Rows.uptoBulk]
theorem opensU_bytes {t e : TypeId} (ht : P.underlying t = some (.slice e)) (he : P.underlying e = some (.int .u8)) (hc : P.cellsOf e = 1) (hB : P.bytesOf e = 1) (hct : P.cellsOf t = 1) :
    OpensU enc P W held t (fun x r => ∃ a c, r = [.slice a x.length c] ∧ Rd (heapF W) a (encB x) ∧ x.length ≤ c ∧ c ≤ maxLen) (fun x => x.length ≤ reachBytes) := by
  intro fuel cs x h hw
  obtain ⟨a, c, l, h1, h2, h3, h4, h5⟩ := open_bytes ht he hc hB h hw
  refine ⟨l, ⟨a, c, h1, h2, h3, h4⟩, by rw [h1]; exact one_of rfl, by rw [h1, hct]; rfl, h5, ?_⟩
  rw [mu_bytes]
  rcases open_ints ht he hc h with ⟨hcs, rfl⟩ | ⟨y, n, c', zs, hcs, _, hl, hm, hz, rfl, hcell, hwz⟩
  · rw [h1] at hcs
    have : l.length = 0 := by simp only [List.cons.injEq, Value.slice.injEq] at hcs; exact hcs.1.2.1
    rw [this]
    exact bulk_one _
  · rw [h1] at hcs
    have e1 : l.length = n := by simp only [List.cons.injEq, Value.slice.injEq] at hcs; exact hcs.1.2.1
    have hz : zs.length = c' := by simpa using hz
    have := bulk_len (lits (H := H) .u8 (zs.take n))
    have e2 : (lits (H := H) .u8 (zs.take n)).length = n := by simp [lits]; omega
    simp only [Rows.uptoBulk]
    omega
theorem opensU_list {t e : TypeId} {n B : Nat} {V : α → List Value → Prop} {Ok : α → Prop} (ht : P.underlying t = some (.slice e)) (hn : P.cellsOf e = n) (hB : P.bytesOf e = B) (hct : P.cellsOf t = 1) (hel : OpensU enc P W held e V Ok) :
    OpensU enc P W held t (fun (xs : List α) r => ∃ a c, r = [.slice a xs.length c] ∧ RdV (heapF W) n V a xs ∧ xs.length ≤ c ∧ c ≤ maxLen) (fun xs => xs.length * B ≤ reachBytes ∧ ∀ y ∈ xs, Ok y) := by
  intro fuel cs x h hw
  rcases DataW.trod_slice ht h with ⟨hcs, _⟩ | ⟨a, len, cap, elems, rest, m, _, rfl, rfl, hb, hl, hm, hlen, he2, _, _⟩
  · exact ⟨[], ⟨none, 0, hcs, RdV.nil, Nat.le_refl _, Nat.zero_le _⟩, by rw [hcs]; exact one_of rfl, by rw [hcs, hct]; rfl, ⟨by simp, by simp⟩, by rw [mu_list]; exact bulk_one _⟩
  · subst hn
    have hsz : len * B ≤ reachBytes := by
      have := hw (((elems.map (·.1)).length + (rest.map (·.1)).length) * P.bytesOf e) (by simp [DataW.weights, ht])
      rw [hB] at this
      simp only [List.length_map, hlen] at this
      exact Nat.le_trans (Nat.mul_le_mul_right _ (Nat.le_add_right _ _)) this
    have each : ∀ i, i < len → ∃ y r, V y r ∧ one r ∧ r.length = P.cellsOf e ∧ (Ok y ∧ ∀ q, elems[i]? = some q → Mu.mu y ≤ Rows.uptoBulk q.1) ∧ ∀ j v, r[j]? = some v → W.cell? (a.add (i * P.cellsOf e + j)) = some v := by
      intro i hi
      have h1 := he2 i hi
      obtain ⟨q, hq⟩ : ∃ q, elems[i]? = some q := ⟨_, List.getElem?_eq_getElem (by omega)⟩
      rw [hq] at h1
      obtain ⟨r, hr, htr⟩ := Option.bind_eq_some_iff.1 h1
      obtain ⟨hrl, hrc⟩ := cells_mapM hr
      obtain ⟨y, v1, v2, v3, v4⟩ := hel _ r q htr (fun n hn => hw n (by
        simp only [DataW.weights, ht, List.mem_cons, List.mem_append]
        exact .inr (.inl (weightsAll_mem (List.mem_map_of_mem (List.mem_of_getElem? hq)) n hn))))
      refine ⟨y, r, v1, v2, hrl, ⟨v4.1, fun q' hq' => by rw [hq] at hq'; cases hq'; exact v4.2⟩, fun j v hj => ?_⟩
      have := hrc j v hj
      have hadd : (a.add (i * P.cellsOf e)).add j = a.add (i * P.cellsOf e + j) := by
        by_cases h1 : i * P.cellsOf e = 0 <;> by_cases h2 : j = 0 <;> simp [Addr.add, h1, h2, Nat.add_assoc]
      rwa [hadd] at this
    have build : ∀ d i, i + d = len → ∃ xs rs, ListV (P.cellsOf e) V xs rs ∧ xs.length = d ∧ ((∀ y ∈ xs, Ok y) ∧ (xs.map Mu.mu).sum ≤ Rows.uptoBulkAll ((elems.drop i).map (·.1))) ∧ ∀ j v, rs.flatten[j]? = some v → W.cell? (a.add (i * P.cellsOf e + j)) = some v := by
      intro d
      induction d with
      | zero => intro i hi; exact ⟨[], [], trivial, rfl, ⟨by simp, by simp⟩, by simp⟩
      | succ d ih =>
        intro i hi
        obtain ⟨y, r, v1, v2, v3, v4, v5⟩ := each i (by omega)
        obtain ⟨xs, rs, w1, w2, w3, w4⟩ := ih (i + 1) (by omega)
        refine ⟨y :: xs, r :: rs, ⟨⟨v3, v2, v1⟩, w1⟩, by simp [w2], ⟨?_, ?_⟩, fun j v hj => ?_⟩
        · intro z hz
          rcases List.mem_cons.1 hz with rfl | hz
          · exact v4.1
          · exact w3.1 z hz
        · obtain ⟨q, hq⟩ : ∃ q, elems[i]? = some q := ⟨_, List.getElem?_eq_getElem (by omega)⟩
          have h1 := v4.2 q hq
          have h2 := w3.2
          obtain ⟨hi', hq'⟩ := List.getElem?_eq_some_iff.1 hq
          rw [List.drop_eq_getElem_cons hi', hq']
          simp only [List.map_cons, List.sum_cons, Rows.uptoBulkAll]
          omega
        · simp only [List.flatten_cons] at hj
          by_cases hjl : j < r.length
          · rw [List.getElem?_append_left hjl] at hj; exact v5 j v hj
          · rw [List.getElem?_append_right (by omega)] at hj
            have := w4 _ v hj
            rw [v3, Nat.add_mul] at this
            have e1 : i * P.cellsOf e + 1 * P.cellsOf e + (j - P.cellsOf e) = i * P.cellsOf e + j := by omega
            rwa [e1] at this
    obtain ⟨xs, rs, w1, w2, w3, w4⟩ := build len 0 (by omega)
    refine ⟨xs, ⟨some a, cap, by rw [w2], ⟨rs, w1, rd_cells fun j v hj => ?_⟩, by rw [w2]; exact hl, hm⟩, one_of rfl, by rw [hct]; rfl, ⟨by rw [w2]; exact hsz, w3.1⟩, by have h2 := w3.2; simp only [List.drop_zero] at h2; rw [mu_list]; simp only [Rows.uptoBulk]; omega⟩
    have := w4 j v hj
    simpa using this
def OpensLU (enc : TypeId × Value → H) (P : Program) (W : World) (held : Bool) (ts : List TypeId) (V : α → List Value → Prop) (Ok : α → Prop) : Prop :=
  ∀ fuel cs xs, trodL enc P W held fuel ts cs xs → (∀ n ∈ DataW.weightsEach P ts (xs.map (·.1)), n ≤ reachBytes) → ∃ y, V y cs ∧ one cs ∧ Ok y ∧ Mu.mu y ≤ Rows.uptoBulkAll (xs.map (·.1))
theorem opensLU_one {t : TypeId} {V : α → List Value → Prop} {Ok : α → Prop} (h : OpensU enc P W held t V Ok) : OpensLU enc P W held [t] V Ok := by
  rintro fuel cs xs ⟨c1, c2, x, r, rfl, rfl, h1, rfl, rfl⟩ hw
  obtain ⟨y, a, b, c, d⟩ := h fuel c1 x h1 (fun n hn => hw n (by simp [DataW.weightsEach]; exact hn))
  exact ⟨y, by simpa using a, by simpa using b, d.1, by simp only [List.map_cons, List.map_nil, Rows.uptoBulkAll]; exact d.2⟩
theorem opensLU_cons {t : TypeId} {ts : List TypeId} {V : α → List Value → Prop} {Ok : α → Prop} {V2 : β → List Value → Prop} {Ok2 : β → Prop} (h : OpensU enc P W held t V Ok) (h2 : OpensLU enc P W held ts V2 Ok2) :
    OpensLU enc P W held (t :: ts) (fun (x : α × β) cs => ∃ c1 c2, cs = c1 ++ c2 ∧ V x.1 c1 ∧ V2 x.2 c2) (fun x => Ok x.1 ∧ Ok2 x.2) := by
  rintro fuel cs xs ⟨c1, c2, x, r, rfl, rfl, h1, h3⟩ hw
  obtain ⟨y, a, b, c, d⟩ := h fuel c1 x h1 (fun n hn => hw n (by simp only [List.map_cons, DataW.weightsEach, List.mem_append]; exact .inl hn))
  obtain ⟨z, a2, b2, d2⟩ := h2 fuel c2 r h3 (fun n hn => hw n (by simp only [List.map_cons, DataW.weightsEach, List.mem_append]; exact .inr hn))
  exact ⟨(y, z), ⟨c1, c2, rfl, a, a2⟩, one_append b b2, ⟨d.1, d2.1⟩, by have h4 := d.2; have h5 := d2.2; simp only [List.map_cons, Rows.uptoBulkAll, mu_pair]; omega⟩
theorem opensU_struct {t : TypeId} {fs : Array Field} {V : α → List Value → Prop} {Ok : α → Prop} (ht : P.underlying t = some (.struct fs)) (hlaid : laidF P 0 fs.toList = true) (hsum : sumF P fs.toList = P.cellsOf t) {ts : List TypeId} (hts : fs.toList.map (·.type) = ts) (h : OpensLU enc P W held ts V Ok) : OpensU enc P W held t V Ok := by
  intro fuel cs x hx hw
  obtain ⟨xs, n, rfl, rfl, hl, hxl, hf⟩ := DataW.trod_struct ht hx
  have := trodL_of n fs.toList 0 cs xs hlaid (by rw [hl]; omega) (by simpa using hxl) (fun i f hi => hf i f (by simpa using hi))
  rw [hts] at this
  obtain ⟨y, a, b, c⟩ := h n cs xs (by simpa using this) (fun n hn => hw n (by simp only [DataW.weights, ht, hts]; exact hn))
  exact ⟨y, a, b, hl, c.1, by have h4 := c.2; simp only [Rows.uptoBulk]; omega⟩
end
end Go.Proofs.YtbcnegennmpliaaDoor
