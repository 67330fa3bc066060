/- Slices of structs and of slices, read and of our own; a slice's front, with what lies behind it. Conditions: none. -/
import Derived.Test.YtbcnegennmpliaaDoorSl11
namespace Go.Proofs.YtbcnegennmpliaaDoor
set_option linter.unusedVariables false
set_option linter.unusedSimpArgs false
open Go.RowKit

/-! ### 1. Lists of rows -/
def okI (k : IntKind) (x : Int) : Prop := k.min ≤ x ∧ x ≤ k.max
def ListV {α : Type} (n : Nat) (V : α → List Value → Prop) : List α → List (List Value) → Prop
  | [], [] => True
  | x :: xs, r :: rs => (r.length = n ∧ one r ∧ V x r) ∧ ListV n V xs rs
  | _, _ => False
section
variable {α : Type} {n : Nat} {V V' : α → List Value → Prop}
theorem ListV.mono (h : ∀ x r, V x r → V' x r) : ∀ {xs : List α} {rs : List (List Value)}, ListV n V xs rs → ListV n V' xs rs
  | [], [], _ => trivial
  | x :: xs, r :: rs, ⟨⟨a, b, c⟩, t⟩ => ⟨⟨a, b, h x r c⟩, ListV.mono h t⟩
theorem ListV.append : ∀ {xs ys : List α} {rs ss : List (List Value)}, ListV n V xs rs → ListV n V ys ss → ListV n V (xs ++ ys) (rs ++ ss)
  | [], ys, [], ss, _, h => h
  | x :: xs, ys, r :: rs, ss, ⟨a, t⟩, h => ⟨a, ListV.append t h⟩
theorem ListV.len : ∀ {xs : List α} {rs : List (List Value)}, ListV n V xs rs → rs.length = xs.length
  | [], [], _ => rfl
  | x :: xs, r :: rs, ⟨_, t⟩ => by simp [ListV.len t]
theorem ListV.flat : ∀ {xs : List α} {rs : List (List Value)}, ListV n V xs rs → rs.flatten.length = xs.length * n
  | [], [], _ => by simp
  | x :: xs, r :: rs, ⟨⟨a, _, _⟩, t⟩ => by simp [ListV.flat t, a, Nat.add_mul]; omega
theorem ListV.ones : ∀ {xs : List α} {rs : List (List Value)}, ListV n V xs rs → one rs.flatten
  | [], [], _ => by intro v h; simp at h
  | x :: xs, r :: rs, ⟨⟨_, b, _⟩, t⟩ => by
    intro v h
    simp only [List.flatten_cons, List.mem_append] at h
    rcases h with h | h
    · exact b v h
    · exact ListV.ones t v h
theorem ListV.at (d : α) : ∀ {xs : List α} {rs : List (List Value)} {i : Nat}, ListV n V xs rs → i < xs.length → ∃ r, V (xs.getD i d) r ∧ r.length = n ∧ one r ∧ ∀ (j : Nat) v, r[j]? = some v → rs.flatten[i * n + j]? = some v
  | x :: xs, r :: rs, 0, ⟨⟨a, b, c⟩, t⟩, _ => ⟨r, c, a, b, fun j v h => by
      have : j < r.length := (List.getElem?_eq_some_iff.1 h).1
      simp only [List.flatten_cons, Nat.zero_mul, Nat.zero_add]
      rw [List.getElem?_append_left this]; exact h⟩
  | x :: xs, r :: rs, i + 1, ⟨⟨a, b, c⟩, t⟩, h => by
    obtain ⟨q, h1, h2, h3, h4⟩ := ListV.at d t (i := i) (by simpa using h)
    refine ⟨q, by simpa using h1, h2, h3, fun j v hj => ?_⟩
    simp only [List.flatten_cons]
    rw [List.getElem?_append_right (by rw [a, Nat.add_mul]; omega), ← h4 j v hj, a]
    congr 1
    rw [Nat.add_mul]; omega
theorem ListV.take : ∀ {xs : List α} {rs : List (List Value)} (m : Nat), ListV n V xs rs → ListV n V (xs.take m) (rs.take m)
  | [], [], m, _ => by simp [ListV]
  | x :: xs, r :: rs, 0, _ => by simp [ListV]
  | x :: xs, r :: rs, m + 1, ⟨a, t⟩ => ⟨a, ListV.take m t⟩
theorem ListV.drop : ∀ {xs : List α} {rs : List (List Value)} (m : Nat), ListV n V xs rs → ListV n V (xs.drop m) (rs.drop m)
  | [], [], m, _ => by simp [ListV]
  | x :: xs, r :: rs, 0, h => h
  | x :: xs, r :: rs, m + 1, ⟨a, t⟩ => ListV.drop m t
theorem ListV.flat_drop : ∀ {xs : List α} {rs : List (List Value)} (m : Nat), ListV n V xs rs → (rs.drop m).flatten = rs.flatten.drop (m * n)
  | [], [], m, _ => by simp
  | x :: xs, r :: rs, 0, _ => by simp
  | x :: xs, r :: rs, m + 1, ⟨⟨a, _, _⟩, t⟩ => by
    simp only [List.drop_succ_cons, List.flatten_cons]
    rw [ListV.flat_drop m t, Nat.add_mul, Nat.one_mul, Nat.add_comm, ← List.drop_drop, ← a, List.drop_left']
    rfl
theorem ListV.flat_take : ∀ {xs : List α} {rs : List (List Value)} (m : Nat), ListV n V xs rs → (rs.take m).flatten = rs.flatten.take (m * n)
  | [], [], m, _ => by simp
  | x :: xs, r :: rs, 0, _ => by simp
  | x :: xs, r :: rs, m + 1, ⟨⟨a, _, _⟩, t⟩ => by
    simp only [List.take_succ_cons, List.flatten_cons]
    have e : (m + 1) * n = r.length + m * n := by rw [a, Nat.add_mul]; omega
    rw [ListV.flat_take m t, e, List.take_length_add_append]
end
def Up (G F : HA) : Prop := ∀ a cs, Rd G a cs → Rd F a cs
theorem Up.refl (F : HA) : Up F F := fun _ _ h => h
theorem Up.trans {A B C : HA} (h : Up A B) (h' : Up B C) : Up A C := fun a cs x => h' a cs (h a cs x)
theorem Up.lend {F : HA} {l : List HA} (k : Nat) (hk : l[k]? = some F) : Up F (stars l) := fun _ _ h => h.lend k hk
theorem Rd.up {G F : HA} {a : Option Addr} {cs : List Value} (h : Rd G a cs) (u : Up G F) : Rd F a cs := u a cs h
def RdV {α : Type} (F : HA) (n : Nat) (V : α → List Value → Prop) (a : Option Addr) (xs : List α) : Prop := ∃ rs, ListV n V xs rs ∧ Rd F a rs.flatten
def RdsV {α : Type} (H : List HA) (n : Nat) (V : α → List Value → Prop) (a : Option Addr) (xs : List α) : Prop := ∃ rs, ListV n V xs rs ∧ Rds H a rs.flatten
def RowV {α : Type} (T : TypeId) (n : Nat) (V : α → List Value → Prop) (a : Option Addr) (xs : List α) (c : Nat) : HA := fun h => ∃ rs, ListV n V xs rs ∧ Row T n a xs.length c rs.flatten h
section
variable {α : Type} {n : Nat} {V V' : α → List Value → Prop} {F : HA} {a : Option Addr} {xs : List α}
theorem RdV.nil : RdV F n V a ([] : List α) := ⟨[], trivial, .inl rfl⟩
theorem RdV.mono (h : RdV F n V a xs) (hV : ∀ x r, V x r → V' x r) : RdV F n V' a xs := let ⟨rs, h1, h2⟩ := h; ⟨rs, h1.mono hV, h2⟩
theorem RdV.up {G : HA} (h : RdV G n V a xs) (u : Up G F) (hV : ∀ x r, V x r → V' x r) : RdV F n V' a xs := let ⟨rs, h1, h2⟩ := h; ⟨rs, h1.mono hV, h2.up u⟩
theorem RdV.pos {G : HA} (h : RdV G n V a xs) (u : Up G F) (hn : Nat.blt 0 n = true) {i : Nat} (hi : i < xs.length) (d : α) :
    ∃ b off r, a = some ⟨b, off, none⟩ ∧ V (xs.getD i d) r ∧ r.length = n ∧ ∀ {H : List HA} (k : Nat), H[k]? = some F → ∀ j v, r[j]? = some v → CellAt H b (off + i * n + j) v := by
  obtain ⟨rs, h1, h2⟩ := h
  have hn : 0 < n := by simpa [Nat.blt_eq] using hn
  obtain ⟨r, hV, hl, _, hc⟩ := h1.at d hi
  rcases u _ _ h2 with h0 | ⟨b, off, ha, hz⟩
  · have := h1.flat
    rw [h0] at this
    have h1 : 1 ≤ xs.length * n := Nat.mul_pos (by omega) hn
    simp at this
    omega
  · refine ⟨b, off, r, ha, hV, hl, fun {H} k hk j v hj => .of k hk fun x hx => ?_⟩
    obtain ⟨l, T, fz, e1, e2⟩ := hz x hx
    exact ⟨l, T, fz, e1, by rw [Nat.add_assoc]; exact e2 _ _ (hc j v hj)⟩
theorem RdV.cut (h : RdV F n V a xs) (lo hi : Nat) {c : Nat} (hc : hi ≤ c) : RdV F n V (if c = lo then a else a.map (·.add (lo * n))) ((xs.take hi).drop lo) := by
  obtain ⟨rs, h1, h2⟩ := h
  by_cases e : c = lo
  · rw [if_pos e]
    have : (xs.take hi).drop lo = [] := by rw [List.drop_of_length_le (by rw [List.length_take]; omega)]
    rw [this]; exact .nil
  · rw [if_neg e]
    refine ⟨(rs.take hi).drop lo, (h1.take hi).drop lo, ?_⟩
    rw [(h1.take hi).flat_drop, h1.flat_take]
    exact (h2.take _).drop _
theorem RowV.mk {T : TypeId} {c : Nat} {rs : List (List Value)} (h : ListV n V xs rs) : ∀ p, Row T n a xs.length c rs.flatten p → RowV T n V a xs c p := fun _ x => ⟨rs, h, x⟩
theorem Ent.rowV_nil {l m : List HA} {T : TypeId} (r : Ent l m) : Ent l (RowV T n V none ([] : List α) 0 :: m) := fun h s =>
  ⟨fun _ => none, h, fun _ => .inl rfl, (by funext i; simp [un]), ⟨[], trivial, Row.nil T n _⟩, r h s⟩
end
section
variable {K : Cx} {R S Y α : Type} {Q : Post R} {E : Env} {H : List HA} {opt : Option R} {ops : Array Oper} {rest : List Oper} {o : Oper} {n : Nat} {V : α → List Value → Prop} {a : Option Addr} {xs : List α} {T : TypeId} {c : Nat}
theorem sat_openV {W w : World} {H : List HA} (k : Nat) (hk : H[k]? = some (RowV T n V a xs c)) (s : Sat W H w) : ∃ rs, ListV n V xs rs ∧ Sat W (H.set k (Row T n a xs.length c rs.flatten)) w := by
  obtain ⟨x, y, d, e, ⟨rs, h1, h2⟩, r⟩ := (s.focus hk).hp
  exact ⟨rs, h1, Sat.unfocus (B := Row T n a xs.length c rs.flatten) hk ⟨s.os, s.tape, s.output, s.size, x, y, d, e, h2, r⟩⟩
theorem simL_openV (k : Nat) (hk : H[k]? = some (RowV T n V a xs c)) (h : ∀ rs, ListV n V xs rs → SimL K Q ops rest E (H.set k (Row T n a xs.length c rs.flatten)) opt) : SimL K Q ops rest E H opt := by
  intro r hr a' w he hs
  obtain ⟨rs, h1, s⟩ := sat_openV k hk hs
  exact h rs h1 r hr a' w he s
theorem sim_openV {c' : Code} (k : Nat) (hk : H[k]? = some (RowV T n V a xs c)) (h : ∀ rs, ListV n V xs rs → Sim K Q c' E (H.set k (Row T n a xs.length c rs.flatten)) opt) : Sim K Q c' E H opt := by
  intro r hr a' w he hs
  obtain ⟨rs, h1, s⟩ := sat_openV k hk hs
  exact h rs h1 r hr a' w he s
theorem RdsV.row {rs : List (List Value)} (h : ListV n V xs rs) {m : Nat} (k : Nat) (hk : H[k]? = some (Row T n a m c rs.flatten)) : RdsV H n V a xs := ⟨rs, h, .row k hk⟩
theorem RdsV.nil : RdsV H n V a ([] : List α) := ⟨[], trivial, .nil _ _⟩
theorem Rd.asV {F : HA} {rs : List (List Value)} (h : ListV n V xs rs) (hr : Rd F a rs.flatten) : RdV F n V a xs := ⟨rs, h, hr⟩
theorem simL_posV {rs : List (List Value)} {i : Nat} (k : Nat) (hk : H[k]? = some (Row T n a xs.length c rs.flatten)) (hl : ListV n V xs rs) (hn : Nat.blt 0 n = true) (hi : i < xs.length) (d : α)
    (h : ∀ b off r, a = some ⟨b, off, none⟩ → V (xs.getD i d) r → r.length = n → (∀ {H' : List HA} (k : Nat), H'[k]? = some (Row T n a xs.length c rs.flatten) → ∀ j v, r[j]? = some v → CellAt H' b (off + i * n + j) v) → SimL K Q ops rest E H opt) : SimL K Q ops rest E H opt := by
  have hn : 0 < n := by simpa [Nat.blt_eq] using hn
  obtain ⟨r, hV, hlr, _, hc⟩ := hl.at d hi
  refine simL_row k hk ?_ fun b off ha => h b off r ha hV hlr ?_
  · intro h0
    have := hl.flat
    rw [h0] at this
    have h1 : 1 ≤ xs.length * n := Nat.mul_pos (by omega) hn
    simp at this
    omega
  · intro H' k' hk' j v hj
    rw [Nat.add_assoc]
    subst ha
    exact CellAt.row k' hk' (hc j v hj)
theorem one_append {l m : List Value} (h : one l) (h' : one m) : one (l ++ m) := fun v hv => by
  rcases List.mem_append.1 hv with x | x
  · exact h v x
  · exact h' v x
theorem re_appendV {x y : Operand} {t e bytes : Nat} {zs : List Value} {a2 : Option Addr} {c2 : Nat} {ys : List α} {rs : List (List Value)} (k : Nat) (ho : o.op = .call { callee := .builtin .append, args := #[x, y], argTypes := #[t, t] })
    (hx : ev E x = some (.slice a xs.length c)) (hy : ev E y = some (.slice a2 ys.length c2)) (ht : K.P.underlying t = some (.slice e)) (hE : Elt K.P e n bytes zs) (hk : H[k]? = some (Row e n a xs.length c rs.flatten)) (hl : ListV n V xs rs)
    (hr : RdsV (H.eraseIdx k) n V a2 ys) (hb : (xs.length + ys.length) * bytes ≤ 140737488355328) :
    RE K (Y := Option Addr × Nat) o E H (fun y => .slice y.1 (xs ++ ys).length y.2) (fun y => H.set k (RowV e n V y.1 (xs ++ ys) y.2)) := by
  obtain ⟨ss, h1, h2⟩ := hr
  have := re_append (K := K) (E := E) (H := H) k ho hx hy ht hE hk h2 (by rw [h1.flat]) h1.ones hb
  intro a' w he hs next Q hn
  refine this a' w he hs next Q fun y w' s => ?_
  have hlen : (xs ++ ys).length = xs.length + ys.length := List.length_append
  have e1 : Value.slice y.1 (xs ++ ys).length y.2 = .slice y.1 (xs.length + ys.length) y.2 := by rw [hlen]
  have := hn y w'
  simp only [e1] at this
  refine this ?_
  have hkl : k < H.length := (List.getElem?_eq_some_iff.1 hk).1
  have s2 : Sat K.W (Row e n y.1 (xs.length + ys.length) y.2 (rs.flatten.take (xs.length * n) ++ ss.flatten) :: H.eraseIdx k) w' := s.ent fun h x => by rw [stars_put H k _ hkl]; exact x
  have hfl := hl.flat
  refine (s2.ent (Ent.sel' 0 rfl (fun p hp => ?_) (Ent.refl _))).ent fun h x => by rw [← stars_put H k _ hkl]; exact x
  refine ⟨rs ++ ss, hl.append h1, ?_⟩
  rw [hlen, List.flatten_append]
  rwa [List.take_of_length_le (by rw [hfl]; exact Nat.le_refl _)] at hp
theorem re_litV {t e bytes len : Nat} {zs : List Value} {l : List (Nat × Operand)} {vs : List (Nat × Value)} {cs : List Value} (rs : List (List Value)) (ho : o.op = .buildSlice t len l.toArray) (hx : evP l E = some vs) (ht : K.P.underlying t = some (.slice e)) (hE : Elt K.P e n bytes zs)
    (hb : Nat.ble (len * n) 16777216 = true) (hf : Instr.fill (fun i => some (i * n, n)) ((Array.range (len * n)).map (zs.toArray[· % zs.toArray.size]!)) vs = some cs.toArray) (h0 : Nat.blt 0 (len * n) = true) (hr : ListV n V xs rs) (hcs : rs.flatten = cs) (hlen : xs.length = len) :
    RE K (Y := Nat) o E H (fun b => .slice (some ⟨b, 0, none⟩) xs.length len) (fun b => Row e n (some ⟨b, 0, none⟩) xs.length len rs.flatten :: H) := by
  subst hcs
  subst hlen
  exact re_lit ho hx ht hE hb hf h0 hr.flat

/-! ### 2. A slice's front, with what lies behind it -/
end
end Go.Proofs.YtbcnegennmpliaaDoor
