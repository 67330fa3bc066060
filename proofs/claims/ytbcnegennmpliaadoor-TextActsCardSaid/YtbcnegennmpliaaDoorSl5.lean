/- Slices of the call's own as parts of the heap; slices that are read; append, make, copy, slicing, indexing, lengths; bytes and strings. Conditions: none. -/
import Derived.Test.YtbcnegennmpliaaDoorSl4
import Derived.Laws.Append
import Derived.Laws.BytesString
import Derived.Laws.AppendOwn
namespace Go.Proofs.YtbcnegennmpliaaDoor
set_option linter.unusedVariables false
set_option linter.unusedSimpArgs false
open Go.RowKit

/-! ### 1. Rows -/
structure RowOk (sz off n c : Nat) (pre cs junk : List Value) (fz : Nat × Nat) : Prop where
  offs : pre.length = off
  le : n ≤ c
  cap : c ≤ maxLen
  room : c * sz ≤ cs.length + junk.length
  len : n * sz ≤ cs.length
  top : cs.length ≤ c * sz
  fzok : fz.1 = fz.2 ∨ off + c * sz ≤ fz.1
theorem RowOk.free {sz off n c : Nat} {pre cs junk : List Value} {fz : Nat × Nat} (ok : RowOk sz off n c pre cs junk fz) : ∀ j, off ≤ j → j < off + c * sz → ¬ (fz.1 ≤ j ∧ j < fz.2) := fun j _ h x => by
  rcases ok.fzok with h' | h' <;> omega
def Row (T : TypeId) (sz : Nat) (a : Option Addr) (n c : Nat) (cs : List Value) : HA := fun h =>
  (a = none ∧ n = 0 ∧ c = 0 ∧ cs = []) ∨
  ∃ b off pre junk fz, a = some ⟨b, off, none⟩ ∧ RowOk sz off n c pre cs junk fz ∧ h b = some (.cells (pre ++ cs ++ junk).toArray T fz)
theorem Sat.row_cases {W w : World} {l : List HA} {T : TypeId} {sz n c : Nat} {a : Option Addr} {cs : List Value} (s : Sat W (Row T sz a n c cs :: l) w) :
    (a = none ∧ n = 0 ∧ c = 0 ∧ cs = []) ∨ ∃ b off pre junk fz, a = some ⟨b, off, none⟩ ∧ RowOk sz off n c pre cs junk fz ∧ Sat W (pts b (.cells (pre ++ cs ++ junk).toArray T fz) :: l) w := by
  obtain ⟨x, y, d, e, h, r⟩ := s.hp
  rcases h with h | ⟨b, off, pre, junk, fz, ha, ok, hb⟩
  · exact .inl h
  · exact .inr ⟨b, off, pre, junk, fz, ha, ok, s.os, s.tape, s.output, s.size, x, y, d, e, hb, r⟩
theorem Row.mk {T : TypeId} {sz n c b off : Nat} {pre cs junk : List Value} {fz : Nat × Nat} (ok : RowOk sz off n c pre cs junk fz) : ∀ h, pts b (.cells (pre ++ cs ++ junk).toArray T fz) h → Row T sz (some ⟨b, off, none⟩) n c cs h :=
  fun _ x => .inr ⟨b, off, pre, junk, fz, rfl, ok, x⟩
theorem Row.nil (T : TypeId) (sz : Nat) (h : Hp) : Row T sz none 0 0 [] h := .inl ⟨rfl, rfl, rfl, rfl⟩
theorem Ent.row_nil {l m : List HA} {T : TypeId} {sz : Nat} (r : Ent l m) : Ent l (Row T sz none 0 0 [] :: m) := fun h s =>
  ⟨fun _ => none, h, fun _ => .inl rfl, (by funext i; simp [un]), Row.nil T sz _, r h s⟩
theorem Sat.focus {W w : World} {H : List HA} {A : HA} {k : Nat} (hk : H[k]? = some A) (s : Sat W H w) : Sat W (A :: H.eraseIdx k) w := s.ent fun h x => by rw [stars_sel H k _ hk] at x; exact x
theorem Sat.unfocus {W w : World} {H : List HA} {A B : HA} {k : Nat} (hk : H[k]? = some A) (s : Sat W (B :: H.eraseIdx k) w) : Sat W (H.set k B) w :=
  s.ent fun h x => by rw [← stars_put H k _ (List.getElem?_eq_some_iff.1 hk).1]; exact x
theorem getElem?_mid {pre cs junk : List Value} {j : Nat} {v : Value} (h : cs[j]? = some v) : (pre ++ cs ++ junk)[pre.length + j]? = some v := by
  have hj : j < cs.length := (List.getElem?_eq_some_iff.1 h).1
  rw [List.append_assoc, List.getElem?_append_right (by omega), List.getElem?_append_left (by omega)]
  simpa using h
theorem CellAt.row {H : List HA} {T : TypeId} {sz n c b off j : Nat} {cs : List Value} {v : Value} (k : Nat) (hk : H[k]? = some (Row T sz (some ⟨b, off, none⟩) n c cs)) (hv : cs[j]? = some v) : CellAt H b (off + j) v :=
  .of k hk fun a ha => by
    rcases ha with ⟨h, _⟩ | ⟨b', off', pre, junk, fz, e, ok, hb⟩
    · cases h
    · cases e
      refine ⟨_, T, fz, hb, ?_⟩
      have := getElem?_mid (pre := pre) (junk := junk) hv
      rw [ok.offs] at this
      simpa using this
def Rds (H : List HA) (a : Option Addr) (cs : List Value) : Prop := ∀ h, stars H h → cs = [] ∨ ∃ b off, a = some ⟨b, off, none⟩ ∧ ∃ l T fz, h b = some (.cells l T fz) ∧ ∀ j v, cs[j]? = some v → l[off + j]? = some v
def Rd (F : HA) (a : Option Addr) (cs : List Value) : Prop := cs = [] ∨ ∃ b off, a = some ⟨b, off, none⟩ ∧ ∀ h, F h → ∃ l T fz, h b = some (.cells l T fz) ∧ ∀ j v, cs[j]? = some v → l[off + j]? = some v
theorem Rds.of {H : List HA} {A : HA} {a : Option Addr} {cs : List Value} (k : Nat) (hk : H[k]? = some A) (hA : ∀ x, A x → cs = [] ∨ ∃ b off, a = some ⟨b, off, none⟩ ∧ ∃ l T fz, x b = some (.cells l T fz) ∧ ∀ j v, cs[j]? = some v → l[off + j]? = some v) : Rds H a cs := by
  intro h s
  obtain ⟨x, hx, hz⟩ := knows_at H k A hk h s
  rcases hA x hx with e | ⟨b, off, ha, l, T, fz, h1, h2⟩
  · exact .inl e
  · exact .inr ⟨b, off, ha, l, T, fz, hz _ _ h1, h2⟩
theorem Rds.row {H : List HA} {T : TypeId} {sz n c : Nat} {a : Option Addr} {cs : List Value} (k : Nat) (hk : H[k]? = some (Row T sz a n c cs)) : Rds H a cs :=
  .of k hk fun x hx => by
    rcases hx with ⟨_, _, _, h⟩ | ⟨b, off, pre, junk, fz, e, ok, hb⟩
    · exact .inl h
    · refine .inr ⟨b, off, e, _, T, fz, hb, fun j v hj => ?_⟩
      have := getElem?_mid (pre := pre) (junk := junk) hj
      rw [ok.offs] at this
      simpa using this
theorem Rds.nil (H : List HA) (a : Option Addr) : Rds H a [] := fun _ _ => .inl rfl
theorem Rds.cells {H : List HA} {a : Option Addr} {cs : List Value} (h : Rds H a cs) {W w : World} (s : Sat W H w) : cs = [] ∨ ∃ b off, a = some ⟨b, off, none⟩ ∧ ∀ j v, cs[j]? = some v → w.cell? ⟨b, off + j, none⟩ = some v := by
  rcases h _ s.hp with h | ⟨b, off, ha, l, T, fz, h1, h2⟩
  · exact .inl h
  · refine .inr ⟨b, off, ha, fun j v hj => ?_⟩
    simp only [hpw] at h1
    simp [World.cell?, h1, h2 j v hj]
theorem Rd.lend {F : HA} {a : Option Addr} {cs : List Value} (h : Rd F a cs) {l : List HA} (k : Nat) (hk : l[k]? = some F) : Rd (stars l) a cs := by
  rcases h with h | ⟨b, off, ha, hc⟩
  · exact .inl h
  · refine .inr ⟨b, off, ha, fun x hx => ?_⟩
    obtain ⟨y, hy, hz⟩ := knows_at l k F hk x hx
    obtain ⟨l', T, fz, h1, h2⟩ := hc y hy
    exact ⟨l', T, fz, hz _ _ h1, h2⟩
theorem Rd.take {F : HA} {a : Option Addr} {cs : List Value} (h : Rd F a cs) (n : Nat) : Rd F a (cs.take n) := by
  rcases h with h | ⟨b, off, ha, hc⟩
  · left; simp [h]
  · refine .inr ⟨b, off, ha, fun x hx => ?_⟩
    obtain ⟨l, T, fz, h1, h2⟩ := hc x hx
    refine ⟨l, T, fz, h1, fun j v hj => h2 j v ?_⟩
    rw [List.getElem?_take] at hj
    split at hj
    · exact hj
    · cases hj
theorem Rd.drop {F : HA} {a : Option Addr} {cs : List Value} (h : Rd F a cs) (n : Nat) : Rd F (a.map (·.add n)) (cs.drop n) := by
  rcases h with h | ⟨b, off, ha, hc⟩
  · left; simp [h]
  · refine .inr ⟨b, off + n, ?_, fun x hx => ?_⟩
    · rw [ha]; simp only [Option.map_some, Option.some.injEq]; unfold Addr.add; split <;> simp_all
    · obtain ⟨l, T, fz, h1, h2⟩ := hc x hx
      refine ⟨l, T, fz, h1, fun j v hj => ?_⟩
      rw [List.getElem?_drop] at hj
      rw [Nat.add_assoc]
      exact h2 _ v hj
theorem Rd.nil (F : HA) (a : Option Addr) : Rd F a [] := .inl rfl

section
variable {K : Cx} {R S Y : Type} {Q : Post R} {E : Env} {H : List HA} {opt : Option R} {ops : Array Oper} {rest : List Oper} {o : Oper}
theorem simL_row {T : TypeId} {sz n c : Nat} {a : Option Addr} {cs : List Value} (k : Nat) (hk : H[k]? = some (Row T sz a n c cs)) (hn : cs ≠ []) (h : ∀ b off, a = some ⟨b, off, none⟩ → SimL K Q ops rest E H opt) : SimL K Q ops rest E H opt := by
  intro r hr a' w he hs
  rcases (hs.focus hk).row_cases with ⟨_, _, _, h0⟩ | ⟨b, off, pre, junk, fz, ha, _⟩
  · exact absurd h0 hn
  · exact h b off ha r hr a' w he hs
theorem simL_lend {T : TypeId} {sz n c : Nat} {a : Option Addr} {cs : List Value} (k : Nat) (hk : H[k]? = some (Row T sz a n c cs)) (h : Rd (Row T sz a n c cs) a cs → n ≤ c → c ≤ maxLen → n * sz ≤ cs.length → SimL K Q ops rest E H opt) : SimL K Q ops rest E H opt := by
  intro r hr a' w he hs
  rcases (hs.focus hk).row_cases with ⟨h1, h2, h3, h0⟩ | ⟨b, off, pre, junk, fz, ha, ok, _⟩
  · subst h2; subst h3
    exact h (.inl h0) (Nat.le_refl _) (Nat.zero_le _) (by simp) r hr a' w he hs
  · subst ha
    refine h (.inr ⟨b, off, rfl, fun x hx => ?_⟩) ok.le ok.cap ok.len r hr a' w he hs
    rcases hx with ⟨h, _⟩ | ⟨b', off', pre', junk', fz', e, ok', hb⟩
    · cases h
    · cases e
      refine ⟨_, T, fz', hb, fun j v hj => ?_⟩
      have := getElem?_mid (pre := pre') (junk := junk') hj
      rw [ok'.offs] at this
      simpa using this

/-! ### 2. Lengths, elements, cuts -/
theorem q_built {b : Builtin} {xs : List Operand} {vs : List Value} {ts : Array TypeId} {v : Value} (ho : o.op = .call { callee := .builtin b, args := xs.toArray, argTypes := ts }) (hx : evs xs E = some vs)
    (hr : ∀ cs w, (builtin b ts o.type cs vs.toArray).run K.P w = .ok (.value v) w) : RQ K o E H v :=
  rq_same (by rw [ho]; intro c h; cases h) fun a w he _ => by
    unfold execOp; simp only [ho]
    have : xs.toArray.map a.eval = vs.toArray := by rw [← evs_map he xs vs hx]; simp
    simp only [resolve, this, Sem.run_bind, Sem.run_pure, Result.andThen_ok, invoke]
    exact hr _ w
theorem q_len {x : Operand} {t e : TypeId} {ts : Array TypeId} {a : Option Addr} {n c : Nat} (ho : o.op = .call { callee := .builtin .len, args := #[x], argTypes := ts }) (hx : ev E x = some (.slice a n c)) (ht : ts[0]? = some t) (hu : K.P.underlying t = some (.slice e)) : RQ K o E H (.int .i64 (n : Int)) :=
  q_built (xs := [x]) (vs := [.slice a n c]) ho (by simp [evs, hx]) fun cs w => by simp [builtin, Builtin.len_, ht, underlying, program, Sem.run, hu, goInt]
theorem q_lens {x : Operand} {t : TypeId} {ts : Array TypeId} {l : List UInt8} (ho : o.op = .call { callee := .builtin .len, args := #[x], argTypes := ts }) (hx : ev E x = some (str l)) (ht : ts[0]? = some t) (hu : K.P.underlying t = some .string) : RQ K o E H (.int .i64 (l.length : Int)) :=
  q_built (xs := [x]) (vs := [str l]) ho (by simp [evs, hx]) fun cs w => by
    have hsz : (ByteArray.mk l.toArray).size = l.length := by show l.toArray.size = _; simp
    simp [builtin, Builtin.len_, ht, underlying, program, Sem.run, hu, goInt, str, hsz]
theorem q_max {x y : Operand} {ts : Array TypeId} {k k' : IntKind} {m n : Int} (ho : o.op = .call { callee := .builtin .max, args := #[x, y], argTypes := ts }) (hx : ev E x = some (.int k m)) (hy : ev E y = some (.int k' n)) : RQ K o E H (.int k (max m n)) :=
  q_built (xs := [x, y]) (vs := [.int k m, .int k' n]) ho (by simp [evs, hx, hy]) fun cs w => by
    have : (if n > m then n else m) = max m n := by split <;> omega
    simp [builtin, Builtin.max_, Builtin.max2]; omega
theorem q_min {x y : Operand} {ts : Array TypeId} {k k' : IntKind} {m n : Int} (ho : o.op = .call { callee := .builtin .min, args := #[x, y], argTypes := ts }) (hx : ev E x = some (.int k m)) (hy : ev E y = some (.int k' n)) : RQ K o E H (.int k (min m n)) :=
  q_built (xs := [x, y]) (vs := [.int k m, .int k' n]) ho (by simp [evs, hx, hy]) fun cs w => by
    simp [builtin, Builtin.min_, Builtin.min2]; omega
theorem q_idx {x y : Operand} {t e : TypeId} {a : Option Addr} {n c b off sz : Nat} {k : IntKind} {i : Int} (ho : o.op = .indexAddr t x y) (hx : ev E x = some (.slice a n c)) (hy : ev E y = some (.int k i)) (ha : a = some ⟨b, off, none⟩)
    (hu : K.P.underlying t = some (.slice e)) (hs : ∀ w, (sizeOf e).run K.P w = .ok sz w) (h0 : 0 ≤ i) (h1 : i < n) : RQ K o E H (.pointer (some ⟨b, off + i.toNat * sz, none⟩)) :=
  rq_same (by rw [ho]; intro c h; cases h) fun a' w he _ => by
    unfold execOp; simp only [ho]; rw [he.ev hx, he.ev hy, ha]
    have hadd : (⟨b, off, none⟩ : Addr).add (i.toNat * sz) = ⟨b, off + i.toNat * sz, none⟩ := by unfold Addr.add; split <;> simp_all
    simp [Instr.indexAt, asIntOf, underlying, program, Sem.run, hu, hs, h0, h1, hadd]
theorem q_idx1 {x y : Operand} {t e : TypeId} {a : Option Addr} {n c b off : Nat} {k : IntKind} {i : Int} (ho : o.op = .indexAddr t x y) (hx : ev E x = some (.slice a n c)) (hy : ev E y = some (.int k i)) (ha : a = some ⟨b, off, none⟩)
    (hu : K.P.underlying t = some (.slice e)) (hs : ∀ w, (sizeOf e).run K.P w = .ok 1 w) (h0 : 0 ≤ i) (h1 : i < n) : RQ K o E H (.pointer (some ⟨b, off + i.toNat, none⟩)) := by
  have := q_idx (K := K) (H := H) (sz := 1) ho hx hy ha hu hs h0 h1
  rwa [Nat.mul_one] at this
theorem q_sidx {x y : Operand} {t : TypeId} {l : List UInt8} {k : IntKind} {i : Int} (ho : o.op = .index t x y) (hx : ev E x = some (str l)) (hy : ev E y = some (.int k i))
    (hu : K.P.underlying t = some .string) (h0 : 0 ≤ i) (h1 : i < l.length) : RQ K o E H (.int .u8 ((l.getD i.toNat 0).toNat : Int)) :=
  rq_same (by rw [ho]; intro c h; cases h) fun a' w he _ => by
    unfold execOp; simp only [ho]; rw [he.ev hx, he.ev hy]
    have hi : i.toNat < l.length := by omega
    have h2 : (ByteArray.mk l.toArray)[i.toNat]? = some (l.getD i.toNat 0) := by
      have : (ByteArray.mk l.toArray)[i.toNat]? = l[i.toNat]? := by
        rw [getElem?_pos (ByteArray.mk l.toArray) i.toNat (by simpa [ByteArray.size] using hi), List.getElem?_eq_getElem hi]
        rfl
      rw [this]; simp [List.getD_eq_getElem?_getD, List.getElem?_eq_getElem hi]
    simp [Instr.index, asIntOf, underlying, program, Sem.run, hu, h0, str, h2]
def lim (E : Env) : Option Operand → Option (Option Value)
  | none => some none
  | some x => match ev E x with
    | some v => some (some v)
    | none => none
theorem lim_eval {n : Nat} {ds : List Deferred} {a : Act} (he : Has n ds E a) {lo : Option Operand} {vl : Option Value} (hl : lim E lo = some vl) : lo.map a.eval = vl := by
  cases lo with
  | none => simp [lim] at hl; simp [hl]
  | some z =>
    simp only [lim] at hl
    split at hl
    · rename_i v e
      cases hl
      simp [he.ev e]
    · cases hl
theorem q_sslice {x : Operand} {t : TypeId} {lo hi : Option Operand} {s : List UInt8} {l h : Nat} {vl vh : Option Value} (ho : o.op = .slice t x lo hi none) (hx : ev E x = some (str s))
    (hl : lim E lo = some vl) (hh : lim E hi = some vh) (hu : K.P.underlying t = some .string)
    (h1 : (vh = none ∧ h = s.length) ∨ ∃ k, vh = some (.int k (h : Int))) (h2 : (vl = none ∧ l = 0) ∨ ∃ k, vl = some (.int k (l : Int))) (hlh : l ≤ h) (hhc : h ≤ s.length) :
    RQ K o E H (str ((s.take h).drop l)) :=
  rq_same (by rw [ho]; intro c h; cases h) fun a' w he _ => by
    unfold execOp; simp only [ho]; rw [he.ev hx]
    rw [lim_eval he hl, lim_eval he hh]
    have hsz : (ByteArray.mk s.toArray).size = s.length := by show s.toArray.size = _; simp
    have e3 : (Instr.sliceBounds false s.length s.length vl vh none).run K.P w = .ok (l, h, s.length) w := by
      unfold Instr.sliceBounds
      rcases h1 with ⟨rfl, rfl⟩ | ⟨k, rfl⟩ <;> rcases h2 with ⟨rfl, rfl⟩ | ⟨k', rfl⟩ <;> simp [Instr.sliceBound, asIntOf, hlh, hhc, Int.toNat_natCast]
    have e4 : (ByteArray.mk s.toArray).extract l h = ⟨((s.take h).drop l).toArray⟩ := by
      apply ByteArray.ext
      rw [ByteArray.data_extract]
      simp [List.extract_toArray, List.drop_take, List.extract_eq_take_drop]
    simp [Instr.sliceAt, underlying, program, Sem.run, hu, Instr.slice, str, hsz, e3, e4]
end
end Go.Proofs.YtbcnegennmpliaaDoor
