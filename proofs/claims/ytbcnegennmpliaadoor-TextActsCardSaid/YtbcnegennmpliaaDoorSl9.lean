/- Rules in the forms that the printing program uses: rows of bytes, guards, pieces. Conditions: none. -/
import Derived.Test.YtbcnegennmpliaaDoorSl8
namespace Go.Proofs.YtbcnegennmpliaaDoor
set_option linter.unusedVariables false
set_option linter.unusedSimpArgs false
open Go.RowKit
theorem one_of {vs : List Value} (h : (vs.all fun v => v.oneCell') = true) : one vs := by
  intro v hv
  exact List.all_eq_true.1 h v hv
theorem Rd.pos {F : HA} {a : Option Addr} {cs : List Value} (h : Rd F a cs) (hn : cs ≠ []) : ∃ b off, a = some ⟨b, off, none⟩ := by
  rcases h with h | ⟨b, off, ha, _⟩
  · exact absurd h hn
  · exact ⟨b, off, ha⟩
theorem Rd.cell {F : HA} {a : Option Addr} {cs : List Value} (h : Rd F a cs) {H : List HA} {b off j : Nat} {v : Value} (k : Nat) (hk : H[k]? = some F) (ha : a = some ⟨b, off, none⟩) (hv : cs[j]? = some v) : CellAt H b (off + j) v := by
  rcases h with h | ⟨b', off', ha', hc⟩
  · subst h; simp at hv
  · rw [ha] at ha'; cases ha'
    refine .of k hk fun x hx => ?_
    obtain ⟨l, T, fz, h1, h2⟩ := hc x hx
    exact ⟨l, T, fz, h1, h2 j v hv⟩
theorem lk_cv {E : Env} {t : Nat} {g : Bool} {v : Value} (h : lk E t = some (cv g v)) (hg : g = true) : lk E t = some v := by rw [h, hg]; rfl
section
variable {K : Cx} {R S Y : Type} {Q : Post R} {E : Env} {H : List HA} {o : Option R} {ops : Array Oper} {rest : List Oper} {op : Oper}
theorem simL_cut' (n : Nat) (Y : Type) {l : List Oper} {o1 : Option S} {o2 : S → Option R} (E2 : S → Y → Env) (H2 : S → Y → List HA)
    (h1 : SimL K (cutQ K E2 H2) ops (l.take n) E H o1) (h2 : ∀ s y, SimL K Q ops (l.drop n) (E2 s y) (H2 s y) (o2 s)) : SimL K Q ops l E H (o1.bind o2) := by
  have := simL_cut (ops := ops) (l1 := l.take n) (l2 := l.drop n) Y E2 H2 h1 h2
  rwa [List.take_append_drop] at this
theorem simL_casep {p : Prop} [Decidable p] {o1 o2 : Option R} (h1 : decide p = true → SimL K Q ops rest E H o1) (h2 : decide p = false → SimL K Q ops rest E H o2) : SimL K Q ops rest E H (if p then o1 else o2) :=
  simL_if (fun h => h1 (by simpa using h)) (fun h => h2 (by simpa using h))
theorem simL_casen {p : Prop} [Decidable p] {o1 o2 : Option R} (h2 : (!decide p) = true → SimL K Q ops rest E H o2) (h1 : (!decide p) = false → SimL K Q ops rest E H o1) : SimL K Q ops rest E H (if p then o1 else o2) :=
  simL_if (fun h => h1 (by simpa using h)) (fun h => h2 (by simpa using h))
theorem simL_caseb {b : Bool} {o1 o2 : Option R} (h1 : b = true → SimL K Q ops rest E H o1) (h2 : b = false → SimL K Q ops rest E H o2) : SimL K Q ops rest E H (if b = true then o1 else o2) :=
  simL_if h1 (fun h => h2 (by simpa using h))
/-! Rows of bytes. -/
theorem re_eq {v v2 : Y → Value} {H1 H2 : Y → List HA} (h : RE K op E H v H1) (hv : ∀ y, v y = v2 y) (hH : ∀ y, Ent (H1 y) (H2 y)) : RE K op E H v2 H2 :=
  fun a w he hs next Q hn => h a w he hs next Q fun y w' s => by rw [hv]; exact hn y w' (s.ent (hH y))
theorem Ent.set {l : List HA} {A B : HA} (k : Nat) (h : ∀ x, A x → B x) : Ent (l.set k A) (l.set k B) := by
  induction l generalizing k with
  | nil => exact Ent.refl _
  | cons C l ih =>
    cases k with
    | zero => exact fun x s => star_mono x h (fun _ y => y) s
    | succ k => exact fun x s => star_mono x (fun _ y => y) (ih k) s
theorem row_eq {T sz n n' c : Nat} {a : Option Addr} {cs cs' : List Value} (h1 : n = n') (h2 : cs = cs') : ∀ x, Row T sz a n c cs x → Row T sz a n' c cs' x := by
  subst h1; subst h2; exact fun _ x => x
theorem re_appendb {x y : Operand} {t e : Nat} {zs : List Value} {a a2 : Option Addr} {c c2 : Nat} {l m : List UInt8} (k : Nat) (ho : op.op = .call { callee := .builtin .append, args := #[x, y], argTypes := #[t, t] })
    (hx : ev E x = some (.slice a l.length c)) (hy : ev E y = some (.slice a2 m.length c2)) (ht : K.P.underlying t = some (.slice e)) (hE : Elt K.P e 1 1 zs) (hk : H[k]? = some (Row e 1 a l.length c (encB l)))
    (hr : Rds (H.eraseIdx k) a2 (encB m)) (hb : (l.length + m.length) * 1 ≤ 140737488355328) :
    RE K (Y := Option Addr × Nat) op E H (fun y => .slice y.1 (l ++ m).length y.2) (fun y => H.set k (Row e 1 y.1 (l ++ m).length y.2 (encB (l ++ m)))) :=
  re_eq (re_append k ho hx hy ht hE hk hr (by rw [encB_length, Nat.mul_one]) (encB_one m) hb) (fun y => by simp) fun y => Ent.set k (row_eq (by simp) (by
    rw [encB_append, Nat.mul_one, List.take_of_length_le (by rw [encB_length]; exact Nat.le_refl _)]))
theorem re_litb {t e len : Nat} {l : List (Nat × Operand)} {vs : List (Nat × Value)} {cs : List Value} (bs : List UInt8) (ho : op.op = .buildSlice t len l.toArray) (hx : evP l E = some vs) (ht : K.P.underlying t = some (.slice e)) (hE : Elt K.P e 1 1 [.int .u8 0])
    (hb : Nat.ble (len * 1) 16777216 = true) (hf : Instr.fill (fun i => some (i * 1, 1)) ((Array.range (len * 1)).map ([Value.int .u8 0].toArray[· % [Value.int .u8 0].toArray.size]!)) vs = some cs.toArray) (h0 : Nat.blt 0 (len * 1) = true) (hl : bs.length = len) (heq : cs = encB bs) :
    RE K (Y := Nat) op E H (fun b => .slice (some ⟨b, 0, none⟩) bs.length len) (fun b => Row e 1 (some ⟨b, 0, none⟩) bs.length len (encB bs) :: H) :=
  re_eq (re_lit ho hx ht hE hb hf h0 (by rw [heq, encB_length, hl, Nat.mul_one])) (fun y => by rw [hl]) fun y => Ent.sel' 0 rfl (row_eq hl.symm heq) (Ent.refl _)
end
section
variable {K : Cx} {R S Y : Type} {Q : Post R} {E : Env} {H : List HA} {o : Option R} {ops : Array Oper} {rest : List Oper} {op : Oper} {cd : Code}
theorem simL_skipd {j dj d : Nat} {want b : Bool} (hg : op.guard = some (j, want)) (hj : ((ops[j]?).bind (·.dst)) = some dj) (hb : lk E dj = some (.bool b)) (hw : (b == want) = false)
    (hd : op.dst = some d) (hn : Nat.blt d K.n = true) (h : SimL K Q ops rest ((d, undef) :: E) H o) : SimL K Q ops (op :: rest) E H o := by
  intro r hr' a w he hs
  refine wpListIn_step fun K' hK' => ?_
  rw [wanted_of he hg hj hb, hw]
  simp only [Bool.false_eq_true, if_false]
  refine ⟨fun f _ => fen_fn _ _, hK' _ _ ?_⟩
  rw [hd]
  exact h r hr' _ w (he.put undef hn) hs
theorem simL_skipu {j dj d : Nat} {want : Bool} (hg : op.guard = some (j, want)) (hj : ((ops[j]?).bind (·.dst)) = some dj) (hb : lk E dj = some undef)
    (hd : op.dst = some d) (hn : Nat.blt d K.n = true) (h : SimL K Q ops rest ((d, undef) :: E) H o) : SimL K Q ops (op :: rest) E H o := by
  intro r hr' a w he hs
  refine wpListIn_step fun K' hK' => ?_
  have : Region.wanted op (yielded ops a.tmps) = false := by
    simp only [Region.wanted, hg, yielded, hj, Option.bind_some, he.get _ _ hb]
    rfl
  rw [this]
  simp only [Bool.false_eq_true, if_false]
  refine ⟨fun f _ => fen_fn _ _, hK' _ _ ?_⟩
  rw [hd]
  exact h r hr' _ w (he.put undef hn) hs
end
structure SlTo (a : Option Addr) (c : Nat) (lo : Int) (a' : Option Addr) (c' : Nat) : Prop where
  addr : a' = (if c = lo.toNat then a else a.map (·.add (lo.toNat * 1)))
  cap : c' = c - lo.toNat
section
variable {K : Cx} {R S Y : Type} {Q : Post R} {E : Env} {H : List HA} {o : Option R} {ops : Array Oper} {rest : List Oper} {op : Oper}
end
theorem byte_lit1 {t : Int} (h : 0 ≤ t ∧ t < 256) : [Value.int .u8 t] = encB [byte t] := by simp [encB, byte_toNat h.1 h.2]
end Go.Proofs.YtbcnegennmpliaaDoor
