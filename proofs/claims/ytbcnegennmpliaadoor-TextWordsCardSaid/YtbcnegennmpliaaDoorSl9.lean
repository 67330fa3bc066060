/- Rules in the forms that the printing program uses: rows of bytes, guards, pieces. Conditions: none. -/
import Derived.Test.YtbcnegennmpliaaDoorSl8
namespace Go.Proofs.YtbcnegennmpliaaDoor
set_option linter.unusedVariables false
set_option linter.unusedSimpArgs false
open Go.RowKit
theorem one_of {vs : List Value} (h : (vs.all fun v => v.oneCell') = true) : one vs := by
  intro v hv
  exact List.all_eq_true.1 h v hv
theorem one_int (k : IntKind) (n : Int) : one [.int k n] := one_of rfl
theorem Rd.pos {F : HA} {a : Option Addr} {cs : List Value} (h : Rd F a cs) (hn : cs ≠ []) : ∃ b off, a = some ⟨b, off, none⟩ := by
  rcases h with h | ⟨b, off, ha, _⟩
  · exact absurd h hn
  · exact ⟨b, off, ha⟩
theorem Rd.cell {F : HA} {a : Option Addr} {cs : List Value} (h : Rd F a cs) {H : List HA} {b off j : Nat} {v : Value} (k : Nat) (hk : H[k]? = some F) (ha : a = some ⟨b, off, none⟩) (hv : cs[j]? = some v) : CellAt H b (off + j) v := by
  rcases h with h | ⟨b', off', ha', hc⟩
  · subst h; simp at hv
  · rw [ha] at ha'; cases ha'
    refine .of k hk fun x hx => ?_
    obtain ⟨l, T, fz, h1, h2⟩ := hc x hx
    exact ⟨l, T, fz, h1, h2 j v hv⟩
theorem CellAt.row' {H : List HA} {T : TypeId} {sz n c b off j : Nat} {a : Option Addr} {cs : List Value} {v : Value} (k : Nat) (hk : H[k]? = some (Row T sz a n c cs)) (ha : a = some ⟨b, off, none⟩) (hv : cs[j]? = some v) : CellAt H b (off + j) v := by
  subst ha; exact .row k hk hv
theorem lk_cv {E : Env} {t : Nat} {g : Bool} {v : Value} (h : lk E t = some (cv g v)) (hg : g = true) : lk E t = some v := by rw [h, hg]; rfl
def copyB (l m : List UInt8) : List UInt8 := m.take l.length ++ l.drop m.length
theorem copyB_length (l m : List UInt8) : (copyB l m).length = l.length := by unfold copyB; simp; omega
section
variable {K : Cx} {R S Y : Type} {Q : Post R} {E : Env} {H : List HA} {o : Option R} {ops : Array Oper} {rest : List Oper} {op : Oper}
theorem simL_cut' (n : Nat) (Y : Type) {l : List Oper} {o1 : Option S} {o2 : S → Option R} (E2 : S → Y → Env) (H2 : S → Y → List HA)
    (h1 : SimL K (cutQ K E2 H2) ops (l.take n) E H o1) (h2 : ∀ s y, SimL K Q ops (l.drop n) (E2 s y) (H2 s y) (o2 s)) : SimL K Q ops l E H (o1.bind o2) := by
  have := simL_cut (ops := ops) (l1 := l.take n) (l2 := l.drop n) Y E2 H2 h1 h2
  rwa [List.take_append_drop] at this
theorem simL_casep {p : Prop} [Decidable p] {o1 o2 : Option R} (h1 : decide p = true → SimL K Q ops rest E H o1) (h2 : decide p = false → SimL K Q ops rest E H o2) : SimL K Q ops rest E H (if p then o1 else o2) :=
  simL_if (fun h => h1 (by simpa using h)) (fun h => h2 (by simpa using h))
theorem simL_casen {p : Prop} [Decidable p] {o1 o2 : Option R} (h2 : (!decide p) = true → SimL K Q ops rest E H o2) (h1 : (!decide p) = false → SimL K Q ops rest E H o1) : SimL K Q ops rest E H (if p then o1 else o2) :=
  simL_if (fun h => h1 (by simpa using h)) (fun h => h2 (by simpa using h))
theorem simL_caseb {b : Bool} {o1 o2 : Option R} (h1 : b = true → SimL K Q ops rest E H o1) (h2 : b = false → SimL K Q ops rest E H o2) : SimL K Q ops rest E H (if b = true then o1 else o2) :=
  simL_if h1 (fun h => h2 (by simpa using h))
theorem q_mkfn {f : FuncId} {xs ys : List Operand} {us vs : List Value} (ho : op.op = .makeFunc (.func f) xs.toArray ys.toArray) (hx : evs xs E = some us) (hy : evs ys E = some vs) : RQ K op E H (.func (.func f) us.toArray vs.toArray) :=
  rq_same (by rw [ho]; intro c h; cases h) fun a w he _ => by
    unfold execOp; simp only [ho]
    have e1 : xs.toArray.map a.eval = us.toArray := by rw [← evs_map he xs us hx]; simp
    have e2 : ys.toArray.map a.eval = vs.toArray := by rw [← evs_map he ys vs hy]; simp
    simp [e1, e2, Instr.makeFunc]
theorem eqGuard_ptr {b : BinOp} {xt : TypeId} {x y : Operand} {m n : Option Addr} (P : Program) (w : World) : (eqGuard b xt x y (.pointer m) (.pointer n)).run P w = .ok () w := by
  unfold eqGuard; cases b <;> rfl
theorem eql_ptr_nil_run {t e : TypeId} {ad : Addr} (P : Program) (hu : P.underlying t = some (.pointer e)) (w : World) : (Op.equal t (.pointer (some ad)) (.pointer none)).run P w = .ok false w := by
  rw [show Op.equal t (.pointer (some ad)) (.pointer none) = Op.equalIn (9999 + 1) t (.pointer (some ad)) (.pointer none) from rfl, Op.equalIn]
  simp [underlying, program, Sem.run, hu]
theorem q_eqp {xt yt e : TypeId} {x y : Operand} {ad : Addr} (ho : op.op = .binOp .eql xt x y yt) (hx : ev E x = some (.pointer (some ad))) (hy : ev E y = some (.pointer none)) (hu : K.P.underlying xt = some (.pointer e)) : RQ K op E H (.bool false) :=
  rq_same (by rw [ho]; intro c h; cases h) fun a w he _ => by
    unfold execOp; simp only [ho]; rw [he.ev hx, he.ev hy]
    simp [eqGuard_ptr, binOp, eql_ptr_nil_run K.P hu]
theorem q_nep {xt yt e : TypeId} {x y : Operand} {ad : Addr} (ho : op.op = .binOp .neq xt x y yt) (hx : ev E x = some (.pointer (some ad))) (hy : ev E y = some (.pointer none)) (hu : K.P.underlying xt = some (.pointer e)) : RQ K op E H (.bool true) :=
  rq_same (by rw [ho]; intro c h; cases h) fun a w he _ => by
    unfold execOp; simp only [ho]; rw [he.ev hx, he.ev hy]
    simp [eqGuard_ptr, binOp, eql_ptr_nil_run K.P hu]
/-! Rows of bytes. -/
theorem re_eq {v v2 : Y → Value} {H1 H2 : Y → List HA} (h : RE K op E H v H1) (hv : ∀ y, v y = v2 y) (hH : ∀ y, Ent (H1 y) (H2 y)) : RE K op E H v2 H2 :=
  fun a w he hs next Q hn => h a w he hs next Q fun y w' s => by rw [hv]; exact hn y w' (s.ent (hH y))
theorem Ent.set {l : List HA} {A B : HA} (k : Nat) (h : ∀ x, A x → B x) : Ent (l.set k A) (l.set k B) := by
  induction l generalizing k with
  | nil => exact Ent.refl _
  | cons C l ih =>
    cases k with
    | zero => exact fun x s => star_mono x h (fun _ y => y) s
    | succ k => exact fun x s => star_mono x (fun _ y => y) (ih k) s
theorem row_eq {T sz n n' c : Nat} {a : Option Addr} {cs cs' : List Value} (h1 : n = n') (h2 : cs = cs') : ∀ x, Row T sz a n c cs x → Row T sz a n' c cs' x := by
  subst h1; subst h2; exact fun _ x => x
theorem re_appendb {x y : Operand} {t e : Nat} {zs : List Value} {a a2 : Option Addr} {c c2 : Nat} {l m : List UInt8} (k : Nat) (ho : op.op = .call { callee := .builtin .append, args := #[x, y], argTypes := #[t, t] })
    (hx : ev E x = some (.slice a l.length c)) (hy : ev E y = some (.slice a2 m.length c2)) (ht : K.P.underlying t = some (.slice e)) (hE : Elt K.P e 1 1 zs) (hk : H[k]? = some (Row e 1 a l.length c (encB l)))
    (hr : Rds (H.eraseIdx k) a2 (encB m)) (hb : (l.length + m.length) * 1 ≤ 140737488355328) :
    RE K (Y := Option Addr × Nat) op E H (fun y => .slice y.1 (l ++ m).length y.2) (fun y => H.set k (Row e 1 y.1 (l ++ m).length y.2 (encB (l ++ m)))) :=
  re_eq (re_append k ho hx hy ht hE hk hr (by rw [encB_length, Nat.mul_one]) (encB_one m) hb) (fun y => by simp) fun y => Ent.set k (row_eq (by simp) (by
    rw [encB_append, Nat.mul_one, List.take_of_length_le (by rw [encB_length]; exact Nat.le_refl _)]))
theorem re_append0b {x y : Operand} {t e : Nat} {zs : List Value} {a2 : Option Addr} {c2 : Nat} {m : List UInt8} (ho : op.op = .call { callee := .builtin .append, args := #[x, y], argTypes := #[t, t] })
    (hx : ev E x = some (.slice none 0 0)) (hy : ev E y = some (.slice a2 m.length c2)) (ht : K.P.underlying t = some (.slice e)) (hE : Elt K.P e 1 1 zs) (hr : Rds H a2 (encB m)) (hb : m.length * 1 ≤ 140737488355328) :
    RE K (Y := Option Addr × Nat) op E H (fun y => .slice y.1 m.length y.2) (fun y => Row e 1 y.1 m.length y.2 (encB m) :: H) :=
  re_append0 ho hx hy ht hE hr (by rw [encB_length, Nat.mul_one]) (encB_one m) hb
theorem re_makeb {x y : Operand} {t e : Nat} {k k' : IntKind} {n c : Int} (ho : op.op = .makeSlice t x y) (hx : ev E x = some (.int k n)) (hy : ev E y = some (.int k' c)) (ht : K.P.underlying t = some (.slice e)) (hE : Elt K.P e 1 1 [.int .u8 0])
    (h0 : 0 ≤ n) (h1 : n ≤ c) (hb : c * 1 ≤ 140737488355328) :
    RE K (Y := Nat) op E H (fun b => .slice (some ⟨b, 0, none⟩) (List.replicate n.toNat (0 : UInt8)).length c.toNat) (fun b => Row e 1 (some ⟨b, 0, none⟩) (List.replicate n.toNat (0 : UInt8)).length c.toNat (encB (List.replicate n.toNat (0 : UInt8))) :: H) :=
  re_eq (re_make ho hx hy ht hE h0 h1 hb) (fun y => by simp) fun y => Ent.sel' 0 rfl (fun h x => by
    rcases x with ⟨x, _⟩ | ⟨b, off, pre, junk, fz, e1, ok, hbk⟩
    · cases x
    · cases e1
      have hnc : n.toNat ≤ c.toNat := by omega
      have hl := ok.room
      have e2 : List.replicate c.toNat (Value.int .u8 0) = encB (List.replicate n.toNat (0 : UInt8)) ++ List.replicate (c.toNat - n.toNat) (Value.int .u8 0) := by
        rw [← encB_repl, List.replicate_append_replicate]; congr 1; omega
      rw [e2] at hbk
      refine .inr ⟨_, _, pre, List.replicate (c.toNat - n.toNat) (Value.int .u8 0) ++ junk, fz, rfl, ⟨ok.offs, by simp; omega, ok.cap, by simp [encB_length]; omega, by simp [encB_length], by simp [encB_length]; omega, ok.fzok⟩, ?_⟩
      rw [hbk]
      simp) (Ent.refl _)
theorem re_litb {t e len : Nat} {l : List (Nat × Operand)} {vs : List (Nat × Value)} {cs : List Value} (bs : List UInt8) (ho : op.op = .buildSlice t len l.toArray) (hx : evP l E = some vs) (ht : K.P.underlying t = some (.slice e)) (hE : Elt K.P e 1 1 [.int .u8 0])
    (hb : Nat.ble (len * 1) 16777216 = true) (hf : Instr.fill (fun i => some (i * 1, 1)) ((Array.range (len * 1)).map ([Value.int .u8 0].toArray[· % [Value.int .u8 0].toArray.size]!)) vs = some cs.toArray) (h0 : Nat.blt 0 (len * 1) = true) (hl : bs.length = len) (heq : cs = encB bs) :
    RE K (Y := Nat) op E H (fun b => .slice (some ⟨b, 0, none⟩) bs.length len) (fun b => Row e 1 (some ⟨b, 0, none⟩) bs.length len (encB bs) :: H) :=
  re_eq (re_lit ho hx ht hE hb hf h0 (by rw [heq, encB_length, hl, Nat.mul_one])) (fun y => by rw [hl]) fun y => Ent.sel' 0 rfl (row_eq hl.symm heq) (Ent.refl _)
theorem re_lit0 {t e : Nat} (ho : op.op = .buildSlice t 0 [].toArray) (ht : K.P.underlying t = some (.slice e)) (hE : Elt K.P e 1 1 [.int .u8 0]) :
    RE K (Y := Nat) op E H (fun b => .slice (some ⟨b, 0, none⟩) ([] : List UInt8).length 0) (fun b => Row e 1 (some ⟨b, 0, none⟩) ([] : List UInt8).length 0 (encB ([] : List UInt8)) :: H) :=
  re_run (by rw [ho]; intro c h; cases h) fun a' w he s => by
    obtain ⟨i, z, hi, hz, hsz, hby, hzs⟩ := hE.info
    refine ⟨w.heap.size, { w with heap := w.heap.push (.cells #[] e (0, 0)) }, ?_, (s.new _).ent (Ent.sel' 0 rfl ?_ (Ent.refl _))⟩
    · unfold execOp; simp only [ho]
      simp [Instr.buildSlice, underlying, program, Sem.run, ht, sizeOf, typeInfo, hi, newRow, newObj, Instr.fill]
      refine congrArg (fun x => w.alloc (.cells x e)) ?_
      apply Array.ext <;> simp
    · intro h x
      exact Row.mk (pre := []) (junk := []) (fz := (0, 0)) ⟨rfl, Nat.le_refl _, by simp [maxLen], by simp [encB], by simp, by simp [encB], Or.inl rfl⟩ h (by simpa [pts, encB] using x)
theorem re_storeb {x y : Operand} {t T : TypeId} {b off c : Nat} {n i : Int} {l : List UInt8} {a : Option Addr} (u : UInt8) (k : Nat) (ho : op.op = .store t x y) (hx : ev E x = some (.pointer (some ⟨b, off + i.toNat, none⟩))) (hy : ev E y = some (.int .u8 n))
    (hs : ∀ w, (sizeOf t).run K.P w = .ok 1 w) (hk : H[k]? = some (Row T 1 a l.length c (encB l))) (ha : a = some ⟨b, off, none⟩) (hi : i < (l.length : Int)) (h0 : 0 ≤ i) (hu : (u.toNat : Int) = n) :
    RE K (Y := Unit) op E H (fun _ => undef) (fun _ => H.set k (Row T 1 a (l.set i.toNat u).length c (encB (l.set i.toNat u)))) :=
  re_eq (re_storer k ho hx hy hs rfl rfl (one_int _ _) hk ha (by rw [encB_length]; omega)) (fun _ => rfl) fun _ => Ent.set k (row_eq (by simp) (by rw [← hu]; exact encB_set))
theorem re_copyb {x y : Operand} {t t2 e : Nat} {zs : List Value} {a a2 : Option Addr} {c c2 : Nat} {l m : List UInt8} (k : Nat) (ho : op.op = .call { callee := .builtin .copy, args := #[x, y], argTypes := #[t, t2] })
    (hx : ev E x = some (.slice a l.length c)) (hy : ev E y = some (.slice a2 m.length c2)) (ht : K.P.underlying t = some (.slice e)) (hE : Elt K.P e 1 1 zs) (hk : H[k]? = some (Row e 1 a l.length c (encB l))) (hr : Rds H a2 (encB m)) :
    RE K (Y := Unit) op E H (fun _ => .int .i64 (min m.length l.length : Nat)) (fun _ => H.set k (Row e 1 a (copyB l m).length c (encB (copyB l m)))) :=
  re_eq (re_copy (news := encB (m.take l.length)) k ho hx hy ht hE hk (fun h s => by
    rcases hr h s with e | ⟨b, off, ha, l', T, fz, h1, h2⟩
    · left; rw [← encB_take, e]; simp
    · refine .inr ⟨b, off, ha, l', T, fz, h1, fun j v hj => h2 j v ?_⟩
      rw [← encB_take, List.getElem?_take] at hj
      split at hj
      · exact hj
      · cases hj) (by rw [encB_length, List.length_take, Nat.mul_one, Nat.min_comm]) (encB_one _)) (fun _ => rfl) fun _ => Ent.set k (row_eq (copyB_length l m).symm (by
    rw [setL_eq _ _ _ (by simp [encB_length]; omega)]
    unfold copyB
    rw [encB_append]
    simp only [List.take_zero, List.nil_append, Nat.zero_add, encB_length, List.length_take]
    rw [← encB_drop]
    congr 1
    by_cases h : l.length ≤ m.length
    · rw [Nat.min_eq_left h, List.drop_of_length_le (by rw [encB_length]; exact Nat.le_refl _), List.drop_of_length_le (by rw [encB_length]; exact h)]
    · rw [Nat.min_eq_right (by omega)]))
end
section
variable {K : Cx} {R S Y : Type} {Q : Post R} {E : Env} {H : List HA} {o : Option R} {ops : Array Oper} {rest : List Oper} {op : Oper} {cd : Code}
theorem sim_row {T : TypeId} {sz n c : Nat} {a : Option Addr} {cs : List Value} (k : Nat) (hk : H[k]? = some (Row T sz a n c cs)) (hn : cs ≠ []) (h : ∀ b off, a = some ⟨b, off, none⟩ → Sim K Q cd E H o) : Sim K Q cd E H o := by
  intro r hr a' w he hs
  rcases (hs.focus hk).row_cases with ⟨_, _, _, h0⟩ | ⟨b, off, pre, junk, fz, ha, _⟩
  · exact absurd h0 hn
  · exact h b off ha r hr a' w he hs
theorem sim_lend {T : TypeId} {sz n c : Nat} {a : Option Addr} {cs : List Value} (k : Nat) (hk : H[k]? = some (Row T sz a n c cs)) (h : Rd (Row T sz a n c cs) a cs → n ≤ c → c ≤ maxLen → n * sz ≤ cs.length → Sim K Q cd E H o) : Sim K Q cd E H o := by
  intro r hr a' w he hs
  exact simL_lend (rest := []) (ops := #[]) (Q := fun r e a w => cd.wpIn (fen K.ro) 0 K.P (Q r) a w) k hk (fun h1 h2 h3 h4 r hr a w he hs => h h1 h2 h3 h4 r hr a w he hs) r hr a' w he hs
theorem simL_ren {d : Nat} {v : Value} (v' : Value) (hx : lk E d = some v) (hv : v = v') (h : SimL K Q ops rest ((d, v') :: E) H o) : SimL K Q ops rest E H o := by
  intro r hr a w he hs
  refine h r hr a w ⟨he.size, he.defers, fun i u hu => ?_⟩ hs
  simp only [lk] at hu
  cases hb : Nat.beq d i with
  | true =>
    obtain rfl := Nat.eq_of_beq_eq_true hb
    rw [hb] at hu
    simp only [cond_true, Option.some.injEq] at hu
    rw [← hu, ← hv]
    exact he.get _ _ hx
  | false =>
    rw [hb] at hu
    exact he.get i u hu
theorem slc_len {a : Option Addr} {n n' c : Nat} (h : n = n') : Value.slice a n c = .slice a n' c := by rw [h]
theorem simL_skipd {j dj d : Nat} {want b : Bool} (hg : op.guard = some (j, want)) (hj : ((ops[j]?).bind (·.dst)) = some dj) (hb : lk E dj = some (.bool b)) (hw : (b == want) = false)
    (hd : op.dst = some d) (hn : Nat.blt d K.n = true) (h : SimL K Q ops rest ((d, undef) :: E) H o) : SimL K Q ops (op :: rest) E H o := by
  intro r hr' a w he hs
  refine wpListIn_step fun K' hK' => ?_
  rw [wanted_of he hg hj hb, hw]
  simp only [Bool.false_eq_true, if_false]
  refine ⟨fun f _ => fen_fn _ _, hK' _ _ ?_⟩
  rw [hd]
  exact h r hr' _ w (he.put undef hn) hs
theorem simL_skipu {j dj d : Nat} {want : Bool} (hg : op.guard = some (j, want)) (hj : ((ops[j]?).bind (·.dst)) = some dj) (hb : lk E dj = some undef)
    (hd : op.dst = some d) (hn : Nat.blt d K.n = true) (h : SimL K Q ops rest ((d, undef) :: E) H o) : SimL K Q ops (op :: rest) E H o := by
  intro r hr' a w he hs
  refine wpListIn_step fun K' hK' => ?_
  have : Region.wanted op (yielded ops a.tmps) = false := by
    simp only [Region.wanted, hg, yielded, hj, Option.bind_some, he.get _ _ hb]
    rfl
  rw [this]
  simp only [Bool.false_eq_true, if_false]
  refine ⟨fun f _ => fen_fn _ _, hK' _ _ ?_⟩
  rw [hd]
  exact h r hr' _ w (he.put undef hn) hs
end
structure SlTo (a : Option Addr) (c : Nat) (lo : Int) (a' : Option Addr) (c' : Nat) : Prop where
  addr : a' = (if c = lo.toNat then a else a.map (·.add (lo.toNat * 1)))
  cap : c' = c - lo.toNat
theorem slice_pre {F : HA} {a : Option Addr} {l : List UInt8} {c : Nat} {lo hi : Int} (hF : Rd F a (encB l)) (hcap : l.length ≤ c) (hb : 0 ≤ lo ∧ lo ≤ hi ∧ hi ≤ l.length) :
    ∃ a' c', SlTo a c lo a' c' ∧ Rd F a' (encB (cut l lo hi)) ∧ (cut l lo hi).length ≤ c' ∧ c' ≤ c :=
  ⟨_, _, ⟨rfl, rfl⟩, hF.sub lo hi (c := c) (by omega), by rw [cut_length hb.2.2]; omega, by omega⟩
section
variable {K : Cx} {R S Y : Type} {Q : Post R} {E : Env} {H : List HA} {o : Option R} {ops : Array Oper} {rest : List Oper} {op : Oper}
theorem q_sub_ro {x : Operand} {t e : Nat} {lo hi : Option Operand} {a a' : Option Addr} {c c' : Nat} {l : List UInt8} {vl vh : Option Value} {lo' hi' : Int}
    (ho : op.op = .slice t x lo hi none) {n : Nat} (hx : ev E x = some (.slice a n c))
    (hl : lim E lo = some vl) (hh : lim E hi = some vh) (hu : K.P.underlying t = some (.slice e)) (hs : ∀ w, (sizeOf e).run K.P w = .ok 1 w)
    (h1 : (vh = none ∧ hi' = n) ∨ ∃ k, vh = some (.int k hi')) (h2 : (vl = none ∧ lo' = 0) ∨ ∃ k, vl = some (.int k lo')) (hb : 0 ≤ lo' ∧ lo' ≤ hi' ∧ hi' ≤ l.length) (hcap : l.length ≤ c) (hS : SlTo a c lo' a' c') :
    RQ K op E H (.slice a' (cut l lo' hi').length c') := by
  obtain ⟨b1, b2, b3⟩ := hb
  obtain ⟨rfl, rfl⟩ := hS
  obtain ⟨L, rfl⟩ := Int.eq_ofNat_of_zero_le b1
  obtain ⟨M, rfl⟩ := Int.eq_ofNat_of_zero_le (Int.le_trans b1 b2)
  have hlen := cut_length (l := l) (lo := (L : Int)) (hi := (M : Int)) b3
  simp only [Int.toNat_natCast] at hlen
  have q := q_slice (K := K) (H := H) (o := op) (l := L) (h := M) ho hx hl hh hu hs (by rcases h1 with ⟨x, y⟩ | y; exact .inl ⟨x, by omega⟩; exact .inr y) (by rcases h2 with ⟨x, y⟩ | y; exact .inl ⟨x, by omega⟩; exact .inr y) (by omega) (by omega)
  rw [← hlen] at q
  simpa using q
theorem rtn_pr {p : Prop} (h : p → Rtn K Q E H o) : Rtn K Q E (pr p :: H) o := fun r hr a w he hs => h hs.pr_out.1 r hr a w he hs.pr_out.2
theorem rtn_lend {T : TypeId} {sz n c : Nat} {a : Option Addr} {cs : List Value} (k : Nat) (hk : H[k]? = some (Row T sz a n c cs)) (h : Rd (Row T sz a n c cs) a cs → n ≤ c → c ≤ maxLen → n * sz ≤ cs.length → Rtn K Q E H o) : Rtn K Q E H o := by
  intro r hr a' w he hs
  exact simL_lend (rest := []) (ops := #[]) (Q := fun r e a w => Q r .ret a w) k hk (fun h1 h2 h3 h4 r hr a w he hs => h h1 h2 h3 h4 r hr a w he hs) r hr a' w he hs
theorem nrm_lend {T : TypeId} {sz n c : Nat} {a : Option Addr} {cs : List Value} (k : Nat) (hk : H[k]? = some (Row T sz a n c cs)) (h : Rd (Row T sz a n c cs) a cs → n ≤ c → c ≤ maxLen → n * sz ≤ cs.length → Nrm K Q E H o) : Nrm K Q E H o := by
  intro r hr a' w he hs
  exact simL_lend (rest := []) (ops := #[]) (Q := fun r e a w => Q r .normal a w) k hk (fun h1 h2 h3 h4 r hr a w he hs => h h1 h2 h3 h4 r hr a w he hs) r hr a' w he hs
end
theorem byte_lit1 {t : Int} (h : 0 ≤ t ∧ t < 256) : [Value.int .u8 t] = encB [byte t] := by simp [encB, byte_toNat h.1 h.2]
end Go.Proofs.YtbcnegennmpliaaDoor
