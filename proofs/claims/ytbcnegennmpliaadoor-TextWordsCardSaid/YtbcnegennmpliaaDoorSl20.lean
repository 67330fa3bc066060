/- Small things: a part of a row's element; a row that is cut where an operation needs it. Conditions: as each says. -/
import Derived.Test.YtbcnegennmpliaaDoorSl19
namespace Go.Proofs.YtbcnegennmpliaaDoor
set_option linter.unusedVariables false
set_option linter.unusedSimpArgs false
open Go.RowKit
theorem get_drop {α : Type} {l : List α} (k : Nat) {j : Nat} {v : α} (h : (l.drop k)[j]? = some v) : l[k + j]? = some v := by rwa [List.getElem?_drop] at h
theorem cellAt_off {H : List HA} {b o k j : Nat} {v : Value} (h : CellAt H b (o + (k + j)) v) : CellAt H b (o + k + j) v := by rw [Nat.add_assoc]; exact h
theorem ent_eq {l m : List HA} (h : l = m) : Ent l m := by rw [h]; exact Ent.refl _
section
variable {K : Cx} {Y : Type} {E : Env} {H : List HA} {o : Oper} {v : Y → Value} {H' : Y → List HA}
theorem RE.ent {H1 : List HA} (e : Ent H H1) (h : RE K o E H1 v H') : RE K o E H v H' := fun a w he hs next Q hn => h a w he (hs.ent e) next Q hn
end
section
variable {α : Type} {T : TypeId} {n c : Nat} {a : Option Addr} {V : α → List Value → Prop} {xs : List α} {H : List HA}
theorem Ent.set' {l : List HA} {A B : HA} (k : Nat) (hk : l[k]? = some A) (h : ∀ x, A x → B x) : Ent l (l.set k B) := by
  have e : l.set k A = l := by
    apply List.ext_getElem?
    intro i
    rw [List.getElem?_set]
    split
    · rename_i hi; subst hi
      have := (List.getElem?_eq_some_iff.1 hk).1
      rw [if_pos this, hk]
    · rfl
  have := Ent.set (l := l) k h
  rwa [e] at this
theorem Ent.cutV {lo hi : Int} {a' : Option Addr} {c' m : Nat} {rs : List (List Value)} (k : Nat) (hk : H[k]? = some (Row T n a m c rs.flatten)) (hl : ListV n V xs rs) (hS : SlToV n a c lo a' c') (hb : 0 ≤ lo ∧ lo ≤ hi ∧ hi ≤ xs.length) (hcap : xs.length ≤ c) :
    Ent H (H.set k (RowV T n V a' (cut xs lo hi) c')) :=
  Ent.set' k hk fun p hp => by
    have hfl := hl.flat
    have hhl : hi.toNat ≤ xs.length := by omega
    have h2 : hi.toNat * n ≤ rs.flatten.length := by rw [hfl]; exact Nat.mul_le_mul_right _ hhl
    have := row_cut (lo := lo.toNat) (hi := hi.toNat) (by omega) h2 (by omega) hS.addr hS.cap p hp
    refine ⟨(rs.take hi.toNat).drop lo.toNat, (hl.take _).drop _, ?_⟩
    rw [cut_length hb.2.2, (hl.take _).flat_drop, hl.flat_take]
    exact this
theorem Ent.cutB {lo hi : Int} {a' : Option Addr} {c' m : Nat} {l : List UInt8} (k : Nat) (hk : H[k]? = some (Row T 1 a m c (encB l))) (hS : SlTo a c lo a' c') (hb : 0 ≤ lo ∧ lo ≤ hi ∧ hi ≤ l.length) (hcap : l.length ≤ c) :
    Ent H (H.set k (Row T 1 a' (cut l lo hi).length c' (encB (cut l lo hi)))) :=
  Ent.set' k hk fun p hp => by
    have := row_cut (lo := lo.toNat) (hi := hi.toNat) (by omega) (by rw [encB_length]; omega) (by omega) hS.addr hS.cap p hp
    rw [cut_length hb.2.2]
    unfold cut
    rw [← encB_drop, ← encB_take]
    simpa using this
end
section
variable {K : Cx} {E : Env} {H : List HA} {o : Oper} {α : Type} {n c : Nat} {a : Option Addr} {V : α → List Value → Prop} {xs : List α}
theorem re_appendVc {x y : Operand} {t e bytes : Nat} {zs : List Value} {a2 : Option Addr} {c2 : Nat} {ys : List α} (k : Nat) (ho : o.op = .call { callee := .builtin .append, args := #[x, y], argTypes := #[t, t] })
    (hx : ev E x = some (.slice a xs.length c)) (hy : ev E y = some (.slice a2 ys.length c2)) (ht : K.P.underlying t = some (.slice e)) (hE : Elt K.P e n bytes zs) (hk : H[k]? = some (RowV e n V a xs c))
    (hr : RdsV (H.eraseIdx k) n V a2 ys) (hb : (xs.length + ys.length) * bytes ≤ 140737488355328) :
    RE K (Y := Option Addr × Nat) o E H (fun y => .slice y.1 (xs ++ ys).length y.2) (fun y => H.set k (RowV e n V y.1 (xs ++ ys) y.2)) := by
  intro a' w he hs next Q hn
  obtain ⟨rs, hl, s⟩ := sat_openV k hk hs
  have hkl := (List.getElem?_eq_some_iff.1 hk).1
  refine re_appendV (H := H.set k (Row e n a xs.length c rs.flatten)) k ho hx hy ht hE (by simp [hkl]) hl (by rw [List.eraseIdx_set_eq]; exact hr) hb a' w he s next Q fun y w' s' => hn y w' ?_
  simpa only [List.set_set] using s'
theorem RE.openV {Y : Type} {v : Y → Value} {H' : Y → List HA} {H1 : List (List Value) → Y → List HA} {T : TypeId} (k : Nat) (hk : H[k]? = some (RowV T n V a xs c)) (h : ∀ rs, ListV n V xs rs → RE K o E (H.set k (Row T n a xs.length c rs.flatten)) v (H1 rs)) (he : ∀ rs, ListV n V xs rs → ∀ y, Ent (H1 rs y) (H' y)) : RE K o E H v H' := by
  intro a' w ha hs next Q hn
  obtain ⟨rs, hl, s⟩ := sat_openV k hk hs
  exact h rs hl a' w ha s next Q fun y w' s' => hn y w' (s'.ent (he rs hl y))
def runeS (n : Int) : List UInt8 := (Utf8.encode n).data.toList
theorem q_rune {k : IntKind} {m : Int} {x : Operand} {s d : TypeId} {k' : IntKind} (ho : o.op = .convert s d x) (hx : ev E x = some (.int k m)) (hu : K.P.underlying s = some (.int k')) (hd : K.P.underlying d = some .string) : RQ K o E H (str (runeS m)) :=
  rq_same (by rw [ho]; intro c h; cases h) fun a w he _ => by
    unfold execOp; simp only [ho]; rw [he.ev hx]
    simp [convert, underlying, program, Sem.run, hu, hd, Conv.intToString, str, runeS]
theorem eql_nil_run {xt e : TypeId} (P : Program) (hu : P.underlying xt = some (.pointer e)) (w : World) : (Op.equal xt (.pointer none) (.pointer none)).run P w = .ok true w := by
  rw [show Op.equal xt (.pointer none) (.pointer none) = Op.equalIn (9999 + 1) xt (.pointer none) (.pointer none) from rfl, Op.equalIn]
  simp [underlying, program, Sem.run, hu]
theorem q_eqnn {xt yt e : TypeId} {x y : Operand} (ho : o.op = .binOp .eql xt x y yt) (hx : ev E x = some (.pointer none)) (hy : ev E y = some (.pointer none)) (hu : K.P.underlying xt = some (.pointer e)) : RQ K o E H (.bool true) :=
  rq_same (by rw [ho]; intro c h; cases h) fun a w he _ => by
    unfold execOp; simp only [ho]; rw [he.ev hx, he.ev hy]
    simp [eqGuard_ptr, binOp, eql_nil_run K.P hu]
theorem q_nenn {xt yt e : TypeId} {x y : Operand} (ho : o.op = .binOp .neq xt x y yt) (hx : ev E x = some (.pointer none)) (hy : ev E y = some (.pointer none)) (hu : K.P.underlying xt = some (.pointer e)) : RQ K o E H (.bool false) :=
  rq_same (by rw [ho]; intro c h; cases h) fun a w he _ => by
    unfold execOp; simp only [ho]; rw [he.ev hx, he.ev hy]
    simp [eqGuard_ptr, binOp, eql_nil_run K.P hu]
end
theorem sim_trueb {K : Cx} {R : Type} {Q : Post R} {E : Env} {H : List HA} {o : Option R} {b : Bool} {x : Operand} {c1 c2 : Code} (hx : ev E x = some (.bool b)) (hb : b = true) (h1 : Sim K Q c1 E H o) : Sim K Q (.cond x c1 c2) E H o := sim_true (by rw [hx, hb]) h1
theorem sim_falseb {K : Cx} {R : Type} {Q : Post R} {E : Env} {H : List HA} {o : Option R} {b : Bool} {x : Operand} {c1 c2 : Code} (hx : ev E x = some (.bool b)) (hb : b = false) (h1 : Sim K Q c2 E H o) : Sim K Q (.cond x c1 c2) E H o := sim_false (by rw [hx, hb]) h1
/-! ### What may be nil -/
def optA (b : Bool) (y : Nat) : Option Addr := match b with
  | true => some ⟨y, 0, none⟩
  | false => none
def whenA (b : Bool) (l : List HA) : HA := match b with
  | true => stars l
  | false => tt
theorem Ent.when_yes {l m as : List HA} {b : Bool} (hb : b = true) (r : Ent l (as ++ m)) : Ent l (whenA b as :: m) := by
  subst hb
  intro h s
  exact (stars_app as m h).1 (r h s)
theorem Ent.when_no {l m as : List HA} {b : Bool} (hb : b = false) (r : Ent l m) : Ent l (whenA b as :: m) := by
  subst hb
  exact Ent.tt_in r
theorem Ent.when_yo {as : List HA} {b : Bool} (hb : b = true) (m : List HA) : Ent (whenA b as :: m) (as ++ m) := by
  subst hb
  intro h s
  exact (stars_app as m h).2 s
theorem Ent.when_no_ {as : List HA} {b : Bool} (hb : b = false) (m : List HA) : Ent (whenA b as :: m) m := Ent.drop (Ent.refl m)
theorem Fn.when {P : Program} {W : World} {f : FuncId} {args : List Value} {A : List HA} {F : HA} {R Y : Type} {o : Option R} {val val' : R → Y → Value} {B B' : R → Y → List HA} (h : Fn P W f args A F o val B) (flag : R → Bool) (b : Bool)
    (hv : ∀ r y, flag r = b → val r y = val' r y) (hB : ∀ r y, flag r = b → Ent (B r y) (B' r y)) : Fn P W f args A F (o.filter fun r => flag r == b) val' B' := by
  intro r hr w hs
  obtain ⟨h1, h2⟩ := Option.filter_eq_some_iff.1 hr
  have h3 : flag r = b := by simpa using h2
  refine (h r h1 w hs).mono ?_
  rintro e w' ⟨y, he, s⟩
  exact ⟨y, by rw [he, hv r y h3], s.ent (Ent.app (hB r y h3) (Ent.refl _))⟩
theorem filt_of {R : Type} {o : Option R} {r : R} {flag : R → Bool} {b : Bool} (h : o = some r) (hb : flag r = b) : (o.filter fun r => flag r == b) = some r := by
  rw [h, Option.filter_some, hb]; simp
/-! ### Short forms -/
section
variable {K : Cx} {R S Y : Type} {Q : Post R} {E : Env} {H : List HA} {opt : Option R} {ops : Array Oper} {rest : List Oper}
theorem vq {d : Nat} {v : Value} {p : Op} {t : TypeId} {ps : String} {af : Array Edge} (hr : RQ K ⟨some d, p, t, ps, af, none⟩ E H v) (hn : Nat.blt d K.n = true) (h : SimL K Q ops rest ((d, v) :: E) H opt) : SimL K Q ops (⟨some d, p, t, ps, af, none⟩ :: rest) E H opt := simL_val hr rfl rfl hn h
theorem vm {d : Nat} {v : Value} {x : Operand} {t : TypeId} {ps : String} {af : Array Edge} (hx : ev E x = some v) (hn : Nat.blt d K.n = true) (h : SimL K Q ops rest ((d, v) :: E) H opt) : SimL K Q ops (⟨some d, .move x, t, ps, af, none⟩ :: rest) E H opt := simL_val (q_move rfl hx) rfl rfl hn h
theorem va {d : Nat} {v : Value} {x : Operand} {t : TypeId} {ps : String} {af : Array Edge} (hx : ev E x = some v) (hn : Nat.blt d K.n = true) (h : SimL K Q ops rest ((d, v) :: E) H opt) : SimL K Q ops (⟨some d, .assign x, t, ps, af, none⟩ :: rest) E H opt := simL_val (q_asg rfl hx) rfl rfl hn h
theorem vn {d : Nat} {x : Operand} {ad : Addr} {t : TypeId} {ps : String} {af : Array Edge} (hx : ev E x = some (.pointer (some ad))) (hn : Nat.blt d K.n = true) (h : SimL K Q ops rest ((d, .pointer (some ad)) :: E) H opt) : SimL K Q ops (⟨some d, .nilCheck x, t, ps, af, none⟩ :: rest) E H opt := simL_val (q_nil rfl hx) rfl rfl hn h
theorem nx {id : Nat} {l : List Oper} {c2 : Code} (h : SimL K (thenQ K c2 Q) l.toArray l E H opt) : SimL K (thenQ K (.seq (.region id l.toArray false) c2) Q) ops [] E H opt := simL_nil (nrm_then (sim_seq (sim_region h)))
theorem ny {id : Nat} {l : List Oper} (h : SimL K Q l.toArray l E H opt) : SimL K (thenQ K (.region id l.toArray false) Q) ops [] E H opt := simL_nil (nrm_then (sim_region h))
theorem sr {id : Nat} {l : List Oper} {c2 : Code} (h : SimL K (thenQ K c2 Q) l.toArray l E H opt) : Sim K Q (.seq (.region id l.toArray false) c2) E H opt := sim_seq (sim_region h)
theorem qm {anc : List (List Nat)} {val : Nat → Value} {i : Nat} {d : Option Nat} {x : Operand} {t : TypeId} {ps : String} {af : Array Edge} {Ei : Env} (ho : ops[i]? = some ⟨d, .move x, t, ps, af, none⟩) (he : EnvOk ops anc val E i Ei) (hx : ev Ei x = some (val i)) : QOb K ops anc val E H i := .plain Ei ho rfl he (q_move rfl hx) rfl
theorem aq {Γ : Type} {l : List Nat} {p : Γ → Nat → Nat → Prop} {f : Nat → List Nat} {i j : Nat} (hf : f i = [j]) (h : ∀ γ, p γ i j) (r : All l fun i => ∀ γ, All (f i) fun j => p γ i j) : All (i :: l) fun i => ∀ γ, All (f i) fun j => p γ i j := ⟨fun γ => by rw [hf]; exact ⟨h γ, trivial⟩, r⟩
end
end Go.Proofs.YtbcnegennmpliaaDoor
