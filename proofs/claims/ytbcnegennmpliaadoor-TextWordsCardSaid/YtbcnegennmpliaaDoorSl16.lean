/- Lists of our own: elements written, made, empty ones; cuts of lists, read, or the row going on under them; structs within structs compared. Conditions: none. -/
import Derived.Test.YtbcnegennmpliaaDoorSl15
namespace Go.Proofs.YtbcnegennmpliaaDoor
set_option linter.unusedVariables false
set_option linter.unusedSimpArgs false
set_option linter.unusedSectionVars false
open Go.RowKit
theorem setL_app_left (vs : List Value) (l m : List Value) (k : Nat) (h : k + vs.length ≤ l.length) : setL (l ++ m) k vs = setL l k vs ++ m := by
  rw [setL_eq _ _ _ (by simp; omega), setL_eq _ _ _ h, List.take_append_of_le_length (by omega), List.drop_append_of_le_length h]
  simp
theorem setL_app_right (vs : List Value) (l m : List Value) (k : Nat) (h : k + vs.length ≤ m.length) : setL (l ++ m) (l.length + k) vs = l ++ setL m k vs := by
  rw [setL_eq _ _ _ (by simp; omega), setL_eq _ _ _ h]
  rw [List.take_append, List.drop_append, List.take_of_length_le (by omega), List.drop_of_length_le (by omega)]
  rw [show l.length + k - l.length = k by omega, show l.length + k + vs.length - l.length = k + vs.length by omega]
  simp
section
variable {α : Type} {n : Nat} {V : α → List Value → Prop}
theorem ListV.set (u : α) (d : Nat) (vs : List Value) (hd : d + vs.length ≤ n) (h1 : one vs) (dflt : α) : ∀ {xs : List α} {rs : List (List Value)} (i : Nat), ListV n V xs rs → i < xs.length → (∀ r, V (xs.getD i dflt) r → r.length = n → one r → V u (setL r d vs)) →
    ∃ rs', ListV n V (xs.set i u) rs' ∧ setL rs.flatten (i * n + d) vs = rs'.flatten
  | x :: xs, r :: rs, 0, ⟨⟨a, b, c⟩, t⟩, _, hu => by
    refine ⟨setL r d vs :: rs, ⟨⟨by rw [setL_length]; exact a, ?_, hu r c a b⟩, t⟩, ?_⟩
    · rw [setL_eq _ _ _ (by omega)]
      intro v hv
      simp only [List.mem_append] at hv
      rcases hv with (hv | hv) | hv
      · exact b v (List.mem_of_mem_take hv)
      · exact h1 v hv
      · exact b v (List.mem_of_mem_drop hv)
    · simp only [List.flatten_cons, Nat.zero_mul, Nat.zero_add]
      exact setL_app_left vs r _ d (by omega)
  | x :: xs, r :: rs, i + 1, ⟨⟨a, b, c⟩, t⟩, h, hu => by
    obtain ⟨rs', h2, h3⟩ := ListV.set u d vs hd h1 dflt i t (by simpa using h) (by simpa using hu)
    refine ⟨r :: rs', ⟨⟨a, b, c⟩, h2⟩, ?_⟩
    simp only [List.flatten_cons]
    have hfl := t.flat
    have hi : i < xs.length := by simpa using h
    have hin : i * n + d + vs.length ≤ rs.flatten.length := by
      rw [hfl]
      have : (i + 1) * n ≤ xs.length * n := Nat.mul_le_mul_right _ hi
      rw [Nat.add_mul] at this
      omega
    rw [← h3, show (i + 1) * n + d = r.length + (i * n + d) by rw [Nat.add_mul, a]; omega]
    exact setL_app_right vs r _ _ hin
theorem ListV.repl {x : α} {r : List Value} (h1 : r.length = n) (h2 : one r) (h3 : V x r) : ∀ m, ListV n V (List.replicate m x) (List.replicate m r)
  | 0 => trivial
  | m + 1 => ⟨⟨h1, h2, h3⟩, ListV.repl h1 h2 h3 m⟩
end
structure SlToV (n : Nat) (a : Option Addr) (c : Nat) (lo : Int) (a' : Option Addr) (c' : Nat) : Prop where
  addr : a' = (if c = lo.toNat then a else a.map (·.add (lo.toNat * n)))
  cap : c' = c - lo.toNat
theorem slice_preV {α : Type} {n : Nat} {V : α → List Value → Prop} {F : HA} {a : Option Addr} {l : List α} {c : Nat} {lo hi : Int} (hF : RdV F n V a l) (hcap : l.length ≤ c) (hb : 0 ≤ lo ∧ lo ≤ hi ∧ hi ≤ l.length) :
    ∃ a' c', SlToV n a c lo a' c' ∧ RdV F n V a' (cut l lo hi) ∧ (cut l lo hi).length ≤ c' ∧ c' ≤ c :=
  ⟨_, _, ⟨rfl, rfl⟩, hF.cut lo.toNat hi.toNat (by omega), by rw [cut_length hb.2.2]; omega, by omega⟩
section
variable {K : Cx} {R S Y α : Type} {Q : Post R} {E : Env} {H : List HA} {opt : Option R} {ops : Array Oper} {rest : List Oper} {o : Oper} {n : Nat} {V : α → List Value → Prop} {a : Option Addr} {xs : List α} {T : TypeId} {c : Nat}
theorem q_sub_roV {x : Operand} {t e : Nat} {lo hi : Option Operand} {a' : Option Addr} {c' m : Nat} {l : List α} {vl vh : Option Value} {lo' hi' : Int}
    (ho : o.op = .slice t x lo hi none) (hx : ev E x = some (.slice a m c))
    (hl : lim E lo = some vl) (hh : lim E hi = some vh) (hu : K.P.underlying t = some (.slice e)) (hs : ∀ w, (sizeOf e).run K.P w = .ok n w)
    (h1 : (vh = none ∧ hi' = m) ∨ ∃ k, vh = some (.int k hi')) (h2 : (vl = none ∧ lo' = 0) ∨ ∃ k, vl = some (.int k lo')) (hb : 0 ≤ lo' ∧ lo' ≤ hi' ∧ hi' ≤ l.length) (hcap : l.length ≤ c) (hS : SlToV n a c lo' a' c') :
    RQ K o E H (.slice a' (cut l lo' hi').length c') := by
  obtain ⟨b1, b2, b3⟩ := hb
  obtain ⟨rfl, rfl⟩ := hS
  obtain ⟨L, rfl⟩ := Int.eq_ofNat_of_zero_le b1
  obtain ⟨M, rfl⟩ := Int.eq_ofNat_of_zero_le (Int.le_trans b1 b2)
  have hlen := cut_length (l := l) (lo := (L : Int)) (hi := (M : Int)) b3
  simp only [Int.toNat_natCast] at hlen
  have q := q_slice (K := K) (H := H) (o := o) (l := L) (h := M) ho hx hl hh hu hs (by rcases h1 with ⟨x, y⟩ | y; exact .inl ⟨x, by omega⟩; exact .inr y) (by rcases h2 with ⟨x, y⟩ | y; exact .inl ⟨x, by omega⟩; exact .inr y) (by omega) (by omega)
  rw [← hlen] at q
  simpa using q
theorem row_cut {T : TypeId} {n m c c' : Nat} {a a' : Option Addr} {cs : List Value} {lo hi : Nat} (h1 : lo ≤ hi) (h2 : hi * n ≤ cs.length) (h3 : hi ≤ c) (ha : a' = (if c = lo then a else a.map (·.add (lo * n)))) (hc : c' = c - lo) :
    ∀ h, Row T n a m c cs h → Row T n a' (hi - lo) c' ((cs.take (hi * n)).drop (lo * n)) h := by
  intro h x
  rcases x with ⟨x1, x2, x3, x4⟩ | ⟨b, off, pre, junk, fz, hax, ok, hb⟩
  · left
    subst x4
    subst x3
    have : hi = 0 := by omega
    have : lo = 0 := by omega
    subst x1
    refine ⟨?_, by omega, by omega, by simp⟩
    rw [ha]; split <;> rfl
  · right
    subst hax
    have hln : lo * n ≤ hi * n := Nat.mul_le_mul_right _ h1
    have hcn : hi * n ≤ c * n := Nat.mul_le_mul_right _ h3
    have hroom := ok.room
    have hoffs := ok.offs
    have hcap := ok.cap
    by_cases e : c = lo
    · have hh : hi = lo := by omega
      refine ⟨b, off, pre, cs ++ junk, fz, by rw [ha, if_pos e], ⟨hoffs, by omega, by omega, by rw [hc, e]; simp, by rw [hh]; simp, by rw [hh]; simp [List.drop_of_length_le], ?_⟩, ?_⟩
      · rcases ok.fzok with x | x
        · exact .inl x
        · right; rw [hc, e]; simp; omega
      · rw [hb]; congr 1
        have : (cs.take (hi * n)).drop (lo * n) = [] := by rw [List.drop_of_length_le]; rw [List.length_take, hh]; exact Nat.min_le_left _ _
        rw [this]; simp
    · have hadd : (⟨b, off, none⟩ : Addr).add (lo * n) = ⟨b, off + lo * n, none⟩ := add_lit' _ _ _
      refine ⟨b, off + lo * n, pre ++ cs.take (lo * n), cs.drop (hi * n) ++ junk, fz, by rw [ha, if_neg e]; simp [hadd], ⟨?_, by omega, by omega, ?_, ?_, ?_, ?_⟩, ?_⟩
      · rw [List.length_append, List.length_take]; omega
      · rw [hc, Nat.sub_mul, List.length_drop, List.length_take, List.length_append, List.length_drop]; omega
      · rw [Nat.sub_mul, List.length_drop, List.length_take]; omega
      · rw [hc, Nat.sub_mul, List.length_drop, List.length_take]; omega
      · rcases ok.fzok with x | x
        · exact .inl x
        · right; rw [hc, Nat.sub_mul]; omega
      · rw [hb]; congr 1
        have e1 : cs = cs.take (lo * n) ++ ((cs.take (hi * n)).drop (lo * n) ++ cs.drop (hi * n)) := by
          rw [← List.append_assoc]
          have : cs.take (lo * n) ++ (cs.take (hi * n)).drop (lo * n) = cs.take (hi * n) := by
            have := List.take_append_drop (lo * n) (cs.take (hi * n))
            rwa [List.take_take, Nat.min_eq_left hln] at this
          rw [this, List.take_append_drop]
        have e2 : pre ++ cs ++ junk = pre ++ cs.take (lo * n) ++ (cs.take (hi * n)).drop (lo * n) ++ (cs.drop (hi * n) ++ junk) := by
          conv => lhs; rw [e1]
          simp only [List.append_assoc]
        rw [e2]
theorem simL_cutV {lo hi : Int} {a' : Option Addr} {c' m : Nat} {rs : List (List Value)} (k : Nat) (hk : H[k]? = some (Row T n a m c rs.flatten)) (hl : ListV n V xs rs) (hS : SlToV n a c lo a' c') (hb : 0 ≤ lo ∧ lo ≤ hi ∧ hi ≤ xs.length) (hcap : xs.length ≤ c)
    (h : SimL K Q ops rest E (H.set k (RowV T n V a' (cut xs lo hi) c')) opt) : SimL K Q ops rest E H opt := by
  intro r hr aa w he hs
  refine h r hr aa w he (Sat.unfocus hk ((hs.focus hk).ent (Ent.sel' 0 rfl (fun p hp => ?_) (Ent.refl _))))
  have hfl := hl.flat
  have hhl : hi.toNat ≤ xs.length := by omega
  have h2 : hi.toNat * n ≤ rs.flatten.length := by rw [hfl]; exact Nat.mul_le_mul_right _ hhl
  have := row_cut (lo := lo.toNat) (hi := hi.toNat) (by omega) h2 (by omega) hS.addr hS.cap p hp
  refine ⟨(rs.take hi.toNat).drop lo.toNat, (hl.take _).drop _, ?_⟩
  rw [cut_length hb.2.2, (hl.take _).flat_drop, hl.flat_take]
  exact this
theorem simL_cutB {lo hi : Int} {a' : Option Addr} {c' m : Nat} {l : List UInt8} (k : Nat) (hk : H[k]? = some (Row T 1 a m c (encB l))) (hS : SlTo a c lo a' c') (hb : 0 ≤ lo ∧ lo ≤ hi ∧ hi ≤ l.length) (hcap : l.length ≤ c)
    (h : SimL K Q ops rest E (H.set k (Row T 1 a' (cut l lo hi).length c' (encB (cut l lo hi)))) opt) : SimL K Q ops rest E H opt := by
  intro r hr aa w he hs
  refine h r hr aa w he (Sat.unfocus hk ((hs.focus hk).ent (Ent.sel' 0 rfl (fun p hp => ?_) (Ent.refl _))))
  have := row_cut (lo := lo.toNat) (hi := hi.toNat) (by omega) (by rw [encB_length]; omega) (by omega) hS.addr hS.cap p hp
  rw [cut_length hb.2.2]
  unfold cut
  rw [← encB_drop, ← encB_take]
  simpa using this
theorem re_storeV {x y : Operand} {t : TypeId} {b off i m : Nat} {v : Value} {vs : List Value} {rs : List (List Value)} (u : α) (d : Nat) (dflt : α) (k : Nat) (ho : o.op = .store t x y) (hx : ev E x = some (.pointer (some ⟨b, off + i * n + d, none⟩))) (hy : ev E y = some v)
    (hs : ∀ w, (sizeOf t).run K.P w = .ok m w) (hv : v.cells = vs.toArray) (hm : vs.length = m) (h1 : one vs) (hk : H[k]? = some (Row T n a xs.length c rs.flatten)) (hl : ListV n V xs rs) (ha : a = some ⟨b, off, none⟩) (hi : i < xs.length) (hd : Nat.ble (d + m) n = true)
    (hu : ∀ r, V (xs.getD i dflt) r → r.length = n → one r → V u (setL r d vs)) :
    RE K (Y := Unit) o E H (fun _ => undef) (fun _ => H.set k (RowV T n V a (xs.set i u) c)) := by
  have hd : d + m ≤ n := by simpa [Nat.ble_eq] using hd
  obtain ⟨rs', h2, h3⟩ := ListV.set u d vs (by omega) h1 dflt i hl hi hu
  have hin : i * n + d + m ≤ rs.flatten.length := by
    rw [hl.flat]
    have : (i + 1) * n ≤ xs.length * n := Nat.mul_le_mul_right _ hi
    rw [Nat.add_mul] at this
    omega
  refine re_eq (re_storer (j := i * n + d) k ho (by rw [← Nat.add_assoc]; exact hx) hy hs hv hm h1 hk ha hin) (fun _ => rfl) fun _ => Ent.set k fun p hp => ⟨rs', h2, ?_⟩
  rw [List.length_set, ← h3]
  exact hp
theorem re_makeV {x y : Operand} {t e bytes : Nat} {k k' : IntKind} {m cc : Int} {z : Value} (d : α) (ho : o.op = .makeSlice t x y) (hx : ev E x = some (.int k m)) (hy : ev E y = some (.int k' cc)) (ht : K.P.underlying t = some (.slice e)) (hE : Elt K.P e 1 bytes [z]) (hV : V d [z]) (hz : one [z])
    (h0 : 0 ≤ m) (h1 : m ≤ cc) (hb : cc * bytes ≤ 140737488355328) :
    RE K (Y := Nat) o E H (fun b => .slice (some ⟨b, 0, none⟩) (List.replicate m.toNat d).length cc.toNat) (fun b => RowV e 1 V (some ⟨b, 0, none⟩) (List.replicate m.toNat d) cc.toNat :: H) :=
  re_eq (re_make ho hx hy ht hE h0 h1 hb) (fun y => by simp) fun y => Ent.sel' 0 rfl (fun h x => by
    have := row_cut (lo := 0) (hi := m.toNat) (c := cc.toNat) (a' := some ⟨y, 0, none⟩) (c' := cc.toNat) (Nat.zero_le _) (by simp; omega) (by omega) (by split <;> simp [Addr.add]) rfl h x
    refine ⟨List.replicate m.toNat [z], ListV.repl rfl hz hV _, ?_⟩
    have e1 : (List.replicate m.toNat [z]).flatten = List.replicate m.toNat z := by
      induction m.toNat with
      | zero => rfl
      | succ q ih => rw [List.replicate_succ, List.flatten_cons, ih]; rfl
    rw [e1]
    simp only [Nat.mul_one, Nat.zero_mul, List.drop_zero, List.take_replicate, Nat.sub_zero] at this
    rw [Nat.min_eq_left (by omega)] at this
    simpa using this) (Ent.refl _)
theorem re_lit0V {t e sz bytes : Nat} {zs : List Value} (ho : o.op = .buildSlice t 0 [].toArray) (ht : K.P.underlying t = some (.slice e)) (hE : Elt K.P e sz bytes zs) :
    RE K (Y := Nat) o E H (fun b => .slice (some ⟨b, 0, none⟩) ([] : List α).length 0) (fun b => RowV e sz V (some ⟨b, 0, none⟩) ([] : List α) 0 :: H) :=
  re_run (by rw [ho]; intro c h; cases h) fun a' w he s => by
    obtain ⟨i, z, hi, hz, hsz, hby, hzs⟩ := hE.info
    refine ⟨w.heap.size, { w with heap := w.heap.push (.cells #[] e (0, 0)) }, ?_, (s.new _).ent (Ent.sel' 0 rfl ?_ (Ent.refl _))⟩
    · unfold execOp; simp only [ho]
      simp [Instr.buildSlice, underlying, program, Sem.run, ht, sizeOf, typeInfo, hi, newRow, newObj, Instr.fill]
      refine congrArg (fun x => w.alloc (.cells x e)) ?_
      apply Array.ext <;> simp
    · intro h x
      exact ⟨[], trivial, Row.mk (pre := []) (junk := []) (fz := (0, 0)) ⟨rfl, Nat.le_refl _, by simp [maxLen], by simp, by simp, by simp, Or.inl rfl⟩ h (by simpa [pts] using x)⟩
end
/-! ### Structs within structs -/
section
variable {P : Program} {d : Nat} {xs ys : Array Value} {f : Field} {fs : List Field} {a b : Value} {r s : Bool} {w : World}
theorem part_agg {t : TypeId} {cs : Array Value} {off n : Nat} {vs : List Value} (ha : ∀ w, (isAgg t).run P w = .ok true w) (hs : ∀ w, (sizeOf t).run P w = .ok n w) (hv : cs.extract off (off + n) = vs.toArray) : (part t cs off).run P w = .ok (.agg vs.toArray) w := by
  simp [part, ha, hs, hv]
end
section
variable {K : Cx} {E : Env} {H : List HA} {o : Oper}
theorem q_eqagg5 {xt yt : TypeId} {x y : Operand} {u v : Array Value} {r : Bool} (ho : o.op = .binOp .eql xt x y yt) (hx : ev E x = some (.agg u)) (hy : ev E y = some (.agg v)) (hg : K.P.eqGuardType K.P.depth xt = false)
    (hr : ∀ d w, (Op.equalIn (d + 5) xt (.agg u) (.agg v)).run K.P w = .ok r w) : RQ K o E H (.bool r) :=
  rq_same (by rw [ho]; intro c h; cases h) fun a w he _ => by
    unfold execOp; simp only [ho]; rw [he.ev hx, he.ev hy]
    have := hr 9995 w
    simp [eqGuard_agg hg, binOp, Op.equal, Op.maxDepth, this]
theorem q_neagg5 {xt yt : TypeId} {x y : Operand} {u v : Array Value} {r : Bool} (ho : o.op = .binOp .neq xt x y yt) (hx : ev E x = some (.agg u)) (hy : ev E y = some (.agg v)) (hg : K.P.eqGuardType K.P.depth xt = false)
    (hr : ∀ d w, (Op.equalIn (d + 5) xt (.agg u) (.agg v)).run K.P w = .ok r w) : RQ K o E H (.bool (!r)) :=
  rq_same (by rw [ho]; intro c h; cases h) fun a w he _ => by
    unfold execOp; simp only [ho]; rw [he.ev hx, he.ev hy]
    have := hr 9995 w
    simp [eqGuard_agg hg, binOp, Op.equal, Op.maxDepth, this]
end
end Go.Proofs.YtbcnegennmpliaaDoor
