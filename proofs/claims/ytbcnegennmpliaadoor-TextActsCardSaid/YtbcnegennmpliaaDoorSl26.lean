/- Cuts of strings; literals of reckoned bytes; functions of the library by the kit's contracts; what the library's variables hold. Conditions: none. -/
import Derived.Test.YtbcnegennmpliaaDoorSl25
import Derived.Lib.LaidTab
import Derived.Shelf.Strconv.Itoa4
import Derived.Shelf.Strconv.ErrVarParseInt
namespace Go.Proofs.YtbcnegennmpliaaDoor
set_option linter.unusedVariables false
set_option linter.unusedSimpArgs false
open Go.RowKit
theorem lit_cons {n : Int} {b : UInt8} {cs : List Value} {bs : List UInt8} (h : (b.toNat : Int) = n) (t : cs = encB bs) : Value.int .u8 n :: cs = encB (b :: bs) := by
  subst h; subst t; rfl
theorem lit_nil : ([] : List Value) = encB [] := rfl
section
variable {K : Cx} {R S Y : Type} {Q : Post R} {E : Env} {H : List HA} {opt : Option R} {ops : Array Oper} {rest : List Oper} {o : Oper}
theorem q_cutS {x : Operand} {t : TypeId} {lo hi : Option Operand} {s : List UInt8} {vl vh : Option Value} {lo' hi' : Int} (ho : o.op = .slice t x lo hi none) (hx : ev E x = some (str s))
    (hl : lim E lo = some vl) (hh : lim E hi = some vh) (hu : K.P.underlying t = some .string)
    (h1 : (vh = none ∧ hi' = (s.length : Int)) ∨ ∃ k, vh = some (.int k hi')) (h2 : (vl = none ∧ lo' = 0) ∨ ∃ k, vl = some (.int k lo')) (hb : 0 ≤ lo' ∧ lo' ≤ hi' ∧ hi' ≤ (s.length : Int)) :
    RQ K o E H (str (cut s lo' hi')) := by
  obtain ⟨a, rfl⟩ := Int.eq_ofNat_of_zero_le hb.1
  obtain ⟨b, rfl⟩ := Int.eq_ofNat_of_zero_le (Int.le_trans hb.1 hb.2.1)
  have q := q_sslice (K := K) (E := E) (H := H) (o := o) (s := s) (l := a) (h := b) ho hx hl hh hu (by rcases h1 with ⟨x, y⟩ | y; exact .inl ⟨x, by omega⟩; exact .inr y) (by rcases h2 with ⟨x, y⟩ | y; exact .inl ⟨x, by omega⟩; exact .inr y) (by omega) (by omega)
  simpa [cut] using q
end
/-! ### Functions of the library -/
theorem fn_same {P : Program} {W : World} {F : HA} {f : FuncId} {args : List Value} {R : Type} {r : R} {val : R → Unit → Value} (hC : ∀ w, Calls P f args.toArray w fun e w' => e = .returned (val r ()) ∧ w' = w) :
    Fn P W f args [] F (some r) val (fun _ _ => []) := fun r' hr w hs => by
  cases hr
  exact (hC w).mono fun e w' ⟨h1, h2⟩ => ⟨(), h1, by subst h2; exact hs⟩
theorem fn_below {P : Program} {W : World} {F : HA} {f : FuncId} {args : List Value} {R : Type} {r : R} {val : R → Unit → Value} (hC : ∀ w, Calls P f args.toArray w fun e w' => e = .returned (val r ()) ∧ Below w.heap.size w w') :
    Fn P W f args [] F (some r) val (fun _ _ => []) := fun r' hr w hs => by
  cases hr
  exact (hC w).mono fun e w' ⟨h1, h2⟩ => ⟨(), h1, hs.below h2⟩
theorem fn_ask {P : Program} {W : World} {F : HA} {f : FuncId} {args : List Value} {R Y : Type} {p : Prop} [Decidable p] {r : R} {val : R → Y → Value} {A : List HA} {B : R → Y → List HA} (h : p → Fn P W f args A F (some r) val B) :
    Fn P W f args A F (if p then some r else none) val B := fun r' hr w hs => by
  split at hr
  · rename_i hp; exact h hp r' hr w hs
  · cases hr
/-! ### What the library's variables hold -/
def HoldsW (F : HA) (w : World) : Prop := ∃ a, F a ∧ ∀ j o, a j = some o → w.heap[j]? = some o
structure Glb (P : Program) (F : HA) : Prop where
  pow : ∀ w, HoldsW F w → Lib.TabIs P w "internal/strconv.uint64pow10" .u64 Lib.pow10Tab
  syn : ∀ w, HoldsW F w → ∃ t p, w.var? P "strconv.ErrSyntax" = some #[.iface t p]
  rng : ∀ w, HoldsW F w → ∃ t p, w.var? P "strconv.ErrRange" = some #[.iface t p]
theorem HoldsW.lend {F : HA} {l : List HA} {w : World} (k : Nat) (hk : l[k]? = some F) (h : HoldsW (stars l) w) : HoldsW F w := by
  obtain ⟨a, ha, e⟩ := h
  obtain ⟨b, hb, e'⟩ := knows_at l k F hk a ha
  exact ⟨b, hb, fun j o x => e j o (e' j o x)⟩
theorem Glb.lend {P : Program} {F : HA} {l : List HA} (h : Glb P F) (k : Nat) (hk : l[k]? = some F) : Glb P (stars l) :=
  ⟨fun w x => h.pow w (x.lend k hk), fun w x => h.syn w (x.lend k hk), fun w x => h.rng w (x.lend k hk)⟩
theorem Sat.holds {W w : World} {l : List HA} {F : HA} (s : Sat W (l ++ [F]) w) : HoldsW F w := s.at (i := l.length) (by simp)
theorem below_grow (w : World) (k : Nat) (os : Array Obj) : Below w.heap.size w (Sort.grow (w.drewN k) os) := by
  refine ⟨rfl, rfl, rfl, by simp [Sort.grow, World.drewN], fun j hj => ?_⟩
  show (w.heap ++ os)[j]? = _
  rw [Array.getElem?_append_left hj]
theorem fn_itoa {P : Program} {W : World} {F : HA} {f : FuncId} {args : List Value} {n : Int} (hg : Glb P F)
    (hC : ∀ w, Lib.TabIs P w "internal/strconv.uint64pow10" .u64 Lib.pow10Tab → Calls P f args.toArray w fun e w' => e = .returned (.string ⟨(Lib.itoa n).toArray⟩) ∧ ∃ k os, w' = Sort.grow (w.drewN k) os) :
    Fn P W f args [] F (some (Lib.itoa n)) (fun (r : List UInt8) (_ : Unit) => str r) (fun _ _ => []) := fun r' hr w hs => by
  cases hr
  exact (hC w (hg.pow w hs.holds)).mono fun e w' ⟨h1, k, os, h2⟩ => ⟨(), h1, by subst h2; exact hs.below (below_grow w k os)⟩
def errV (ok : Bool) (T : TypeId) (y : Nat) : Value := match ok with
  | true => .nilIface
  | false => .iface T (.pointer (some ⟨y, 0, none⟩))
def parseV (l : List UInt8) : Int × Bool := match Lib.parseIntB 64 l with
  | .ok v => (v, true)
  | .range => (Lib.intSat 64 l, false)
  | _ => (0, false)
theorem fn_parse {P : Program} {W : World} {F : HA} {f : FuncId} {args : List Value} {l : List UInt8} {T : TypeId} (hg : Glb P F)
    (h1 : ∀ v, Lib.parseIntB 64 l = .ok v → ∀ w, Calls P f args.toArray w fun e w' => e = .returned (.tuple #[.int .i64 v, .nilIface]) ∧ (w' = w ∨ ∃ e t, w' = Lib.bytesWorld w e t))
    (h2 : Lib.parseIntB 64 l = Lib.parseIntB 64 [] → ∀ tp p w, w.var? P "strconv.ErrSyntax" = some #[.iface tp p] → Calls P f args.toArray w fun e w' => ∃ N, e = .returned (.tuple #[.int .i64 0, .iface T (.pointer (some ⟨N, 0, none⟩))]) ∧ Below w.heap.size w w')
    (h3 : Lib.parseIntB 64 l = .range → ∀ tp p w, w.var? P "strconv.ErrRange" = some #[.iface tp p] → Calls P f args.toArray w fun e w' => ∃ N, e = .returned (.tuple #[.int .i64 (Lib.intSat 64 l), .iface T (.pointer (some ⟨N, 0, none⟩))]) ∧ Below w.heap.size w w') :
    Fn P W f args [] F (some (parseV l)) (fun (r : Int × Bool) (y : Nat) => .tuple #[.int .i64 r.1, errV r.2 T y]) (fun _ _ => []) := fun r' hr w hs => by
  cases hr
  unfold parseV
  cases hp : Lib.parseIntB 64 l with
  | ok v =>
    refine (h1 v hp w).mono fun e w' ⟨e1, e2⟩ => ⟨0, e1, ?_⟩
    rcases e2 with rfl | ⟨e, t, rfl⟩
    · exact hs
    · exact hs.below (Lib.bytesWorld_below _ _ _)
  | range =>
    obtain ⟨t, p, hv⟩ := hg.rng w hs.holds
    exact (h3 hp t p w hv).mono fun e w' ⟨N, e1, e2⟩ => ⟨N, e1, hs.below e2⟩
  | _ =>
    obtain ⟨t, p, hv⟩ := hg.syn w hs.holds
    exact (h2 hp t p w hv).mono fun e w' ⟨N, e1, e2⟩ => ⟨N, e1, hs.below e2⟩
section
variable {K : Cx} {E : Env} {H : List HA} {o : Oper}
theorem q_eqerr {xt yt T : TypeId} {x : Operand} {ok : Bool} {y : Nat} {ms : _} (ho : o.op = .binOp .eql xt x (.const .nilIface) yt) (hx : ev E x = some (errV ok T y)) (hu : K.P.underlying xt = some (.interface ms)) : RQ K o E H (.bool ok) :=
  rq_same (by rw [ho]; intro c h; cases h) fun a w he _ => by
    unfold execOp; simp only [ho]; rw [he.ev hx, he.ev (x := .const .nilIface) rfl]
    cases ok with
    | true =>
      have e : (Op.equal xt .nilIface .nilIface).run K.P w = .ok true w := by
        rw [show Op.equal xt .nilIface .nilIface = Op.equalIn (9999 + 1) xt .nilIface .nilIface from rfl, Op.equalIn]
        simp [underlying, program, Sem.run, hu]
      simp [errV, eqGuard, binOp, e]
    | false =>
      have e : (Op.equal xt (.iface T (.pointer (some ⟨y, 0, none⟩))) .nilIface).run K.P w = .ok false w := by
        rw [show Op.equal xt (.iface T (.pointer (some ⟨y, 0, none⟩))) .nilIface = Op.equalIn (9999 + 1) xt (.iface T (.pointer (some ⟨y, 0, none⟩))) .nilIface from rfl, Op.equalIn]
        simp [underlying, program, Sem.run, hu]
      simp [errV, eqGuard, binOp, e]
end
end Go.Proofs.YtbcnegennmpliaaDoor
