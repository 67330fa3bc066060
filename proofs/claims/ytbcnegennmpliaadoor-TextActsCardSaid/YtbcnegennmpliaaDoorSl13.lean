/- Structs compared; interfaces made and called; results that lie in variables. Conditions: none. -/
import Derived.Test.YtbcnegennmpliaaDoorSl12
import Derived.Laws.StructEq
namespace Go.Proofs.YtbcnegennmpliaaDoor
set_option linter.unusedVariables false
set_option linter.unusedSimpArgs false
open Go.RowKit
/-! ### 1. '==' of structs -/
section
variable {P : Program} {d : Nat} {xs ys : Array Value} {f : Field} {fs : List Field} {a b : Value} {r s : Bool} {w : World}
theorem eqf_last (hn : (f.name == "_") = false) (ha : (part f.type xs f.offset).run P w = .ok a w) (hb : (part f.type ys f.offset).run P w = .ok b w) (he : (Op.equalIn d f.type a b).run P w = .ok r w) : (Op.eqFields d xs ys [f]).run P w = .ok r w := by
  have hn' : f.name ≠ "_" := by simpa using hn
  simp only [Op.eqFields, if_pos hn', Sem.run_bind, ha, hb, he, Result.andThen_ok]
  cases r <;> simp
theorem eqf_cons (hn : (f.name == "_") = false) (ha : (part f.type xs f.offset).run P w = .ok a w) (hb : (part f.type ys f.offset).run P w = .ok b w) (he : (Op.equalIn d f.type a b).run P w = .ok r w) (hr : (Op.eqFields d xs ys fs).run P w = .ok s w) : (Op.eqFields d xs ys (f :: fs)).run P w = .ok (r && s) w := by
  have hn' : f.name ≠ "_" := by simpa using hn
  rw [Op.eqFields]
  simp only [if_pos hn', Sem.run_bind, ha, hb, he, Result.andThen_ok]
  cases r
  · simp
  · simpa using hr
theorem part_of {t : TypeId} {cs : Array Value} {off : Nat} {v : Value} (ha : ∀ w, (isAgg t).run P w = .ok false w) (hv : cs[off]? = some v) : (part t cs off).run P w = .ok v w := by
  simp [part, ha, hv]
theorem eqi_int {t : TypeId} {k : IntKind} {m n : Int} (hu : P.underlying t = some (.int k)) : (Op.equalIn (d + 1) t (.int k m) (.int k n)).run P w = .ok (decide (m = n)) w := by
  simp [Op.equalIn, underlying, program, Sem.run, hu]
  rw [Bool.eq_iff_iff]; simp
theorem eqi_str {t : TypeId} {l m : List UInt8} (hu : P.underlying t = some .string) : (Op.equalIn (d + 1) t (str l) (str m)).run P w = .ok (decide (l = m)) w := by
  simp [Op.equalIn, underlying, program, Sem.run, hu, str]
  rw [beq_toListBytes, ByteArray.toList_eq, ByteArray.toList_eq, Bool.eq_iff_iff]; simp
theorem eqi_struct {t : TypeId} {fs : Array Field} (hu : P.underlying t = some (.struct fs)) (hp : P.stoodInHeld t = false) (h : (Op.eqFields d xs ys fs.toList).run P w = .ok r w) : (Op.equalIn (d + 1) t (.agg xs) (.agg ys)).run P w = .ok r w := by
  have hf : P.fieldsOf t = fs := by simp [Program.fieldsOf, hu]
  rw [run_equalIn_struct (P := P) w d t xs ys (by rw [hf]; exact hu) hp, hf]
  exact h
end
section
variable {K : Cx} {R S Y : Type} {Q : Post R} {E : Env} {H : List HA} {opt : Option R} {ops : Array Oper} {rest : List Oper} {o : Oper}
theorem eqGuard_agg {P : Program} {b : BinOp} {t : TypeId} {x y : Operand} {u v : Array Value} (hg : P.eqGuardType P.depth t = false) (w : World) : (eqGuard b t x y (.agg u) (.agg v)).run P w = .ok () w := by
  unfold eqGuard
  cases b <;> simp [program, Sem.run, hg]
theorem q_eqagg {xt yt : TypeId} {x y : Operand} {u v : Array Value} {r : Bool} (ho : o.op = .binOp .eql xt x y yt) (hx : ev E x = some (.agg u)) (hy : ev E y = some (.agg v)) (hg : K.P.eqGuardType K.P.depth xt = false)
    (hr : ∀ d w, (Op.equalIn (d + 2) xt (.agg u) (.agg v)).run K.P w = .ok r w) : RQ K o E H (.bool r) :=
  rq_same (by rw [ho]; intro c h; cases h) fun a w he _ => by
    unfold execOp; simp only [ho]; rw [he.ev hx, he.ev hy]
    have := hr 9998 w
    simp [eqGuard_agg hg, binOp, Op.equal, Op.maxDepth, this]
theorem q_neagg {xt yt : TypeId} {x y : Operand} {u v : Array Value} {r : Bool} (ho : o.op = .binOp .neq xt x y yt) (hx : ev E x = some (.agg u)) (hy : ev E y = some (.agg v)) (hg : K.P.eqGuardType K.P.depth xt = false)
    (hr : ∀ d w, (Op.equalIn (d + 2) xt (.agg u) (.agg v)).run K.P w = .ok r w) : RQ K o E H (.bool (!r)) :=
  rq_same (by rw [ho]; intro c h; cases h) fun a w he _ => by
    unfold execOp; simp only [ho]; rw [he.ev hx, he.ev hy]
    have := hr 9998 w
    simp [eqGuard_agg hg, binOp, Op.equal, Op.maxDepth, this]
/-! ### 2. Interfaces -/
/-! ### 3. Results that lie in variables -/
def resOk (P : Program) (E : Env) (H : List HA) : List ResultVar → List Value → Prop
  | [], [] => True
  | .tmp t :: l, v :: vs => lk E t = some v ∧ resOk P E H l vs
  | .cell t T :: l, v :: vs => (∃ b, lk E t = some (.pointer (some ⟨b, 0, none⟩)) ∧ ∀ W w, Sat W H w → (loadVar T ⟨b, 0, none⟩).run P w = .ok v w) ∧ resOk P E H l vs
  | _, _ => False
theorem load_agg {P : Program} {H : List HA} {T T' : TypeId} {b n : Nat} {vs : List Value} (k : Nat) (ha : ∀ w, (isAgg T).run P w = .ok true w) (hs : ∀ w, (sizeOf T).run P w = .ok n w) (hk : H[k]? = some (obj b T' vs)) (hn : vs.length = n) : ∀ W w, Sat W H w → (loadVar T ⟨b, 0, none⟩).run P w = .ok (.agg vs.toArray) w := fun W w s => by
  have := run_loads (P := P) (w := w) (b := b) (off := 0) (vs := vs) (fun j v hj => by rw [Nat.zero_add]; exact (CellAt.obj (off := j) k hk hj).sat s)
  simp [loadVar, ha, hs, ← hn, this]
theorem mapM_resC {n : Nat} {ds : List Deferred} {a : Act} {P : Program} {W w : World} {H : List HA} (he : Has n ds E a) (hs : Sat W H w) (g : ResultVar → Sem Value) (hg : ∀ t, g (.tmp t) = Sem.pure (a.tmps.getD t undef)) (hc : ∀ t T, g (.cell t T) = (do loadVar T (← asAddr (a.tmps.getD t undef)))) : ∀ (l : List ResultVar) (vs : List Value), resOk P E H l vs → (l.mapM g).run P w = .ok vs w
  | [], [], _ => rfl
  | .tmp t :: l, v :: vs, ⟨h1, h2⟩ => by
    have ih := mapM_resC he hs g hg hc l vs h2
    have := he.get _ _ h1
    simp only [List.mapM_cons, Sem.run_bind, hg, Sem.run_pure', Result.andThen_ok]
    rw [ih]
    simp [Array.getD_eq_getD_getElem?, this]
  | .cell t T :: l, v :: vs, ⟨⟨b, h1, h3⟩, h2⟩ => by
    have ih := mapM_resC he hs g hg hc l vs h2
    have := he.get _ _ h1
    have hl := h3 W w hs
    simp only [List.mapM_cons, Sem.run_bind, hc]
    have e1 : a.tmps.getD t undef = .pointer (some ⟨b, 0, none⟩) := by simp [Array.getD_eq_getD_getElem?, this]
    rw [e1]
    simp [asAddr, hl, ih]
theorem results_ofC {n : Nat} {ds : List Deferred} {a : Act} {P : Program} {W w : World} {H : List HA} {fn : Func} (he : Has n ds E a) (hs : Sat W H w) {vs : List Value} (h : resOk P E H fn.results.toList vs) :
    (results fn a.tmps).run P w = .ok (tup vs) w := by
  unfold results
  simp only [Sem.run_bind]
  rw [← Array.toArray_toList (xs := fn.results), List.mapM_toArray]
  simp only [Sem.run_map]
  rw [mapM_resC (P := P) (w := w) he hs _ (fun _ => rfl) (fun _ _ => rfl) fn.results.toList vs h]
  simp only [Result.andThen_ok]
  match vs with
  | [] => simp [tup]
  | [v] => simp [tup]
  | v :: u :: t => simp [tup]
theorem retC {fn : Func} {val : R → Y → Value} {B : R → Y → List HA} {r : R} {vs : List Value} (y : Y) (hd : K.ds = []) (hres : resOk K.P E H fn.results.toList vs) (hv : tup vs = val r y) (hH : Ent H (B r y)) :
    ∀ r', some r = some r' → ∀ a w, Has K.n K.ds E a → Sat K.W H w → a.defers = [] ∧ ∃ v, (results fn a.tmps).run K.P w = .ok v w ∧ ∃ y, Ending.returned v = .returned (val r' y) ∧ Sat K.W (B r' y) w := by
  intro r' hr a w he hs
  cases hr
  exact ⟨he.defers.trans hd, _, results_ofC he hs hres, y, by rw [hv], hs.ent hH⟩
theorem rtn_fnC {fn : Func} {val : R → Y → Value} {B : R → Y → List HA} {r : R} {vs : List Value} (y : Y) (hd : K.ds = []) (hres : resOk K.P E H fn.results.toList vs) (hv : tup vs = val r y) (hH : Ent H (B r y)) :
    Rtn K (retQ K fn val B) E H (some r) := fun r' hr a w he hs => retC (K := K) y hd hres hv hH r' hr a w he hs
theorem ent_pack (l m : List HA) : Ent (l ++ m) (stars l :: m) := fun h s => (stars_app _ _ h).1 s
theorem Ent.tt_in {l m : List HA} (r : Ent l m) : Ent l (tt :: m) := fun h s => ⟨fun _ => none, h, fun _ => .inl rfl, (by funext i; simp [un]), trivial, r h s⟩
theorem cells_lit {l vs : List Value} {off : Nat} (h : (l.drop off).take vs.length = vs) : ∀ (j : Nat) v, vs[j]? = some v → l[off + j]? = some v := fun j v hj => by
  rw [← h, List.getElem?_take] at hj
  split at hj
  · rw [List.getElem?_drop] at hj; exact hj
  · cases hj
end
end Go.Proofs.YtbcnegennmpliaaDoor
