/- Structs compared; interfaces made and called; results that lie in variables. Conditions: none. -/
import Derived.Test.YtbcnegennmpliaaDoorSl12
import Derived.Laws.StructEq
namespace Go.Proofs.YtbcnegennmpliaaDoor
set_option linter.unusedVariables false
set_option linter.unusedSimpArgs false
open Go.RowKit
/-! ### 1. '==' of structs -/
section
variable {P : Program} {d : Nat} {xs ys : Array Value} {f : Field} {fs : List Field} {a b : Value} {r s : Bool} {w : World}
theorem eqf_last (hn : (f.name == "_") = false) (ha : (part f.type xs f.offset).run P w = .ok a w) (hb : (part f.type ys f.offset).run P w = .ok b w) (he : (Op.equalIn d f.type a b).run P w = .ok r w) : (Op.eqFields d xs ys [f]).run P w = .ok r w := by
  have hn' : f.name ≠ "_" := by simpa using hn
  simp only [Op.eqFields, if_pos hn', Sem.run_bind, ha, hb, he, Result.andThen_ok]
  cases r <;> simp
theorem eqf_cons (hn : (f.name == "_") = false) (ha : (part f.type xs f.offset).run P w = .ok a w) (hb : (part f.type ys f.offset).run P w = .ok b w) (he : (Op.equalIn d f.type a b).run P w = .ok r w) (hr : (Op.eqFields d xs ys fs).run P w = .ok s w) : (Op.eqFields d xs ys (f :: fs)).run P w = .ok (r && s) w := by
  have hn' : f.name ≠ "_" := by simpa using hn
  rw [Op.eqFields]
  simp only [if_pos hn', Sem.run_bind, ha, hb, he, Result.andThen_ok]
  cases r
  · simp
  · simpa using hr
theorem part_of {t : TypeId} {cs : Array Value} {off : Nat} {v : Value} (ha : ∀ w, (isAgg t).run P w = .ok false w) (hv : cs[off]? = some v) : (part t cs off).run P w = .ok v w := by
  simp [part, ha, hv]
theorem eqi_int {t : TypeId} {k : IntKind} {m n : Int} (hu : P.underlying t = some (.int k)) : (Op.equalIn (d + 1) t (.int k m) (.int k n)).run P w = .ok (decide (m = n)) w := by
  simp [Op.equalIn, underlying, program, Sem.run, hu]
  rw [Bool.eq_iff_iff]; simp
theorem eqi_bool {t : TypeId} {m n : Bool} (hu : P.underlying t = some .bool) : (Op.equalIn (d + 1) t (.bool m) (.bool n)).run P w = .ok (m == n) w := by
  simp [Op.equalIn, underlying, program, Sem.run, hu]
theorem eqi_str {t : TypeId} {l m : List UInt8} (hu : P.underlying t = some .string) : (Op.equalIn (d + 1) t (str l) (str m)).run P w = .ok (decide (l = m)) w := by
  simp [Op.equalIn, underlying, program, Sem.run, hu, str]
  rw [beq_toListBytes, ByteArray.toList_eq, ByteArray.toList_eq, Bool.eq_iff_iff]; simp
theorem eqi_struct {t : TypeId} {fs : Array Field} (hu : P.underlying t = some (.struct fs)) (hp : P.stoodInHeld t = false) (h : (Op.eqFields d xs ys fs.toList).run P w = .ok r w) : (Op.equalIn (d + 1) t (.agg xs) (.agg ys)).run P w = .ok r w := by
  have hf : P.fieldsOf t = fs := by simp [Program.fieldsOf, hu]
  rw [run_equalIn_struct (P := P) w d t xs ys (by rw [hf]; exact hu) hp, hf]
  exact h
end
section
variable {K : Cx} {R S Y : Type} {Q : Post R} {E : Env} {H : List HA} {opt : Option R} {ops : Array Oper} {rest : List Oper} {o : Oper}
theorem eqGuard_agg {P : Program} {b : BinOp} {t : TypeId} {x y : Operand} {u v : Array Value} (hg : P.eqGuardType P.depth t = false) (w : World) : (eqGuard b t x y (.agg u) (.agg v)).run P w = .ok () w := by
  unfold eqGuard
  cases b <;> simp [program, Sem.run, hg]
theorem q_eqagg {xt yt : TypeId} {x y : Operand} {u v : Array Value} {r : Bool} (ho : o.op = .binOp .eql xt x y yt) (hx : ev E x = some (.agg u)) (hy : ev E y = some (.agg v)) (hg : K.P.eqGuardType K.P.depth xt = false)
    (hr : ∀ d w, (Op.equalIn (d + 2) xt (.agg u) (.agg v)).run K.P w = .ok r w) : RQ K o E H (.bool r) :=
  rq_same (by rw [ho]; intro c h; cases h) fun a w he _ => by
    unfold execOp; simp only [ho]; rw [he.ev hx, he.ev hy]
    have := hr 9998 w
    simp [eqGuard_agg hg, binOp, Op.equal, Op.maxDepth, this]
theorem q_neagg {xt yt : TypeId} {x y : Operand} {u v : Array Value} {r : Bool} (ho : o.op = .binOp .neq xt x y yt) (hx : ev E x = some (.agg u)) (hy : ev E y = some (.agg v)) (hg : K.P.eqGuardType K.P.depth xt = false)
    (hr : ∀ d w, (Op.equalIn (d + 2) xt (.agg u) (.agg v)).run K.P w = .ok r w) : RQ K o E H (.bool (!r)) :=
  rq_same (by rw [ho]; intro c h; cases h) fun a w he _ => by
    unfold execOp; simp only [ho]; rw [he.ev hx, he.ev hy]
    have := hr 9998 w
    simp [eqGuard_agg hg, binOp, Op.equal, Op.maxDepth, this]
/-! ### 2. Interfaces -/
theorem q_mkif {x : Operand} {t : TypeId} {u : TypeDesc} {v : Value} (ho : o.op = .makeInterface t x) (hx : ev E x = some v) (hu : K.P.underlying t = some u) (hn : (match u with | .interface _ => true | _ => false) = false) : RQ K o E H (.iface t v) :=
  rq_same (by rw [ho]; intro c h; cases h) fun a w he _ => by
    unfold execOp; simp only [ho]; rw [he.ev hx]
    cases u <;> first | (simp at hn; done) | simp [Instr.makeInterface, underlying, program, Sem.run, hu]
theorem re_invoke {c : Call} {x : Operand} {name : String} {xs : List Operand} {vs : List Value} {t : TypeId} {v u : Value} {f : FuncId} {A : List HA} {rst : List HA} {S Y : Type} {o1 : Option S} {val : S → Y → Value} {B : S → Y → List HA} {s : S}
    (ho : o.op = .call c) (hcal : c.callee = .invoke x name) (hca : c.args = xs.toArray) (hx : ev E x = some (.iface t v)) (hxs : evs xs E = some vs)
    (hm : ∀ w, (method (K.P.types.size + Made.depth) t v name).run K.P w = .ok (f, u) w)
    (hf : ∀ args w, (callFunc f args).run K.P w = .ok (.enter f args) w) (hH : Ent H (A ++ rst))
    (h : Fn K.P K.W f (u :: vs) A (stars rst) o1 val B) (hs : o1 = some s) : RE K o E H (val s) (fun y => B s y ++ rst) := by
  intro a w he hsat next Q hnx
  refine ⟨fun f _ => fen_fn _ _, ?_⟩
  rw [Oper.semAt_eq _ _ _ (by rw [ho]; intro c h; cases h)]
  have hr : (execOp a.eval o).run K.P w = .ok (.enter f (u :: vs).toArray) w := by
    unfold execOp; simp only [ho]
    have hargs : c.args.map a.eval = vs.toArray := by rw [hca, ← evs_map he xs vs hxs]; simp
    have e1 : (#[Value.iface t v] ++ vs.toArray).extract 1 (1 + vs.length) = vs.toArray := by
      apply Array.ext'
      simp
    simp [resolve, hcal, hargs, he.ev hx, invoke, callMethod, program, Sem.run, hm, hf, e1]
  rw [hr]
  refine ⟨fen_depth _, ?_⟩
  have := h s hs w (hsat.ent (hH.trans (Ent.fold A rst)))
  have hw : CallsIn (fen K.ro) (0 - 1) K.P f (u :: vs).toArray w (fun e w' => ∃ y, e = Ending.returned (val s y) ∧ Sat K.W (B s y ++ [stars rst]) w') := by
    cases hro : K.ro with
    | none => exact callsIn_wide.2 this
    | some l => exact CallsIn.inRound l (callsIn_wide.2 this)
  refine hw.mono ?_
  rintro e w' ⟨y, rfl, s2⟩
  exact hnx y w' (s2.ent (Ent.unfold _ _))
theorem re_callf {c : Call} {x : Operand} {xs : List Operand} {fst vs ws cap : List Value} {f : FuncId} {A : List HA} {rst : List HA} {S Y : Type} {o1 : Option S} {val : S → Y → Value} {B : S → Y → List HA} {s : S}
    (ho : o.op = .call c) (hcal : c.callee = .value x) (hca : c.args = xs.toArray) (hx : ev E x = some (.func (.func f) fst.toArray cap.toArray)) (hxs : evs xs E = some vs) (hws : fst ++ (vs ++ cap) = ws)
    (hf : ∀ args w, (callFunc f args).run K.P w = .ok (.enter f args) w) (hH : Ent H (A ++ rst))
    (h : Fn K.P K.W f ws A (stars rst) o1 val B) (hs : o1 = some s) : RE K o E H (val s) (fun y => B s y ++ rst) := by
  intro a w he hsat next Q hnx
  refine ⟨fun f _ => fen_fn _ _, ?_⟩
  rw [Oper.semAt_eq _ _ _ (by rw [ho]; intro c h; cases h)]
  have hr : (execOp a.eval o).run K.P w = .ok (.enter f ws.toArray) w := by
    unfold execOp; simp only [ho]
    have : c.args.map a.eval = vs.toArray := by rw [hca, ← evs_map he xs vs hxs]; simp
    simp [resolve, hcal, this, he.ev hx, Deferred.ofValue, invoke, hf, ← hws]
  rw [hr]
  refine ⟨fen_depth _, ?_⟩
  have := h s hs w (hsat.ent (hH.trans (Ent.fold A rst)))
  have hw : CallsIn (fen K.ro) (0 - 1) K.P f ws.toArray w (fun e w' => ∃ y, e = Ending.returned (val s y) ∧ Sat K.W (B s y ++ [stars rst]) w') := by
    cases hro : K.ro with
    | none => exact callsIn_wide.2 this
    | some l => exact CallsIn.inRound l (callsIn_wide.2 this)
  refine hw.mono ?_
  rintro e w' ⟨y, rfl, s2⟩
  exact hnx y w' (s2.ent (Ent.unfold _ _))
/-! ### 3. Results that lie in variables -/
def resOk (P : Program) (E : Env) (H : List HA) : List ResultVar → List Value → Prop
  | [], [] => True
  | .tmp t :: l, v :: vs => lk E t = some v ∧ resOk P E H l vs
  | .cell t T :: l, v :: vs => (∃ b, lk E t = some (.pointer (some ⟨b, 0, none⟩)) ∧ ∀ W w, Sat W H w → (loadVar T ⟨b, 0, none⟩).run P w = .ok v w) ∧ resOk P E H l vs
  | _, _ => False
theorem load_one {P : Program} {H : List HA} {T : TypeId} {b : Nat} {v : Value} (ha : ∀ w, (isAgg T).run P w = .ok false w) (hc : CellAt H b 0 v) : ∀ W w, Sat W H w → (loadVar T ⟨b, 0, none⟩).run P w = .ok v w := fun W w s => by
  simp [loadVar, ha, hc.sat s]
theorem load_agg {P : Program} {H : List HA} {T T' : TypeId} {b n : Nat} {vs : List Value} (k : Nat) (ha : ∀ w, (isAgg T).run P w = .ok true w) (hs : ∀ w, (sizeOf T).run P w = .ok n w) (hk : H[k]? = some (obj b T' vs)) (hn : vs.length = n) : ∀ W w, Sat W H w → (loadVar T ⟨b, 0, none⟩).run P w = .ok (.agg vs.toArray) w := fun W w s => by
  have := run_loads (P := P) (w := w) (b := b) (off := 0) (vs := vs) (fun j v hj => by rw [Nat.zero_add]; exact (CellAt.obj (off := j) k hk hj).sat s)
  simp [loadVar, ha, hs, ← hn, this]
theorem mapM_resC {n : Nat} {ds : List Deferred} {a : Act} {P : Program} {W w : World} {H : List HA} (he : Has n ds E a) (hs : Sat W H w) (g : ResultVar → Sem Value) (hg : ∀ t, g (.tmp t) = Sem.pure (a.tmps.getD t undef)) (hc : ∀ t T, g (.cell t T) = (do loadVar T (← asAddr (a.tmps.getD t undef)))) : ∀ (l : List ResultVar) (vs : List Value), resOk P E H l vs → (l.mapM g).run P w = .ok vs w
  | [], [], _ => rfl
  | .tmp t :: l, v :: vs, ⟨h1, h2⟩ => by
    have ih := mapM_resC he hs g hg hc l vs h2
    have := he.get _ _ h1
    simp only [List.mapM_cons, Sem.run_bind, hg, Sem.run_pure', Result.andThen_ok]
    rw [ih]
    simp [Array.getD_eq_getD_getElem?, this]
  | .cell t T :: l, v :: vs, ⟨⟨b, h1, h3⟩, h2⟩ => by
    have ih := mapM_resC he hs g hg hc l vs h2
    have := he.get _ _ h1
    have hl := h3 W w hs
    simp only [List.mapM_cons, Sem.run_bind, hc]
    have e1 : a.tmps.getD t undef = .pointer (some ⟨b, 0, none⟩) := by simp [Array.getD_eq_getD_getElem?, this]
    rw [e1]
    simp [asAddr, hl, ih]
theorem results_ofC {n : Nat} {ds : List Deferred} {a : Act} {P : Program} {W w : World} {H : List HA} {fn : Func} (he : Has n ds E a) (hs : Sat W H w) {vs : List Value} (h : resOk P E H fn.results.toList vs) :
    (results fn a.tmps).run P w = .ok (tup vs) w := by
  unfold results
  simp only [Sem.run_bind]
  rw [← Array.toArray_toList (xs := fn.results), List.mapM_toArray]
  simp only [Sem.run_map]
  rw [mapM_resC (P := P) (w := w) he hs _ (fun _ => rfl) (fun _ _ => rfl) fn.results.toList vs h]
  simp only [Result.andThen_ok]
  match vs with
  | [] => simp [tup]
  | [v] => simp [tup]
  | v :: u :: t => simp [tup]
theorem retC {fn : Func} {val : R → Y → Value} {B : R → Y → List HA} {r : R} {vs : List Value} (y : Y) (hd : K.ds = []) (hres : resOk K.P E H fn.results.toList vs) (hv : tup vs = val r y) (hH : Ent H (B r y)) :
    ∀ r', some r = some r' → ∀ a w, Has K.n K.ds E a → Sat K.W H w → a.defers = [] ∧ ∃ v, (results fn a.tmps).run K.P w = .ok v w ∧ ∃ y, Ending.returned v = .returned (val r' y) ∧ Sat K.W (B r' y) w := by
  intro r' hr a w he hs
  cases hr
  exact ⟨he.defers.trans hd, _, results_ofC he hs hres, y, by rw [hv], hs.ent hH⟩
theorem nrm_fnC {fn : Func} {val : R → Y → Value} {B : R → Y → List HA} {r : R} {vs : List Value} (y : Y) (hd : K.ds = []) (hres : resOk K.P E H fn.results.toList vs) (hv : tup vs = val r y) (hH : Ent H (B r y)) :
    Nrm K (retQ K fn val B) E H (some r) := fun r' hr a w he hs => retC (K := K) y hd hres hv hH r' hr a w he hs
theorem rtn_fnC {fn : Func} {val : R → Y → Value} {B : R → Y → List HA} {r : R} {vs : List Value} (y : Y) (hd : K.ds = []) (hres : resOk K.P E H fn.results.toList vs) (hv : tup vs = val r y) (hH : Ent H (B r y)) :
    Rtn K (retQ K fn val B) E H (some r) := fun r' hr a w he hs => retC (K := K) y hd hres hv hH r' hr a w he hs
theorem sat_prk {W w : World} {H : List HA} {p : Prop} (k : Nat) (hk : H[k]? = some (pr p)) (s : Sat W H w) : p := by
  obtain ⟨a, ha, _⟩ := s.at hk
  exact ha
theorem RE.prk {p : Prop} {v : Y → Value} {H' : Y → List HA} (k : Nat) (hk : H[k]? = some (pr p)) (h : p → RE K o E H v H') : RE K o E H v H' := fun a w he hs next Q hn => h (sat_prk k hk hs) a w he hs next Q hn
theorem RQ.prk {p : Prop} {v : Value} (k : Nat) (hk : H[k]? = some (pr p)) (h : p → RQ K o E H v) : RQ K o E H v := fun a w he hs next Q hn => h (sat_prk k hk hs) a w he hs next Q hn
theorem nrm_prk {p : Prop} (k : Nat) (hk : H[k]? = some (pr p)) (h : p → Nrm K Q E H opt) : Nrm K Q E H opt := fun r hr a w he hs => h (sat_prk k hk hs) r hr a w he hs
theorem ent_pack (l m : List HA) : Ent (l ++ m) (stars l :: m) := fun h s => (stars_app _ _ h).1 s
theorem Ent.tt_in {l m : List HA} (r : Ent l m) : Ent l (tt :: m) := fun h s => ⟨fun _ => none, h, fun _ => .inl rfl, (by funext i; simp [un]), trivial, r h s⟩
theorem cells_lit {l vs : List Value} {off : Nat} (h : (l.drop off).take vs.length = vs) : ∀ (j : Nat) v, vs[j]? = some v → l[off + j]? = some v := fun j v hj => by
  rw [← h, List.getElem?_take] at hj
  split at hj
  · rw [List.getElem?_drop] at hj; exact hj
  · cases hj
theorem re_mark {x : Operand} {t e : TypeId} {a : Option Addr} {n c : Nat} {cs : List Value} (k : Nat) (ho : o.op = .convert t t x) (hx : ev E x = some (.slice a n c)) (hu : K.P.underlying t = some (.slice e)) (he8 : K.P.underlying e = some (.int .u8)) (hk : H[k]? = some (Row e 1 a n c cs)) (hn : Nat.blt 0 n = true) :
    RE K (Y := Unit) o E H (fun _ => .slice a n c) (fun _ => H.set k (Row e 1 a n c cs)) :=
  re_run (by rw [ho]; intro c h; cases h) fun a' w he s => by
    have hn' : 0 < n := by simpa [Nat.blt_eq] using hn
    rcases (s.focus hk).row_cases with ⟨_, h0, _, _⟩ | ⟨b, off, pre, junk, fz, rfl, ok, s2⟩
    · omega
    · have hb := s2.pts_at (i := 0) rfl
      obtain ⟨lo, hi⟩ := fz
      refine ⟨(), { w with heap := w.heap.setIfInBounds b (.cells (pre ++ cs ++ junk).toArray e (if lo == hi then ((pre ++ cs ++ junk).length, (pre ++ cs ++ junk).length + 1) else (min lo (pre ++ cs ++ junk).length, max hi ((pre ++ cs ++ junk).length + 1)))) }, ?_, Sat.unfocus hk ((s2.upd).ent (Ent.sel' 0 rfl (Row.mk ⟨ok.offs, ok.le, ok.cap, ok.room, ok.len, ok.top, ?_⟩) (Ent.refl _)))⟩
      · unfold execOp; simp only [ho]; rw [he.ev hx]
        have hsh : w.shape? b = some (e, (pre ++ cs ++ junk).length) := by simp [World.shape?, hb]
        have hfz : w.freeze ⟨b, (pre ++ cs ++ junk).length, none⟩ 1 = { w with heap := w.heap.setIfInBounds b (.cells (pre ++ cs ++ junk).toArray e (if lo == hi then ((pre ++ cs ++ junk).length, (pre ++ cs ++ junk).length + 1) else (min lo (pre ++ cs ++ junk).length, max hi ((pre ++ cs ++ junk).length + 1)))) } := by
          unfold World.freeze
          rw [if_neg (by omega)]
          simp only
          rw [heap_modify_eq _ _ _ _ hb]
        have hm : (markStringish ⟨b, off, none⟩).run K.P w = .ok () (w.freeze ⟨b, (pre ++ cs ++ junk).length, none⟩ 1) := by
          unfold markStringish
          simp only [shape, Sem.run_bind, Sem.run, Result.andThen_ok, hsh, freeze]
        rw [hfz] at hm
        simp [convert, underlying, program, Sem.run, hu, he8, hm]
      · have h1 := ok.fzok
        have h2 := ok.room
        have h3 := ok.offs
        simp only at h1
        by_cases hlh : lo = hi
        · right; simp [hlh]; omega
        · right; simp [hlh]; rcases h1 with h1 | h1 <;> omega
end
end Go.Proofs.YtbcnegennmpliaaDoor
