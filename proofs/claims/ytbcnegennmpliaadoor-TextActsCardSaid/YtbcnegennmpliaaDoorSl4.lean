/- What operations on memory do, as steps of a simulation: variables, struct fields, slices' elements, slicing, lengths. Conditions: none. -/
import Derived.Test.YtbcnegennmpliaaDoorSl3
import Derived.Laws.Cells
namespace Go.Proofs.YtbcnegennmpliaaDoor
set_option linter.unusedVariables false
set_option linter.unusedSimpArgs false
open Go.RowKit

/-! ### 1. Cells -/
def setL : List Value → Nat → List Value → List Value
  | l, _, [] => l
  | l, k, v :: vs => setL (l.set k v) (k + 1) vs
theorem setL_length (vs : List Value) : ∀ (l : List Value) (k : Nat), (setL l k vs).length = l.length := by
  induction vs with
  | nil => intro l k; rfl
  | cons v vs ih => intro l k; simp only [setL]; rw [ih]; simp
theorem setL_eq (vs : List Value) : ∀ (l : List Value) (k : Nat), k + vs.length ≤ l.length → setL l k vs = l.take k ++ vs ++ l.drop (k + vs.length) := by
  induction vs with
  | nil => intro l k h; simp [setL]
  | cons v vs ih =>
    intro l k h
    simp only [List.length_cons] at h
    simp only [setL]
    rw [ih _ _ (by simp; omega)]
    have e1 : (l.set k v).take (k + 1) = l.take k ++ [v] := by
      rw [List.take_succ_eq_append_getElem (by simp; omega), List.take_set_of_le (Nat.le_refl k)]
      simp
    have e2 : (l.set k v).drop (k + 1 + vs.length) = l.drop (k + (v :: vs).length) := by
      rw [List.drop_set_of_lt (by omega)]
      simp [Nat.add_comm, Nat.add_left_comm]
    rw [e1, e2]
    simp
def obj (b : Nat) (T : TypeId) (l : List Value) : HA := pts b (.cells l.toArray T (0, 0))
def one (vs : List Value) : Prop := ∀ v ∈ vs, v.oneCell' = true
theorem cell_of {w : World} {b : Nat} {l : List Value} {T : TypeId} {fz : Nat × Nat} (h : w.heap[b]? = some (.cells l.toArray T fz)) (off : Nat) : w.cell? ⟨b, off, none⟩ = l[off]? := by
  simp [World.cell?, h]
theorem setCell_of {w : World} {b : Nat} {l : List Value} {T : TypeId} {fz : Nat × Nat} (h : w.heap[b]? = some (.cells l.toArray T fz)) (off : Nat) (v : Value) :
    w.setCell ⟨b, off, none⟩ v = { w with heap := w.heap.setIfInBounds b (.cells (l.set off v).toArray T fz) } := by
  unfold World.setCell
  rw [heap_modify_eq _ _ _ _ h]
  simp
theorem run_store {P : Program} {b : Nat} {T : TypeId} {fz : Nat × Nat} (off : Nat) : ∀ (vs : List Value) (i : Nat) (l : List Value) (w : World), w.heap[b]? = some (.cells l.toArray T fz) →
    off + i + vs.length ≤ l.length → (∀ j, off ≤ j → j < l.length → j < off + i + vs.length → ¬ (fz.1 ≤ j ∧ j < fz.2)) → one vs →
    (storeCells ⟨b, off, none⟩ vs i).run P w = .ok () { w with heap := w.heap.setIfInBounds b (.cells (setL l (off + i) vs).toArray T fz) }
  | [], i, l, w, h, _, _, _ => by
    have : w.heap.setIfInBounds b (.cells l.toArray T fz) = w.heap := by
      apply Array.ext_getElem?
      intro j
      rw [Array.getElem?_setIfInBounds]
      by_cases e : b = j
      · subst e; rw [if_pos rfl, h]; have := (Array.getElem?_eq_some_iff.1 h).1; simp [this]
      · rw [if_neg e]
    simp [storeCells, setL, this]
  | v :: vs, i, l, w, h, hl, hf, h1 => by
    simp only [List.length_cons] at hl hf
    have hc : w.cell? ⟨b, off + i, none⟩ = some (l[off + i]'(by omega)) := by rw [cell_of h]; simp
    have hfr : w.frozen? ⟨b, off + i, none⟩ = false := by
      have := hf (off + i) (by omega) (by omega) (by omega)
      simp only [World.frozen?, h]
      rw [Bool.eq_false_iff]
      intro x
      simp at x
      omega
    have hv : v.oneCell' = true := h1 v (by simp)
    have hadd : (⟨b, off, none⟩ : Addr).add i = ⟨b, off + i, none⟩ := by unfold Addr.add; split <;> simp_all
    have hs : (store ((⟨b, off, none⟩ : Addr).add i) v).run P w = .ok () { w with heap := w.heap.setIfInBounds b (.cells (l.set (off + i) v).toArray T fz) } := by
      rw [hadd, ← setCell_of h]
      unfold store
      cases v <;> first | (simp only [Sem.run, hc, hfr]; rfl) | (simp [Value.oneCell'] at hv)
    simp only [storeCells, Sem.run_bind, hs, Result.andThen_ok]
    have hb : b < w.heap.size := (Array.getElem?_eq_some_iff.1 h).1
    have ih := run_store (P := P) (T := T) (fz := fz) (b := b) off vs (i + 1) (l.set (off + i) v) { w with heap := w.heap.setIfInBounds b (.cells (l.set (off + i) v).toArray T fz) }
      (by rw [Array.getElem?_setIfInBounds]; simp [hb]) (by simp; omega) (fun j a b c => hf j a (by simpa using b) (by omega)) (fun u hu => h1 u (by simp [hu]))
    rw [ih]
    simp [setL, Nat.add_assoc]
theorem run_loads {P : Program} {w : World} {b off : Nat} {vs : List Value} (h : ∀ j v, vs[j]? = some v → w.cell? ⟨b, off + j, none⟩ = some v) : (loadCells ⟨b, off, none⟩ vs.length).run P w = .ok vs.toArray w := by
  refine run_loadCells_list (P := P) w _ vs fun j v hj => ?_
  have hadd : (⟨b, off, none⟩ : Addr).add j = ⟨b, off + j, none⟩ := by unfold Addr.add; split <;> simp_all
  rw [hadd]; exact h j v hj

def CellAt (H : List HA) (b off : Nat) (v : Value) : Prop := ∀ h, stars H h → ∃ l T fz, h b = some (.cells l T fz) ∧ l[off]? = some v
theorem CellAt.sat {H : List HA} {b off : Nat} {v : Value} (c : CellAt H b off v) {W w : World} (s : Sat W H w) : w.cell? ⟨b, off, none⟩ = some v := by
  obtain ⟨l, T, fz, h1, h2⟩ := c _ s.hp
  simp only [hpw] at h1
  simp [World.cell?, h1, h2]
theorem CellAt.of {H : List HA} {A : HA} {b off : Nat} {v : Value} (k : Nat) (hk : H[k]? = some A) (hA : ∀ a, A a → ∃ l T fz, a b = some (.cells l T fz) ∧ l[off]? = some v) : CellAt H b off v := by
  intro h s
  obtain ⟨a, ha, x⟩ := knows_at H k A hk h s
  obtain ⟨l, T, fz, h1, h2⟩ := hA a ha
  exact ⟨l, T, fz, x _ _ h1, h2⟩
theorem CellAt.obj {H : List HA} {b off : Nat} {v : Value} {T : TypeId} {l : List Value} (k : Nat) (hk : H[k]? = some (obj b T l)) (hv : l[off]? = some v) : CellAt H b off v :=
  .of k hk fun a ha => ⟨l.toArray, T, (0, 0), ha, by simpa using hv⟩

section
variable {K : Cx} {R S Y : Type} {Q : Post R} {E : Env} {H : List HA} {opt : Option R} {ops : Array Oper} {rest : List Oper} {o : Oper}
/-! ### 2. Variables -/
theorem re_box {x : Operand} {v : Value} {t : TypeId} {cs : List Value} (ho : o.op = .box t x) (hx : ev E x = some v) (hc : v.cells = cs.toArray) :
    RE K (Y := Nat) o E H (fun b => .pointer (some ⟨b, 0, none⟩)) (fun b => obj b t cs :: H) :=
  re_run (by rw [ho]; intro c h; cases h) fun a w he hs => by
    refine ⟨w.heap.size, { w with heap := w.heap.push (.cells cs.toArray t (0, 0)) }, ?_, hs.new _⟩
    unfold execOp; simp only [ho]; rw [he.ev hx]
    simp [Instr.box, newVar, newRow, newObj, Sem.run, hc]
theorem re_alloc {t : TypeId} {z : Value} {cs : List Value} (ho : o.op = .alloc t) (hz : ∀ w, (zeroValue t).run K.P w = .ok z w) (hc : z.cells = cs.toArray) :
    RE K (Y := Nat) o E H (fun b => .pointer (some ⟨b, 0, none⟩)) (fun b => obj b t cs :: H) :=
  re_run (by rw [ho]; intro c h; cases h) fun a w he hs => by
    refine ⟨w.heap.size, { w with heap := w.heap.push (.cells cs.toArray t (0, 0)) }, ?_, hs.new _⟩
    unfold execOp; simp only [ho]
    simp [Instr.alloc, hz, newVar, newRow, newObj, Sem.run, hc]
theorem q_load {x : Operand} {t : TypeId} {b off : Nat} {v : Value} (ho : o.op = .load t x) (hx : ev E x = some (.pointer (some ⟨b, off, none⟩))) (ha : ∀ w, (isAgg t).run K.P w = .ok false w)
    (hc : CellAt H b off v) : RQ K o E H v :=
  rq_same (by rw [ho]; intro c h; cases h) fun a w he hs => by
    unfold execOp; simp only [ho]; rw [he.ev hx]
    simp [Instr.loadAt, Instr.sureAddr, loadVar, ha, hc.sat hs]
theorem q_loads {x : Operand} {t : TypeId} {b off n : Nat} {vs : List Value} (ho : o.op = .load t x) (hx : ev E x = some (.pointer (some ⟨b, off, none⟩))) (ha : ∀ w, (isAgg t).run K.P w = .ok true w)
    (hs : ∀ w, (sizeOf t).run K.P w = .ok n w) (hn : vs.length = n) (hc : ∀ j v, vs[j]? = some v → CellAt H b (off + j) v) : RQ K o E H (.agg vs.toArray) :=
  rq_same (by rw [ho]; intro c h; cases h) fun a w he s => by
    unfold execOp; simp only [ho]; rw [he.ev hx]
    simp [Instr.loadAt, Instr.sureAddr, loadVar, ha, hs, ← hn, run_loads (P := K.P) fun j v hj => (hc j v hj).sat s]
theorem cells_obj {b off : Nat} {T : TypeId} {l vs : List Value} (k : Nat) (hk : H[k]? = some (obj b T l)) (hv : ∀ j v, vs[j]? = some v → l[off + j]? = some v) : ∀ j v, vs[j]? = some v → CellAt H b (off + j) v :=
  fun j v h => .obj k hk (hv j v h)
theorem q_loado {x : Operand} {t T : TypeId} {b n : Nat} {vs : List Value} (k : Nat) (ho : o.op = .load t x) (hx : ev E x = some (.pointer (some ⟨b, 0, none⟩))) (ha : ∀ w, (isAgg t).run K.P w = .ok true w)
    (hs : ∀ w, (sizeOf t).run K.P w = .ok n w) (hk : H[k]? = some (obj b T vs)) (hn : vs.length = n) : RQ K o E H (.agg vs.toArray) :=
  q_loads ho hx ha hs hn (by intro j v h; rw [Nat.zero_add]; exact .obj k hk h)
theorem re_store {x y : Operand} {t T : TypeId} {b off n : Nat} {v : Value} {vs l : List Value} (k : Nat) (ho : o.op = .store t x y) (hx : ev E x = some (.pointer (some ⟨b, off, none⟩))) (hy : ev E y = some v)
    (hs : ∀ w, (sizeOf t).run K.P w = .ok n w) (hv : v.cells = vs.toArray) (hn : vs.length = n) (h1 : one vs) (hk : H[k]? = some (obj b T l)) (hin : Nat.ble (off + n) l.length = true) :
    RE K (Y := Unit) o E H (fun _ => undef) (fun _ => H.set k (obj b T (setL l off vs))) :=
  re_skip (by rw [ho]; intro c h; cases h) fun a w he s => by
    have hin : off + n ≤ l.length := by simpa [Nat.ble_eq] using hin
    have hkl : k < H.length := (List.getElem?_eq_some_iff.1 hk).1
    have s2 : Sat K.W (obj b T l :: H.eraseIdx k) w := s.ent (fun h x => by rw [stars_sel H k _ hk] at x; exact x)
    have hb : w.heap[b]? = some (.cells l.toArray T (0, 0)) := s2.pts_at (i := 0) rfl
    refine ⟨(), _, ?_, (s2.upd (o' := .cells (setL l off vs).toArray T (0, 0))).ent (fun h x => by rw [← stars_put H k _ hkl]; exact x)⟩
    unfold execOp; simp only [ho]; rw [he.ev hx, he.ev hy]
    have := run_store (P := K.P) off vs 0 l w hb (by omega) (fun j _ _ _ x => absurd x.2 (Nat.not_lt_zero _)) h1
    simp [Instr.storeAt, Instr.sureAddr, storeVar, hs, hv, hn, this]
theorem q_nil {x : Operand} {ad : Addr} (ho : o.op = .nilCheck x) (hx : ev E x = some (.pointer (some ad))) : RQ K o E H (.pointer (some ad)) :=
  rq_same (by rw [ho]; intro c h; cases h) fun a w he hs => by
    unfold execOp; simp only [ho]; rw [he.ev hx]; rfl
theorem q_fa {x : Operand} {t : TypeId} {i b off d : Nat} {fs : Array Field} {f : Field} {n : Nat} (ho : o.op = .fieldAddr t x i) (hx : ev E x = some (.pointer (some ⟨b, off, none⟩))) (hu : K.P.underlying t = some (.struct fs)) (hf : fs[i]? = some f) (hd : f.offset = d)
    (hs : ∀ w, (sizeOf f.type).run K.P w = .ok n w) (hn : (n == 0) = false) : RQ K o E H (.pointer (some ⟨b, off + d, none⟩)) :=
  rq_same (by rw [ho]; intro c h; cases h) fun a w he _ => by
    unfold execOp; simp only [ho]; rw [he.ev hx]
    have hn' : n ≠ 0 := by simpa using hn
    have hadd : (⟨b, off, none⟩ : Addr).add d = ⟨b, off + d, none⟩ := by unfold Addr.add; split <;> simp_all
    simp [Instr.fieldAt, underlying, program, Sem.run, hu, hf, Instr.sureAddr, fieldPlace, hs, hn', hd, hadd]
def evP : List (Nat × Operand) → Env → Option (List (Nat × Value))
  | [], _ => some []
  | (i, x) :: l, E => match ev E x, evP l E with
    | some v, some vs => some ((i, v) :: vs)
    | _, _ => none
theorem evP_map {n : Nat} {ds : List Deferred} {a : Act} (he : Has n ds E a) : ∀ (l : List (Nat × Operand)) (vs : List (Nat × Value)), evP l E = some vs → l.map (fun p => (p.1, a.eval p.2)) = vs
  | [], vs, h => by simp [evP] at h; subst h; rfl
  | (i, x) :: l, vs, h => by
    simp only [evP] at h
    split at h
    · rename_i v vs' h1 h2
      cases h
      simp [evP_map he l vs' h2, he.ev h1]
    · cases h
theorem q_build {t : TypeId} {l : List (Nat × Operand)} {vs : List (Nat × Value)} {v : Value} (ho : o.op = .build t l.toArray) (hx : evP l E = some vs) (hr : ∀ w, (Instr.build t vs.toArray).run K.P w = .ok v w) : RQ K o E H v :=
  rq_same (by rw [ho]; intro c h; cases h) fun a w he _ => by
    unfold execOp; simp only [ho]
    have : (l.toArray.map fun (i, x) => (i, a.eval x)) = vs.toArray := by
      rw [← evP_map he l vs hx]; simp
    rw [this]
    simp [hr]

/-! ### 3. Calls -/
def evs : List Operand → Env → Option (List Value)
  | [], _ => some []
  | x :: l, E => match ev E x, evs l E with
    | some v, some vs => some (v :: vs)
    | _, _ => none
theorem evs_map {n : Nat} {ds : List Deferred} {a : Act} (he : Has n ds E a) : ∀ (l : List Operand) (vs : List Value), evs l E = some vs → l.map a.eval = vs
  | [], vs, h => by simp [evs] at h; subst h; rfl
  | x :: l, vs, h => by
    simp only [evs] at h
    split at h
    · rename_i v vs' h1 h2
      cases h
      simp [evs_map he l vs' h2, he.ev h1]
    · cases h
theorem re_call {c : Call} {x : Operand} {xs : List Operand} {vs ws cap : List Value} {f : FuncId} {A : List HA} {rst : List HA} {S Y : Type} {o1 : Option S} {val : S → Y → Value} {B : S → Y → List HA} {s : S}
    (ho : o.op = .call c) (hcal : c.callee = .value x) (hca : c.args = xs.toArray) (hx : ev E x = some (.func (.func f) #[] cap.toArray)) (hxs : evs xs E = some vs) (hws : vs ++ cap = ws)
    (hf : ∀ args w, (callFunc f args).run K.P w = .ok (.enter f args) w) (hH : Ent H (A ++ rst))
    (h : Fn K.P K.W f ws A (stars rst) o1 val B) (hs : o1 = some s) : RE K o E H (val s) (fun y => B s y ++ rst) := by
  intro a w he hsat next Q hnx
  refine ⟨fun f _ => fen_fn _ _, ?_⟩
  rw [Oper.semAt_eq _ _ _ (by rw [ho]; intro c h; cases h)]
  have hr : (execOp a.eval o).run K.P w = .ok (.enter f ws.toArray) w := by
    unfold execOp; simp only [ho]
    have : c.args.map a.eval = vs.toArray := by rw [hca, ← evs_map he xs vs hxs]; simp
    simp [resolve, hcal, this, he.ev hx, Deferred.ofValue, invoke, hf, ← hws]
  rw [hr]
  refine ⟨fen_depth _, ?_⟩
  have := h s hs w (hsat.ent (hH.trans (Ent.fold A rst)))
  have hw : CallsIn (fen K.ro) (0 - 1) K.P f ws.toArray w (fun e w' => ∃ y, e = Ending.returned (val s y) ∧ Sat K.W (B s y ++ [stars rst]) w') := by
    cases hro : K.ro with
    | none => exact callsIn_wide.2 this
    | some l => exact CallsIn.inRound l (callsIn_wide.2 this)
  refine hw.mono ?_
  rintro e w' ⟨y, rfl, s2⟩
  exact hnx y w' (s2.ent (Ent.unfold _ _))
end
end Go.Proofs.YtbcnegennmpliaaDoor
