/- Texts that lead to the law WalCompacts: Sl15, Sl16, Sl17, Sl18, Sl19, Sl20, Sl21, Sl23, Sl24, Sl25, Sl26, Sl27, Sh, Sl28, Sl29, Sl30, Sl31, Sl32, Sl33. Conditions: as each says. -/
import Derived.Test.YtndjkejhacfpdaaGreatDoorM1
import Derived.Maps.Own
import Derived.Maps.Range
import Derived.Sort.KeysCollected
import Derived.Lib.SlKeysI
import Derived.Maps.RangeRun
import Derived.Lib.LaidTab
import Derived.Shelf.Strconv.Itoa4
import Derived.Shelf.Strconv.ErrVarParseInt
import Derived.Shelf.SlIter.Nil
import Derived.Shelf.SlIterI.Nil
import Derived.Shelf.SortM.Plain
import Derived.Shelf.SortM.SortNone
import Derived.Shelf.Strconv.Itoa3
import Derived.Test.YtndjkejhacfpdaaGreatDoorProg
import Derived.RecoverIn
import Derived.Sort.Row
set_option linter.unusedVariables false
set_option linter.unusedSimpArgs false
set_option linter.unusedSectionVars false
namespace Go.Proofs.YtndjkejhacfpdaaGreatDoor
open Go.RowKit
section
variable {α β : Type} [DecidableEq α]
def aR : List (α × β) → α → Option β
 | [], _ => none
 | p :: l, x => if p.1 = x then some p.2 else aR l x
def aX : List (α × β) → α → β → List (α × β)
 | [], x, y => [(x, y)]
 | p :: l, x, y => if p.1 = x then (x, y) :: l else p :: aX l x y
def dy : List (α × β) → α → List (α × β)
 | [], _ => []
 | p :: l, x => if p.1 = x then l else p :: dy l x
def ex : List (α × β) → α → Nat → Option (Nat × β)
 | [], _, _ => none
 | p :: l, x, i => if p.1 = x then some (i, p.2) else ex l x (i + 1)
theorem kJ : ∀ (l : List (α × β)) (x : α) (i : Nat), (ex l x i).map (·.2) = aR l x
 | [], _, _ => rfl
 | p :: l, x, i => by
  simp only [ex, aR]
  split
  ·rfl
  ·exact kJ l x (i + 1)
end
structure iE (P : Program) (T : TypeId) {α : Type} [DecidableEq α] (ek : α → Value) : Prop where
 chk : ∀ e x w, (Instr.checkKey e 10000 T (ek x)).run P w = .ok () w
 desc : ∃ u, P.underlying T = some u ∧ ((∀ x y, Instr.sameNow u (ek x) (ek y) = some (decide (x = y))) ∨ ((∀ x y, Instr.sameNow u (ek x) (ek y) = none) ∧ ∀ x y w, (Op.equal T (ek x) (ek y)).run P w = .ok (decide (x = y)) w))
 bits : ∀ x, Instr.sameBits 10000 (ek x) (ek x) = true
section
variable {α β : Type} [DecidableEq α] {P : Program} {T : TypeId} {ek : α → Value} {ev : β → Value}
def cU (ek : α → Value) (ev : β → Value) (es : List MapEntry) (kvs : List (α × β)) : Prop := es.map (fun e => (e.key, e.val)) = kvs.map fun p => (ek p.1, ev p.2)
theorem lr {u : TypeDesc} (q : ∀ x y, Instr.sameNow u (ek x) (ek y) = some (decide (x = y))) (x : α) : ∀ (kvs : List (α × β)) (es : List MapEntry) (i : Nat), cU ek ev es kvs → Instr.findNow u (ek x) es i = some ((ex kvs x i).map fun p => (p.1, ev p.2))
 | [], es, i, h => by
  have : es = [] := by simpa [cU] using h
  subst this; rfl
 | p :: l, [], i, h => by simp [cU] at h
 | p :: l, e :: es, i, h => by
  simp only [cU, List.map_cons, List.cons.injEq, Prod.mk.injEq] at h
  obtain ⟨⟨h1, r⟩, D⟩ := h
  simp only [Instr.findNow, ex]
  rw [h1, q]
  by_cases hx : p.1 = x
  ·rw [if_pos hx, hx]; simp [r]
  ·rw [if_neg hx, decide_eq_false (fun e => hx e.symm)]
   exact lr q x l es (i + 1) D
theorem kp {x : α} (q : ∀ x y w, (Op.equal T (ek x) (ek y)).run P w = .ok (decide (x = y)) w) (w : World) : ∀ (kvs : List (α × β)) (es : List MapEntry) (i : Nat), cU ek ev es kvs → (Instr.findAsking T (ek x) es i).run P w = .ok ((ex kvs x i).map fun p => (p.1, ev p.2)) w
 | [], es, i, h => by
  have : es = [] := by simpa [cU] using h
  subst this; simp [Instr.findAsking, ex]
 | p :: l, [], i, h => by simp [cU] at h
 | p :: l, e :: es, i, h => by
  simp only [cU, List.map_cons, List.cons.injEq, Prod.mk.injEq] at h
  obtain ⟨⟨h1, r⟩, u⟩ := h
  simp only [Instr.findAsking, ex, Sem.run_bind]
  rw [h1, q]
  simp only [Result.andThen_ok]
  by_cases hx : p.1 = x
  ·rw [if_pos hx, hx]; simp [r]
  ·rw [if_neg hx, decide_eq_false (fun e => hx e.symm)]
   simpa using kp q w l es (i + 1) u
theorem pM {u : TypeDesc} (q : ∀ x y, Instr.sameNow u (ek x) (ek y) = none) (x : α) : ∀ (kvs : List (α × β)) (es : List MapEntry) (i : Nat), cU ek ev es kvs → kvs ≠ [] → Instr.findNow u (ek x) es i = none
 | [], es, i, h, hn => absurd rfl hn
 | p :: l, [], i, h, _ => by simp [cU] at h
 | p :: l, e :: es, i, h, _ => by
  simp only [cU, List.map_cons, List.cons.injEq, Prod.mk.injEq] at h
  simp only [Instr.findNow]
  rw [h.1.1, q]
theorem iE.find (K : iE P T ek) (w : World) {kvs : List (α × β)} {es : List MapEntry} (h : cU ek ev es kvs) (x : α) : (Instr.findKey T (ek x) es).run P w = .ok ((ex kvs x 0).map fun p => (p.1, ev p.2)) w := by
 obtain ⟨u, r, q⟩ := K.desc
 unfold Instr.findKey
 simp only [Sem.run_bind, underlying, program, Sem.run, r, Result.andThen_ok, Sem.run_pure]
 rcases q with q | ⟨q, D⟩
 ·rw [lr q x kvs es 0 h]; simp
 ·by_cases hn : kvs = []
  ·subst hn
   have : es = [] := by simpa [cU] using h
   subst this
   simp [Instr.findNow, ex]
  ·rw [pM q x kvs es 0 h hn]
   exact kp D w kvs es 0 h
def aj (b : Nat) (ek : α → Value) (ev : β → Value) (kvs : List (α × β)) : HA := fun h => ∃ es q, h b = some (.map es q) ∧ cU ek ev es.toList kvs ∧ (es.toList.map (·.born)).Nodup ∧ ∀ e ∈ es.toList, e.born < q
theorem Sat.map_open {W w : World} {l : List HA} {b : Nat} {kvs : List (α × β)} (s : Sat W (aj b ek ev kvs :: l) w) :
  ∃ es q, cU ek ev es.toList kvs ∧ (es.toList.map (·.born)).Nodup ∧ (∀ e ∈ es.toList, e.born < q) ∧ Sat W (pts b (.map es q) :: l) w := by
 obtain ⟨x, y, d, e, ⟨es, q, h1, u, D, G⟩, r⟩ := s.hp
 exact ⟨es, q, u, D, G, s.os, s.tape, s.output, s.size, x, y, d, e, h1, r⟩
theorem Sat.map_close {W w : World} {l : List HA} {b q : Nat} {es : Array MapEntry} {kvs : List (α × β)} (s : Sat W (pts b (.map es q) :: l) w) (h1 : cU ek ev es.toList kvs) (r : (es.toList.map (·.born)).Nodup) (u : ∀ e ∈ es.toList, e.born < q) : Sat W (aj b ek ev kvs :: l) w :=
 s.ent (Ent.sel' 0 rfl (fun h x => ⟨es, q, x, h1, r, u⟩) (Ent.refl _))
theorem kq : ∀ (l : List (α × β)) (x : α) (i j : Nat) (y : β), ex l x i = some (j, y) → i ≤ j ∧ j - i < l.length
 | [], _, _, _, _, h => by simp [ex] at h
 | p :: l, x, i, j, y, h => by
  simp only [ex] at h
  split at h
  ·simp at h; obtain ⟨rfl, _⟩ := h; simp
  ·obtain ⟨h1, q⟩ := kq l x (i + 1) j y h; simp; omega
theorem lm : ∀ (kvs : List (α × β)) (es : List MapEntry) (x : α) (y : β) (i j : Nat) (z : β), cU ek ev es kvs → ex kvs x i = some (j, z) → cU ek ev (es.modify (j - i) fun e => { e with key := ek x, val := ev y }) (aX kvs x y)
 | [], es, x, y, i, j, z, _, h => by simp [ex] at h
 | p :: l, [], x, y, i, j, z, he, h => by simp [cU] at he
 | p :: l, e :: es, x, y, i, j, z, he, h => by
  simp only [cU, List.map_cons, List.cons.injEq, Prod.mk.injEq] at he
  obtain ⟨⟨h1, u⟩, r⟩ := he
  simp only [ex] at h
  simp only [aX]
  split at h
  ·rename_i q
   simp at h
   rw [if_pos q, ← h.1]
   simp [cU]
   exact r
  ·rename_i q
   obtain ⟨a, b⟩ := kq l x (i + 1) j z h
   rw [if_neg q, show j - i = (j - (i + 1)) + 1 by omega]
   simp only [List.modify_succ_cons, cU, List.map_cons, List.cons.injEq, Prod.mk.injEq]
   exact ⟨⟨h1, u⟩, lm l es x y (i + 1) j z r h⟩
theorem ll : ∀ (kvs : List (α × β)) (es : List MapEntry) (x : α) (y : β) (i c : Nat), cU ek ev es kvs → ex kvs x i = none → cU ek ev (es ++ [{ key := ek x, val := ev y, born := c }]) (aX kvs x y)
 | [], es, x, y, i, c, he, _ => by
  have : es = [] := by simpa [cU] using he
  subst this; simp [cU, aX]
 | p :: l, [], x, y, i, c, he, h => by simp [cU] at he
 | p :: l, e :: es, x, y, i, c, he, h => by
  simp only [cU, List.map_cons, List.cons.injEq, Prod.mk.injEq] at he
  obtain ⟨⟨h1, q⟩, r⟩ := he
  simp only [ex] at h
  simp only [aX]
  split at h
  ·simp at h
  ·rename_i u
   rw [if_neg u]
   simp only [List.cons_append, cU, List.map_cons, List.cons.injEq, Prod.mk.injEq]
   exact ⟨⟨h1, q⟩, ll l es x y (i + 1) c r h⟩
theorem nS : ∀ (kvs : List (α × β)) (es : List MapEntry) (x : α) (i j : Nat) (z : β), cU ek ev es kvs → ex kvs x i = some (j, z) → cU ek ev (es.eraseIdx (j - i)) (dy kvs x)
 | [], es, x, i, j, z, _, h => by simp [ex] at h
 | p :: l, [], x, i, j, z, he, h => by simp [cU] at he
 | p :: l, e :: es, x, i, j, z, he, h => by
  simp only [cU, List.map_cons, List.cons.injEq, Prod.mk.injEq] at he
  obtain ⟨⟨h1, u⟩, r⟩ := he
  simp only [ex] at h
  simp only [dy]
  split at h
  ·rename_i q
   simp at h
   rw [if_pos q, ← h.1]
   simpa [cU] using r
  ·rename_i q
   obtain ⟨a, b⟩ := kq l x (i + 1) j z h
   rw [if_neg q, show j - i = (j - (i + 1)) + 1 by omega]
   simp only [List.eraseIdx_cons_succ, cU, List.map_cons, List.cons.injEq, Prod.mk.injEq]
   exact ⟨⟨h1, u⟩, nS l es x (i + 1) j z r h⟩
theorem nT : ∀ (kvs : List (α × β)) (x : α) (i : Nat), ex kvs x i = none → dy kvs x = kvs
 | [], _, _, _ => rfl
 | p :: l, x, i, h => by
  simp only [ex] at h
  simp only [dy]
  split at h
  ·simp at h
  ·rename_i q; rw [if_neg q, nT l x (i + 1) h]
theorem mi : ∀ (kvs : List (α × β)) (es : List MapEntry) (x : α) (i j : Nat) (z : β), cU ek ev es kvs → ex kvs x i = some (j, z) → ∃ e, es[j - i]? = some e ∧ e.key = ek x
 | [], es, x, i, j, z, _, h => by simp [ex] at h
 | p :: l, [], x, i, j, z, he, h => by simp [cU] at he
 | p :: l, e :: es, x, i, j, z, he, h => by
  simp only [cU, List.map_cons, List.cons.injEq, Prod.mk.injEq] at he
  obtain ⟨⟨h1, u⟩, q⟩ := he
  simp only [ex] at h
  split at h
  ·rename_i r
   simp at h
   rw [← h.1]
   exact ⟨e, by simp, by rw [h1, r]⟩
  ·obtain ⟨a, b⟩ := kq l x (i + 1) j z h
   rw [show j - i = (j - (i + 1)) + 1 by omega]
   simpa using mi l es x (i + 1) j z q h
end
section
variable {K : Cx} {R S Y : Type} {Q : de R} {E : Env} {H : List HA} {opt : Option R} {ops : Array Oper} {rest : List Oper} {o : Oper} {α β : Type} [DecidableEq α] {ek : α → Value} {ev : β → Value} {T VT t : TypeId} {b : Nat} {kvs : List (α × β)}
theorem pz {t : TypeId} (q : o.op = .makeMap t none) : RE K (Y := Nat) o E H (fun b => .map (some b)) (fun b => aj b ek ev [] :: H) :=
 fW (by rw [q]; intro c h; cases h) fun a w u r => by
  refine ⟨w.heap.size, { w with heap := w.heap.push (.map #[] 0) }, ?_, (r.new _).map_close (by simp [cU]) (by simp) (by simp)⟩
  unfold execOp; simp only [q]
  simp [Instr.makeMap, newObj, Sem.run]
theorem jx {x y : Operand} {z : β} (k : Nat) (v : α) (G : o.op = .lookup t x y false) (U : Go.Proofs.YtndjkejhacfpdaaGreatDoor.ev E x = some (.map (some b))) (X : Go.Proofs.YtndjkejhacfpdaaGreatDoor.ev E y = some (ek v)) (I : K.P.underlying t = some (.map T VT)) (u : iE K.P T ek) (hz : ∀ w, (zeroValue VT).run K.P w = .ok (ev z) w) (hk : H[k]? = some (aj b ek ev kvs)) :
  RQ K o E H (ev ((aR kvs v).getD z)) :=
 cA (by rw [G]; intro c h; cases h) fun a w J s => by
  obtain ⟨es, D, h1, h2, h3, s2⟩ := (s.focus hk).map_open
  have L := s2.pts_at (i := 0) rfl
  have r := u.find w h1 v
  have q := kJ kvs v 0
  unfold execOp; simp only [G]; rw [J.ev U, J.ev X]
  cases hp : ex kvs v 0 with
  | none =>
   rw [hp] at r q
   simp at q
   simp [Instr.lookup, underlying, program, Sem.run, I, getObj, L, u.chk, r, hz, ← q]
  | some p =>
   rw [hp] at r q
   simp at q
   simp [Instr.lookup, underlying, program, Sem.run, I, getObj, L, u.chk, r, ← q]
theorem fT (es : Array MapEntry) (i : Nat) (f : MapEntry → MapEntry) : (es.modify i f).toList = es.toList.modify i f := by
 apply List.ext_getElem?
 intro j
 simp [List.getElem?_modify, Array.getElem?_modify]
theorem uh {x y z : Operand} (k : Nat) (v : α) (u : β) (X : o.op = .mapUpdate t x y z) (hx : Go.Proofs.YtndjkejhacfpdaaGreatDoor.ev E x = some (.map (some b))) (hy : Go.Proofs.YtndjkejhacfpdaaGreatDoor.ev E y = some (ek v)) (hz : Go.Proofs.YtndjkejhacfpdaaGreatDoor.ev E z = some (ev u)) (hu : K.P.underlying t = some (.map T VT)) (J : iE K.P T ek) (hk : H[k]? = some (aj b ek ev kvs)) :
  RE K (Y := Unit) o E H (fun _ => undef) (fun _ => H.set k (aj b ek ev (aX kvs v u))) :=
 nq (by rw [X]; intro c h; cases h) fun a w D s => by
  obtain ⟨es, r, h1, h2, h3, s2⟩ := (s.focus hk).map_open
  have L := s2.pts_at (i := 0) rfl
  have U := J.find w h1 v
  cases hp : ex kvs v 0 with
  | none =>
   rw [hp] at U
   refine ⟨(), _, ?_, Sat.unfocus hk ((s2.upd (b := b) (o' := .map (es.push { key := ek v, val := ev u, born := r }) (r + 1))).map_close ?_ ?_ ?_)⟩
   ·unfold execOp; simp only [X]; rw [D.ev hx, D.ev hy, D.ev hz]
    simp [Instr.mapUpdate, underlying, program, Sem.run, hu, getObj, L, J.chk, U, setObj]
   ·simpa using ll kvs es.toList v u 0 r h1 hp
   ·simp only [Array.toList_push, List.map_append, List.map_cons, List.map_nil]
    refine List.nodup_append.2 ⟨h2, by simp, fun a ha b L => ?_⟩
    simp only [List.mem_singleton] at L
    obtain ⟨e, D, rfl⟩ := List.mem_map.1 ha
    have := h3 e D
    omega
   ·intro e D
    simp only [Array.toList_push, List.mem_append, List.mem_singleton] at D
    rcases D with D | rfl
    ·have := h3 e D; omega
    ·simp
  | some p =>
   obtain ⟨j, q⟩ := p
   rw [hp] at U
   obtain ⟨e0, hj, G⟩ := mi kvs es.toList v 0 j q h1 hp
   rw [Nat.sub_zero] at hj
   have al : es[j]? = some e0 := by simpa using hj
   have I : (Instr.keyThatStays (ek v) (ek v)).run K.P w = .ok (ek v) w := by simp [Instr.keyThatStays, J.bits]
   refine ⟨(), _, ?_, Sat.unfocus hk ((s2.upd (b := b) (o' := .map (es.modify j fun e => { e with key := ek v, val := ev u }) r)).map_close ?_ ?_ ?_)⟩
   ·unfold execOp; simp only [X]; rw [D.ev hx, D.ev hy, D.ev hz]
    simp [Instr.mapUpdate, underlying, program, Sem.run, hu, getObj, L, J.chk, U, al, G, I, setObj]
   ·rw [fT]
    simpa using lm kvs es.toList v u 0 j q h1 hp
   ·rw [fT]
    have : (es.toList.modify j fun e => { e with key := ek v, val := ev u }).map (·.born) = es.toList.map (·.born) := by
     apply List.ext_getElem?
     intro i
     simp only [List.getElem?_map, List.getElem?_modify]
     by_cases hi : j = i <;> simp [hi] <;> cases es[i]? <;> simp
    rw [this]; exact h2
   ·rw [fT]
    intro e D
    obtain ⟨i, hi⟩ := List.mem_iff_getElem?.1 D
    rw [List.getElem?_modify] at hi
    cases hq : es.toList[i]? with
    | none => rw [hq] at hi; simp at hi
    | some e1 =>
     rw [hq] at hi
     have := h3 e1 (List.mem_of_getElem? hq)
     by_cases hji : j = i
     ·simp [hji] at hi; rw [← hi]; exact this
     ·simp [hji] at hi; rw [← hi]; exact this
theorem ui {x y : Operand} {X : Array TypeId} (k : Nat) (v : α) (I : o.op = .call { callee := .builtin .delete, args := #[x, y], argTypes := X }) (hx : Go.Proofs.YtndjkejhacfpdaaGreatDoor.ev E x = some (.map (some b))) (hy : Go.Proofs.YtndjkejhacfpdaaGreatDoor.ev E y = some (ek v)) (ht : X[0]? = some t) (hu : K.P.underlying t = some (.map T VT)) (J : iE K.P T ek) (L : H[k]? = some (aj b ek ev kvs)) :
  RE K (Y := Unit) o E H (fun _ => .tuple #[]) (fun _ => H.set k (aj b ek ev (dy kvs v))) :=
 fW (by rw [I]; intro c h; cases h) fun a w u s => by
  obtain ⟨es, r, h1, h2, h3, U⟩ := (s.focus L).map_open
  have hb := U.pts_at (i := 0) rfl
  have G := J.find w h1 v
  cases hp : ex kvs v 0 with
  | none =>
   rw [hp] at G
   refine ⟨(), _, ?_, Sat.unfocus L ((U.upd (b := b) (o' := .map es r)).map_close (by rw [nT kvs v 0 hp]; exact h1) h2 h3)⟩
   unfold execOp; simp only [I]
   simp [resolve, invoke, builtin, Builtin.delete_, ht, underlying, program, Sem.run, hu, u.ev hx, u.ev hy, getObj, hb, J.chk, G, setObj]
  | some p =>
   obtain ⟨j, q⟩ := p
   rw [hp] at G
   have a7 := kq kvs v 0 j q hp
   have a8 : es.size = kvs.length := by have := congrArg List.length h1; simpa [cU] using this
   have D : j < es.size := by omega
   refine ⟨(), _, ?_, Sat.unfocus L ((U.upd (b := b) (o' := .map (es.eraseIdxIfInBounds j) r)).map_close ?_ ?_ ?_)⟩
   ·unfold execOp; simp only [I]
    simp [resolve, invoke, builtin, Builtin.delete_, ht, underlying, program, Sem.run, hu, u.ev hx, u.ev hy, getObj, hb, J.chk, G, setObj]
   ·have := nS kvs es.toList v 0 j q h1 hp
    simpa [Array.eraseIdxIfInBounds, D] using this
   ·simp only [Array.eraseIdxIfInBounds, D, dif_pos, Array.toList_eraseIdx]
    exact (List.Sublist.map _ (List.eraseIdx_sublist _ _)).nodup h2
   ·intro e u
    simp only [Array.eraseIdxIfInBounds, D, dif_pos, Array.toList_eraseIdx] at u
    exact h3 e ((List.eraseIdx_sublist _ _).subset u)
/-! ### Strings by order -/
end
/-! ### Keys -/
theorem tk {P : Program} {T : TypeId} {k : IntKind} (q : P.underlying T = some (.int k)) : iE P T (fun x : Int => .int k x) :=
 ⟨fun e x w => by rw [show (10000 : Nat) = 9999 + 1 from rfl, Instr.checkKey]; simp [underlying, program, Sem.run, q], ⟨_, q, .inl fun x y => by simp [Instr.sameNow]; rw [Bool.eq_iff_iff]; simp⟩, fun x => by rw [Instr.sameBits]; simp⟩
theorem tm {P : Program} {T : TypeId} (q : P.underlying T = some .string) : iE P T (fun x : List UInt8 => str x) :=
 ⟨fun e x w => by rw [show (10000 : Nat) = 9999 + 1 from rfl, Instr.checkKey]; simp [underlying, program, Sem.run, q, str], ⟨_, q, .inl fun x y => by simp [Instr.sameNow, str]; rw [beq_toListBytes, ByteArray.toList_eq, ByteArray.toList_eq, Bool.eq_iff_iff]; simp⟩, fun x => by unfold str; rw [Instr.sameBits, beq_toListBytes]; simp⟩
end Go.Proofs.YtndjkejhacfpdaaGreatDoor

namespace Go.Proofs.YtndjkejhacfpdaaGreatDoor
open Go.RowKit
theorem oo (vs : List Value) (l m : List Value) (k : Nat) (h : k + vs.length ≤ l.length) : fu (l ++ m) k vs = fu l k vs ++ m := by
 rw [gX _ _ _ (by simp; omega), gX _ _ _ h, List.take_append_of_le_length (by omega), List.drop_append_of_le_length h]
 simp
theorem nl (vs : List Value) (l m : List Value) (k : Nat) (h : k + vs.length ≤ m.length) : fu (l ++ m) (l.length + k) vs = l ++ fu m k vs := by
 rw [gX _ _ _ (by simp; omega), gX _ _ _ h]
 rw [List.take_append, List.drop_append, List.take_of_length_le (by omega), List.drop_of_length_le (by omega)]
 rw [show l.length + k - l.length = k by omega, show l.length + k + vs.length - l.length = k + vs.length by omega]
 simp
section
variable {α : Type} {n : Nat} {V : α → List Value → Prop}
theorem bI.set (u : α) (d : Nat) (vs : List Value) (hd : d + vs.length ≤ n) (h1 : one vs) (D : α) : ∀ {xs : List α} {rs : List (List Value)} (i : Nat), bI n V xs rs → i < xs.length → (∀ r, V (xs.getD i D) r → r.length = n → one r → V u (fu r d vs)) →
  ∃ q, bI n V (xs.set i u) q ∧ fu rs.flatten (i * n + d) vs = q.flatten
 | x :: xs, r :: rs, 0, ⟨⟨a, b, c⟩, t⟩, _, hu => by
  refine ⟨fu r d vs :: rs, ⟨⟨by rw [iU]; exact a, ?_, hu r c a b⟩, t⟩, ?_⟩
  ·rw [gX _ _ _ (by omega)]
   intro v G
   simp only [List.mem_append] at G
   rcases G with (G | G) | G
   ·exact b v (List.mem_of_mem_take G)
   ·exact h1 v G
   ·exact b v (List.mem_of_mem_drop G)
  ·simp only [List.flatten_cons, Nat.zero_mul, Nat.zero_add]
   exact oo vs r _ d (by omega)
 | x :: xs, r :: rs, i + 1, ⟨⟨a, b, c⟩, t⟩, h, hu => by
  obtain ⟨q, L, U⟩ := bI.set u d vs hd h1 D i t (by simpa using h) (by simpa using hu)
  refine ⟨r :: q, ⟨⟨a, b, c⟩, L⟩, ?_⟩
  simp only [List.flatten_cons]
  have I := t.flat
  have hi : i < xs.length := by simpa using h
  have J : i * n + d + vs.length ≤ rs.flatten.length := by
   rw [I]
   have : (i + 1) * n ≤ xs.length * n := Nat.mul_le_mul_right _ hi
   rw [Nat.add_mul] at this
   omega
  rw [← U, show (i + 1) * n + d = r.length + (i * n + d) by rw [Nat.add_mul, a]; omega]
  exact nl vs r _ _ J
end
structure ot (n : Nat) (a : Option Addr) (c : Nat) (lo : Int) (a' : Option Addr) (c' : Nat) : Prop where
 addr : a' = (if c = lo.toNat then a else a.map (·.add (lo.toNat * n)))
 cap : c' = c - lo.toNat
theorem gb {α : Type} {n : Nat} {V : α → List Value → Prop} {F : HA} {a : Option Addr} {l : List α} {c : Nat} {lo hi : Int} (G : RdV F n V a l) (u : l.length ≤ c) (I : 0 ≤ lo ∧ lo ≤ hi ∧ hi ≤ l.length) :
  ∃ D q, ot n a c lo D q ∧ RdV F n V D (cut l lo hi) ∧ (cut l lo hi).length ≤ q ∧ q ≤ c :=
 ⟨_, _, ⟨rfl, rfl⟩, G.cut lo.toNat hi.toNat (by omega), by rw [gu I.2.2]; omega, by omega⟩
section
variable {K : Cx} {R S Y α : Type} {Q : de R} {E : Env} {H : List HA} {opt : Option R} {ops : Array Oper} {rest : List Oper} {o : Oper} {n : Nat} {V : α → List Value → Prop} {a : Option Addr} {xs : List α} {T : TypeId} {c : Nat}
theorem fA {x : Operand} {t e : Nat} {lo hi : Option Operand} {I : Option Addr} {J m : Nat} {l : List α} {D G : Option Value} {lo' hi' : Int}
  (ho : o.op = .slice t x lo hi none) (hx : ev E x = some (.slice a m c))
  (hl : lim E lo = some D) (hh : lim E hi = some G) (hu : K.P.underlying t = some (.slice e)) (hs : ∀ w, (sizeOf e).run K.P w = .ok n w)
  (h1 : (G = none ∧ hi' = m) ∨ ∃ k, G = some (.int k hi')) (h2 : (D = none ∧ lo' = 0) ∨ ∃ k, D = some (.int k lo')) (hb : 0 ≤ lo' ∧ lo' ≤ hi' ∧ hi' ≤ l.length) (U : l.length ≤ c) (hS : ot n a c lo' I J) :
  RQ K o E H (.slice I (cut l lo' hi').length J) := by
 obtain ⟨X, b2, b3⟩ := hb
 obtain ⟨rfl, rfl⟩ := hS
 obtain ⟨L, rfl⟩ := Int.eq_ofNat_of_zero_le X
 obtain ⟨M, rfl⟩ := Int.eq_ofNat_of_zero_le (Int.le_trans X b2)
 have u := gu (l := l) (lo := (L : Int)) (hi := (M : Int)) b3
 simp only [Int.toNat_natCast] at u
 have q := qz (K := K) (H := H) (o := o) (l := L) (h := M) ho hx hl hh hu hs (by rcases h1 with ⟨x, y⟩ | y; exact .inl ⟨x, by omega⟩; exact .inr y) (by rcases h2 with ⟨x, y⟩ | y; exact .inl ⟨x, by omega⟩; exact .inr y) (by omega) (by omega)
 rw [← u] at q
 simpa using q
theorem nc {T : TypeId} {n m c X : Nat} {a a' : Option Addr} {cs : List Value} {lo hi : Nat} (h1 : lo ≤ hi) (h2 : hi * n ≤ cs.length) (h3 : hi ≤ c) (G : a' = (if c = lo then a else a.map (·.add (lo * n)))) (u : X = c - lo) :
  ∀ h, Row T n a m c cs h → Row T n a' (hi - lo) X ((cs.take (hi * n)).drop (lo * n)) h := by
 intro h x
 rcases x with ⟨x1, x2, x3, x4⟩ | ⟨b, off, pre, junk, fz, I, ok, hb⟩
 ·left
  subst x4
  subst x3
  have : hi = 0 := by omega
  have : lo = 0 := by omega
  subst x1
  refine ⟨?_, by omega, by omega, by simp⟩
  rw [G]; split <;> rfl
 ·right
  subst I
  have J : lo * n ≤ hi * n := Nat.mul_le_mul_right _ h1
  have a7 : hi * n ≤ c * n := Nat.mul_le_mul_right _ h3
  have L := ok.room
  have q := ok.offs
  have af := ok.cap
  by_cases e : c = lo
  ·have U : hi = lo := by omega
   refine ⟨b, off, pre, cs ++ junk, fz, by rw [G, if_pos e], ⟨q, by omega, by omega, by rw [u, e]; simp, by rw [U]; simp, by rw [U]; simp [List.drop_of_length_le], ?_⟩, ?_⟩
   ·rcases ok.fzok with x | x
    ·exact .inl x
    ·right; rw [u, e]; simp; omega
   ·rw [hb]; congr 1
    have : (cs.take (hi * n)).drop (lo * n) = [] := by rw [List.drop_of_length_le]; rw [List.length_take, U]; exact Nat.min_le_left _ _
    rw [this]; simp
  ·have D : (⟨b, off, none⟩ : Addr).add (lo * n) = ⟨b, off + lo * n, none⟩ := po _ _ _
   refine ⟨b, off + lo * n, pre ++ cs.take (lo * n), cs.drop (hi * n) ++ junk, fz, by rw [G, if_neg e]; simp [D], ⟨?_, by omega, by omega, ?_, ?_, ?_, ?_⟩, ?_⟩
   ·rw [List.length_append, List.length_take]; omega
   ·rw [u, Nat.sub_mul, List.length_drop, List.length_take, List.length_append, List.length_drop]; omega
   ·rw [Nat.sub_mul, List.length_drop, List.length_take]; omega
   ·rw [u, Nat.sub_mul, List.length_drop, List.length_take]; omega
   ·rcases ok.fzok with x | x
    ·exact .inl x
    ·right; rw [u, Nat.sub_mul]; omega
   ·rw [hb]; congr 1
    have e1 : cs = cs.take (lo * n) ++ ((cs.take (hi * n)).drop (lo * n) ++ cs.drop (hi * n)) := by
     rw [← List.append_assoc]
     have : cs.take (lo * n) ++ (cs.take (hi * n)).drop (lo * n) = cs.take (hi * n) := by
      have := List.take_append_drop (lo * n) (cs.take (hi * n))
      rwa [List.take_take, Nat.min_eq_left J] at this
     rw [this, List.take_append_drop]
    have e2 : pre ++ cs ++ junk = pre ++ cs.take (lo * n) ++ (cs.take (hi * n)).drop (lo * n) ++ (cs.drop (hi * n) ++ junk) := by
     conv => lhs; rw [e1]
     simp only [List.append_assoc]
    rw [e2]
theorem pp {t e sz bytes : Nat} {u : List Value} (q : o.op = .buildSlice t 0 [].toArray) (D : K.P.underlying t = some (.slice e)) (G : Elt K.P e sz bytes u) :
  RE K (Y := Nat) o E H (fun b => .slice (some ⟨b, 0, none⟩) ([] : List α).length 0) (fun b => ar e sz V (some ⟨b, 0, none⟩) ([] : List α) 0 :: H) :=
 fW (by rw [q]; intro c h; cases h) fun U w X s => by
  obtain ⟨i, z, hi, hz, I, J, L⟩ := G.info
  refine ⟨w.heap.size, { w with heap := w.heap.push (.cells #[] e (0, 0)) }, ?_, (s.new _).ent (Ent.sel' 0 rfl ?_ (Ent.refl _))⟩
  ·unfold execOp; simp only [q]
   simp [Instr.buildSlice, underlying, program, Sem.run, D, sizeOf, typeInfo, hi, newRow, newObj, Instr.fill]
   refine congrArg (fun x => w.alloc (.cells x e)) ?_
   apply Array.ext <;> simp
  ·intro h x
   exact ⟨[], trivial, Row.mk (pre := []) (junk := []) (fz := (0, 0)) ⟨rfl, Nat.le_refl _, by simp [maxLen], by simp, by simp, by simp, Or.inl rfl⟩ h (by simpa [pts] using x)⟩
end
/-! ### Structs within structs -/
section
variable {P : Program} {d : Nat} {xs ys : Array Value} {f : Field} {fs : List Field} {a b : Value} {r s : Bool} {w : World}
end
section
variable {K : Cx} {E : Env} {H : List HA} {o : Oper}
end
end Go.Proofs.YtndjkejhacfpdaaGreatDoor

namespace Go.Proofs.YtndjkejhacfpdaaGreatDoor
open Go.RowKit
theorem lG {α : Type} {b : Bool} (h : b = true) (u v : α) : (bif b then u else v) = u := by rw [h]; rfl
theorem mI {α : Type} {b : Bool} (h : b = false) (u v : α) : (bif b then u else v) = v := by rw [h]; rfl
theorem bC {b : Bool} (h : b = true) : (b == true) = true := by rw [h]; rfl
theorem bD {b : Bool} (h : b = false) : (b == true) = false := by rw [h]; rfl
theorem vr {b q : Bool} (h : (b == q) = true) (v : Value) : v = cv (b == q) v := by rw [h]; rfl
theorem vB {b q : Bool} (h : (b == q) = false) (v : Value) : undef = cv (b == q) v := by rw [h]; rfl
section
variable {K : Cx} {R S Y : Type} {Q : de R} {E : Env} {H : List HA} {o : Option R}
theorem QOb.yes {ops : Array Oper} {r : List (List Nat)} {val : Nat → Value} {i j dj : Nat} {q b : Bool} {v : Value} {D : Oper} (u : Env) (G : ops[i]? = some D) (I : D.guard = some (j, q)) (J : dP ops j = some dj) (L : lk u dj = some (.bool b)) (U : (b == q) = true)
  (X : dA ops r val E i u) (h : RQ K D u H v) (hv : val i = v) : QOb K ops r val E H i :=
 .grd u G I J L X (fun _ => h) (by rw [hv]; exact vr U v)
theorem QOb.no {ops : Array Oper} {r : List (List Nat)} {val : Nat → Value} {i j dj : Nat} {q b : Bool} {D : Oper} (u : Env) (I : ops[i]? = some D) (J : D.guard = some (j, q)) (L : dP ops j = some dj) (U : lk u dj = some (.bool b)) (G : (b == q) = false)
  (X : dA ops r val E i u) (hv : val i = undef) : QOb K ops r val E H i :=
 .grd (v := undef) u I J L U X (fun x => by rw [G] at x; cases x) (by rw [hv]; exact vB G undef)
theorem dA.v {ops : Array Oper} {q : List (List Nat)} {val : Nat → Value} {E : Env} {i : Nat} {l : Env} {s : Nat} (p : Nat) (hp : (fO q i).contains p = true) (hd : dP ops p = some s) (r : dA ops q val E i l) : dA ops q val E i ((s, val p) :: l) := .w p hp hd rfl r
theorem qp {ops : Array Oper} {q : List (List Nat)} {val : Nat → Value} {i : Nat} {r : Oper} {v : Value} {u : Env} (D : ops[i]? = some r) (G : r.guard = none) (I : dA ops q val E i u) (h : RQ K r u H v) (J : val i = v) : QOb K ops q val E H i := .plain u D G I h J
theorem qy {ops : Array Oper} {r : List (List Nat)} {val : Nat → Value} {i j dj : Nat} {q b : Bool} {v : Value} {D : Oper} {u : Env} (G : ops[i]? = some D) (I : D.guard = some (j, q)) (J : dA ops r val E i u) (L : dP ops j = some dj) (U : lk u dj = some (.bool b)) (X : (b == q) = true)
  (h : RQ K D u H v) (hv : val i = v) : QOb K ops r val E H i := .yes u G I L U X J h hv
theorem qn {ops : Array Oper} {r : List (List Nat)} {val : Nat → Value} {i j dj : Nat} {q b : Bool} {D : Oper} {u : Env} (G : ops[i]? = some D) (I : D.guard = some (j, q)) (J : dA ops r val E i u) (L : dP ops j = some dj) (U : lk u dj = some (.bool b)) (X : (b == q) = false)
  (hv : val i = undef) : QOb K ops r val E H i := .no u G I L U X J hv
theorem eo {ops : Array Oper} {q : List (List Nat)} {Γ Z : Type} {val : Γ → Nat → Value} {heap : Nat → Γ → List HA} {m i : Nat} {pre : List Nat} {γ : Γ} {r : Oper} {v : Z → Value} {H' : Z → List HA} {u : Env} (f : Z → Γ) (D : ops[i]? = some r) (G : r.guard = none) (I : dA ops q (val γ) E i u)
  (h : RE K (Y := Z) r u (heap m γ) v H') (J : ∀ z, fU pre (val (f z)) (val γ)) (L : ∀ z, r.dst = none ∨ v z = val (f z) i) (U : ∀ z, Ent (H' z) (heap (m + 1) (f z))) : EOb K ops q val E heap m i pre γ := .mk u f D G I h J L U
theorem ey {ops : Array Oper} {r : List (List Nat)} {Γ Z : Type} {val : Γ → Nat → Value} {heap : Nat → Γ → List HA} {m i j dj : Nat} {q b : Bool} {pre : List Nat} {γ : Γ} {u : Oper} {v : Z → Value} {H' : Z → List HA} {D : Env} (f : Z → Γ) (G : ops[i]? = some u) (I : u.guard = some (j, q)) (J : dA ops r (val γ) E i D)
  (L : dP ops j = some dj) (U : lk D dj = some (.bool b)) (X : (b == q) = true)
  (h : RE K (Y := Z) u D (heap m γ) v H') (ha : ∀ z, fU pre (val (f z)) (val γ)) (hv : ∀ z, u.dst = none ∨ v z = val (f z) i) (hH : ∀ z, Ent (H' z) (heap (m + 1) (f z))) : EOb K ops r val E heap m i pre γ := .yes D f G I L U X J h ha hv hH
abbrev rL (n : Nat) : List Nat := List.range n
theorem zA {p : Nat → Prop} : All [] p := trivial
theorem ac {l : List Nat} {p : Nat → Prop} {i : Nat} (h : p i) (r : All l p) : All (i :: l) p := ⟨h, r⟩
end
end Go.Proofs.YtndjkejhacfpdaaGreatDoor

namespace Go.Proofs.YtndjkejhacfpdaaGreatDoor
open Go.RowKit
section
variable {P : Program}
end
end Go.Proofs.YtndjkejhacfpdaaGreatDoor

namespace Go.Proofs.YtndjkejhacfpdaaGreatDoor
open Go.RowKit
section
variable {α β : Type} [DecidableEq α] {P : Program} {T : TypeId} {ek : α → Value} {ev : β → Value}
end
section
variable {α β : Type} [DecidableEq α] {T VT : TypeId} {ek : α → Value} {ev : β → Value} {K : Cx} {E : Env} {H : List HA} {o : Oper} {t : TypeId} {b : Nat} {kvs : List (α × β)}
end
end Go.Proofs.YtndjkejhacfpdaaGreatDoor

namespace Go.Proofs.YtndjkejhacfpdaaGreatDoor
open Go.RowKit
theorem sP {α : Type} {l : List α} (k : Nat) {j : Nat} {v : α} (h : (l.drop k)[j]? = some v) : l[k + j]? = some v := by rwa [List.getElem?_drop] at h
theorem iy {H : List HA} {b o k j : Nat} {v : Value} (h : dR H b (o + (k + j)) v) : dR H b (o + k + j) v := by rw [Nat.add_assoc]; exact h
section
variable {K : Cx} {Y : Type} {E : Env} {H : List HA} {o : Oper} {v : Y → Value} {H' : Y → List HA}
theorem RE.ent {H1 : List HA} (e : Ent H H1) (h : RE K o E H1 v H') : RE K o E H v H' := fun a w q r next Q u => h a w q (r.ent e) next Q u
end
section
variable {α : Type} {T : TypeId} {n c : Nat} {a : Option Addr} {V : α → List Value → Prop} {xs : List α} {H : List HA}
theorem Ent.set' {l : List HA} {A B : HA} (k : Nat) (q : l[k]? = some A) (h : ∀ x, A x → B x) : Ent l (l.set k B) := by
 have e : l.set k A = l := by
  apply List.ext_getElem?
  intro i
  rw [List.getElem?_set]
  split
  ·rename_i hi; subst hi
   have := (List.getElem?_eq_some_iff.1 q).1
   rw [if_pos this, q]
  ·rfl
 have := Ent.set (l := l) k h
 rwa [e] at this
theorem Ent.cutV {lo hi : Int} {D : Option Addr} {G m : Nat} {rs : List (List Value)} (k : Nat) (L : H[k]? = some (Row T n a m c rs.flatten)) (q : bI n V xs rs) (I : ot n a c lo D G) (U : 0 ≤ lo ∧ lo ≤ hi ∧ hi ≤ xs.length) (J : xs.length ≤ c) :
  Ent H (H.set k (ar T n V D (cut xs lo hi) G)) :=
 Ent.set' k L fun p hp => by
  have r := q.flat
  have u : hi.toNat ≤ xs.length := by omega
  have X : hi.toNat * n ≤ rs.flatten.length := by rw [r]; exact Nat.mul_le_mul_right _ u
  have := nc (lo := lo.toNat) (hi := hi.toNat) (by omega) X (by omega) I.addr I.cap p hp
  refine ⟨(rs.take hi.toNat).drop lo.toNat, (q.take _).drop _, ?_⟩
  rw [gu U.2.2, (q.take _).flat_drop, q.flat_take]
  exact this
theorem Ent.cutB {lo hi : Int} {q : Option Addr} {r m : Nat} {l : List UInt8} (k : Nat) (G : H[k]? = some (Row T 1 a m c (aB l))) (u : sQ a c lo q r) (I : 0 ≤ lo ∧ lo ≤ hi ∧ hi ≤ l.length) (D : l.length ≤ c) :
  Ent H (H.set k (Row T 1 q (cut l lo hi).length r (aB (cut l lo hi)))) :=
 Ent.set' k G fun p hp => by
  have := nc (lo := lo.toNat) (hi := hi.toNat) (by omega) (by rw [db]; omega) (by omega) u.addr u.cap p hp
  rw [gu I.2.2]
  unfold cut
  rw [← kX, ← jL]
  simpa using this
end
section
variable {K : Cx} {E : Env} {H : List HA} {o : Oper} {α : Type} {n c : Nat} {a : Option Addr} {V : α → List Value → Prop} {xs : List α}
theorem lP {x y : Operand} {t e bytes : Nat} {D : List Value} {a2 : Option Addr} {c2 : Nat} {q : List α} (k : Nat) (G : o.op = .call { callee := .builtin .append, args := #[x, y], argTypes := #[t, t] })
  (I : ev E x = some (.slice a xs.length c)) (J : ev E y = some (.slice a2 q.length c2)) (L : K.P.underlying t = some (.slice e)) (U : Elt K.P e n bytes D) (u : H[k]? = some (ar e n V a xs c))
  (X : gj (H.eraseIdx k) n V a2 q) (hb : (xs.length + q.length) * bytes ≤ 140737488355328) :
  RE K (Y := Option Addr × Nat) o E H (fun y => .slice y.1 (xs ++ q).length y.2) (fun y => H.set k (ar e n V y.1 (xs ++ q) y.2)) := by
 intro a' w he hs next Q hn
 obtain ⟨rs, hl, s⟩ := kY k u hs
 have r := (List.getElem?_eq_some_iff.1 u).1
 refine ez (H := H.set k (Row e n a xs.length c rs.flatten)) k G I J L U (by simp [r]) hl (by rw [List.eraseIdx_set_eq]; exact X) hb a' w he s next Q fun y w' s' => hn y w' ?_
 simpa only [List.set_set] using s'
theorem lQ {q e : TypeId} (P : Program) (r : P.underlying q = some (.pointer e)) (w : World) : (Op.equal q (.pointer none) (.pointer none)).run P w = .ok true w := by
 rw [show Op.equal q (.pointer none) (.pointer none) = Op.equalIn (9999 + 1) q (.pointer none) (.pointer none) from rfl, Op.equalIn]
 simp [underlying, program, Sem.run, r]
theorem kf {q D e : TypeId} {x y : Operand} (r : o.op = .binOp .eql q x y D) (G : ev E x = some (.pointer none)) (I : ev E y = some (.pointer none)) (J : K.P.underlying q = some (.pointer e)) : RQ K o E H (.bool true) :=
 cA (by rw [r]; intro c h; cases h) fun a w u _ => by
  unfold execOp; simp only [r]; rw [u.ev G, u.ev I]
  simp [iT, binOp, lQ K.P J]
theorem uH {q D e : TypeId} {x y : Operand} (r : o.op = .binOp .neq q x y D) (G : ev E x = some (.pointer none)) (I : ev E y = some (.pointer none)) (J : K.P.underlying q = some (.pointer e)) : RQ K o E H (.bool false) :=
 cA (by rw [r]; intro c h; cases h) fun a w u _ => by
  unfold execOp; simp only [r]; rw [u.ev G, u.ev I]
  simp [iT, binOp, lQ K.P J]
end
/-! ### What may be nil -/
def vH (b : Bool) (y : Nat) : Option Addr := match b with
 | true => some ⟨y, 0, none⟩
 | false => none
def mC (b : Bool) (l : List HA) : HA := match b with
 | true => aN l
 | false => tt
theorem Ent.when_yes {l m az : List HA} {b : Bool} (q : b = true) (r : Ent l (az ++ m)) : Ent l (mC b az :: m) := by
 subst q
 intro h s
 exact (cu az m h).1 (r h s)
theorem Ent.when_no {l m az : List HA} {b : Bool} (q : b = false) (r : Ent l m) : Ent l (mC b az :: m) := by
 subst q
 exact Ent.tt_in r
theorem Ent.when_yo {az : List HA} {b : Bool} (q : b = true) (m : List HA) : Ent (mC b az :: m) (az ++ m) := by
 subst q
 intro h s
 exact (cu az m h).2 s
theorem Ent.when_no_ {az : List HA} {b : Bool} (q : b = false) (m : List HA) : Ent (mC b az :: m) m := Ent.drop (Ent.refl m)
theorem Fn.when {P : Program} {W : World} {f : FuncId} {args : List Value} {A : List HA} {F : HA} {R Y : Type} {o : Option R} {val u : R → Y → Value} {B D : R → Y → List HA} (h : Fn P W f args A F o val B) (q : R → Bool) (b : Bool)
  (I : ∀ r y, q r = b → val r y = u r y) (J : ∀ r y, q r = b → Ent (B r y) (D r y)) : Fn P W f args A F (o.filter fun r => q r == b) u D := by
 intro r L w U
 obtain ⟨h1, X⟩ := Option.filter_eq_some_iff.1 L
 have G : q r = b := by simpa using X
 refine (h r h1 w U).mono ?_
 rintro e w' ⟨y, he, s⟩
 exact ⟨y, by rw [he, I r y G], s.ent (Ent.app (J r y G) (Ent.refl _))⟩
theorem lB {R : Type} {o : Option R} {r : R} {q : R → Bool} {b : Bool} (h : o = some r) (u : q r = b) : (o.filter fun r => q r == b) = some r := by
 rw [h, Option.filter_some, u]; simp
/-! ### Short forms -/
section
variable {K : Cx} {R S Y : Type} {Q : de R} {E : Env} {H : List HA} {opt : Option R} {ops : Array Oper} {rest : List Oper}
theorem vq {d : Nat} {v : Value} {p : Op} {t : TypeId} {ps : String} {q : Array Edge} (r : RQ K ⟨some d, p, t, ps, q, none⟩ E H v) (u : Nat.blt d K.n = true) (h : bX K Q ops rest ((d, v) :: E) H opt) : bX K Q ops (⟨some d, p, t, ps, q, none⟩ :: rest) E H opt := iM r rfl rfl u h
theorem vm {d : Nat} {v : Value} {x : Operand} {t : TypeId} {ps : String} {q : Array Edge} (r : ev E x = some v) (u : Nat.blt d K.n = true) (h : bX K Q ops rest ((d, v) :: E) H opt) : bX K Q ops (⟨some d, .move x, t, ps, q, none⟩ :: rest) E H opt := iM (aZ rfl r) rfl rfl u h
theorem va {d : Nat} {v : Value} {x : Operand} {t : TypeId} {ps : String} {q : Array Edge} (r : ev E x = some v) (u : Nat.blt d K.n = true) (h : bX K Q ops rest ((d, v) :: E) H opt) : bX K Q ops (⟨some d, .assign x, t, ps, q, none⟩ :: rest) E H opt := iM (cz rfl r) rfl rfl u h
theorem vn {d : Nat} {x : Operand} {q : Addr} {t : TypeId} {ps : String} {r : Array Edge} (u : ev E x = some (.pointer (some q))) (D : Nat.blt d K.n = true) (h : bX K Q ops rest ((d, .pointer (some q)) :: E) H opt) : bX K Q ops (⟨some d, .nilCheck x, t, ps, r, none⟩ :: rest) E H opt := iM (aS rfl u) rfl rfl D h
theorem nx {id : Nat} {l : List Oper} {c2 : Code} (h : bX K (jr K c2 Q) l.toArray l E H opt) : bX K (jr K (.seq (.region id l.toArray false) c2) Q) ops [] E H opt := ae (aa (ay (aI h)))
theorem ny {id : Nat} {l : List Oper} (h : bX K Q l.toArray l E H opt) : bX K (jr K (.region id l.toArray false) Q) ops [] E H opt := ae (aa (aI h))
theorem sr {id : Nat} {l : List Oper} {c2 : Code} (h : bX K (jr K c2 Q) l.toArray l E H opt) : Sim K Q (.seq (.region id l.toArray false) c2) E H opt := ay (aI h)
theorem qm {q : List (List Nat)} {val : Nat → Value} {i : Nat} {d : Option Nat} {x : Operand} {t : TypeId} {ps : String} {u : Array Edge} {r : Env} (D : ops[i]? = some ⟨d, .move x, t, ps, u, none⟩) (G : dA ops q val E i r) (I : ev r x = some (val i)) : QOb K ops q val E H i := .plain r D rfl G (aZ rfl I) rfl
theorem aq {Γ : Type} {l : List Nat} {p : Γ → Nat → Nat → Prop} {f : Nat → List Nat} {i j : Nat} (q : f i = [j]) (h : ∀ γ, p γ i j) (r : All l fun i => ∀ γ, All (f i) fun j => p γ i j) : All (i :: l) fun i => ∀ γ, All (f i) fun j => p γ i j := ⟨fun γ => by rw [q]; exact ⟨h γ, trivial⟩, r⟩
end
end Go.Proofs.YtndjkejhacfpdaaGreatDoor

namespace Go.Proofs.YtndjkejhacfpdaaGreatDoor
open Go.RowKit
theorem Sat.below {W w q : World} {H : List HA} (s : Sat W H w) (b : Below w.heap.size w q) : Sat W H q := by
 refine ⟨b.os.trans s.os, b.tape.trans s.tape, b.output.trans s.output, Nat.le_trans s.size b.size, ?_⟩
 refine dT H tt _ ⟨fun i => if i < w.heap.size then none else q.heap[i]?, hpw w, ?_, ?_, trivial, s.hp⟩
 ·intro i
  by_cases h : i < w.heap.size
  ·left; simp [h]
  ·right; simp only [hpw]; exact Array.getElem?_eq_none (by omega)
 ·funext i
  simp only [hpw, un]
  by_cases h : i < w.heap.size
  ·simp [h]; rw [b.block i h]; simp [h]
  ·simp [h]
theorem Sat.below_new {W w q : World} {H : List HA} {g : Nat} {o : Obj} (s : Sat W H w) (b : Below w.heap.size w q) (u : w.heap.size ≤ g) (r : q.heap[g]? = some o) : Sat W (pts g o :: H) q := by
 refine ⟨b.os.trans s.os, b.tape.trans s.tape, b.output.trans s.output, Nat.le_trans s.size b.size, ?_⟩
 refine ⟨fun i => if i = g then some o else none, fun i => if i = g then none else q.heap[i]?, ?_, ?_, by simp [pts], ?_⟩
 ·intro i
  by_cases h : i = g
  ·right; simp [h]
  ·left; simp [h]
 ·funext i
  simp only [hpw, un]
  by_cases h : i = g
  ·subst h; simp [r]
  ·simp [h]
 ·refine dT H tt _ ⟨fun i => if i < w.heap.size ∨ i = g then none else q.heap[i]?, hpw w, ?_, ?_, trivial, s.hp⟩
  ·intro i
   by_cases h : i < w.heap.size
   ·left; simp [h]
   ·right; simp only [hpw]; exact Array.getElem?_eq_none (by omega)
  ·funext i
   simp only [hpw, un]
   by_cases h : i < w.heap.size
   ·have : i ≠ g := by omega
    simp [h, this]; rw [b.block i h]; simp [h]
   ·by_cases h2 : i = g
    ·subst h2; simp [h]
    ·simp [h, h2]
section
variable {α β : Type}
def eA (kvs : List (List UInt8 × β)) : List (List UInt8) := (kvs.map (·.1)).mergeSort fun x y => decide (x ≤ y)
theorem nM {n : Nat} {V : α → List Value → Prop} {f : α → Value} (h1 : n = 1) (q : ∀ x, V x [f x]) (r : ∀ x, (f x).oneCell' = true) : ∀ l : List α, bI n V l (l.map fun x => [f x])
 | [] => trivial
 | x :: l => by
  rw [List.map_cons]
  exact ⟨⟨by simp [h1], by intro v u; simp at u; subst u; exact r x, q x⟩, nM h1 q r l⟩
theorem nN {f : α → Value} : ∀ l : List α, (l.map fun x => [f x]).flatten = l.map f
 | [] => rfl
 | x :: l => by simp [nN l]
theorem Sat.ownsRow {W w q : World} {H : List HA} {T : TypeId} {v : Value} {n : Nat} {xs : List Value} (s : Sat W H w) (b : Below w.heap.size w q) (h : q.ownsRow w.heap.size T 1 v n xs) : ∃ a c, v = .slice a n c ∧ Sat W (Row T 1 a n c xs :: H) q := by
 obtain ⟨r, h⟩ := h
 rcases h with ⟨rfl, rfl⟩ | ⟨g, cap, u, rfl, I, J, L, U, D, G⟩
 ·refine ⟨none, 0, rfl, ?_⟩
  have : xs = [] := List.eq_nil_of_length_eq_zero (by simpa using r)
  subst this
  exact (s.below b).ent (Ent.row_nil (Ent.refl _))
 ·refine ⟨some ⟨g, 0, none⟩, cap, rfl, ?_⟩
  rw [Nat.mul_one] at r D G
  refine (s.below_new b I J).ent (Ent.sel' 0 rfl (fun h x => ?_) (Ent.refl _))
  refine .inr ⟨g, 0, [], u.toList.drop n, (0, 0), rfl, ⟨rfl, L, U, ?_, by omega, by omega, .inl rfl⟩, ?_⟩
  ·rw [Nat.mul_one, r, List.length_drop, Array.length_toList, D]; omega
  ·rw [x, List.nil_append, ← G, List.take_append_drop]
open Go.WideElems Go.Maps
def R0 : Value → Option (DataW Unit × List MemPlace) := fun _ => some (.lit (.bool true), [])
def vM (kvs : List (List UInt8 × β)) : DataW Unit := .map ((kvs.map fun p => (Lit.string p.1, (DataW.lit (.bool true) : DataW Unit))).foldr DataW.insert [])
theorem tH {P : Program} {k : TypeId} {ek : α → Value} {ev : β → Value} {kl : α → Lit} : ∀ (kvs : List (α × β)) (es : List MapEntry), cU ek ev es kvs → (∀ p ∈ kvs, keyOf P k (ek p.1) = some (kl p.1)) →
  es.map (rg P k R0) = kvs.map (fun p => (kl p.1, (DataW.lit (.bool true) : DataW Unit))) ∧ (∀ x ∈ es, ∃ y, rd P k R0 x = some y) ∧ es.map (·.key) = kvs.map fun p => ek p.1
 | [], es, h, _ => by
  have : es = [] := by simpa [cU] using h
  subst this; simp
 | p :: l, [], h, _ => by simp [cU] at h
 | p :: l, e :: es, h, hk => by
  simp only [cU, List.map_cons, List.cons.injEq, Prod.mk.injEq] at h
  obtain ⟨⟨h1, J⟩, D⟩ := h
  have u : rd P k R0 e = some (kl p.1, .lit (.bool true)) := by
   unfold rd R0
   rw [h1, hk p (by simp)]; rfl
  obtain ⟨G, i2, i3⟩ := tH l es D fun q I => hk q (by simp [I])
  refine ⟨by simp only [List.map_cons, rg_of u, G], ?_, by simp [h1, i3]⟩
  intro x r
  simp only [List.mem_cons] at r
  rcases r with rfl | r
  ·exact ⟨_, u⟩
  ·exact i2 x r
theorem Sat.owns {P : Program} {k : TypeId} {W w : World} {H : List HA} {b : Nat} {ek : α → Value} {ev : β → Value} {kl : α → Lit} {kvs : List (α × β)} [DecidableEq α] {i : Nat} (s : Sat W H w) (hi : H[i]? = some (aj b ek ev kvs)) (r : ∀ x y, ek x = ek y → x = y) (D : ∀ p ∈ kvs, keyOf P k (ek p.1) = some (kl p.1)) (u : (kvs.map (·.1)).Nodup) (G : kvs.length ≤ maxLen) :
  w.ownsMap P k R0 b kvs.length (.map ((kvs.map fun p => (kl p.1, (DataW.lit (.bool true) : DataW Unit))).foldr DataW.insert [])) := by
 obtain ⟨es, q, h1, I, J, L⟩ := (s.focus hi).map_open
 have U := L.pts_at (i := 0) rfl
 obtain ⟨X, r2, r3⟩ := tH (P := P) (k := k) kvs es.toList h1 D
 have hs : es.size = kvs.length := by have := congrArg List.length h1; simpa [cU] using this
 refine ⟨es, q, U, ⟨by omega, ⟨J, I, ?_⟩, r2⟩, by omega, by rw [X]⟩
 rw [r3]
 have : (kvs.map fun p => ek p.1) = (kvs.map (·.1)).map ek := by simp
 rw [this]
 exact List.Pairwise.map ek (fun a b hab e => hab (r _ _ e)) u
theorem qB {l : List (Lit × DataW Unit)} : Maps.size (.map (l.foldr DataW.insert [])) = l.length := by
 show (l.foldr DataW.insert []).length = l.length
 exact (Go.WideShapes.sorted_perm l).length_eq
theorem pu (kvs : List (List UInt8 × β)) : (strKeys (vM kvs)).Perm (kvs.map (·.1)) := by
 have := (Go.WideShapes.sorted_perm (kvs.map fun p => (Lit.string p.1, (DataW.lit (.bool true) : DataW Unit)))).map (fun p => strOf p.1)
 refine this.trans ?_
 rw [List.map_map]
 exact List.Perm.refl _
theorem rm {P : Program} {W : World} {F : HA} {f g k T U b c : Nat} {ev : β → Value} {V : List UInt8 → List Value → Prop} {kvs : List (List UInt8 × β)} (hV : ∀ x, V x [str x]) (X : P.underlying k = some .string)
  (hC : ∀ (w : World) (L : DataW Unit) (nn : Nat), w.ownsMap P k R0 b nn L → w.cell? ⟨c, 0, none⟩ = some (.map (some b)) → c < w.heap.size → Maps.size L ≤ maxLen → Maps.size L * 16 ≤ 140737488355328 →
   CallsIn Fence.wide 5 P f #[.func (.func g) #[] #[.pointer (some ⟨c, 0, none⟩)]] w fun e w' => ∃ (v : Value) (u : List (List UInt8)), e = .returned v ∧ u.Perm (strKeys L) ∧
    w'.ownsRow w.heap.size T 1 v u.length ((u.mergeSort (fun x y => decide (x ≤ y))).map encStr) ∧ (v = .slice none 0 0 ↔ u = []) ∧ Below w.heap.size w w') :
  Fn P W f [.func (.func g) #[] #[.pointer (some ⟨c, 0, none⟩)]] [obj c U [.map (some b)], aj b (fun x : List UInt8 => str x) ev kvs] F
   (if (kvs.map (·.1)).Nodup ∧ kvs.length * 16 ≤ 140737488355328 ∧ ∀ p ∈ kvs, p.1.length ≤ 140737488351232 then some (eA kvs) else none)
   (fun r (y : Option Addr × Nat) => .slice y.1 r.length y.2) (fun r y => [ar T 1 V y.1 r y.2, obj c U [.map (some b)], aj b (fun x : List UInt8 => str x) ev kvs]) := by
 intro r hr w hs
 split at hr
 ·rename_i hh
  obtain ⟨al, br, an⟩ := hh
  cases hr
  have hm : maxLen = 9223372036854775807 := rfl
  have D := hs.owns (P := P) (k := k) (kl := fun x => Lit.string x) (i := 1) rfl (fun x y e => by simpa [str] using e) (fun p hp => by
   have := an p hp
   simp [keyOf, X, mapKey, str, ByteArray.size, hm]; omega) al (by omega)
  have hc : w.heap[c]? = some (.cells #[.map (some b)] U (0, 0)) := hs.pts_at (i := 0) rfl
  have G : c < w.heap.size := (Array.getElem?_eq_some_iff.1 hc).1
  refine (callsIn_wide (n := 5)).1 ((hC w _ _ D (by simp [World.cell?, hc]) G (by rw [qB]; simp; omega) (by rw [qB]; simp; omega)).mono ?_)
  rintro e w' ⟨v, u, rfl, hp, I, a6, hb⟩
  have J : u.mergeSort (fun x y => decide (x ≤ y)) = eA kvs := mergeSort_of_perm (hp.trans (pu kvs))
  have q : u.length = (eA kvs).length := by rw [← J, List.length_mergeSort]
  obtain ⟨a, cap, rfl, s2⟩ := hs.ownsRow hb I
  refine ⟨(a, cap), by rw [q], s2.ent ?_⟩
  rw [J, q]
  refine Ent.sel' 0 rfl (fun h x => ⟨_, nM (f := str) rfl hV (fun _ => rfl) (eA kvs), ?_⟩) (Ent.refl _)
  rw [nN]; exact x
 ·cases hr
end
section
variable {α β : Type} [DecidableEq α]
end
section
variable {K : Cx} {E : Env} {H : List HA} {o : Oper} {α β : Type} [DecidableEq α] {ek : α → Value} {ev : β → Value} {T VT t : TypeId} {b : Nat} {kvs : List (α × β)}
theorem RQ.eq {v u : Value} (h : v = u) (q : RQ K o E H v) : RQ K o E H u := h ▸ q
theorem np {x y z : Operand} (k : Nat) (v : α) (u : β) (X : o.op = .insert t x y z) (hx : Go.Proofs.YtndjkejhacfpdaaGreatDoor.ev E x = some (.map (some b))) (hy : Go.Proofs.YtndjkejhacfpdaaGreatDoor.ev E y = some (ek v)) (hz : Go.Proofs.YtndjkejhacfpdaaGreatDoor.ev E z = some (ev u)) (hu : K.P.underlying t = some (.map T VT)) (J : iE K.P T ek) (hk : H[k]? = some (aj b ek ev kvs)) :
  RE K (Y := Unit) o E H (fun _ => undef) (fun _ => H.set k (aj b ek ev (aX kvs v u))) :=
 nq (by rw [X]; intro c h; cases h) fun a w D s => by
  obtain ⟨es, r, h1, h2, h3, s2⟩ := (s.focus hk).map_open
  have L := s2.pts_at (i := 0) rfl
  have U := J.find w h1 v
  cases hp : ex kvs v 0 with
  | none =>
   rw [hp] at U
   refine ⟨(), _, ?_, Sat.unfocus hk ((s2.upd (b := b) (o' := .map (es.push { key := ek v, val := ev u, born := r }) (r + 1))).map_close ?_ ?_ ?_)⟩
   ·unfold execOp; simp only [X]; rw [D.ev hx, D.ev hy, D.ev hz]
    simp [Instr.mapUpdate, underlying, program, Sem.run, hu, getObj, L, J.chk, U, setObj]
   ·simpa using ll kvs es.toList v u 0 r h1 hp
   ·simp only [Array.toList_push, List.map_append, List.map_cons, List.map_nil]
    refine List.nodup_append.2 ⟨h2, by simp, fun a ha b L => ?_⟩
    simp only [List.mem_singleton] at L
    obtain ⟨e, D, rfl⟩ := List.mem_map.1 ha
    have := h3 e D
    omega
   ·intro e D
    simp only [Array.toList_push, List.mem_append, List.mem_singleton] at D
    rcases D with D | rfl
    ·have := h3 e D; omega
    ·simp
  | some p =>
   obtain ⟨j, q⟩ := p
   rw [hp] at U
   obtain ⟨e0, hj, G⟩ := mi kvs es.toList v 0 j q h1 hp
   rw [Nat.sub_zero] at hj
   have al : es[j]? = some e0 := by simpa using hj
   have I : (Instr.keyThatStays (ek v) (ek v)).run K.P w = .ok (ek v) w := by simp [Instr.keyThatStays, J.bits]
   refine ⟨(), _, ?_, Sat.unfocus hk ((s2.upd (b := b) (o' := .map (es.modify j fun e => { e with key := ek v, val := ev u }) r)).map_close ?_ ?_ ?_)⟩
   ·unfold execOp; simp only [X]; rw [D.ev hx, D.ev hy, D.ev hz]
    simp [Instr.mapUpdate, underlying, program, Sem.run, hu, getObj, L, J.chk, U, al, G, I, setObj]
   ·rw [fT]
    simpa using lm kvs es.toList v u 0 j q h1 hp
   ·rw [fT]
    have : (es.toList.modify j fun e => { e with key := ek v, val := ev u }).map (·.born) = es.toList.map (·.born) := by
     apply List.ext_getElem?
     intro i
     simp only [List.getElem?_map, List.getElem?_modify]
     by_cases hi : j = i <;> simp [hi] <;> cases es[i]? <;> simp
    rw [this]; exact h2
   ·rw [fT]
    intro e D
    obtain ⟨i, hi⟩ := List.mem_iff_getElem?.1 D
    rw [List.getElem?_modify] at hi
    cases hq : es.toList[i]? with
    | none => rw [hq] at hi; simp at hi
    | some e1 =>
     rw [hq] at hi
     have := h3 e1 (List.mem_of_getElem? hq)
     by_cases hji : j = i
     ·simp [hji] at hi; rw [← hi]; exact this
     ·simp [hji] at hi; rw [← hi]; exact this
end
end Go.Proofs.YtndjkejhacfpdaaGreatDoor

namespace Go.Proofs.YtndjkejhacfpdaaGreatDoor
open Go.RowKit
theorem gn {p : Prop} {A : HA} {h : Hp} : aV (pr p) A h ↔ p ∧ aV tt A h := by
 constructor
 ·rintro ⟨a, b, d, e, hp, q⟩; exact ⟨hp, a, b, d, e, trivial, q⟩
 ·rintro ⟨hp, a, b, d, e, _, q⟩; exact ⟨a, b, d, e, hp, q⟩
theorem fB {A q B : HA} (h : Hp) (r : ∀ h, A h → q h) (s : aV A B h) : aV q B h := bZ h r (fun _ x => x) s
theorem bN {A B q : HA} (h : Hp) (r : ∀ h, B h → q h) (s : aV A B h) : aV A q h := bZ h (fun _ x => x) r s
theorem dm {A B C : HA} {h : Hp} (s : aV A (aV B C) h) : aV B (aV A C) h := by
 rw [← bg, dG A B, bg] at s; exact s
abbrev Kps := List (List UInt8 × Nat)
abbrev am (p : Nat) : Value := .pointer (some ⟨p, 0, none⟩)
section
variable {α β Z : Type} [DecidableEq α] {ek : α → Value} {fp : Nat → β → Z → List HA}
def kI (fp : Nat → β → Z → List HA) (p : Nat) (v : β) : HA := exs fun y => aN (fp p v y)
def cb (fp : Nat → β → Z → List HA) : List (α × Nat) → List (α × β) → HA
 | [], [] => tt
 | (k, p) :: l, (k', v) :: m => aV (pr (k = k')) (aV (kI fp p v) (cb fp l m))
 | _, _ => pr False
def jh (fp : Nat → β → Z → List HA) (x : α) : List (α × Nat) → List (α × β) → HA
 | [], [] => tt
 | (k, p) :: l, (k', v) :: m => aV (pr (k = k')) (if k = x then cb fp l m else aV (kI fp p v) (jh fp x l m))
 | _, _ => pr False
def cN (kps : List (α × Nat)) (x : α) : Nat := (aR kps x).getD 0
theorem ji {p : Prop} {X : HA} {h : Hp} (s : aV X (pr p) h) : p := by obtain ⟨_, _, _, _, _, hp⟩ := s; exact hp
theorem jp (X : HA) : ∀ (l : List (α × Nat)) (m : List (α × β)) (h : Hp), aV X (cb fp l m) h → cb fp l m h
 | [], [], h, _ => trivial
 | (k, p) :: l, (k', v) :: m, h, s => by
  simp only [cb] at s ⊢
  have s1 := dm s
  refine bN h (fun h s => ?_) s1
  have q := dm s
  exact bN h (fun h s => jp X l m h s) q
 | [], _ :: _, h, s => ji s
 | _ :: _, [], h, s => ji s
theorem gL : ∀ (l : List (α × Nat)) (m : List (α × β)) (h : Hp), cb fp l m h → l.map (·.1) = m.map (·.1)
 | [], [], h, _ => rfl
 | (k, p) :: l, (k', v) :: m, h, s => by
  simp only [cb] at s
  obtain ⟨q, s⟩ := gn.1 s
  obtain ⟨_, _, _, _, _, _, r, _, _, _, s⟩ := s
  simp only [List.map_cons]
  rw [q, gL l m r s]
 | [], _ :: _, h, s => s.elim
 | _ :: _, [], h, s => s.elim
theorem fJ {γ δ : Type} : ∀ (l : List (α × γ)) (m : List (α × δ)) (x : α), l.map (·.1) = m.map (·.1) → (aR l x).isSome = (aR m x).isSome
 | [], [], x, _ => rfl
 | p :: l, q :: m, x, h => by
  simp only [List.map_cons, List.cons.injEq] at h
  simp only [aR, h.1]
  split
  ·rfl
  ·exact fJ l m x h.2
 | [], _ :: _, x, h => by simp at h
 | _ :: _, [], x, h => by simp at h
theorem ue {kps : List (α × Nat)} {x : α} (h : (aR kps x).isSome = true) : aR kps x = some (cN kps x) := by
 unfold cN
 cases hm : aR kps x with
 | none => rw [hm] at h; cases h
 | some p => rfl
theorem lU (x : α) (v : β) : ∀ (l : List (α × Nat)) (m : List (α × β)) (h : Hp), aR m x = some v → cb fp l m h → aV (kI fp (cN l x) v) (jh fp x l m) h
 | [], [], h, hx, _ => by simp [aR] at hx
 | (k, p) :: l, (k', u) :: m, h, hx, s => by
  simp only [cb] at s
  have q := (gn.1 s).1
  subst q
  rw [jh]
  by_cases hkx : k = x
  ·rw [if_pos hkx]
   simp only [aR, if_pos hkx, Option.some.injEq] at hx
   have hp : cN ((k, p) :: l) x = p := by simp [cN, aR, hkx]
   rw [hp, ← hx]
   exact dm s
  ·rw [if_neg hkx]
   simp only [aR, if_neg hkx] at hx
   have hp : cN ((k, p) :: l) x = cN l x := by simp [cN, aR, hkx]
   rw [hp]
   have r := bN h (fun h s => bN h (fun h s => lU x v l m h hx s) s) s
   exact dm (bN h (fun h s => dm s) r)
 | [], _ :: _, h, _, s => s.elim
 | _ :: _, [], h, _, s => s.elim
theorem lV (x : α) (v : β) : ∀ (l : List (α × Nat)) (m : List (α × β)) (h : Hp), (aR l x).isSome = true → aV (kI fp (cN l x) v) (jh fp x l m) h → cb fp l (aX m x v) h
 | [], m, h, hx, _ => by simp [aR] at hx
 | (k, p) :: l, (k', u) :: m, h, hx, s => by
  simp only [jh] at s
  have s1 := dm s
  have q := (gn.1 s1).1
  subst q
  by_cases hkx : k = x
  ·have hp : cN ((k, p) :: l) x = p := by simp [cN, aR, hkx]
   rw [hp, if_pos hkx] at s1
   subst hkx
   rw [aX, if_pos rfl, cb]
   exact s1
  ·simp only [aR, if_neg hkx] at hx
   have hp : cN ((k, p) :: l) x = cN l x := by simp [cN, aR, hkx]
   rw [hp, if_neg hkx] at s1
   rw [aX, if_neg hkx, cb]
   exact bN h (fun h s => bN h (fun h s => lV x v l m h hx s) (dm s)) s1
 | _ :: _, [], h, _, s => (ji s).elim
theorem mO (x : α) : ∀ (l : List (α × Nat)) (m : List (α × β)) (h : Hp), cb fp l m h → cb fp (dy l x) (dy m x) h
 | [], [], h, _ => trivial
 | (k, p) :: l, (k', u) :: m, h, s => by
  simp only [cb] at s
  have q := (gn.1 s).1
  subst q
  by_cases hkx : k = x
  ·simp only [dy, if_pos hkx]
   exact jp _ _ _ _ (filesA_absorb_star s)
  ·rw [dy, dy, if_neg hkx, if_neg hkx, cb]
   exact bN h (fun h s => bN h (fun h s => mO x l m h s) s) s
 | [], _ :: _, h, s => s.elim
 | _ :: _, [], h, s => s.elim
where
 filesA_absorb_star {X Y C : HA} {h : Hp} (s : aV X (aV Y C) h) : aV (aV X Y) C h := by rw [bg]; exact s
theorem mP (x : α) (p : Nat) (v : β) : ∀ (l : List (α × Nat)) (m : List (α × β)) (h : Hp), aV (kI fp p v) (cb fp l m) h → cb fp (aX l x p) (aX m x v) h
 | [], [], h, s => by
  simp only [aX, cb]
  exact gn.2 ⟨trivial, gR s⟩
 | (k, q) :: l, (k', u) :: m, h, s => by
  simp only [cb] at s
  have s1 := dm s
  have r := (gn.1 s1).1
  subst r
  by_cases hkx : k = x
  ·rw [aX, aX, if_pos hkx, if_pos hkx, cb]
   refine gn.2 ⟨rfl, bN h (fun h s => ?_) (gn.1 s1).2⟩
   exact bN h (fun h s => jp _ _ _ _ s) s
  ·rw [aX, aX, if_neg hkx, if_neg hkx, cb]
   exact bN h (fun h s => bN h (fun h s => mP x p v l m h s) (dm s)) s1
 | [], _ :: _, h, s => (ji s).elim
 | _ :: _, [], h, s => (ji s).elim
def ao (M : HA) (fp : Nat → β → Z → List HA) (kps : List (α × Nat)) (kvs : List (α × β)) : HA := aV M (cb fp kps kvs)
def im (M : HA) (fp : Nat → β → Z → List HA) (kps : List (α × Nat)) (kvs : List (α × β)) (x : α) : HA := aV (pr ((aR kps x).isSome = true)) (aV M (jh fp x kps kvs))
def ve (M : HA) (fp : Nat → β → Z → List HA) (kps : List (α × Nat)) (kvs : List (α × β)) (x : α) (p : Nat) : HA := aV M (cb fp kps kvs)
end
section
variable {α β Z : Type} [DecidableEq α] {ek : α → Value} {fp : Nat → β → Z → List HA} {M : HA} {kps : List (α × Nat)} {kvs : List (α × β)} {l m : List HA}
theorem Ent.openF {H : List HA} {x : α} {v : β} (k : Nat) (D : H[k]? = some (ao M fp kps kvs)) (u : aR kvs x = some v) :
  Ent H (exs (fun y => aN (fp (cN kps x) v y)) :: im M fp kps kvs x :: H.eraseIdx k) := by
 intro h s
 rw [eR H k _ D] at s
 have s1 : aV (aV M (cb fp kps kvs)) (aN (H.eraseIdx k)) h := s
 have q : (aR kps x).isSome = true := by
  obtain ⟨_, _, _, _, ⟨_, J, _, _, _, r⟩, _⟩ := s1
  rw [fJ kps kvs x (gL _ _ _ r), u]; rfl
 rw [bg] at s1
 have r := bN h (fun h s => fB h (fun h s => lU x v kps kvs h u s) s) s1
 show aV (kI fp (cN kps x) v) (aV (im M fp kps kvs x) (aN (H.eraseIdx k))) h
 unfold im
 have G : aV (kI fp (cN kps x) v) (aV (aV M (jh fp x kps kvs)) (aN (H.eraseIdx k))) h := by
  rw [bg]
  have I := bN h (fun h s => by rw [bg] at s; exact s) r
  exact dm I
 refine bN h (fun h s => ?_) G
 rw [bg]
 exact gn.2 ⟨q, gR s⟩
theorem Ent.foldF {x : α} {v : β} {p : Nat} (y : Z) (hp : p = cN kps x) (r : Ent l (im M fp kps kvs x :: (fp p v y ++ m))) : Ent l (ao M fp kps (aX kvs x v) :: m) := by
 intro h s
 subst hp
 have s1 : aV (im M fp kps kvs x) (aN (fp (cN kps x) v y ++ m)) h := r h s
 unfold im at s1
 rw [bg] at s1
 obtain ⟨D, G⟩ := gn.1 s1
 have q : aV (aV M (jh fp x kps kvs)) (aV (aN (fp (cN kps x) v y)) (aN m)) h := by
  have I := stars_absorb_tt G
  exact bN h (fun h s => (cu _ _ h).1 s) I
 show aV (aV M (cb fp kps (aX kvs x v))) (aN m) h
 rw [bg] at q ⊢
 refine bN h (fun h s => ?_) q
 have u := dm s
 rw [← bg] at u
 exact fB h (fun h s => lV x v kps kvs h D (fB h (fun h s => ⟨y, s⟩) s)) u
where
 stars_absorb_tt {A : HA} {l : List HA} {h : Hp} (s : aV tt (aV A (aN l)) h) : aV A (aN l) h := bN h (fun h s => dT l tt h s) (dm s)
theorem jj {x : α} {v : β} : ∀ {kvs : List (α × β)}, aR kvs x = some v → aX kvs x v = kvs
 | [], h => by simp [aR] at h
 | p :: l, h => by
  rw [aR] at h
  rw [aX]
  by_cases hp : p.1 = x
  ·rw [if_pos hp] at h ⊢
   cases h
   rw [← hp]
  ·rw [if_neg hp] at h ⊢
   rw [jj h]
theorem Ent.foldF0 {x : α} {v : β} {p : Nat} (y : Z) (hp : p = cN kps x) (q : aR kvs x = some v) (r : Ent l (im M fp kps kvs x :: (fp p v y ++ m))) : Ent l (ao M fp kps kvs :: m) := by
 have := Ent.foldF (v := v) y hp r
 rwa [jj q] at this
theorem Ent.foldU {x : α} {v : β} {p : Nat} (y : Z) (r : Ent l (ve M fp kps kvs x p :: (fp p v y ++ m))) : Ent l (ao M fp (aX kps x p) (aX kvs x v) :: m) := by
 intro h s
 have s1 : aV (aV M (cb fp kps kvs)) (aN (fp p v y ++ m)) h := r h s
 show aV (aV M (cb fp (aX kps x p) (aX kvs x v))) (aN m) h
 rw [bg] at s1 ⊢
 refine bN h (fun h s => ?_) s1
 have u := bN h (fun h s => (cu _ _ h).1 s) s
 have q := dm u
 rw [← bg] at q
 exact fB h (fun h s => mP x p v kps kvs h (fB h (fun h s => ⟨y, s⟩) s)) q
theorem Ent.makeF (r : Ent l (M :: m)) : Ent l (ao M fp [] ([] : List (α × β)) :: m) := by
 intro h s
 have s1 : aV M (aN m) h := r h s
 exact fB h (fun h s => iq s) s1
theorem fC {δ : Type} {o : Option δ} {d : δ} (h : o.isSome = true) : o = some (o.getD d) := by cases o with
 | none => cases h
 | some x => rfl
theorem iv {δ : Type} {o : Option δ} (h : ¬ o.isSome = true) : o = none := by cases o with
 | none => rfl
 | some x => exact absurd rfl h
end
section
variable {K : Cx} {R S Y : Type} {Q : de R} {E : Env} {H : List HA} {opt : Option R} {ops : Array Oper} {rest : List Oper} {o : Oper} {α β Z : Type} [DecidableEq α] {ek : α → Value} {fp : Nat → β → Z → List HA} {T VT t : TypeId} {M : HA} {kps : List (α × Nat)} {kvs : List (α × β)} {c : Code}
theorem iw {x : α} {v : β} (k : Nat) (q : H[k]? = some (ao M fp kps kvs)) (r : aR kvs x = some v)
  (h : ∀ y, Sim K Q c E (fp (cN kps x) v y ++ (im M fp kps kvs x :: H.eraseIdx k)) opt) : Sim K Q c E H opt := by
 refine eP (Ent.openF k q r) (uf fun y => eP ?_ (h y))
 intro h s
 exact (cu _ _ h).2 s
end
section
variable {K : Cx} {R S Y : Type} {Q : de R} {E : Env} {H : List HA} {opt : Option R} {ops : Array Oper} {rest : List Oper} {o : Oper} {α β Z : Type} [DecidableEq α] {ek : α → Value} {fp : Nat → β → Z → List HA} {T VT t : TypeId} {b : Nat} {kps : List (α × Nat)} {kvs : List (α × β)} {c : Code}
theorem px (k : Nat) (q : H[k]? = some (ao (aj b ek am kps) fp kps kvs)) : Ent H (aj b ek am kps :: cb fp kps kvs :: H.eraseIdx k) := by
 intro h s
 rw [eR H k _ q] at s
 have s1 : aV (aV (aj b ek am kps) (cb fp kps kvs)) (aN (H.eraseIdx k)) h := s
 rw [bg] at s1
 exact s1
def ko (H : List HA) (b : Nat) (ek : α → Value) (kps : List (α × Nat)) (kvs : List (α × β)) : Prop := ∃ X rst, Ent H (aj b ek am kps :: X :: rst) ∧ ∀ h, X h → kps.map (·.1) = kvs.map (·.1)
theorem gS (k : Nat) (q : H[k]? = some (ao (aj b ek am kps) fp kps kvs)) : ko H b ek kps kvs := ⟨_, _, px k q, fun h s => gL _ _ h s⟩
theorem ko.keys (t : ko H b ek kps kvs) {W w : World} (s : Sat W H w) : kps.map (·.1) = kvs.map (·.1) := by
 obtain ⟨X, rst, e, q⟩ := t
 obtain ⟨_, _, _, _, _, ⟨_, _, _, _, r, _⟩⟩ := (s.ent e).hp
 exact q _ r
theorem jI {x y : Operand} (v : α) (tl : ko H b ek kps kvs) (U : (aR kvs v).isSome = true) (G : o.op = .lookup t x y false) (hx : Go.Proofs.YtndjkejhacfpdaaGreatDoor.ev E x = some (.map (some b))) (hy : Go.Proofs.YtndjkejhacfpdaaGreatDoor.ev E y = some (ek v)) (hu : K.P.underlying t = some (.map T VT)) (I : iE K.P T ek) :
  RQ K o E H (.pointer (some ⟨cN kps v, 0, none⟩)) :=
 cA (by rw [G]; intro c h; cases h) fun a w J s => by
  have r := tl.keys s
  have hp := ue (by rw [fJ kps kvs v r]; exact U)
  obtain ⟨X, rst, e, hX⟩ := tl
  obtain ⟨es, D, h1, h2, h3, s2⟩ := (s.ent e).map_open
  have hb := s2.pts_at (i := 0) rfl
  have L := I.find w h1 v
  have u := kJ kps v 0
  rw [hp] at u
  unfold execOp; simp only [G]; rw [J.ev hx, J.ev hy]
  cases hq : ex kps v 0 with
  | none => rw [hq] at u; simp at u
  | some q =>
   rw [hq] at L u
   simp at u
   simp [Instr.lookup, underlying, program, Sem.run, hu, getObj, hb, I.chk, L, u]
theorem jJ {x y : Operand} (v : α) (tl : ko H b ek kps kvs) (U : aR kvs v = none) (G : o.op = .lookup t x y false) (hx : Go.Proofs.YtndjkejhacfpdaaGreatDoor.ev E x = some (.map (some b))) (hy : Go.Proofs.YtndjkejhacfpdaaGreatDoor.ev E y = some (ek v)) (hu : K.P.underlying t = some (.map T VT)) (I : iE K.P T ek) (hz : ∀ w, (zeroValue VT).run K.P w = .ok (.pointer none) w) :
  RQ K o E H (.pointer none) :=
 cA (by rw [G]; intro c h; cases h) fun a w J s => by
  have r := tl.keys s
  have hp : aR kps v = none := by
   have := fJ kps kvs v r
   rw [U] at this
   exact iv (by rw [this]; simp)
  obtain ⟨X, rst, e, hX⟩ := tl
  obtain ⟨es, u, h1, h2, h3, s2⟩ := (s.ent e).map_open
  have hb := s2.pts_at (i := 0) rfl
  have L := I.find w h1 v
  have D := kJ kps v 0
  rw [hp] at D
  unfold execOp; simp only [G]; rw [J.ev hx, J.ev hy]
  cases hq : ex kps v 0 with
  | none => rw [hq] at L; simp [Instr.lookup, underlying, program, Sem.run, hu, getObj, hb, I.chk, L, hz]
  | some q => rw [hq] at D; simp at D
theorem ug {x : Operand} {D : Array TypeId} (tl : ko H b ek kps kvs) (G : o.op = .call { callee := .builtin .len, args := #[x], argTypes := D }) (I : Go.Proofs.YtndjkejhacfpdaaGreatDoor.ev E x = some (.map (some b))) (J : D[0]? = some t) (L : K.P.underlying t = some (.map T VT)) :
  RQ K o E H (.int .i64 (kvs.length : Int)) :=
 cA (by rw [G]; intro c h; cases h) fun a w U s => by
  have q := congrArg List.length (tl.keys s)
  simp only [List.length_map] at q
  obtain ⟨X, rst, e, hX⟩ := tl
  obtain ⟨es, r, h1, h2, h3, s2⟩ := (s.ent e).map_open
  have hb := s2.pts_at (i := 0) rfl
  have u : es.size = kvs.length := by have := congrArg List.length h1; simpa [cU, q] using this
  unfold execOp; simp only [G]
  simp [resolve, invoke, builtin, Builtin.len_, J, underlying, program, Sem.run, L, U.ev I, getObj, hb, goInt, u]
theorem sh {Y : Type} {v : Y → Value} {X : HA} (k : Nat) {M q : HA} (r : H[k]? = some (aV M X)) (h : RE K o E (M :: X :: H.eraseIdx k) v (fun _ : Y => q :: X :: H.eraseIdx k)) : RE K o E H v (fun _ => H.set k (aV q X)) := by
 have u : k < H.length := (List.getElem?_eq_some_iff.1 r).1
 refine kK (RE.ent ?_ h) (fun _ => rfl) fun y => ?_
 ·intro h s
  rw [eR H k _ r] at s
  have s1 : aV (aV M X) (aN (H.eraseIdx k)) h := s
  rw [bg] at s1
  exact s1
 ·intro h s
  rw [← fX H k _ u]
  show aV (aV q X) (aN (H.eraseIdx k)) h
  rw [bg]
  exact s
theorem td {x y z : Operand} (k : Nat) (v : α) (p : Nat) (q : o.op = .mapUpdate t x y z) (r : Go.Proofs.YtndjkejhacfpdaaGreatDoor.ev E x = some (.map (some b))) (u : Go.Proofs.YtndjkejhacfpdaaGreatDoor.ev E y = some (ek v)) (D : Go.Proofs.YtndjkejhacfpdaaGreatDoor.ev E z = some (am p)) (G : K.P.underlying t = some (.map T VT)) (I : iE K.P T ek) (J : H[k]? = some (ao (aj b ek am kps) fp kps kvs)) :
  RE K (Y := Unit) o E H (fun _ => undef) (fun _ => H.set k (ve (aj b ek am (aX kps v p)) fp kps kvs v p)) :=
 sh k J (uh (kvs := kps) (ev := am) 0 v p q r u D G I rfl)
theorem te {x y : Operand} {q : Array TypeId} (k : Nat) (v : α) (r : o.op = .call { callee := .builtin .delete, args := #[x, y], argTypes := q }) (u : Go.Proofs.YtndjkejhacfpdaaGreatDoor.ev E x = some (.map (some b))) (D : Go.Proofs.YtndjkejhacfpdaaGreatDoor.ev E y = some (ek v)) (G : q[0]? = some t) (I : K.P.underlying t = some (.map T VT)) (J : iE K.P T ek) (L : H[k]? = some (ao (aj b ek am kps) fp kps kvs)) :
  RE K (Y := Unit) o E H (fun _ => .tuple #[]) (fun _ => H.set k (ao (aj b ek am (dy kps v)) fp (dy kps v) (dy kvs v))) :=
 kK (sh k L (ui (kvs := kps) (ev := am) 0 v r u D G I J rfl)) (fun _ => rfl) fun y => Ent.set k fun h s => bN h (fun h s => mO v kps kvs h s) s
theorem si {t : TypeId} (q : o.op = .makeMap t none) : RE K (Y := Nat) o E H (fun b => .map (some b)) (fun b => ao (aj b ek am ([] : List (α × Nat))) fp ([] : List (α × Nat)) ([] : List (α × β)) :: H) :=
 kK (pz (ek := ek) (ev := am) q) (fun _ => rfl) fun b => Ent.makeF (Ent.refl _)
end
end Go.Proofs.YtndjkejhacfpdaaGreatDoor

namespace Go.Proofs.YtndjkejhacfpdaaGreatDoor
open Go.RowKit
section
variable {α β S : Type} [DecidableEq α]
def gh (q : S → α → β → Option (S × β)) : List α → S → List (α × β) → Option (S × List (α × β))
 | [], s, kvs => some (s, kvs)
 | x :: l, s, kvs => (aR kvs x).bind fun v => (q s x v).bind fun z => gh q l z.1 (aX kvs x z.2)
def hQ (x : α) : List α → List (List α)
 | [] => [[x]]
 | y :: l => (x :: y :: l) :: (hQ x l).map (y :: ·)
def iY : List α → List (List α)
 | [] => [[]]
 | x :: l => (iY l).flatMap (hQ x)
theorem lY {x : α} : ∀ {a b : List α}, a ++ x :: b ∈ hQ x (a ++ b)
 | [], [] => by simp [hQ]
 | [], y :: b => by simp [hQ]
 | y :: a, b => by
  simp only [List.cons_append, hQ, List.mem_cons, List.mem_map]
  exact .inr ⟨_, lY, rfl⟩
theorem ls {x : α} : ∀ {m l : List α}, l ∈ hQ x m → l.Perm (x :: m)
 | [], l, h => by simp [hQ] at h; subst h; exact List.Perm.refl _
 | y :: m, l, h => by
  simp only [hQ, List.mem_cons, List.mem_map] at h
  rcases h with rfl | ⟨q, h, rfl⟩
  ·exact List.Perm.refl _
  ·exact (List.Perm.cons y (ls h)).trans (List.Perm.swap x y m)
theorem nV : ∀ {m l : List α}, l.Perm m → l ∈ iY m
 | [], l, h => by rw [h.eq_nil]; simp [iY]
 | x :: m, l, h => by
  obtain ⟨a, b, rfl⟩ := List.append_of_mem (h.mem_iff.2 List.mem_cons_self)
  have q : (a ++ b).Perm m := (List.perm_cons x).1 ((List.perm_middle.symm).trans h)
  simp only [iY, List.mem_flatMap]
  exact ⟨a ++ b, nV q, lY⟩
theorem kP : ∀ {m l : List α}, l ∈ iY m → l.Perm m
 | [], l, h => by simp [iY] at h; subst h; exact List.Perm.refl _
 | x :: m, l, h => by
  simp only [iY, List.mem_flatMap] at h
  obtain ⟨a, h1, q⟩ := h
  exact (ls q).trans (List.Perm.cons x (kP h1))
def iH [DecidableEq S] [DecidableEq β] (q : S → α → β → Option (S × β)) (s : S) (kvs : List (α × β)) : Option (S × List (α × β)) :=
 if (kvs.map (·.1)).Nodup ∧ ∀ l ∈ iY (kvs.map (·.1)), gh q l s kvs = gh q (kvs.map (·.1)) s kvs then gh q (kvs.map (·.1)) s kvs else none
def lu [DecidableEq S] [DecidableEq β] (q : S → α → β → Option S) (s : S) (kvs : List (α × β)) : Option S := (iH (fun s x v => (q s x v).map fun u => (u, v)) s kvs).map (·.1)
theorem mU {v : β} {x : α} : ∀ {kvs : List (α × β)}, (aR kvs x).isSome = true → (aX kvs x v).map (·.1) = kvs.map (·.1)
 | [], h => by simp [aR] at h
 | p :: l, h => by
  rw [aR] at h
  rw [aX]
  by_cases hp : p.1 = x
  ·rw [if_pos hp]; simp [hp]
  ·rw [if_neg hp] at h ⊢
   rw [List.map_cons, List.map_cons, mU h]
theorem nW {γ : Type} : ∀ {l : List (α × γ)} {p : α × γ}, (l.map (·.1)).Nodup → p ∈ l → aR l p.1 = some p.2
 | [], _, _, h => by cases h
 | q :: l, p, hn, h => by
  rw [List.map_cons, List.nodup_cons] at hn
  rw [aR]
  rcases List.mem_cons.1 h with rfl | h
  ·rw [if_pos rfl]
  ·rw [if_neg (fun e => hn.1 (by rw [e]; exact List.mem_map.2 ⟨p, h, rfl⟩))]
   exact nW hn.2 h
def itI (b r : Nat) (ek : α → Value) (kps : List (α × Nat)) (todo : List α) : HA := exs fun (es : Array MapEntry) => exs fun (k : Nat × Nat × Array Nat × Nat) =>
 aV (pts b (.map es k.1)) (aV (pts r (.mapIter (some b) k.2.1 k.2.2.1 k.2.2.2)) (pr (cU ek am es.toList kps ∧ (es.toList.map (·.born)).Nodup ∧ (∀ e ∈ es.toList, e.born < k.2.1) ∧ k.2.1 ≤ k.2.2.2 ∧ k.2.1 ≤ k.1 ∧ (leftOf es k.2.2.1).toList.map (·.key) = todo.map ek)))
def itJ (b r : Nat) (ek : α → Value) (kps : List (α × Nat)) (todo : List α) (x : α) : HA := exs fun (es : Array MapEntry) => exs fun (k : Nat × Nat × Array Nat × MapEntry) =>
 aV (pts b (.map es k.1)) (aV (pts r (.mapIter (some b) k.2.1 (k.2.2.1.push k.2.2.2.born) k.1)) (pr (cU ek am es.toList kps ∧ (es.toList.map (·.born)).Nodup ∧ (∀ e ∈ es.toList, e.born < k.2.1) ∧ k.2.1 ≤ k.1 ∧ (leftOf es (k.2.2.1.push k.2.2.2.born)).toList.map (·.key) = todo.map ek ∧ k.2.2.2 ∈ es.toList ∧ k.2.2.2.key = ek x ∧ k.2.2.2.val = am (cN kps x))))
theorem tn {b r : Nat} {ek : α → Value} {kps : List (α × Nat)} {todo : List α} {x : α} (h : Hp) (s : itJ b r ek kps todo x h) : itI b r ek kps todo h := by
 obtain ⟨es, ⟨c, q, u, e⟩, s⟩ := s
 refine ⟨es, ⟨c, q, u.push e.born, c⟩, ?_⟩
 exact bN h (fun h s => bN h (fun h ⟨h1, G, I, D, J, _⟩ => ⟨h1, G, I, D, D, J⟩) s) s
theorem tq {b r : Nat} {ek : α → Value} {kps : List (α × Nat)} {todo : List α} (h : Hp) (s : itI b r ek kps todo h) : aV (aj b ek am kps) tt h := by
 obtain ⟨es, ⟨c, q, u, U⟩, h1, D, hd, G, I, X, h4, J, L, hr, hp⟩ := s
 exact ⟨h1, D, hd, G, ⟨es, c, I, hp.1, hp.2.1, fun e h => Nat.lt_of_lt_of_le (hp.2.2.1 e h) hp.2.2.2.2.1⟩, trivial⟩
end
section
variable {K : Cx} {R S Y : Type} {Q : de R} {E : Env} {H : List HA} {opt : Option R} {ops : Array Oper} {rest : List Oper} {o : Oper} {α β Z : Type} [DecidableEq α] {ek : α → Value} {fp : Nat → β → Z → List HA} {T VT t : TypeId} {b r : Nat} {kps : List (α × Nat)} {kvs : List (α × β)} {c : Code}
theorem Ent.into {A q X : HA} {l : List HA} (h : ∀ h, A h → aV q tt h) : Ent (aV A X :: l) (aV q X :: l) := by
 intro hp s
 have s1 : aV (aV A X) (aN l) hp := s
 rw [bg] at s1
 have u := fB hp h s1
 rw [bg] at u
 show aV (aV q X) (aN l) hp
 rw [bg]
 refine bN hp (fun h s => ?_) u
 have D := dm s
 exact bN h (fun h s => dT l tt h s) D
theorem uw {todo : List α} {l : List HA} : Ent (ao (itI b r ek kps todo) fp kps kvs :: l) (ao (aj b ek am kps) fp kps kvs :: l) := Ent.into fun h s => tq h s
theorem ux {todo : List α} {x : α} {l : List HA} : Ent (ao (itJ b r ek kps todo x) fp kps kvs :: l) (ao (itI b r ek kps todo) fp kps kvs :: l) := Ent.into fun h s => iq (tn h s)
theorem su {x : Operand} (k : Nat) (D : o.op = .range t x) (J : Go.Proofs.YtndjkejhacfpdaaGreatDoor.ev E x = some (.map (some b))) (L : K.P.underlying t = some (.map T VT)) (G : H[k]? = some (ao (aj b ek am kps) fp kps kvs)) :
  RE K (Y := Nat) o E H (fun r => .pointer (some ⟨r, 0, none⟩)) (fun r => H.set k (ao (itI b r ek kps (kps.map (·.1))) fp kps kvs)) :=
 fW (by rw [D]; intro c h; cases h) fun a w U s => by
  have X : k < H.length := (List.getElem?_eq_some_iff.1 G).1
  have s1 : Sat K.W (aj b ek am kps :: cb fp kps kvs :: H.eraseIdx k) w := s.ent (px k G)
  obtain ⟨es, q, h1, h2, h3, I⟩ := s1.map_open
  have hb := I.pts_at (i := 0) rfl
  refine ⟨w.heap.size, { w with heap := w.heap.push (.mapIter (some b) q #[] q) }, ?_, ?_⟩
  ·unfold execOp; simp only [D]; rw [U.ev J]
   have := run_range_map (P := K.P) w t T VT b es q L hb
   rw [show w.alloc (.mapIter (some b) q #[] q) = { w with heap := w.heap.push (.mapIter (some b) q #[] q) } from rfl] at this
   simp [this]
  ·refine (I.new (.mapIter (some b) q #[] q)).ent ?_
   intro h s
   rw [← fX H k _ X]
   have s3 : aV (pts w.heap.size (.mapIter (some b) q #[] q)) (aV (pts b (.map es q)) (aV (cb fp kps kvs) (aN (H.eraseIdx k)))) h := s
   show aV (aV (itI b w.heap.size ek kps (kps.map (·.1))) (cb fp kps kvs)) (aN (H.eraseIdx k)) h
   rw [bg]
   have u := dm s3
   rw [← bg] at u
   rw [← bg] at u
   rw [bg] at u
   refine fB h (fun h s => ⟨es, ⟨q, q, #[], q⟩, bN h (fun h s => ?_) s⟩) u
   rw [dG]
   refine gn.2 ⟨⟨h1, h2, h3, Nat.le_refl _, Nat.le_refl _, ?_⟩, gR s⟩
   have e1 : (leftOf es #[]).toList = es.toList := by simp [leftOf]
   rw [e1]
   have := congrArg (List.map (·.1)) h1
   simpa [cU, List.map_map, Function.comp_def] using this
theorem sw {es : Array MapEntry} {q : Array Nat} {e : MapEntry} (D : (es.toList.map (·.born)).Nodup) {i : Nat} (hi : (leftOf es q).toList[i]? = some e) : (leftOf es (q.push e.born)).toList = (leftOf es q).toList.eraseIdx i := by
 have G : (leftOf es (q.push e.born)).toList = ((leftOf es q).toList).filter fun x => !(x.born == e.born) := by
  simp only [leftOf, Array.toList_filter, List.filter_filter]
  congr 1
  funext x
  simp only [Array.contains_push, Bool.not_or]
  rw [Bool.and_comm]
 rw [G]
 have u : ((leftOf es q).toList.map (·.born)).Nodup := by
  simp only [leftOf, Array.toList_filter]
  exact (List.Sublist.map _ List.filter_sublist).nodup D
 generalize (leftOf es q).toList = l at hi u
 clear G D
 induction l generalizing i with
 | nil => simp at hi
 | cons a l ih =>
  rw [List.map_cons, List.nodup_cons] at u
  cases i with
  | zero =>
   simp at hi
   subst hi
   simp only [List.eraseIdx_zero, List.tail_cons, List.filter_cons, beq_self_eq_true, Bool.not_true, Bool.false_eq_true, if_false]
   rw [List.filter_eq_self]
   intro x I
   have : x.born ≠ a.born := fun e => u.1 (by rw [← e]; exact List.mem_map.2 ⟨x, I, rfl⟩)
   simp [this]
  | succ i =>
   simp only [List.getElem?_cons_succ] at hi
   have : a.born ≠ e.born := fun J => u.1 (by rw [J]; exact List.mem_map.2 ⟨e, List.mem_of_getElem? hi, rfl⟩)
   rw [List.eraseIdx_cons_succ, List.filter_cons, if_pos (by simp [this]), ih hi u.2]
theorem lv {γ δ : Type} (f : γ → δ) : ∀ (l : List γ) (i : Nat), (l.eraseIdx i).map f = (l.map f).eraseIdx i
 | [], _ => by simp
 | a :: l, 0 => by simp
 | a :: l, i + 1 => by simp [lv f l i]
theorem tr {es : Array MapEntry} {q : Array Nat} {e : MapEntry} (h : e ∈ (leftOf es q).toList) : e ∈ es.toList := by
 simp only [leftOf, Array.toList_filter, List.mem_filter] at h
 exact h.1
theorem sx {x : Operand} {d : Nat} {todo : List α} (k : Nat) (ho : o.op = .next x false) (hg : o.guard = none) (hd : o.dst = some d) (a1 : Nat.blt d K.n = true) (hx : Go.Proofs.YtndjkejhacfpdaaGreatDoor.ev E x = some (.pointer (some ⟨r, 0, none⟩)))
  (a6 : ∀ x y, ek x = ek y → x = y) (b1 : (kvs.map (·.1)).Nodup) (hk : H[k]? = some (ao (itI b r ek kps todo) fp kps kvs))
  (h0 : todo = [] → bX K Q ops rest ((d, .tuple #[.bool false]) :: E) H opt)
  (h1 : ∀ i z, todo[i]? = some z → (aR kvs z).isSome = true → bX K Q ops rest ((d, .tuple #[.bool true, ek z, am (cN kps z)]) :: E) (H.set k (ao (itJ b r ek kps (todo.eraseIdx i) z) fp kps kvs)) opt) : bX K Q ops (o :: rest) E H opt := by
 intro rr hr a w he s
 have hl : k < H.length := (List.getElem?_eq_some_iff.1 hk).1
 have s1 : Sat K.W (itI b r ek kps todo :: cb fp kps kvs :: H.eraseIdx k) w := s.ent (by
  intro h s
  rw [eR H k _ hk] at s
  have s1 : aV (aV (itI b r ek kps todo) (cb fp kps kvs)) (aN (H.eraseIdx k)) h := s
  rw [bg] at s1
  exact s1)
 have I : kps.map (·.1) = kvs.map (·.1) := by
  obtain ⟨_, _, _, _, _, ⟨_, _, _, _, hx, _⟩⟩ := s1.hp
  exact gL _ _ _ hx
 obtain ⟨ha, b3, b4, b5, ⟨es, ⟨D, u, G, c0⟩, hI⟩, ab⟩ := s1.hp
 have s2 : Sat K.W (pts r (.mapIter (some b) u G c0) :: pts b (.map es D) :: pr (cU ek am es.toList kps ∧ (es.toList.map (·.born)).Nodup ∧ (∀ e ∈ es.toList, e.born < u) ∧ u ≤ c0 ∧ u ≤ D ∧ (leftOf es G).toList.map (·.key) = todo.map ek) :: cb fp kps kvs :: H.eraseIdx k) w := by
  refine ⟨s1.os, s1.tape, s1.output, s1.size, ?_⟩
  have s3 : aV (aV (pts b (.map es D)) (aV (pts r (.mapIter (some b) u G c0)) (pr _))) (aN (cb fp kps kvs :: H.eraseIdx k)) (hpw w) := ⟨ha, b3, b4, b5, hI, ab⟩
  rw [bg, bg] at s3
  exact dm s3
 have b6 := s2.pts_at (i := 0) rfl
 have b7 := s2.pts_at (i := 1) rfl
 obtain ⟨_, ⟨p1, p2, p3, p4, p5, p6⟩, _⟩ := s2.at (i := 2) rfl
 have L : ∀ v w', (Instr.next (.pointer (some ⟨r, 0, none⟩)) false o.type).run K.P w = .ok v w' → (execOp a.eval o).run K.P w = .ok (.value v) w' := by
  intro v w' h
  unfold execOp; simp only [ho]; rw [he.ev hx]
  simp [h]
 have J : ∀ c, o.op ≠ .defer c := by rw [ho]; intro c h; cases h
 refine wpListIn_plain hg fun K' a8 => ?_
 refine ⟨fun f _ => fV _ _, ?_⟩
 rw [Oper.semAt_eq _ _ _ J]
 rcases run_next_at (P := K.P) w o.type r b u c0 G es D b6 b7 p3 p4 with ⟨hz, hn⟩ | ⟨e, bc, w1, ch, hn⟩
 ·rw [L _ _ hn]
  have ht : todo = [] := by
   have : (leftOf es G).toList = [] := List.eq_nil_of_length_eq_zero (by simpa using hz)
   rw [this] at p6
   simpa using p6.symm
  refine a8 _ _ ?_
  rw [hd]
  exact h0 ht rr hr _ w (he.put _ a1) s
 ·rw [L _ _ hn]
  obtain ⟨i, hi⟩ := List.mem_iff_getElem?.1 bc
  have be : (todo.map ek)[i]? = some e.key := by rw [← p6, List.getElem?_map, hi]; rfl
  rw [List.getElem?_map] at be
  obtain ⟨z, hz, ad⟩ := Option.map_eq_some_iff.1 be
  have U := tr bc
  have af : (e.key, e.val) ∈ kps.map fun p => (ek p.1, am p.2) := by
   rw [← (show es.toList.map (fun e => (e.key, e.val)) = _ from p1)]
   exact List.mem_map.2 ⟨e, U, rfl⟩
  obtain ⟨p, hp, al⟩ := List.mem_map.1 af
  simp only [Prod.mk.injEq] at al
  have c1 : p.1 = z := a6 _ _ (by rw [al.1, ad])
  have br : aR kps z = some p.2 := by rw [← c1]; exact nW (by rw [I]; exact b1) hp
  have X : e.val = am (cN kps z) := by rw [← al.2]; simp [cN, br]
  have c3 : (aR kvs z).isSome = true := by rw [← fJ kps kvs z I, br]; rfl
  refine a8 _ _ ?_
  rw [hd]
  have c4 : Sat K.W (pts r (.mapIter (some b) u G c0) :: pts b (.map es D) :: pr (cU ek am es.toList kps ∧ (es.toList.map (·.born)).Nodup ∧ (∀ e ∈ es.toList, e.born < u) ∧ u ≤ c0 ∧ u ≤ D ∧ (leftOf es G).toList.map (·.key) = todo.map ek) :: cb fp kps kvs :: H.eraseIdx k) w1 := by
   rcases ch with rfl | rfl
   ·exact s2
   ·exact s2.drew _
  have s5 := c4.upd (o' := .mapIter (some b) u (G.push e.born) D)
  have := h1 i z hz c3 rr hr (a.put (some d) (.tuple #[.bool true, e.key, e.val])) (Go.ChangeMaps.setBlock w1 r (.mapIter (some b) u (G.push e.born) D)) (by rw [ad.symm, X]; exact he.put _ a1) (s5.ent ?_)
  ·exact this
  ·intro h s
   rw [← fX H k _ hl]
   show aV (aV (itJ b r ek kps (todo.eraseIdx i) z) (cb fp kps kvs)) (aN (H.eraseIdx k)) h
   rw [bg]
   have s6 : aV (pts r (.mapIter (some b) u (G.push e.born) D)) (aV (pts b (.map es D)) (aV (pr _) (aV (cb fp kps kvs) (aN (H.eraseIdx k))))) h := s
   have s7 := dm s6
   have s8 : aV (pts b (.map es D)) (aV (pts r (.mapIter (some b) u (G.push e.born) D)) (aV (pr (cU ek am es.toList kps ∧ (es.toList.map (·.born)).Nodup ∧ (∀ x ∈ es.toList, x.born < u) ∧ u ≤ D ∧ (leftOf es (G.push e.born)).toList.map (·.key) = (todo.eraseIdx i).map ek ∧ e ∈ es.toList ∧ e.key = ek z ∧ e.val = am (cN kps z))) (aV (cb fp kps kvs) (aN (H.eraseIdx k))))) h :=
    bN h (fun h s => bN h (fun h s => fB h (fun h q => ⟨p1, p2, p3, p5, by
     rw [sw p2 hi, lv, p6, lv], U, ad.symm, X⟩) s) s) s7
   rw [← bg (pts r _), ← bg (pts b _)] at s8
   exact fB h (fun h s => ⟨es, ⟨D, u, G, e⟩, s⟩) s8
theorem uy {x : Operand} {todo : List α} {z : α} {H' : List HA} {X : HA} (ho : o.op = .entry x) (hx : Go.Proofs.YtndjkejhacfpdaaGreatDoor.ev E x = some (.pointer (some ⟨r, 0, none⟩))) (e : Ent H (itJ b r ek kps todo z :: X :: H')) :
  RQ K o E H (.tuple #[ek z, am (cN kps z)]) :=
 cA (by rw [ho]; intro c h; cases h) fun a w he s => by
  have s1 := s.ent e
  obtain ⟨ha, I, J, L, ⟨es, ⟨q, u, D, e⟩, hI⟩, G⟩ := s1.hp
  have U : Sat K.W (pts r (.mapIter (some b) u (D.push e.born) q) :: pts b (.map es q) :: pr (cU ek am es.toList kps ∧ (es.toList.map (·.born)).Nodup ∧ (∀ e ∈ es.toList, e.born < u) ∧ u ≤ q ∧ (leftOf es (D.push e.born)).toList.map (·.key) = todo.map ek ∧ e ∈ es.toList ∧ e.key = ek z ∧ e.val = am (cN kps z)) :: X :: H') w := by
   refine ⟨s1.os, s1.tape, s1.output, s1.size, ?_⟩
   have s3 : aV (aV (pts b (.map es q)) (aV (pts r (.mapIter (some b) u (D.push e.born) q)) (pr _))) (aN (X :: H')) (hpw w) := ⟨ha, I, J, L, hI, G⟩
   rw [bg, bg] at s3
   exact dm s3
  have ab := U.pts_at (i := 0) rfl
  have ad := U.pts_at (i := 1) rfl
  obtain ⟨_, ⟨p1, p2, p3, p4, p5, p6, p7, p8⟩, _⟩ := U.at (i := 2) rfl
  unfold execOp; simp only [ho]; rw [he.ev hx]
  simp [run_entry_at (P := K.P) w r b u D es q e ab ad p6 p2, p7, p8]
theorem vF {todo : List α} {z : α} (k : Nat) (q : H[k]? = some (ao (itJ b r ek kps todo z) fp kps kvs)) : Ent H (itJ b r ek kps todo z :: cb fp kps kvs :: H.eraseIdx k) := by
 intro h s
 rw [eR H k _ q] at s
 have s1 : aV (aV (itJ b r ek kps todo z) (cb fp kps kvs)) (aN (H.eraseIdx k)) h := s
 rw [bg] at s1
 exact s1
theorem mV {γ : Type} : ∀ (l : List γ) (i : Nat) (x : γ), l[i]? = some x → (x :: l.eraseIdx i).Perm l
 | [], i, x, h => by simp at h
 | a :: l, 0, x, h => by simp at h; subst h; exact List.Perm.refl _
 | a :: l, i + 1, x, h => by
  rw [List.eraseIdx_cons_succ]
  exact (List.Perm.swap a x _).trans (List.Perm.cons a (mV l i x (by simpa using h)))
theorem tu {o' : Option R} (e : ∀ r, opt = some r → o' = some r) (h : bX K Q ops rest E H o') : bX K Q ops rest E H opt := fun r q a w u D => h r (e r q) a w u D
def hU {β S R : Type} {α : Type} [DecidableEq α] [DecidableEq S] [DecidableEq β] (q : S → α → β → Option (S × β)) (o2 : S × List (α × β) → Option R) (k : Nat) (z : S × List (α × β) × List α) : Option R :=
 if z.2.2.length < k ∧ (z.2.1.map (·.1)).Nodup ∧ ∀ l ∈ iY z.2.2, gh q l z.1 z.2.1 = gh q z.2.2 z.1 z.2.1 then (gh q z.2.2 z.1 z.2.1).bind o2 else none
theorem rB [DecidableEq S] [DecidableEq β] {q : S → α → β → Option (S × β)} {o2 : S × List (α × β) → Option R} {k : Nat} {s : S} {todo : List α} {i : Nat} {x : α} {v : β} {rr : R} (hi : todo[i]? = some x) (X : aR kvs x = some v)
  (h : hU q o2 (k + 1) (s, kvs, todo) = some rr) : ∃ z, q s x v = some z ∧ hU q o2 k (z.1, aX kvs x z.2, todo.eraseIdx i) = some rr := by
 unfold hU at h
 split at h
 ·rename_i hc
  obtain ⟨h1, h2, G⟩ := hc
  simp only at h1 h2 G h
  have h3 := fun l D => G l (nV D)
  have I := (List.getElem?_eq_some_iff.1 hi).1
  have u : ∀ l, l.Perm (todo.eraseIdx i) → (x :: l).Perm todo := fun l D => by
   have J : todo[i]'I = x := (List.getElem?_eq_some_iff.1 hi).2
   have U : (x :: todo.eraseIdx i).Perm todo := by
    rw [← J]
    exact mV _ _ _ (by rw [J]; exact hi)
   exact (List.Perm.cons x D).trans U
  rw [← h3 _ (u _ (List.Perm.refl _))] at h
  rw [gh, X, Option.bind_some] at h
  cases hs : q s x v with
  | none => rw [hs] at h; cases h
  | some z =>
   refine ⟨z, rfl, ?_⟩
   rw [hs, Option.bind_some] at h
   unfold hU
   have ad : (todo.eraseIdx i).length < k := by rw [List.length_eraseIdx_of_lt I]; omega
   have hn : ((aX kvs x z.2).map (·.1)).Nodup := by rw [mU (by rw [X]; rfl)]; exact h2
   have L : ∀ l, l.Perm (todo.eraseIdx i) → gh q l z.1 (aX kvs x z.2) = gh q (todo.eraseIdx i) z.1 (aX kvs x z.2) := fun l D => by
    have J := h3 _ (u l D)
    have U := h3 _ (u _ (List.Perm.refl _))
    rw [gh, X, Option.bind_some, hs, Option.bind_some] at J U
    rw [J, ← U]
   rw [if_pos ⟨ad, hn, fun l D => L l (kP D)⟩]
   exact h
 ·cases h
theorem rC [DecidableEq S] [DecidableEq β] {q : S → α → β → Option (S × β)} {o2 : S × List (α × β) → Option R} {k : Nat} {s : S} {u : R} (h : hU q o2 k (s, kvs, []) = some u) : o2 (s, kvs) = some u := by
 unfold hU at h
 split at h
 ·simpa [gh] using h
 ·cases h
theorem qe [DecidableEq S] [DecidableEq β] {q : S → α → β → Option (S × β)} {o2 : S × List (α × β) → Option R} {k : Nat} {s : S} {todo : List α} {u : R} (h : hU q o2 k (s, kvs, todo) = some u) : (kvs.map (·.1)).Nodup := by
 unfold hU at h
 split at h
 ·rename_i D; exact D.2.1
 ·cases h
theorem qf [DecidableEq S] [DecidableEq β] {q : S → α → β → Option (S × β)} {o2 : S × List (α × β) → Option R} {s : S} : (iH q s kvs).bind o2 = hU q o2 (kvs.length + 1) (s, kvs, kvs.map (·.1)) := by
 unfold iH hU
 simp only [List.length_map]
 by_cases hc : (kvs.map (·.1)).Nodup ∧ ∀ l ∈ iY (kvs.map (·.1)), gh q l s kvs = gh q (kvs.map (·.1)) s kvs
 ·rw [if_pos hc, if_pos ⟨by omega, hc⟩]
 ·rw [if_neg hc, if_neg (fun h => hc h.2)]; rfl
theorem rD [DecidableEq S] [DecidableEq β] {tI L U X ab a1 : Nat} {body : Code} {a6 a7 : TypeId} {a8 bc : String} {be br : Array Edge} {o2 : S × List (α × β) → Option R} (q : S → α → β → Option (S × β)) (D : S → Y → Env) (Hs : S → Y → List HA) (s0 : S) (y0 : Y)
  (af : ∀ x y, ek x = ek y → x = y) (b0 : ∀ s y, lk (D s y) tI = some (.pointer (some ⟨r, 0, none⟩))) (b1 : Nat.blt L K.n = true) (al : Nat.blt U K.n = true) (hS : ∀ s y v1 v2, Sub (D s y) ((U, v1) :: (L, v2) :: D s y))
  (hE : Sub (D s0 y0) E) (hH : Ent H (ao (itI b r ek kps (kps.map (·.1))) fp kps kvs :: Hs s0 y0))
  (hB : ∀ kvs todo s y x v, aR kvs x = some v → Sim K (iA K (fun (z : S × β) (y : Y) => D z.1 y) (fun z y => ao (itJ b r ek kps todo x) fp kps (aX kvs x z.2) :: Hs z.1 y)) (.block ab body) ((U, .bool true) :: (L, .tuple #[.bool true, ek x, am (cN kps x)]) :: D s y) (ao (itJ b r ek kps todo x) fp kps kvs :: Hs s y) (q s x v))
  (hN : ∀ kvs s y, Nrm K Q (D s y) (ao (aj b ek am kps) fp kps kvs :: Hs s y) (o2 (s, kvs))) :
  Sim K (ki X Q) (.loop (.seq (.region a1 [⟨some L, .next (.tmp tI) false, a6, a8, be, none⟩, ⟨some U, .extract (.tmp L) 0, a7, bc, br, none⟩].toArray false) (.seq (.cond (.tmp U) .skip (.exit X)) (.block ab body)))) E H ((iH q s0 kvs).bind o2) := by
 have G : ∀ w, Sat K.W H w → kps.map (·.1) = kvs.map (·.1) := fun w s => by
  obtain ⟨_, _, _, _, ⟨_, _, _, _, _, hx⟩, _⟩ := (s.ent hH).hp
  exact gL _ _ _ hx
 intro I u a w he J
 have hk := G w J
 rw [qf] at u
 rw [hk] at hH
 refine (cr (S := S × List (α × β) × List α) Y (fun k z => hU q o2 k z) (fun z y => D z.1 y) (fun z y => ao (itI b r ek kps z.2.2) fp kps z.2.1 :: Hs z.1 y) (fun z => by unfold hU; rw [if_neg (by omega)]) ?_ (kvs.length + 1) (s0, kvs, kvs.map (·.1)) y0 hE hH) I u a w he J
 rintro k ⟨s, kvs, todo⟩ y
 refine ay (aI ?_)
 by_cases hnd : (kvs.map (·.1)).Nodup
 ·refine sx (todo := todo) (kvs := kvs) 0 rfl rfl rfl b1 (b0 s y) af hnd rfl (fun ht => ?_) (fun i x hi hx => ?_)
  ·subst ht
   refine iM (bG (vs := #[.bool false]) (v := .bool false) (i := 0) rfl (by simp [Go.Proofs.YtndjkejhacfpdaaGreatDoor.ev, lk]) rfl) rfl rfl al (ae (aa (ay (fy (by simp [Go.Proofs.YtndjkejhacfpdaaGreatDoor.ev, lk]) (cD ?_)))))
   refine cg (cp (ci ?_))
   intro I u a w he J
   have hh := hN kvs s y I (rC u) a w (he.sub ?_) (J.ent uw)
   ·exact hh
   ·exact hS s y _ _
  ·obtain ⟨v, hv⟩ := Option.isSome_iff_exists.1 hx
   refine tu (o' := (q s x v).bind fun z => hU q o2 k (z.1, aX kvs x z.2, todo.eraseIdx i)) (fun I u => ?_) ?_
   ·obtain ⟨z, h1, h2⟩ := rB hi hv u
    rw [h1]; exact h2
   ·refine iM (bG (vs := #[.bool true, ek x, am (cN kps x)]) (v := .bool true) (i := 0) rfl (by simp [Go.Proofs.YtndjkejhacfpdaaGreatDoor.ev, lk]) rfl) rfl rfl al (ae (aa (ay (fH (by simp [Go.Proofs.YtndjkejhacfpdaaGreatDoor.ev, lk]) (aC (aa ?_))))))
    intro I u a w he J
    obtain ⟨z, h1, h2⟩ := Option.bind_eq_some_iff.1 u
    refine wpIn_mono (hB kvs (todo.eraseIdx i) s y x v hv z h1 a w he J) ?_
    intro e a' w' hq
    cases e with
    | normal => obtain ⟨y', x1, x2⟩ := hq; exact ⟨(z.1, aX kvs x z.2, todo.eraseIdx i), y', h2, x1, x2.ent ux⟩
    | _ => exact hq.elim
 ·exact fun I u => absurd (qe u) hnd
theorem nX {q : S → α → β → Option S} : ∀ (l : List α) (s : S) (kvs : List (α × β)) (z : S × List (α × β)), gh (fun s x v => (q s x v).map fun D => (D, v)) l s kvs = some z → z.2 = kvs
 | [], s, kvs, z, h => by simp [gh] at h; rw [← h]
 | x :: l, s, kvs, z, h => by
  rw [gh] at h
  obtain ⟨v, G, h⟩ := Option.bind_eq_some_iff.1 h
  obtain ⟨u, I, h⟩ := Option.bind_eq_some_iff.1 h
  obtain ⟨D, _, rfl⟩ := Option.map_eq_some_iff.1 I
  rw [jj G] at h
  exact nX l _ _ _ h
theorem qg [DecidableEq S] [DecidableEq β] {q : S → α → β → Option S} {s : S} {z : S × List (α × β)} (h : iH (fun s x v => (q s x v).map fun u => (u, v)) s kvs = some z) : z.2 = kvs := by
 unfold iH at h
 split at h
 ·exact nX _ _ _ _ h
 ·cases h
theorem Ent.sameF {M : HA} {x : α} {v : β} {l m : List HA} (q : aR kvs x = some v) (r : Ent l (ao M fp kps kvs :: m)) : Ent l (ao M fp kps (aX kvs x v) :: m) := by rw [jj q]; exact r
theorem rE [DecidableEq S] [DecidableEq β] {tI D G I J ad : Nat} {body : Code} {af al : TypeId} {an a1 : String} {a6 a7 : Array Edge} {o2 : S → Option R} (q : S → α → β → Option S) (u : S → Y → Env) (L : S → Y → List HA) (s0 : S) (y0 : Y)
  (U : ∀ x y, ek x = ek y → x = y) (bc : ∀ s y, lk (u s y) tI = some (.pointer (some ⟨r, 0, none⟩))) (be : Nat.blt D K.n = true) (br : Nat.blt G K.n = true) (hS : ∀ s y v1 v2, Sub (u s y) ((G, v1) :: (D, v2) :: u s y))
  (hE : Sub (u s0 y0) E) (hH : Ent H (ao (itI b r ek kps (kps.map (·.1))) fp kps kvs :: L s0 y0))
  (hB : ∀ kvs todo s y x v, aR kvs x = some v → Sim K (iA K (fun (z : S) (y : Y) => u z y) (fun z y => ao (itJ b r ek kps todo x) fp kps kvs :: L z y)) (.block J body) ((G, .bool true) :: (D, .tuple #[.bool true, ek x, am (cN kps x)]) :: u s y) (ao (itJ b r ek kps todo x) fp kps kvs :: L s y) (q s x v))
  (hN : ∀ s y, Nrm K Q (u s y) (ao (aj b ek am kps) fp kps kvs :: L s y) (o2 s)) :
  Sim K (ki I Q) (.loop (.seq (.region ad [⟨some D, .next (.tmp tI) false, af, an, a6, none⟩, ⟨some G, .extract (.tmp D) 0, al, a1, a7, none⟩].toArray false) (.seq (.cond (.tmp G) .skip (.exit I)) (.block J body)))) E H ((lu q s0 kvs).bind o2) := by
 have e : (lu q s0 kvs).bind o2 = (iH (fun s x v => (q s x v).map fun X => (X, v)) s0 kvs).bind fun z => if z.2 = kvs then o2 z.1 else none := by
  unfold lu
  cases h : iH (fun s x v => (q s x v).map fun X => (X, v)) s0 kvs with
  | none => rfl
  | some z => simp [qg h]
 rw [e]
 refine rD (o2 := fun z => if z.2 = kvs then o2 z.1 else none) _ u L s0 y0 U bc be br hS hE hH (fun kvs todo s y x v hv => ?_) (fun ab s y => ?_)
 ·intro z hz a w he hs
  obtain ⟨X, h1, rfl⟩ := Option.map_eq_some_iff.1 hz
  refine wpIn_mono (hB kvs todo s y x v hv X h1 a w he hs) ?_
  intro e a' w' hq
  cases e with
  | normal => obtain ⟨y', x1, x2⟩ := hq; exact ⟨y', x1, x2.ent (Ent.sameF hv (Ent.refl _))⟩
  | _ => exact hq.elim
 ·by_cases hk : ab = kvs
  ·subst hk; simpa using hN s y
  ·simp only [hk, if_false]; exact th
end
theorem qh {P : Program} {W : World} {F O : HA} {f b : Nat} {args : List Value} {β Z Y : Type} {ek : List UInt8 → Value} {fp : Nat → β → Z → List HA} {kps : List (List UInt8 × Nat)} {kvs : List (List UInt8 × β)} {val : List (List UInt8) → Y → Value} {B : List (List UInt8) → Y → HA}
  (h : ∀ F, Fn P W f args [O, aj b ek am kps] F (if (kps.map (·.1)).Nodup ∧ kps.length * 16 ≤ 140737488355328 ∧ ∀ p ∈ kps, p.1.length ≤ 140737488351232 then some (eA kps) else none) val (fun r y => [B r y, O, aj b ek am kps])) :
  Fn P W f args [O, ao (aj b ek am kps) fp kps kvs] F (if (kvs.map (·.1)).Nodup ∧ kvs.length * 16 ≤ 140737488355328 ∧ ∀ p ∈ kvs, p.1.length ≤ 140737488351232 then some (eA kvs) else none) val (fun r y => [B r y, O, ao (aj b ek am kps) fp kps kvs]) := by
 intro r I w X
 have D : Sat W (ao (aj b ek am kps) fp kps kvs :: [O, F]) w := X.ent (Ent.sel 1 rfl (Ent.sel 0 rfl (Ent.sel 0 rfl (Ent.nil _))))
 have u : kps.map (·.1) = kvs.map (·.1) := by
  obtain ⟨_, _, _, _, ⟨_, _, _, _, _, hx⟩, _⟩ := D.hp
  exact gL _ _ _ hx
 have G : kps.length = kvs.length := by simpa using congrArg List.length u
 have J : eA kps = eA kvs := by unfold eA; rw [u]
 split at I
 ·rename_i L
  cases I
  have U : (kps.map (·.1)).Nodup ∧ kps.length * 16 ≤ 140737488355328 ∧ ∀ p ∈ kps, p.1.length ≤ 140737488351232 := by
   refine ⟨by rw [u]; exact L.1, by rw [G]; exact L.2.1, fun p hp => ?_⟩
   have : p.1 ∈ kvs.map (·.1) := by rw [← u]; exact List.mem_map.2 ⟨p, hp, rfl⟩
   obtain ⟨q, hq, e⟩ := List.mem_map.1 this
   rw [← e]; exact L.2.2 q hq
  have := h (aV (cb fp kps kvs) F) (eA kvs) (by rw [if_pos U, J]) w (D.ent ?_)
  ·refine this.mono ?_
   rintro e w' ⟨y, rfl, s⟩
   refine ⟨y, rfl, s.ent ?_⟩
   intro h s
   have s1 : aV (B (eA kvs) y) (aV O (aV (aj b ek am kps) (aV (aV (cb fp kps kvs) F) tt))) h := s
   refine bN h (fun h s => bN h (fun h s => ?_) s) s1
   show aV (aV (aj b ek am kps) (cb fp kps kvs)) (aV F tt) h
   rw [bg] at s
   rw [bg]
   exact s
  ·intro h s
   have s1 : aV (aV (aj b ek am kps) (cb fp kps kvs)) (aV O (aV F tt)) h := s
   show aV O (aV (aj b ek am kps) (aV (aV (cb fp kps kvs) F) tt)) h
   rw [bg] at s1
   have s2 := bN h (fun h s => dm s) s1
   have s3 := dm s2
   refine bN h (fun h s => bN h (fun h s => ?_) s) s3
   rw [bg]
   exact s
 ·cases I
section
variable {K : Cx} {E : Env} {H : List HA} {o : Oper} {α : Type} {n : Nat} {V : α → List Value → Prop} {xs : List α}
end
theorem ar.empty {α : Type} {T n c : Nat} {V q : α → List Value → Prop} {a : Option Addr} {p : Hp} (h : ar T n V a ([] : List α) c p) : ar T n q a ([] : List α) c p := by
 obtain ⟨rs, u, D⟩ := h
 cases rs with
 | nil => exact ⟨[], trivial, D⟩
 | cons r rs => exact u.elim
end Go.Proofs.YtndjkejhacfpdaaGreatDoor

namespace Go.Proofs.YtndjkejhacfpdaaGreatDoor
open Go.RowKit
def sJ (T : TypeId) (F : HA) (a : Option Addr) (c : Nat) : Prop := ∀ h, F h → c = 0 ∨ ∃ b off, a = some ⟨b, off, none⟩ ∧ ∃ (l : List Value) (fz : Nat × Nat), h b = some (.cells l.toArray T fz) ∧ off + c ≤ l.length ∧ (fz.1 = fz.2 ∨ off + c ≤ fz.1)
theorem sJ.row {T : TypeId} {a : Option Addr} {n c : Nat} {cs : List Value} : sJ T (Row T 1 a n c cs) a c := by
 rintro h (⟨rfl, rfl, rfl, rfl⟩ | ⟨b, off, pre, junk, fz, rfl, ok, q⟩)
 ·exact .inl rfl
 ·have h1 := ok.room; have u := ok.offs; have r := ok.fzok
  refine .inr ⟨b, off, rfl, _, fz, q, ?_, ?_⟩
  ·simp only [List.length_append]; omega
  ·rcases r with h | h
   ·exact .inl h
   ·right; omega
structure RdW (T : TypeId) (F : HA) (a : Option Addr) (c : Nat) (cs : List Value) : Prop where
 rd : Rd F a cs
 cap : sJ T F a c
theorem RdW.row {T : TypeId} {a : Option Addr} {n c : Nat} {cs : List Value} (h : Rd (Row T 1 a n c cs) a cs) : RdW T (Row T 1 a n c cs) a c cs := ⟨h, .row⟩
theorem RdW.none {T : TypeId} {F : HA} : RdW T F none 0 [] := ⟨.inl rfl, fun _ _ => .inl rfl⟩
def UpC (G F : HA) : Prop := ∀ h, F h → ∃ g, G g ∧ ∀ b o, g b = some o → h b = some o
theorem UpC.refl (F : HA) : UpC F F := fun h x => ⟨h, x, fun _ _ e => e⟩
theorem UpC.trans {A B C : HA} (u : UpC A B) (v : UpC B C) : UpC A C := fun h x => by
 obtain ⟨g, q, e⟩ := v h x
 obtain ⟨f, r, D⟩ := u g q
 exact ⟨f, r, fun b o y => e b o (D b o y)⟩
theorem UpC.lend {F : HA} {l : List HA} (k : Nat) (q : l[k]? = some F) : UpC F (aN l) := fun h x => iL l k F q h x
theorem UpC.up {G F : HA} (u : UpC G F) : Up G F := fun a cs r => by
 rcases r with h | ⟨b, off, q, D⟩
 ·exact .inl h
 ·refine .inr ⟨b, off, q, fun h x => ?_⟩
  obtain ⟨g, I, e⟩ := u h x
  obtain ⟨l, T, fz, h1, J⟩ := D g I
  exact ⟨l, T, fz, e _ _ h1, J⟩
theorem RdW.up {T : TypeId} {G F : HA} {a : Option Addr} {c : Nat} {cs : List Value} (r : RdW T G a c cs) (u : UpC G F) : RdW T F a c cs :=
 ⟨u.up _ _ r.rd, fun h x => by
  obtain ⟨g, q, e⟩ := u h x
  rcases r.cap g q with h0 | ⟨b, off, D, l, fz, h1, I⟩
  ·exact .inl h0
  ·exact .inr ⟨b, off, D, l, fz, e _ _ h1, I⟩⟩
/-! ### What may be written -/
def jV (h : Hp) (b : Nat) (o : Obj) : Hp := fun i => if i = b then some o else h i
def Shp (z : HA) : HA := fun r => ∃ h, z h ∧ ∀ b (l : List Value) T fz, h b = some (.cells l.toArray T fz) → ∃ q : List Value, r b = some (.cells q.toArray T fz) ∧ q.length = l.length
theorem Shp.of {z : HA} (h : Hp) (x : z h) : Shp z h := ⟨h, x, fun _ l _ _ e => ⟨l, e, rfl⟩⟩
def Wrt (T : TypeId) (J : HA) (a : Option Addr) (c : Nat) : Prop := ∀ h, J h → c = 0 ∨ ∃ b off, a = some ⟨b, off, none⟩ ∧ ∃ (l : List Value) (fz : Nat × Nat), h b = some (.cells l.toArray T fz) ∧ off + c ≤ l.length ∧ (fz.1 = fz.2 ∨ off + c ≤ fz.1) ∧
 ∀ q : List Value, q.length = l.length → J (jV h b (.cells q.toArray T fz))
def UpW (J q : HA) : Prop := ∀ T a c, Wrt T J a c → Wrt T q a c
theorem UpW.refl (J : HA) : UpW J J := fun _ _ _ h => h
theorem UpW.trans {A B C : HA} (u : UpW A B) (v : UpW B C) : UpW A C := fun T a c h => v T a c (u T a c h)
theorem Wrt.up {T : TypeId} {J q : HA} {a : Option Addr} {c : Nat} (h : Wrt T J a c) (u : UpW J q) : Wrt T q a c := u T a c h
theorem UpW.star {A J : HA} : UpW J (aV A J) := by
 rintro T a c r h ⟨x, y, d, rfl, q, u⟩
 rcases r y u with h0 | ⟨b, off, D, l, fz, h1, G, I, L⟩
 ·exact .inl h0
 ·refine .inr ⟨b, off, D, l, fz, mv d h1, G, I, fun m U => ⟨x, jV y b (.cells m.toArray T fz), ?_, ?_, q, L m U⟩⟩
  ·intro i
   by_cases hi : i = b
   ·subst hi
    rcases d i with e | e
    ·exact .inl e
    ·rw [h1] at e; cases e
   ·simpa [jV, hi] using d i
  ·funext i
   by_cases hi : i = b
   ·subst hi
    rcases d i with e | e
    ·simp [jV, un, e]
    ·rw [h1] at e; cases e
   ·simp [jV, un, hi]
def Blk (T : TypeId) (b s : Nat) : HA := fun h => ∃ l : List Value, h b = some (.cells l.toArray T (0, 0)) ∧ l.length = s
theorem Wrt.blk {T : TypeId} {b s c : Nat} {J : HA} (u : c ≤ s) : Wrt T (aV (Blk T b s) J) (some ⟨b, 0, none⟩) c := by
 rintro h ⟨x, y, d, rfl, ⟨l, q, D⟩, r⟩
 refine .inr ⟨b, 0, rfl, l, (0, 0), ke q, by omega, .inl rfl, fun m G => ⟨jV x b (.cells m.toArray T (0, 0)), y, ?_, ?_, ⟨m, by simp [jV], by omega⟩, r⟩⟩
 ·intro i
  by_cases hi : i = b
  ·subst hi
   rcases d i with e | e
   ·rw [q] at e; cases e
   ·exact .inr e
  ·simpa [jV, hi] using d i
 ·funext i
  by_cases hi : i = b
  ·subst hi; simp [jV, un]
  ·simp [jV, un, hi]
section
variable {K : Cx} {R S Y : Type} {Q : de R} {E : Env} {H : List HA} {opt : Option R} {ops : Array Oper} {rest : List Oper} {o : Oper}
end
end Go.Proofs.YtndjkejhacfpdaaGreatDoor

namespace Go.Proofs.YtndjkejhacfpdaaGreatDoor
open Go.RowKit
theorem kL {n : Int} {b : UInt8} {cs : List Value} {q : List UInt8} (h : (b.toNat : Int) = n) (t : cs = aB q) : Value.int .u8 n :: cs = aB (b :: q) := by
 subst h; subst t; rfl
theorem uq : ([] : List Value) = aB [] := rfl
section
variable {K : Cx} {R S Y : Type} {Q : de R} {E : Env} {H : List HA} {opt : Option R} {ops : Array Oper} {rest : List Oper} {o : Oper}
theorem sl {x : Operand} {t : TypeId} {lo hi : Option Operand} {s : List UInt8} {r u : Option Value} {lo' hi' : Int} (G : o.op = .slice t x lo hi none) (I : ev E x = some (str s))
  (J : lim E lo = some r) (L : lim E hi = some u) (U : K.P.underlying t = some .string)
  (h1 : (u = none ∧ hi' = (s.length : Int)) ∨ ∃ k, u = some (.int k hi')) (X : (r = none ∧ lo' = 0) ∨ ∃ k, r = some (.int k lo')) (D : 0 ≤ lo' ∧ lo' ≤ hi' ∧ hi' ≤ (s.length : Int)) :
  RQ K o E H (str (cut s lo' hi')) := by
 obtain ⟨a, rfl⟩ := Int.eq_ofNat_of_zero_le D.1
 obtain ⟨b, rfl⟩ := Int.eq_ofNat_of_zero_le (Int.le_trans D.1 D.2.1)
 have q := sZ (K := K) (E := E) (H := H) (o := o) (s := s) (l := a) (h := b) G I J L U (by rcases h1 with ⟨x, y⟩ | y; exact .inl ⟨x, by omega⟩; exact .inr y) (by rcases X with ⟨x, y⟩ | y; exact .inl ⟨x, by omega⟩; exact .inr y) (by omega) (by omega)
 simpa [cut] using q
end
/-! ### Functions of the library -/
theorem vg {P : Program} {W : World} {F : HA} {f : FuncId} {args : List Value} {R Y : Type} {p : Prop} [Decidable p] {r : R} {val : R → Y → Value} {A : List HA} {B : R → Y → List HA} (h : p → Fn P W f args A F (some r) val B) :
  Fn P W f args A F (if p then some r else none) val B := fun u q w D => by
 split at q
 ·rename_i hp; exact h hp u q w D
 ·cases q
/-! ### What the library's variables hold -/
def jf (F : HA) (w : World) : Prop := ∃ a, F a ∧ ∀ j o, a j = some o → w.heap[j]? = some o
structure Glb (P : Program) (F : HA) : Prop where
 pow : ∀ w, jf F w → Lib.TabIs P w "internal/strconv.uint64pow10" .u64 Lib.pow10Tab
 syn : (P.globalNamed "strconv.ErrSyntax").isSome = true → ∀ w, jf F w → ∃ t p, w.var? P "strconv.ErrSyntax" = some #[.iface t p]
 rng : (P.globalNamed "strconv.ErrRange").isSome = true → ∀ w, jf F w → ∃ t p, w.var? P "strconv.ErrRange" = some #[.iface t p]
theorem jf.lend {F : HA} {l : List HA} {w : World} (k : Nat) (q : l[k]? = some F) (h : jf (aN l) w) : jf F w := by
 obtain ⟨a, r, e⟩ := h
 obtain ⟨b, u, D⟩ := iL l k F q a r
 exact ⟨b, u, fun j o x => e j o (D j o x)⟩
theorem Glb.lend {P : Program} {F : HA} {l : List HA} (h : Glb P F) (k : Nat) (q : l[k]? = some F) : Glb P (aN l) :=
 ⟨fun w x => h.pow w (x.lend k q), fun e w x => h.syn e w (x.lend k q), fun e w x => h.rng e w (x.lend k q)⟩
theorem Sat.holds {W w : World} {l : List HA} {F : HA} (s : Sat W (l ++ [F]) w) : jf F w := s.at (i := l.length) (by simp)
theorem rp (w : World) (k : Nat) (os : Array Obj) : Below w.heap.size w (Sort.grow (w.drewN k) os) := by
 refine ⟨rfl, rfl, rfl, by simp [Sort.grow, World.drewN], fun j q => ?_⟩
 show (w.heap ++ os)[j]? = _
 rw [Array.getElem?_append_left q]
theorem ur {P : Program} {W : World} {F : HA} {f : FuncId} {args : List Value} {n : Int} (D : Glb P F)
  (G : ∀ w, Lib.TabIs P w "internal/strconv.uint64pow10" .u64 Lib.pow10Tab → Calls P f args.toArray w fun e q => e = .returned (.string ⟨(Lib.itoa n).toArray⟩) ∧ ∃ k os, q = Sort.grow (w.drewN k) os) :
  Fn P W f args [] F (some (Lib.itoa n)) (fun (r : List UInt8) (_ : Unit) => str r) (fun _ _ => []) := fun L I w u => by
 cases I
 exact (G w (D.pow w u.holds)).mono fun e q ⟨h1, k, os, J⟩ => ⟨(), h1, by subst J; exact u.below (rp w k os)⟩
def tg (ok : Bool) (T : TypeId) (y : Nat) : Value := match ok with
 | true => .nilIface
 | false => .iface T (.pointer (some ⟨y, 0, none⟩))
section
variable {K : Cx} {E : Env} {H : List HA} {o : Oper}
theorem um {q G T : TypeId} {x : Operand} {ok : Bool} {y : Nat} {I : _} (r : o.op = .binOp .eql q x (.const .nilIface) G) (J : ev E x = some (tg ok T y)) (u : K.P.underlying q = some (.interface I)) : RQ K o E H (.bool ok) :=
 cA (by rw [r]; intro c h; cases h) fun a w D _ => by
  unfold execOp; simp only [r]; rw [D.ev J, D.ev (x := .const .nilIface) rfl]
  cases ok with
  | true =>
   have e : (Op.equal q .nilIface .nilIface).run K.P w = .ok true w := by
    rw [show Op.equal q .nilIface .nilIface = Op.equalIn (9999 + 1) q .nilIface .nilIface from rfl, Op.equalIn]
    simp [underlying, program, Sem.run, u]
   simp [tg, eqGuard, binOp, e]
  | false =>
   have e : (Op.equal q (.iface T (.pointer (some ⟨y, 0, none⟩))) .nilIface).run K.P w = .ok false w := by
    rw [show Op.equal q (.iface T (.pointer (some ⟨y, 0, none⟩))) .nilIface = Op.equalIn (9999 + 1) q (.iface T (.pointer (some ⟨y, 0, none⟩))) .nilIface from rfl, Op.equalIn]
    simp [underlying, program, Sem.run, u]
   simp [tg, eqGuard, binOp, e]
end
end Go.Proofs.YtndjkejhacfpdaaGreatDoor

namespace Go.Proofs.YtndjkejhacfpdaaGreatDoor
open Go.RowKit
theorem Ent.perm {l m : List HA} (p : l.Perm m) : Ent l m := by
 induction p with
 | nil => exact Ent.refl _
 | cons a _ ih => exact Ent.cons ih
 | swap a b l => exact Ent.sel 1 rfl (Ent.refl _)
 | trans _ _ ih1 ih2 => exact ih1.trans ih2
def jo (γ : Nat → Nat) (i z : Nat) : Nat → Nat := fun j => if Nat.beq j i then z else γ j
section
variable {K : Cx} {R S Y : Type} {Q : de R} {E : Env} {H : List HA} {o : Option R}
def vj (K : Cx) (ops : Array Oper) (r : List (List Nat)) (val : (Nat → Nat) → Nat → Value) (add : (Nat → Nat) → Nat → List HA) (E : Env) (H X : List HA) (i : Nat) (pre : List Nat) (γ : Nat → Nat) : Prop :=
 ∃ u, ops[i]? = some u ∧ ∃ D, dA ops r (val γ) E i D ∧ GOk ops u D ∧
  (∀ z, fU pre (val (jo γ i z)) (val γ) ∧ All pre fun q => add (jo γ i z) q = add γ q) ∧
  RE K (Y := Nat) u D (H ++ X) (fun z => val (jo γ i z) i) (fun z => H ++ (add (jo γ i z) i ++ X))
theorem vj.mk {ops : Array Oper} {r : List (List Nat)} {Z : Type} {val : (Nat → Nat) → Nat → Value} {add : (Nat → Nat) → Nat → List HA} {X : List HA} {i : Nat} {pre : List Nat} {γ : Nat → Nat} {u : Oper} {v : Z → Value} {H' : Z → List HA} (D : Env) (f : Z → Nat) (G : ops[i]? = some u) (I : u.guard = none) (J : dA ops r (val γ) E i D)
  (L : ∀ z, fU pre (val (jo γ i z)) (val γ)) (U : ∀ z, All pre fun q => add (jo γ i z) q = add γ q)
  (h : RE K (Y := Z) u D (H ++ X) v H') (hv : ∀ z, u.dst = none ∨ v z = val (jo γ i (f z)) i) (hH : ∀ z, Ent (H' z) (H ++ (add (jo γ i (f z)) i ++ X))) : vj K ops r val add E H X i pre γ :=
 ⟨u, G, D, J, .inl I, fun z => ⟨L z, U z⟩, fun a w hh hs next Q hn => h a w hh hs next Q fun z w' s => by
  have := hn (f z) w' (s.ent (hH z))
  rcases hv z with e | e
  ·rw [e] at this ⊢; exact this
  ·rw [e]; exact this⟩
end
/-! ### Functions in cells -/
section
variable {K : Cx} {E : Env} {H : List HA} {o : Oper}
end
end Go.Proofs.YtndjkejhacfpdaaGreatDoor

namespace Go.Proofs.YtndjkejhacfpdaaGreatDoor
open Go.RowKit Go.Maps Go.Sort Go.Shelf
def jK : Go.Shelf.Ren := ⟨fun | 6 => 69 | 8 => 96 | 9 => 97 | 11 => 116 | 13 => 118 | 12 => 117 | 23 => 137 | 24 => 138 | 14 => 128 | 15 => 129 | 16 => 130 | 17 => 131 | 18 => 132 | 19 => 133 | 20 => 134 | 21 => 135 | 22 => 136 | 25 => 144 | 26 => 145 | 27 => 146 | 28 => 147 | 29 => 148 | 30 => 149 | 31 => 152 | n => n, fun | 26 => 9 | 28 => 119 | 24 => 60 | 0 => 0 | 3 => 3 | 37 => 169 | 48 => 149 | 50 => 174 | 4 => 4 | 40 => 190 | 39 => 189 | 45 => 26 | 5 => 5 | 9 => 9 | 51 => 202 | 55 => 206 | 57 => 208 | 58 => 70 | 33 => 106 | n => n, fun | n => n⟩
theorem pX : Go.Proofs.SlLaysZ.n6 Tryz.prog jK := {
 mixed := by kernel_rfl
 f6 := ⟨Tryz.f69.name, by decide, Tryz.func69.trans (congrArg some (by kernel_rfl))⟩
 f8 := ⟨Tryz.f96.name, by decide, Tryz.func96.trans (congrArg some (by kernel_rfl))⟩
 f11 := ⟨Tryz.f116.name, by decide, Tryz.func116.trans (congrArg some (by kernel_rfl))⟩
 t0 := Tryz.underlying0
 a0 := Tryz.isAgg0
 z0 := Tryz.sizeOf0
 v0 := Tryz.zeroValue0
 t24 := Tryz.underlying60
 a24 := Tryz.isAgg60
 z24 := Tryz.sizeOf60
 v24 := Tryz.zeroValue60
 t26 := Tryz.underlying9
 a26 := Tryz.isAgg9
 z26 := Tryz.sizeOf9
 v26 := Tryz.zeroValue9
 t28 := Tryz.underlying119
 a28 := Tryz.isAgg119
 z28 := Tryz.sizeOf119
 v28 := Tryz.zeroValue119
 i26 := by kernel_rfl }
def kW : Go.Shelf.Ren := ⟨fun | 10 => 98 | n => n, fun | 33 => 106 | 23 => 95 | 0 => 0 | 4 => 4 | 26 => 9 | 3 => 107 | n => n, fun | n => n⟩
theorem sN : Go.Proofs.SlLaysZ.n10 Tryz.prog kW := {
 mixed := by kernel_rfl
 f10 := ⟨Tryz.f98.name, by decide, Tryz.func98.trans (congrArg some (by kernel_rfl))⟩
 t0 := Tryz.underlying0
 a0 := Tryz.isAgg0
 z0 := Tryz.sizeOf0
 v0 := Tryz.zeroValue0
 t4 := Tryz.underlying4
 a4 := Tryz.isAgg4
 z4 := Tryz.sizeOf4
 v4 := Tryz.zeroValue4
 t23 := Tryz.underlying95
 a23 := Tryz.isAgg95
 z23 := Tryz.sizeOf95
 v23 := Tryz.zeroValue95
 t26 := Tryz.underlying9
 a26 := Tryz.isAgg9
 z26 := Tryz.sizeOf9
 v26 := Tryz.zeroValue9
 t33 := Tryz.underlying106
 a33 := Tryz.isAgg106
 z33 := Tryz.sizeOf106
 v33 := Tryz.zeroValue106 }
def oC : Go.Shelf.Ren := ⟨fun | 6 => 97 | 8 => 118 | 9 => 117 | 19 => 137 | 20 => 138 | 21 => 128 | 22 => 129 | 23 => 130 | 24 => 131 | 25 => 132 | 26 => 133 | 27 => 134 | 28 => 135 | 29 => 136 | 36 => 144 | 31 => 145 | 32 => 146 | 37 => 147 | 38 => 148 | 39 => 149 | 41 => 152 | n => n, fun | 27 => 60 | 29 => 9 | 3 => 3 | 32 => 169 | 26 => 60 | 0 => 0 | 44 => 149 | 46 => 174 | 4 => 4 | 36 => 190 | 35 => 189 | 41 => 26 | 5 => 5 | 9 => 9 | 53 => 202 | 57 => 206 | 63 => 208 | 64 => 70 | n => n, fun | n => n⟩
theorem oD : Go.Proofs.SlLaysM.n6 Tryz.prog oC := {
 mixed := by kernel_rfl
 f6 := ⟨Tryz.f97.name, by decide, Tryz.func97.trans (congrArg some (by kernel_rfl))⟩
 f8 := Tryz.func118.trans (congrArg some (by kernel_rfl))
 f9 := ⟨Tryz.f117.name, by decide, Tryz.func117.trans (congrArg some (by kernel_rfl))⟩
 f19 := Tryz.func137.trans (congrArg some (by kernel_rfl))
 f20 := Tryz.func138.trans (congrArg some (by kernel_rfl))
 f21 := ⟨Tryz.f128.name, by decide, Tryz.func128.trans (congrArg some (by kernel_rfl))⟩
 f22 := ⟨Tryz.f129.name, by decide, Tryz.func129.trans (congrArg some (by kernel_rfl))⟩
 f23 := ⟨Tryz.f130.name, by decide, Tryz.func130.trans (congrArg some (by kernel_rfl))⟩
 f24 := ⟨Tryz.f131.name, by decide, Tryz.func131.trans (congrArg some (by kernel_rfl))⟩
 f25 := ⟨Tryz.f132.name, by decide, Tryz.func132.trans (congrArg some (by kernel_rfl))⟩
 f26 := ⟨Tryz.f133.name, by decide, Tryz.func133.trans (congrArg some (by kernel_rfl))⟩
 f27 := ⟨Tryz.f134.name, by decide, Tryz.func134.trans (congrArg some (by kernel_rfl))⟩
 f28 := ⟨Tryz.f135.name, by decide, Tryz.func135.trans (congrArg some (by kernel_rfl))⟩
 f29 := ⟨Tryz.f136.name, by decide, Tryz.func136.trans (congrArg some (by kernel_rfl))⟩
 f31 := Tryz.func145.trans (congrArg some (by kernel_rfl))
 f32 := Tryz.func146.trans (congrArg some (by kernel_rfl))
 f36 := ⟨Tryz.f144.name, by decide, Tryz.func144.trans (congrArg some (by kernel_rfl))⟩
 f37 := ⟨Tryz.f147.name, by decide, Tryz.func147.trans (congrArg some (by kernel_rfl))⟩
 f38 := ⟨Tryz.f148.name, by decide, Tryz.func148.trans (congrArg some (by kernel_rfl))⟩
 f39 := ⟨Tryz.f149.name, by decide, Tryz.func149.trans (congrArg some (by kernel_rfl))⟩
 f41 := ⟨Tryz.f152.name, by decide, Tryz.func152.trans (congrArg some (by kernel_rfl))⟩
 t0 := Tryz.underlying0
 a0 := Tryz.isAgg0
 z0 := Tryz.sizeOf0
 v0 := Tryz.zeroValue0
 t3 := Tryz.underlying3
 a3 := Tryz.isAgg3
 z3 := Tryz.sizeOf3
 v3 := Tryz.zeroValue3
 t4 := Tryz.underlying4
 a4 := Tryz.isAgg4
 z4 := Tryz.sizeOf4
 v4 := Tryz.zeroValue4
 t5 := Tryz.underlying5
 a5 := Tryz.isAgg5
 z5 := Tryz.sizeOf5
 v5 := Tryz.zeroValue5
 t9 := Tryz.underlying9
 a9 := Tryz.isAgg9
 z9 := Tryz.sizeOf9
 v9 := Tryz.zeroValue9
 t26 := Tryz.underlying60
 a26 := Tryz.isAgg60
 z26 := Tryz.sizeOf60
 v26 := Tryz.zeroValue60
 t27 := Tryz.underlying60
 a27 := Tryz.isAgg60
 z27 := Tryz.sizeOf60
 v27 := Tryz.zeroValue60
 t29 := Tryz.underlying9
 a29 := Tryz.isAgg9
 z29 := Tryz.sizeOf9
 v29 := Tryz.zeroValue9
 t32 := Tryz.underlying169
 a32 := Tryz.isAgg169
 z32 := Tryz.sizeOf169
 v32 := Tryz.zeroValue169
 t35 := Tryz.underlying189
 a35 := Tryz.isAgg189
 z35 := Tryz.sizeOf189
 v35 := Tryz.zeroValue189
 t36 := Tryz.underlying190
 a36 := Tryz.isAgg190
 z36 := Tryz.sizeOf190
 v36 := Tryz.zeroValue190
 t41 := Tryz.underlying26
 a41 := Tryz.isAgg26
 z41 := Tryz.sizeOf26
 v41 := Tryz.zeroValue26
 t44 := Tryz.underlying149
 a44 := Tryz.isAgg149
 z44 := Tryz.sizeOf149
 v44 := Tryz.zeroValue149
 t46 := Tryz.underlying174
 a46 := Tryz.isAgg174
 z46 := Tryz.sizeOf174
 v46 := Tryz.zeroValue174
 t53 := Tryz.underlying202
 a53 := Tryz.isAgg202
 z53 := Tryz.sizeOf202
 v53 := Tryz.zeroValue202
 t57 := Tryz.underlying206
 a57 := Tryz.isAgg206
 z57 := Tryz.sizeOf206
 v57 := Tryz.zeroValue206
 t63 := Tryz.underlying208
 a63 := Tryz.isAgg208
 z63 := Tryz.sizeOf208
 v63 := Tryz.zeroValue208
 t64 := Tryz.underlying70
 a64 := Tryz.isAgg70
 z64 := Tryz.sizeOf70
 v64 := Tryz.zeroValue70 }
def qQ : Go.Shelf.Ren := ⟨fun | 171 => 39 | 243 => 72 | 246 => 99 | 283 => 119 | 284 => 120 | 285 => 121 | 286 => 122 | 129 => 138 | 317 => 139 | 318 => 140 | 319 => 141 | 320 => 142 | 337 => 150 | 338 => 151 | n => n, fun | 3 => 3 | 9 => 9 | 2 => 2 | 4 => 4 | 171 => 173 | 0 => 0 | 53 => 174 | 37 => 33 | 5 => 5 | 173 => 177 | 212 => 198 | 51 => 149 | 20 => 20 | 213 => 199 | 46 => 169 | 232 => 210 | 233 => 211 | n => n, fun | 17 => 0 | 18 => 1 | 19 => 2 | n => n⟩
theorem uG : Go.Proofs.LaysM.n171 Tryz.prog qQ := {
 mixed := by kernel_rfl
 f129 := Tryz.func138.trans (congrArg some (by kernel_rfl))
 f171 := Tryz.func39.trans (congrArg some (by kernel_rfl))
 f243 := Tryz.func72.trans (congrArg some (by kernel_rfl))
 f246 := Tryz.func99.trans (congrArg some (by kernel_rfl))
 f283 := Tryz.func119.trans (congrArg some (by kernel_rfl))
 f284 := Tryz.func120.trans (congrArg some (by kernel_rfl))
 f285 := Tryz.func121.trans (congrArg some (by kernel_rfl))
 f286 := Tryz.func122.trans (congrArg some (by kernel_rfl))
 f317 := Tryz.func139.trans (congrArg some (by kernel_rfl))
 f318 := Tryz.func140.trans (congrArg some (by kernel_rfl))
 f319 := Tryz.func141.trans (congrArg some (by kernel_rfl))
 f320 := Tryz.func142.trans (congrArg some (by kernel_rfl))
 f337 := Tryz.func150.trans (congrArg some (by kernel_rfl))
 f338 := Tryz.func151.trans (congrArg some (by kernel_rfl))
 t0 := Tryz.underlying0
 a0 := Tryz.isAgg0
 z0 := Tryz.sizeOf0
 v0 := Tryz.zeroValue0
 t2 := Tryz.underlying2
 a2 := Tryz.isAgg2
 z2 := Tryz.sizeOf2
 v2 := Tryz.zeroValue2
 t3 := Tryz.underlying3
 a3 := Tryz.isAgg3
 z3 := Tryz.sizeOf3
 v3 := Tryz.zeroValue3
 t4 := Tryz.underlying4
 a4 := Tryz.isAgg4
 z4 := Tryz.sizeOf4
 v4 := Tryz.zeroValue4
 t5 := Tryz.underlying5
 a5 := Tryz.isAgg5
 z5 := Tryz.sizeOf5
 v5 := Tryz.zeroValue5
 t9 := Tryz.underlying9
 a9 := Tryz.isAgg9
 z9 := Tryz.sizeOf9
 v9 := Tryz.zeroValue9
 t20 := Tryz.underlying20
 a20 := Tryz.isAgg20
 z20 := Tryz.sizeOf20
 v20 := Tryz.zeroValue20
 t37 := Tryz.underlying33
 a37 := Tryz.isAgg33
 z37 := Tryz.sizeOf33
 v37 := Tryz.zeroValue33
 t46 := Tryz.underlying169
 a46 := Tryz.isAgg169
 z46 := Tryz.sizeOf169
 v46 := Tryz.zeroValue169
 t51 := Tryz.underlying149
 a51 := Tryz.isAgg149
 z51 := Tryz.sizeOf149
 v51 := Tryz.zeroValue149
 t53 := Tryz.underlying174
 a53 := Tryz.isAgg174
 z53 := Tryz.sizeOf174
 v53 := Tryz.zeroValue174
 t171 := Tryz.underlying173
 a171 := Tryz.isAgg173
 z171 := Tryz.sizeOf173
 v171 := Tryz.zeroValue173
 t173 := Tryz.underlying177
 a173 := Tryz.isAgg177
 z173 := Tryz.sizeOf177
 v173 := Tryz.zeroValue177
 t212 := Tryz.underlying198
 a212 := Tryz.isAgg198
 z212 := Tryz.sizeOf198
 v212 := Tryz.zeroValue198
 t213 := Tryz.underlying199
 a213 := Tryz.isAgg199
 z213 := Tryz.sizeOf199
 t232 := Tryz.underlying210
 a232 := Tryz.isAgg210
 z232 := Tryz.sizeOf210
 v232 := Tryz.zeroValue210
 t233 := Tryz.underlying211
 a233 := Tryz.isAgg211
 z233 := Tryz.sizeOf211
 v233 := Tryz.zeroValue211
 g17 := by kernel_rfl
 g18 := by kernel_rfl
 g19 := by kernel_rfl
 i0 := by kernel_rfl
 i2 := by kernel_rfl
 i3 := by kernel_rfl
 i4 := by kernel_rfl
 i5 := by kernel_rfl
 i9 := by kernel_rfl
 i20 := by kernel_rfl
 i37 := by kernel_rfl
 i46 := by kernel_rfl
 i51 := by kernel_rfl
 i53 := by kernel_rfl
 i171 := by kernel_rfl
 i173 := by kernel_rfl
 i212 := by kernel_rfl
 i232 := by kernel_rfl
 i233 := by kernel_rfl
 m17 := by kernel_rfl
 m18 := by kernel_rfl
 m19 := by kernel_rfl }
theorem oE (m : Nat) : AnyZ.SortsIn Tryz.prog jK Fence.wide m :=
 ⟨fun blk off cap u W D q r => callsIn_wide.2 (AnyM.slices_Sort_string oD blk off cap u W D q r),
  fun p cap W => callsIn_wide.2 (AnyM.slices_Sort_string_none oD p cap W)⟩
set_option maxHeartbeats 1000000 in
theorem mB (w : World) (r : DataW Unit) (U b c : Nat) (G : w.ownsMap Tryz.prog 9 R0 b U r) (u : w.cell? ⟨c, 0, none⟩ = some (.map (some b))) (L : c < w.heap.size) (I : Maps.size r ≤ maxLen) (q : Maps.size r * 16 ≤ 140737488355328) :
  CallsIn Fence.wide 5 Tryz.prog 69 #[.func (.func 98) #[] #[.pointer (some ⟨c, 0, none⟩)]] w fun e X => ∃ (v : Value) (D : List (List UInt8)), e = .returned v ∧ D.Perm (strKeys r) ∧
   X.ownsRow w.heap.size 9 1 v D.length ((D.mergeSort (fun x y => decide (x ≤ y))).map encStr) ∧ (v = .slice none 0 0 ↔ D = []) ∧ Below w.heap.size w X := by
 have J : SeqGives Fence.wide 2 Tryz.prog 98 #[.pointer (some ⟨c, 0, none⟩)] encStr (fun D => D.Perm (strKeys r)) (Maps.size r) w :=
  AnyZ.keys_gives (ρ := kW) { sN with } Fence.wide _ trivial rfl (by omega) c b U r _ L u G
 exact AnyZ.sorted_in pX Fence.wide 5 trivial trivial trivial trivial O (by omega) (oE _) (enters_of Tryz.func97 (by kernel_rfl) O) 98 #[.pointer (some ⟨c, 0, none⟩)] trivial (enters_of Tryz.func98 (by kernel_rfl) O) _ _ I q _ J
abbrev W0 (b : Nat) (p0 : Nat) (x1 : Lb) (x2 : Int) (x3 : Bool) : HA := obj b 97 [.map (some p0), str x1, Iv x2, .bool x3]
abbrev W1 {t2 t9 : Type} (b : Nat) (p0 : Nat) (x1 : Int) (x2 : List t2) (x3 : Int) (x4 : Int) (x5 : Int) (x6 : Int) (x7 : Int) (x8 : Int) (x9 : List t9) (x10 : Bool) (a2 : Option Addr) (c2 : Nat) (a9 : Option Addr) (c9 : Nat) : HA := obj b 91 [Pt p0, Iv x1, .slice a2 x2.length c2, Iv x3, Iv x4, Iv x5, Iv x6, Iv x7, Iv x8, .slice a9 x9.length c9, .bool x10]
abbrev W2 {t2 t9 : Type} (b : Nat) (p0 : Nat) (x : Int × List t2 × Int × Int × Int × Int × Int × Int × List t9 × Bool) (a2 : Option Addr) (c2 : Nat) (a9 : Option Addr) (c9 : Nat) : HA := obj b 91 [Pt p0, Iv x.1, .slice a2 x.2.1.length c2, Iv x.2.2.1, Iv x.2.2.2.1, Iv x.2.2.2.2.1, Iv x.2.2.2.2.2.1, Iv x.2.2.2.2.2.2.1, Iv x.2.2.2.2.2.2.2.1, .slice a9 x.2.2.2.2.2.2.2.2.1.length c9, .bool x.2.2.2.2.2.2.2.2.2]
abbrev W3 {t10 : Type} (b : Nat) (x0 : Int) (x1 : Int) (x2 : Int) (x3 : Int) (x4 : Int) (x5 : Int) (x6 : Int) (x7 : Int) (x8 : Int) (x9 : Int) (x10 : List t10) (a10 : Option Addr) (c10 : Nat) : HA := obj b 102 [Iv x0, Iv x1, Iv x2, Iv x3, Iv x4, Iv x5, Iv x6, Iv x7, Iv x8, Iv x9, .slice a10 x10.length c10]
abbrev W4 {r : Type} (b : Nat) (p0 : Nat) (x : Lb × Int × Bool × r) : HA := obj b 97 [.map (some p0), str x.1, Iv x.2.1, .bool x.2.2.1]
abbrev W5 (b : Nat) (p0 : Nat) (x : Lb × Int × Bool) : HA := obj b 97 [.map (some p0), str x.1, Iv x.2.1, .bool x.2.2]
abbrev W6 {t10 r : Type} (b : Nat) (x : Int × Int × Int × Int × Int × Int × Int × Int × Int × Int × List t10 × r) (a10 : Option Addr) (c10 : Nat) : HA := obj b 102 [Iv x.1, Iv x.2.1, Iv x.2.2.1, Iv x.2.2.2.1, Iv x.2.2.2.2.1, Iv x.2.2.2.2.2.1, Iv x.2.2.2.2.2.2.1, Iv x.2.2.2.2.2.2.2.1, Iv x.2.2.2.2.2.2.2.2.1, Iv x.2.2.2.2.2.2.2.2.2.1, .slice a10 x.2.2.2.2.2.2.2.2.2.2.1.length c10]
abbrev W7 {t2 t9 r : Type} (b : Nat) (p0 : Nat) (x : Int × List t2 × Int × Int × Int × Int × Int × Int × List t9 × Bool × r) (a2 : Option Addr) (c2 : Nat) (a9 : Option Addr) (c9 : Nat) : HA := obj b 91 [Pt p0, Iv x.1, .slice a2 x.2.1.length c2, Iv x.2.2.1, Iv x.2.2.2.1, Iv x.2.2.2.2.1, Iv x.2.2.2.2.2.1, Iv x.2.2.2.2.2.2.1, Iv x.2.2.2.2.2.2.2.1, .slice a9 x.2.2.2.2.2.2.2.2.1.length c9, .bool x.2.2.2.2.2.2.2.2.2.1]
abbrev W8 {t5 : Type} (b : Nat) (x : Int × Int × Int × Int × Int × List t5) (a5 : Option Addr) (c5 : Nat) : HA := obj b 47 [Iv x.1, Iv x.2.1, Iv x.2.2.1, Iv x.2.2.2.1, Iv x.2.2.2.2.1, .slice a5 x.2.2.2.2.2.length c5]
abbrev W9 {t6 : Type} (b : Nat) (x0 : Bool) (x1 : Int) (x2 : Int) (x3 : Int) (x4 : Int) (x5 : Int) (x6 : List t6) (a6 : Option Addr) (c6 : Nat) : HA := obj b 45 [.bool x0, Iv x1, Iv x2, Iv x3, Iv x4, Iv x5, .slice a6 x6.length c6]
abbrev W10 {t10 : Type} (b : Nat) (x : Int × Int × Int × Int × Int × Int × Int × Int × Int × Int × List t10) (a10 : Option Addr) (c10 : Nat) : HA := obj b 102 [Iv x.1, Iv x.2.1, Iv x.2.2.1, Iv x.2.2.2.1, Iv x.2.2.2.2.1, Iv x.2.2.2.2.2.1, Iv x.2.2.2.2.2.2.1, Iv x.2.2.2.2.2.2.2.1, Iv x.2.2.2.2.2.2.2.2.1, Iv x.2.2.2.2.2.2.2.2.2.1, .slice a10 x.2.2.2.2.2.2.2.2.2.2.length c10]
abbrev W11 {t5 : Type} (b : Nat) (x0 : Int) (x1 : Int) (x2 : Int) (x3 : Int) (x4 : Int) (x5 : List t5) (a5 : Option Addr) (c5 : Nat) : HA := obj b 89 [Iv x0, Iv x1, Iv x2, Iv x3, Iv x4, .slice a5 x5.length c5]
abbrev W12 {t5 : Type} (b : Nat) (x0 : Int) (x1 : Int) (x2 : Int) (x3 : Int) (x4 : Int) (x5 : List t5) (a5 : Option Addr) (c5 : Nat) : HA := obj b 47 [Iv x0, Iv x1, Iv x2, Iv x3, Iv x4, .slice a5 x5.length c5]
abbrev W13 {t3 r : Type} (b : Nat) (x : Int × Int × Int × List t3 × r) (a3 : Option Addr) (c3 : Nat) : HA := obj b 35 [Iv x.1, Iv x.2.1, Iv x.2.2.1, .slice a3 x.2.2.2.1.length c3]
abbrev W14 {t3 : Type} (b : Nat) (x : Int × Int × Int × List t3 × Int) (a3 : Option Addr) (c3 : Nat) : HA := obj b 144 [Iv x.1, Iv x.2.1, Iv x.2.2.1, .slice a3 x.2.2.2.1.length c3, Iv x.2.2.2.2]
abbrev W15 {t3 : Type} (b : Nat) (x0 : Int) (x1 : Int) (x2 : Int) (x3 : List t3) (a3 : Option Addr) (c3 : Nat) : HA := obj b 35 [Iv x0, Iv x1, Iv x2, .slice a3 x3.length c3]
abbrev W16 {t5 : Type} (b : Nat) (x : Int × Int × Int × Int × Int × List t5) (a5 : Option Addr) (c5 : Nat) : HA := obj b 89 [Iv x.1, Iv x.2.1, Iv x.2.2.1, Iv x.2.2.2.1, Iv x.2.2.2.2.1, .slice a5 x.2.2.2.2.2.length c5]
abbrev W17 {t3 : Type} (b : Nat) (x : Int × Int × Int × List t3) (a3 : Option Addr) (c3 : Nat) : HA := obj b 35 [Iv x.1, Iv x.2.1, Iv x.2.2.1, .slice a3 x.2.2.2.length c3]
abbrev W18 (b : Nat) (x0 : Int) (x1 : Int) (x2 : Int) : HA := obj b 43 [Iv x0, Iv x1, Iv x2]
abbrev W19 {t0 : Type} (b : Nat) (x : List t0 × Int × Int) (a0 : Option Addr) (c0 : Nat) : HA := obj b 180 [.slice a0 x.1.length c0, Iv x.2.1, Iv x.2.2]
abbrev W20 {t0 : Type} (b : Nat) (x0 : List t0) (x1 : Int) (x2 : Int) (a0 : Option Addr) (c0 : Nat) : HA := obj b 180 [.slice a0 x0.length c0, Iv x1, Iv x2]
end Go.Proofs.YtndjkejhacfpdaaGreatDoor

namespace Go.Proofs.YtndjkejhacfpdaaGreatDoor
open Go.RowKit
section
variable {K : Cx} {E : Env} {H : List HA} {o : Oper} {α : Type} {V : α → List Value → Prop} {a : Option Addr} {xs : List α} {T : TypeId} {c : Nat}
end
/-! ### Effects that only add, told by lists: what each value and each part hangs on is said beside it -/
theorem All.of {l : List Nat} {p : Nat → Prop} (h : ∀ i, i ∈ l → p i) : All l p := by
 induction l with
 | nil => trivial
 | cons a l ih => exact ⟨h a (List.mem_cons_self ..), ih fun i hi => h i (List.mem_cons_of_mem _ hi)⟩
theorem fU.of {l : List Nat} {f g : Nat → Value} (h : ∀ i, i ∈ l → f i = g i) : fU l f g := by
 induction l with
 | nil => trivial
 | cons a l ih => exact ⟨h a (List.mem_cons_self ..), ih fun i hi => h i (List.mem_cons_of_mem _ hi)⟩
def uU (q : List ((Nat → Nat) → Value)) (γ : Nat → Nat) (i : Nat) : Value := q.getD i (fun _ => undef) γ
def uV (q : List ((Nat → Nat) → List HA)) (γ : Nat → Nat) (i : Nat) : List HA := q.getD i (fun _ => []) γ
def rf : List ((Nat → Nat) → Value) → List ((Nat → Nat) → List HA) → List (List Nat) → Prop
 | v :: vs, a :: zs, d :: ds => (∀ γ γ' : Nat → Nat, (∀ j, j ∈ d → γ j = γ' j) → v γ = v γ' ∧ a γ = a γ') ∧ rf vs zs ds
 | [], [], [] => True
 | _, _, _ => False
theorem rf.at : ∀ {q : List ((Nat → Nat) → Value)} {r : List ((Nat → Nat) → List HA)} {u : List (List Nat)}, rf q r u → ∀ (i : Nat) (γ γ' : Nat → Nat), (∀ j, j ∈ u.getD i [] → γ j = γ' j) → uU q γ i = uU q γ' i ∧ uV r γ i = uV r γ' i
 | v :: vs, a :: zs, d :: ds, h, 0, γ, γ', e => h.1 γ γ' e
 | v :: vs, a :: zs, d :: ds, h, i + 1, γ, γ', e => h.2.at i γ γ' e
 | [], [], [], _, i, γ, γ', e => ⟨rfl, rfl⟩
section
variable {K : Cx} {R S Y : Type} {Q : de R} {E : Env} {H : List HA} {o : Option R}
def uW (K : Cx) (ops : Array Oper) (q : List (List Nat)) (val : (Nat → Nat) → Nat → Value) (add : (Nat → Nat) → Nat → List HA) (E : Env) (H X : List HA) (i : Nat) (γ : Nat → Nat) : Prop :=
 ∃ r, ops[i]? = some r ∧ ∃ u, dA ops q (val γ) E i u ∧ GOk ops r u ∧
  RE K (Y := Nat) r u (H ++ X) (fun z => val (jo γ i z) i) (fun z => H ++ (add (jo γ i z) i ++ X))
theorem uW.mk {ops : Array Oper} {q : List (List Nat)} {Z : Type} {val : (Nat → Nat) → Nat → Value} {add : (Nat → Nat) → Nat → List HA} {X : List HA} {i : Nat} {γ : Nat → Nat} {r : Oper} {v : Z → Value} {H' : Z → List HA} (u : Env) (f : Z → Nat) (D : ops[i]? = some r) (G : r.guard = none) (I : dA ops q (val γ) E i u)
  (h : RE K (Y := Z) r u (H ++ X) v H') (J : ∀ z, v z = val (jo γ i (f z)) i) (L : ∀ z, Ent (H' z) (H ++ (add (jo γ i (f z)) i ++ X))) : uW K ops q val add E H X i γ :=
 ⟨r, D, u, I, .inl G, fun a w U hs next Q hn => h a w U hs next Q fun z w' s => by
  have := hn (f z) w' (s.ent (L z))
  rw [J z]; exact this⟩
theorem Ent.left {a b : List HA} : Ent (a ++ b) a := by
 induction a with
 | nil => exact Ent.nil _
 | cons x a ih => exact Ent.cons ih
theorem Ent.pick {l m : List HA} (idx : List Nat) (n : Nat) (u : (idx.all fun i => (idx.count i == 1) && Nat.blt i n) = true) (D : l.length = n) (G : idx.map (fun i => l.getD i tt) = m) : Ent l m := by
 have h1 : ∀ i, i ∈ idx → idx.count i = 1 ∧ i < l.length := fun i hi => by
  have := List.all_eq_true.1 u i hi
  rw [← D] at this
  simpa [Nat.blt_eq] using this
 have q : idx.Nodup := List.nodup_iff_count.2 fun i => by
  by_cases hi : i ∈ idx
  ·exact Nat.le_of_eq (h1 i hi).1
  ·rw [List.count_eq_zero.2 hi]; omega
 have p : (List.range l.length).Perm (idx ++ (List.range l.length).filter fun i => !idx.contains i) := by
  refine (List.perm_ext_iff_of_nodup List.nodup_range (List.nodup_append.2 ⟨q, List.nodup_range.filter _, fun x I y J e => ?_⟩)).2 fun i => ?_
  ·subst e
   have := (List.mem_filter.1 J).2
   rw [List.contains_iff_mem.2 I] at this
   cases this
  ·rw [List.mem_append, List.mem_filter, List.mem_range]
   constructor
   ·intro h
    by_cases hi : i ∈ idx
    ·exact .inl hi
    ·exact .inr ⟨h, by simpa using hi⟩
   ·rintro (h | h)
    ·exact (h1 i h).2
    ·exact h.1
 have e : (List.range l.length).map (fun i => l.getD i tt) = l := by
  apply List.ext_getElem?
  intro i
  by_cases hi : i < l.length
  ·simp [List.getElem?_map, List.getElem?_range hi, hi]
  ·rw [List.getElem?_eq_none (by simp; omega), List.getElem?_eq_none (by omega)]
 have r := p.map fun i => l.getD i tt
 rw [e, List.map_append, G] at r
 exact (Ent.perm r).trans Ent.left
end
end Go.Proofs.YtndjkejhacfpdaaGreatDoor

namespace Go.Proofs.YtndjkejhacfpdaaGreatDoor
open Go.RowKit
section
variable {K : Cx} {E : Env} {H : List HA} {op : Oper}
end
end Go.Proofs.YtndjkejhacfpdaaGreatDoor

namespace Go.Proofs.YtndjkejhacfpdaaGreatDoor
open Go.RowKit Go.Shelf
theorem ul {F : HA} {l : List UInt8} (h : Rd F none (aB l)) : l = [] := by
 rcases h with h | ⟨b, off, h, _⟩
 ·cases l with
  | nil => rfl
  | cons c t => cases h
 ·cases h
theorem pw {α : Type} {F : HA} {n : Nat} {V : α → List Value → Prop} {xs : List α} (D : Nat.blt 0 n = true) (h : RdV F n V none xs) : xs = [] := by
 obtain ⟨rs, h1, q⟩ := h
 rcases q with q | ⟨b, off, q, _⟩
 ·cases xs with
  | nil => rfl
  | cons x xs =>
   cases rs with
   | nil => exact h1.elim
   | cons r rs =>
    have G := h1.1.1
    rw [List.flatten_cons] at q
    have u := congrArg List.length q
    rw [List.length_append, G] at u
    have : 0 < n := by simpa [Nat.blt_eq] using D
    simp at u
    omega
 ·cases q
section
variable {K : Cx} {E : Env} {H : List HA} {o : Oper}
theorem mj {q D e : TypeId} {x : Operand} {n c : Nat} (r : o.op = .binOp .eql q x (.const (.slice none 0 0)) D) (G : ev E x = some (.slice none n c)) (I : K.P.underlying q = some (.slice e)) : RQ K o E H (.bool true) :=
 cA (by rw [r]; intro c h; cases h) fun a w u _ => by
  unfold execOp; simp only [r]; rw [u.ev G, u.ev (x := .const (.slice none 0 0)) rfl]
  have e : (Op.equal q (.slice none n c) (.slice none 0 0)).run K.P w = .ok true w := by
   rw [show Op.equal q (.slice none n c) (.slice none 0 0) = Op.equalIn (9999 + 1) q (.slice none n c) (.slice none 0 0) from rfl, Op.equalIn]
   simp [underlying, program, Sem.run, I]
  simp [eqGuard, binOp, e]
theorem ml {q D e : TypeId} {x : Operand} {p : Addr} {n c : Nat} (r : o.op = .binOp .eql q x (.const (.slice none 0 0)) D) (G : ev E x = some (.slice (some p) n c)) (I : K.P.underlying q = some (.slice e)) : RQ K o E H (.bool false) :=
 cA (by rw [r]; intro c h; cases h) fun a w u _ => by
  unfold execOp; simp only [r]; rw [u.ev G, u.ev (x := .const (.slice none 0 0)) rfl]
  have e : (Op.equal q (.slice (some p) n c) (.slice none 0 0)).run K.P w = .ok false w := by
   rw [show Op.equal q (.slice (some p) n c) (.slice none 0 0) = Op.equalIn (9999 + 1) q (.slice (some p) n c) (.slice none 0 0) from rfl, Op.equalIn]
   simp [underlying, program, Sem.run, I]
  simp [eqGuard, binOp, e]
end
end Go.Proofs.YtndjkejhacfpdaaGreatDoor

namespace Go.Proofs.YtndjkejhacfpdaaGreatDoor
open Go.RowKit
def dfD (g : FuncId) (cap : List Value) : Deferred := { target := .fn (.func g) cap.toArray, args := #[] }
section
variable {K : Cx} {R S Y : Type} {Q : de R} {E : Env} {H : List HA} {opt : Option R} {ops : Array Oper} {rest : List Oper} {o : Oper}
theorem jt {c : Call} {x : Operand} {cap : List Value} {g : FuncId} (L : o.op = .defer c) (q : c.callee = .value x) (D : c.args = #[]) (U : ev E x = some (.func (.func g) #[] cap.toArray))
  (G : K.ro = none) (X : o.guard = none) (hd : o.dst = none) (h : bX ⟨K.P, K.W, K.ro, K.n, dfD g cap :: K.ds⟩ Q ops rest E H opt) : bX K Q ops (o :: rest) E H opt := by
 intro r I a w u hs
 refine wpListIn_plain X fun K' J => ?_
 refine ⟨fun f _ => fV _ _, ?_⟩
 have e1 : (o.semAt (fen K.ro).round a.eval).run K.P w = .ok (.defer (dfD g cap)) w := by
  rw [sm, G, Oper.semAt_none]
  unfold execOp; simp only [L]
  simp [resolve, q, D, u.ev U, Deferred.ofValue, dfD]
 rw [e1]
 show K' ({ a with defers := dfD g cap :: a.defers }.put o.dst undef) w
 rw [hd]
 refine J _ _ (h r I _ w ⟨u.size, ?_, u.get⟩ hs)
 show dfD g cap :: a.defers = dfD g cap :: K.ds
 rw [u.defers]
end
def lq (P : Program) (g : FuncId) (cap : List Value) : Prop := ∀ (W w : World) (H : List HA), Sat W H w → CallsDIn Fence.wide 0 P g cap.toArray .returning w fun e q r => (∃ v, e = .returned v) ∧ q = .returning ∧ Sat W H r
def rA (K : Cx) {R Y : Type} (fn : Func) (val : R → Y → Value) (B : R → Y → List HA) : de R := fun r e a w =>
 bodyPostDIn Fence.wide 0 K.P fn (fun e q => ∃ y, e = .returned (val r y) ∧ Sat K.W (B r y) q) e a w
section
variable {K : Cx} {R S Y : Type} {Q : de R} {E : Env} {H : List HA} {o : Option R}
theorem jR {P : Program} {W : World} {f : FuncId} {args : List Value} {A : List HA} {F : HA} {o : Option R} {val : R → Y → Value} {B : R → Y → List HA}
  {fn : Func} {c : Code} (n : Nat) (q : P.funcs[f]? = some fn) (u : fn.body = some c) (D : fn.ntmps = n) (G : Nat.ble args.length n = true)
  (h : Sim ⟨P, W, none, n, []⟩ (rA ⟨P, W, none, n, []⟩ fn val fun r y => B r y ++ [F]) c (ku 0 args) (A ++ [F]) o) : Fn P W f args A F o val B := by
 intro r I w J
 refine (callsIn_wide (n := 0)).1 (callsIn_of_wp_defers q u trivial ?_ rfl)
 have := h r I _ w (kv args n (by simpa [Nat.ble_eq] using G)) J
 rw [D]
 exact this
theorem vC {fn : Func} {val : R → Y → Value} {B : R → Y → List HA} {r : R} {vs : List Value} (y : Y) (hd : K.ds = []) (q : iX K.P E H fn.results.toList vs) (I : tup vs = val r y) (J : Ent H (B r y)) :
  ∀ u, some r = some u → ∀ a w, Has K.n K.ds E a → Sat K.W H w → LeavesIn Fence.wide 0 K.P fn a.tmps (fun e L => ∃ y, e = .returned (val u y) ∧ Sat K.W (B u y) L) a.defers .returning w := by
 intro u U a w D G
 cases U
 rw [D.defers, hd]
 exact ⟨_, kb D G q, y, by rw [I], G.ent J⟩
theorem vD {fn : Func} {val : R → Y → Value} {B : R → Y → List HA} {r : R} {vs : List Value} (g : FuncId) (cap : List Value) (I : lq K.P g cap) (J : ∀ args w, (callFunc g args).run K.P w = .ok (.enter g args) w)
  (y : Y) (hd : K.ds = [dfD g cap]) (q : iX K.P E H fn.results.toList vs) (L : tup vs = val r y) (U : Ent H (B r y)) :
  ∀ u, some r = some u → ∀ a w, Has K.n K.ds E a → Sat K.W H w → LeavesIn Fence.wide 0 K.P fn a.tmps (fun e D => ∃ y, e = .returned (val u y) ∧ Sat K.W (B u y) D) a.defers .returning w := by
 intro u X a w G hs
 cases X
 rw [G.defers, hd]
 refine leavesIn_cons (F := Fence.wide) (n := 0) (f := g) (args := cap.toArray) (by simp) (fun h => by cases h) ?_ (fun _ _ => trivial) ?_
 ·simp [invoke, J]
 ·refine (I K.W w H hs).mono ?_
  rintro e u' D ⟨⟨v, rfl⟩, rfl, s⟩
  exact ⟨_, kb G s q, y, by rw [L], s.ent U⟩
theorem tj {fn : Func} {val : R → Y → Value} {B : R → Y → List HA} {r : R} {vs : List Value} (y : Y) (hd : K.ds = []) (q : iX K.P E H fn.results.toList vs) (u : tup vs = val r y) (D : Ent H (B r y)) :
  Rtn K (rA K fn val B) E H (some r) := fun G I a w J L => vC y hd q u D G I a w J L
theorem jH {fn : Func} {val : R → Y → Value} {B : R → Y → List HA} {r : R} {vs : List Value} (g : FuncId) (cap : List Value) (u : lq K.P g cap) (D : ∀ args w, (callFunc g args).run K.P w = .ok (.enter g args) w)
  (y : Y) (hd : K.ds = [dfD g cap]) (q : iX K.P E H fn.results.toList vs) (G : tup vs = val r y) (I : Ent H (B r y)) :
  Rtn K (rA K fn val B) E H (some r) := fun J L a w U X => vD g cap u D y hd q G I J L a w U X
end
theorem nv {P : Program} {f : FuncId} {fn : Func} {id : Nat} {u : Oper} {l : List Oper} {rest : Code} {args : Array Value} {w : World} {R : Ending → World → Prop}
  (hf : P.funcs[f]? = some fn) (hb : fn.body = some (.seq (.region id (u :: l).toArray false) rest)) (h0 : ∀ ev : Operand → Value, ∀ w, (u.semAt none ev).run P w = .ok .recover w) (hg : u.guard = none)
  (h : wpListIn Fence.wide 0 P (u :: l).toArray (Exit.then (rest.wpIn Fence.wide 0 P (bodyPost P fn R)) (bodyPost P fn R)) l (({ tmps := args ++ Array.replicate (fn.ntmps - args.size) undef, defers := [] } : Act).put u.dst .nilIface) w) :
  CallsDIn Fence.wide 0 P f args .returning w fun e u' D => u' = .returning ∧ R e D := by
 refine ⟨trivial, fun G cs hu hr => ?_⟩
 let b : Frame := { (default : Frame) with fn := f, kind := .deferred, roundOf := none }
 have I : Frame.enter P f args .deferred =
   b.atR { tmps := args ++ Array.replicate (fn.ntmps - args.size) undef, defers := [] } [.code (.seq (.region id (u :: l).toArray false) rest)] := by
  simp [Frame.enter, Frame.atR, hf, hb, b]
 have hc : ({ G with mode := .returning } : Frame) = G := by rw [← hu]
 obtain ⟨a0, bc⟩ : ∃ a0 : Act, ({ tmps := args ++ Array.replicate (fn.ntmps - args.size) undef, defers := [] } : Act) = a0 := ⟨_, rfl⟩
 rw [bc] at I h
 have hF : Fence.wide.fn b.fn := trivial
 have r : Fence.wide.room ((G :: cs).length + 1 + 0) := room_wide _
 have ho : (u :: l).toArray[0]? = some u := rfl
 have hw : Region.wanted u (yielded (u :: l).toArray a0.tmps) = true := by simp only [Region.wanted, hg]
 have s1 : StepsIn (Machine.fenced P Fence.wide) P (lone (Frame.enter P f args .deferred) (G :: cs) w) (lone (b.atR (a0.put u.dst .nilIface) (.inRegion (u :: l).toArray (List.range' 1 l.length) :: .code rest :: [])) (G :: cs) w) := by
  rw [I]
  refine .head (fenced_calm hF r rfl) stepR_seq (.head (fenced_calm hF r rfl) stepR_region ?_)
  have e2 : List.range (u :: l).toArray.size = 0 :: List.range' 1 l.length := by
   rw [List.range_eq_range']
   simp [List.range'_succ]
  rw [e2]
  refine .one (fenced_oper hF r ho (fun _ _ => trivial)) (step_lone_go ?_)
  have br := stepGR_op (P := P) (b := b) (a := a0) (k := .code rest :: []) (cs := G :: cs) (w := w) (rest := List.range' 1 l.length) ho hw
  rw [br]
  have al : (b.atR a0 (.inRegion (u :: l).toArray (0 :: List.range' 1 l.length) :: .code rest :: [])).finish .nilIface = b.atR (a0.put u.dst .nilIface) (.inRegion (u :: l).toArray (List.range' 1 l.length) :: .code rest :: []) := by
   rw [Frame.finish_atR, ho]; rfl
  rw [← al]
  have hk : (b.atR a0 (.inRegion (u :: l).toArray (0 :: List.range' 1 l.length) :: .code rest :: [])).kind = .deferred := rfl
  have X := tryRecover_deferred hk (G :: cs)
  have an : recoverD (G :: cs) = none := by simp [recoverD, hu]
  have bs := h0 a0.eval w
  rw [an] at X
  simp only [Frame.atR] at X ⊢
  simp [stepG.apply, b, bs, X]
  done
 rw [← wpOpsIn_eq_wpListIn l 1 (fun j => by simp [Nat.add_comm 1 j])] at h
 obtain ⟨e, U, D, J, q⟩ := wp_opsIn _ _ _ h b (.code rest :: []) (G :: cs) rfl hF r
 have L : ∀ (e : Exit) (U : Act) (D : World), bodyPost P fn R e U D → ArrivesIn (Machine.fenced P Fence.wide) P (lone (Frame.enter P f args .deferred) (G :: cs) w) b [] (G :: cs) e U D →
   ∃ e u' D fr, (u' = FrameMode.returning ∧ R e D) ∧ ComesIn (Machine.fenced P Fence.wide) P (lone (Frame.enter P f args .deferred) (G :: cs) w) (lone fr ({ G with mode := u' } :: cs) D) e ∧ fr.kind = .deferred ∧ fr.fn = f ∧ fr.going P D e := by
  intro e U D J q
  cases e with
  | normal =>
   obtain ⟨hd, v, ab, hR⟩ := J
   exact ⟨.returned v, .returning, D, _, ⟨rfl, hR⟩, (by rw [hc]; exact StepsIn.trans q (.one (fenced_calm (fr := b.atR U []) hF hr rfl) (stepR_end rfl))), rfl, rfl, rfl, hd, fn, hf, ab⟩
  | ret =>
   obtain ⟨hd, v, ab, hR⟩ := J
   obtain ⟨todo, hs⟩ := q.1 rfl
   exact ⟨.returned v, .returning, D, _, ⟨rfl, hR⟩, (by rw [hc]; exact hs), rfl, rfl, rfl, hd, fn, hf, ab⟩
  | panic chain =>
   obtain ⟨hd, hR⟩ := J
   obtain ⟨todo, hs⟩ := q
   exact ⟨.panicked chain, .returning, D, _, ⟨rfl, hR⟩, (by rw [hc]; exact hs), rfl, rfl, rfl, hd, fn, hf⟩
  | exit id => exact J.elim
  | goto l => exact J.elim
  | outgrown => exact ⟨.outgrown, .returning, D, b, ⟨rfl, J⟩, q.resolve_left (by simp [b]), rfl, rfl, trivial⟩
 cases e with
 | normal =>
  obtain ⟨e₂, a₂, w₂, b1, ad⟩ := J b [] (G :: cs) rfl hF r
  exact L _ _ _ b1 (.of_steps (StepsIn.trans s1 q) ad)
 | exit id => exact J.elim
 | goto l => exact J.elim
 | ret => exact L .ret U D J (.of_steps s1 (.pass (x := .code rest) rfl (fun _ _ => .inl (by simp)) q))
 | panic ch => exact L (.panic ch) U D J (.of_steps s1 (.pass (x := .code rest) rfl (fun _ _ => .inl (by simp)) q))
 | outgrown => exact L .outgrown U D J (.of_steps s1 (.pass (x := .code rest) rfl (fun _ _ => .inl (by simp)) q))
theorem nO {P : Program} {g : FuncId} {fn : Func} {id d : Nat} {q : Oper} {l : List Oper} {rest : Code} {cap : List Value} (n : Nat)
  (D : P.funcs[g]? = some fn) (G : fn.body = some (.seq (.region id (q :: l).toArray false) rest)) (I : fn.ntmps = n) (J : Nat.ble cap.length n = true)
  (L : ∀ ev : Operand → Value, ∀ w, (q.semAt none ev).run P w = .ok .recover w) (U : q.guard = none) (hd : q.dst = some d) (r : Nat.blt d n = true) (o : Option Unit) (X : o = some ())
  (h : ∀ (W : World) (F : HA), bX ⟨P, W, none, n, []⟩ (jr ⟨P, W, none, n, []⟩ rest (oY ⟨P, W, none, n, []⟩ fn (fun (_ : Unit) (_ : Unit) => Value.tuple #[]) fun _ _ => [F])) (q :: l).toArray l ((d, .nilIface) :: ku 0 cap) [F] o) : lq P g cap := by
 intro W w H hs
 refine (nv (args := cap.toArray) (R := fun e u => ∃ y : Unit, e = .returned (.tuple #[]) ∧ Sat W [aN H] u) D G L U ?_).mono ?_
 ·have h1 := kv cap n (by simpa [Nat.ble_eq] using J)
  have h2 := h1.put (d := d) .nilIface r
  rw [I, hd]
  exact h W (aN H) () X _ w h2 (hs.ent (by simpa using Ent.fold [] H))
 ·rintro e u' u ⟨rfl, _, rfl, s⟩
  exact ⟨⟨_, rfl⟩, rfl, s.ent (by simpa using Ent.unfold [] H)⟩
end Go.Proofs.YtndjkejhacfpdaaGreatDoor

namespace Go.Proofs.YtndjkejhacfpdaaGreatDoor
open Go.RowKit Go.Sort
section
variable {K : Cx} {E : Env} {H : List HA} {o : Oper}
end
end Go.Proofs.YtndjkejhacfpdaaGreatDoor

namespace Go.Proofs.YtndjkejhacfpdaaGreatDoor
open Go.RowKit
def mn (P : Program) (W : World) (l : Nat) (rec : Loop) {α γ S Y : Type} (enc : α → γ → List Value) (own : α → γ → HA) (q : S → α → Option S) (r : S → Y → List HA) : Prop :=
 ∀ s x g u y (Fr : HA) w, q s x = some u → Sat W (pts l (.loop rec) :: ((r s y ++ [own x g]) ++ [Fr])) w →
  RoundIn Fence.wide 0 P l rec.fn (jE rec.params.toList (enc x g) rec.tmps) rec.assign rec.body w fun e D => e = .returned (.bool true) ∧ ∃ G, Sat W (pts l (.loop rec) :: (r u G ++ [Fr])) D
def kO (P : Program) (W : World) (l : Nat) {α γ S Y : Type} (enc : α → γ → List Value) (own : α → γ → HA) (q : S → α → Option S) (A : S → Y → HA) : Prop :=
 ∀ s x g r y (Fr : HA) w, q s x = some r → Sat W [A s y, own x g, Fr] w → ∃ f tmps assign body, (Instr.yield l (enc x g).toArray).run P w = .ok (.round l f tmps assign body) w ∧
  RoundIn Fence.wide 0 P l f tmps assign body w fun e u => e = .returned (.bool true) ∧ ∃ D, Sat W [A r D, Fr] u
theorem qc {P : Program} {W : World} {l : Nat} {rec : Loop} {α γ S Y : Type} {enc : α → γ → List Value} {own : α → γ → HA} {r : S → α → Option S} {q : S → Y → List HA} (J : mn P W l rec enc own r q) (hp : ∀ x g, (enc x g).length = rec.params.size) :
  kO P W l enc own r (itA l rec q) := by
 intro s x g D y Fr w L u
 have G : Sat W (pts l (.loop rec) :: ((q s y ++ [own x g]) ++ [Fr])) w := by
  rw [List.append_assoc]
  exact u.ent (kw _ _)
 refine ⟨_, _, _, _, by rw [run_yield (G.pts_at (i := 0) rfl) (by simpa using hp x g), nD], ?_⟩
 refine RoundIn.mono (J s x g D y Fr w L G) ?_
 rintro e w' ⟨h1, I, U⟩
 exact ⟨h1, I, U.ent (rP (pts l (.loop rec) :: q D I) Fr)⟩
section
variable {K : Cx} {R S Y α γ : Type} {Q : de R} {E : Env} {H : List HA} {o : Option R}
theorem qd {W : World} {P : Program} {n : Nat} {l : Nat} {rec : Loop} {ps : List Nat} {enc : α → γ → List Value} {own : α → γ → HA} {r : S → α → Option S} {q : S → Y → List HA} (Eb : S → α → γ → Y → Env) {a : Act} {ds : List Deferred}
  (he : Has n ds E a) (h1 : rec.tmps = a.tmps) (h2 : rec.params = ps.toArray) (D : rec.state = .ready) (h4 : rec.pending = none) (G : ∀ p ∈ ps, p < n) (I : ∀ x g, ps.length = (enc x g).length)
  (hA : ∀ s x g y Fr, Sim ⟨P, W, some l, n, []⟩ (iA ⟨P, W, some l, n, []⟩ (fun (_ : Unit) (_ : Unit) => Eb s x g y) (fun _ _ => (q s y ++ [own x g]) ++ [Fr])) rec.assign (lc ps (enc x g) E) ((q s y ++ [own x g]) ++ [Fr]) (some ()))
  (hB : ∀ s x g y Fr, Sim ⟨P, W, some l, n, []⟩ (iA ⟨P, W, some l, n, []⟩ (fun (_ : S) (_ : Y) => []) (fun s y => q s y ++ [Fr])) rec.body (Eb s x g y) ((q s y ++ [own x g]) ++ [Fr]) (r s x)) :
  mn P W l rec enc own r q := by
 intro s x g s' y Fr w J hs
 refine roundIn_of_wpIn trivial ?_
 have h0 : Has n [] E { tmps := rec.tmps, defers := [] } := ⟨by rw [h1]; exact he.size, rfl, fun i v h => by rw [h1]; exact he.get i v h⟩
 have L := oQ ps (enc x g) G (I x g) h0
 have e2 : rec.params.toList = ps := by rw [h2]
 rw [e2]
 refine wpIn_mono (hA s x g y (aN [pts l (.loop rec), Fr]) () rfl _ w L (hs.ent (kx _ _ _))) ?_
 intro e a1 w1 u
 cases e with
 | normal =>
  obtain ⟨_, x1, x2⟩ := u
  have x3 := x2.ent (js _ _ _)
  have hl := x3.pts_at (i := 0) rfl
  refine ⟨_, run_beginRound hl D, ?_⟩
  have x4 : Sat W (pts l (.loop { rec with state := .busy }) :: ((q s y ++ [own x g]) ++ [Fr])) (w1.putObj l (.loop { rec with state := .busy })) := x3.upd
  refine wpIn_mono (hB s x g y _ s' J a1 _ x1 (x4.ent (kx _ _ _))) ?_
  intro e a2 U u
  cases e with
  | normal =>
   obtain ⟨y', _, z2⟩ := u
   have z3 := z2.ent (js _ _ _)
   have X := z3.pts_at (i := 0) rfl
   refine ⟨_, _, run_endRound none X, rfl, y', ?_⟩
   have z4 : Sat W (pts l (.loop rec) :: (q s' y' ++ [Fr])) (U.putObj l (.loop rec)) := z3.upd
   have er : ({ ({ rec with state := .busy } : Loop) with state := if (none : Option Code).isNone then .ready else .done, pending := none } : Loop) = rec := by
    cases rec
    simp at D h4 ⊢
    exact ⟨D.symm, h4.symm⟩
   have ab : U.putObj l (.loop rec) = U.putObj l (.loop ({ ({ rec with state := .busy } : Loop) with state := if (none : Option Code).isNone then .ready else .done, pending := none } : Loop)) := by rw [er]
   rw [ab] at z4
   exact z4
  | _ => exact u.elim
 | _ => exact u.elim
theorem rx {R' Y' : Type} {g : Operand} {ps : List Nat} {assign body : Code} {f : FuncId} {cap : List Value} {Cap rst : List HA} {CapB : R' → Y' → List HA} {enc : α → γ → List Value} {own : α → γ → HA} {o2 : R' → Option R} {oN : Option R'} {val : R' → Y' → Value}
  {G : S → α → Option S} (u : S → Y → List HA) (s0 : S) (I : Y) (Eb : S → α → γ → Y → Env) (J : R' → S) (L : R' → Y' → Y) (a7 : K.ro = none) (hg : ev E g = some (.func (.func f) #[] cap.toArray))
  (hf : ∀ args w, (callFunc f args).run K.P w = .ok (.enter f args) w)
  (it : ∀ l (A : S → Y → HA), kO K.P K.W l enc own G A → ∀ X, Fn K.P K.W f (.func (.yield l) #[] #[] :: cap) (A s0 I :: Cap) (aN (X :: rst)) oN val (fun r y => A (J r) (L r y) :: CapB r y))
  (U : ps.all (fun p => Nat.blt p K.n) = true) (ab : ∀ x g, ps.length = (enc x g).length)
  (hH : Ent H (u s0 I ++ (Cap ++ rst)))
  (hA : ∀ l s x g y Fr, Sim ⟨K.P, K.W, some l, K.n, []⟩ (iA ⟨K.P, K.W, some l, K.n, []⟩ (fun (_ : Unit) (_ : Unit) => Eb s x g y) (fun _ _ => (u s y ++ [own x g]) ++ [Fr])) assign (lc ps (enc x g) E) ((u s y ++ [own x g]) ++ [Fr]) (some ()))
  (hB : ∀ l s x g y Fr, Sim ⟨K.P, K.W, some l, K.n, []⟩ (iA ⟨K.P, K.W, some l, K.n, []⟩ (fun (_ : S) (_ : Y) => []) (fun s y => u s y ++ [Fr])) body (Eb s x g y) ((u s y ++ [own x g]) ++ [Fr]) (G s x))
  (h : ∀ D r y, Nrm { K with ds := mkD D :: K.ds } Q E (gZ D :: (u (J r) (L r y) ++ (CapB r y ++ rst))) (o2 r)) :
  Sim K Q (.rangeFunc g ps.toArray assign body) E H (oN.bind o2) := by
 intro r hr a w he hs
 have a8 : ∀ p ∈ ps, p < K.n := fun p hp => by simpa [Nat.blt_eq] using List.all_eq_true.1 U p hp
 cases hfo : oN with
 | none => rw [hfo] at hr; cases hr
 | some rN =>
 rw [hfo] at hr
 rw [a7]
 refine wpIn_rangeFunc fun fn _ => ?_
 have bc := hs.new (.deferred (some []))
 have af := bc.new (.loop { state := .ready, pending := none, fn := fn, tmps := a.tmps, params := ps.toArray, assign := assign, body := body, defers := w.heap.size })
 have hz : ({ w with heap := w.heap.push (.deferred (some [])) } : World).heap.size = w.heap.size + 1 := by simp
 rw [hz] at af
 let q : Loop := { state := .ready, pending := none, fn, tmps := a.tmps, params := ps.toArray, assign, body, defers := w.heap.size }
 let w2 : World := (w.alloc (.deferred (some []))).alloc (.loop q)
 refine ⟨w.heap.size + 1, [mkD w.heap.size], w2, { target := .fn (.func f) cap.toArray, args := #[.func (.yield (w.heap.size + 1)) #[] #[]] }, w2, f, (Value.func (.yield (w.heap.size + 1)) #[] #[] :: cap).toArray, w2, run_enterLoop_outer fn a.tmps ps.toArray assign body, ?_, ?_⟩
 ·have e1 : a.eval (.const (.func (.yield (w.heap.size + 1)) #[] #[])) = .func (.yield (w.heap.size + 1)) #[] #[] := rfl
  simp [resolve, he.ev hg, Deferred.ofValue, e1]
 ·refine ⟨fun f' _ => trivial, ?_, (by intro h; cases h), ?_⟩
  ·simp [invoke, hf]
  refine callsIn_wide.2 ?_
  have hR : mn K.P K.W (w.heap.size + 1) q enc own G u :=
   qd (ps := ps) Eb he rfl rfl rfl rfl a8 ab (hA _) (hB _)
  have hY := qc hR (fun x g => by simpa [q] using (ab x g).symm)
  have be : Sat K.W ((itA (w.heap.size + 1) q u s0 I :: Cap) ++ [aN (pts w.heap.size (.deferred (some [])) :: rst)]) w2 := by
   refine af.ent ?_
   intro h x
   have x1 : aV (pts (w.heap.size + 1) (.loop q)) (aV (pts w.heap.size (.deferred (some []))) (aV (aN (u s0 I)) (aN (Cap ++ rst)))) h :=
    bZ h (fun _ x => x) (fun h x => bZ h (fun _ x => x) (fun h x => (cu _ _ h).1 (hH h x)) x) x
   have x2 : aV (aV (pts (w.heap.size + 1) (.loop q)) (aN (u s0 I))) (aV (pts w.heap.size (.deferred (some []))) (aN (Cap ++ rst))) h := by
    rw [← bg (pts w.heap.size _), dG (pts w.heap.size _), bg, ← bg] at x1
    exact x1
   refine bZ h (fun _ x => x) (fun h x => ?_) x2
   have x3 : aV (pts w.heap.size (.deferred (some []))) (aV (aN Cap) (aN rst)) h := bZ h (fun _ x => x) (fun h x => (cu _ _ h).1 x) x
   rw [← bg, dG (pts _ _), bg] at x3
   exact (cu _ _ h).2 (bZ h (fun _ x => x) (fun h x => iq x) x3)
  have hc := it _ _ hY (pts w.heap.size (.deferred (some []))) rN hfo _ be
  refine hc.mono ?_
  rintro e w' ⟨y, rfl, s4⟩
  have s5 : Sat K.W (pts (w.heap.size + 1) (.loop q) :: (u (J rN) (L rN y) ++ (CapB rN y ++ [aN (pts w.heap.size (.deferred (some [])) :: rst)]))) w' := s4.ent (kw _ _)
  have hl := s5.pts_at (i := 0) rfl
  refine ⟨none, _, run_endLoop hl (by simp [q]), ?_⟩
  have s6 := s5.upd (o' := .loop { q with state := .exhausted })
  have s7 : Sat K.W (gZ w.heap.size :: (u (J rN) (L rN y) ++ (CapB rN y ++ rst))) _ := s6.ent (Ent.drop (by
   intro h x
   rw [← List.append_assoc] at x
   have x2 := (cu _ _ h).1 x
   have x3 : aV (aN (u (J rN) (L rN y) ++ CapB rN y)) (aV (pts w.heap.size (.deferred (some []))) (aN rst)) h := bZ h (fun _ x => x) (fun h (x : aV (aN _) tt h) => by
    rw [dG] at x
    exact dT _ tt h x) x2
   rw [← bg, dG _ (pts _ _), bg] at x3
   refine bZ h (fun _ x => x) (fun h x => ?_) x3
   rw [← List.append_assoc]
   exact (cu _ _ h).2 x))
  exact h w.heap.size rN y r hr _ _ ⟨he.size, by simp [he.defers, mkD], he.get⟩ s7
theorem sn {L : Oper} {c : Call} {x : Operand} {xs : List Operand} {l : Nat} {enc : α → γ → List Value} {own : α → γ → HA} {r : S → α → Option S} {A : S → Y → HA} {s J : S} {y : Y} (v : α) (g : γ) (rst : List HA)
  (ho : L.op = .call c) (D : c.callee = .value x) (U : c.args = xs.toArray) (hx : ev E x = some (.func (.yield l) #[] #[])) (X : evs xs E = some (enc v g)) (ab : K.ro = none)
  (hY : kO K.P K.W l enc own r A) (hH : Ent H (A s y :: own v g :: rst)) (hs : r s v = some J) :
  RE K (Y := Y) L E H (fun _ => .bool true) (fun y => A J y :: rst) := by
 intro a w he G next Q ad
 refine ⟨fun f _ => fV _ _, ?_⟩
 rw [Oper.semAt_eq _ _ _ (by rw [ho]; intro c h; cases h)]
 have af : Sat K.W ([A s y, own v g] ++ [aN rst]) w := G.ent (fun h x => Ent.fold [A s y, own v g] rst h (hH h x))
 obtain ⟨f, tmps, assign, body, I, q⟩ := hY s v g J y _ w hs af
 have hr : (execOp a.eval L).run K.P w = .ok (.round l f tmps assign body) w := by
  unfold execOp; simp only [ho]
  have u : c.args.map a.eval = (enc v g).toArray := by rw [U, ← ir he xs _ X]; simp
  simp [resolve, D, u, he.ev hx, Deferred.ofValue, invoke, callFunc, I]
 rw [hr]
 refine ⟨jO _, ?_⟩
 rw [ab]
 refine RoundIn.mono q ?_
 rintro e w' ⟨rfl, y', s3⟩
 exact ad y' w' (s3.ent fun h x => Ent.unfold [A J y'] rst h x)
end
theorem qG {α : Type} {T : TypeId} {n : Nat} {V : α → List Value → Prop} {a : Option Addr} {c : Nat} {xs : List α} {lo hi : Int} {D : Option Addr} {G m : Nat} {rs : List (List Value)} (q : bI n V xs rs) (I : ot n a c lo D G) (L : 0 ≤ lo ∧ lo ≤ hi ∧ hi ≤ xs.length) (J : xs.length ≤ c) {p : Hp} (h : Row T n a m c rs.flatten p) : ar T n V D (cut xs lo hi) G p := by
 have r := q.flat
 have u : hi.toNat ≤ xs.length := by omega
 have U : hi.toNat * n ≤ rs.flatten.length := by rw [r]; exact Nat.mul_le_mul_right _ u
 have := nc (lo := lo.toNat) (hi := hi.toNat) (by omega) U (by omega) I.addr I.cap p h
 refine ⟨(rs.take hi.toNat).drop lo.toNat, (q.take _).drop _, ?_⟩
 rw [gu L.2.2, (q.take _).flat_drop, q.flat_take]
 exact this
end Go.Proofs.YtndjkejhacfpdaaGreatDoor
