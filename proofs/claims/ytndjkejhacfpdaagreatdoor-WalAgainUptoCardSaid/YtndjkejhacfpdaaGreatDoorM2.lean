/- Texts that lead to the law WalAgain: Sl15, Sl16, Sl17, Sl18, Sl19, Sl20, Sl21, Sl23, Sl24, Sl25, Sl26, Sl27, Sh, Sl28, Sl29, Sl30, Sl31, Sl32, Sl33. Conditions: as each says. -/
import Derived.Test.YtndjkejhacfpdaaGreatDoorM1
import Derived.Maps.Own
import Derived.Maps.Range
import Derived.Sort.KeysCollected
import Derived.Lib.SlKeysI
import Derived.Maps.RangeRun
import Derived.Lib.LaidTab
import Derived.Shelf.Strconv.Itoa4
import Derived.Shelf.Strconv.ErrVarParseInt
import Derived.Shelf.SlIter.Nil
import Derived.Shelf.SlIterI.Nil
import Derived.Shelf.SortM.Plain
import Derived.Shelf.SortM.SortNone
import Derived.Shelf.Strconv.Itoa3
import Derived.Test.YtndjkejhacfpdaaGreatDoorProg
import Derived.RecoverIn
import Derived.Sort.Row
set_option linter.unusedVariables false
set_option linter.unusedSimpArgs false
set_option linter.unusedSectionVars false
namespace Go.Proofs.YtndjkejhacfpdaaGreatDoor
open Go.RowKit
section
variable {α β : Type} [DecidableEq α]
def aU : List (α × β) → α → Option β
 | [], _ => none
 | p :: l, x => if p.1 = x then some p.2 else aU l x
def aX : List (α × β) → α → β → List (α × β)
 | [], x, y => [(x, y)]
 | p :: l, x, y => if p.1 = x then (x, y) :: l else p :: aX l x y
def dM : List (α × β) → α → List (α × β)
 | [], _ => []
 | p :: l, x => if p.1 = x then l else p :: dM l x
def fe : List (α × β) → α → Nat → Option (Nat × β)
 | [], _, _ => none
 | p :: l, x, i => if p.1 = x then some (i, p.2) else fe l x (i + 1)
theorem lV : ∀ (l : List (α × β)) (x : α) (i : Nat), (fe l x i).map (·.2) = aU l x
 | [], _, _ => rfl
 | p :: l, x, i => by
  simp only [fe, aU]
  split
  ·rfl
  ·exact lV l x (i + 1)
end
structure jx (P : Program) (T : TypeId) {α : Type} [DecidableEq α] (ek : α → Value) : Prop where
 chk : ∀ e x w, (Instr.checkKey e 10000 T (ek x)).run P w = .ok () w
 desc : ∃ u, P.underlying T = some u ∧ ((∀ x y, Instr.sameNow u (ek x) (ek y) = some (decide (x = y))) ∨ ((∀ x y, Instr.sameNow u (ek x) (ek y) = none) ∧ ∀ x y w, (Op.equal T (ek x) (ek y)).run P w = .ok (decide (x = y)) w))
 bits : ∀ x, Instr.sameBits 10000 (ek x) (ek x) = true
section
variable {α β : Type} [DecidableEq α] {P : Program} {T : TypeId} {ek : α → Value} {ev : β → Value}
def dk (ek : α → Value) (ev : β → Value) (es : List MapEntry) (kvs : List (α × β)) : Prop := es.map (fun e => (e.key, e.val)) = kvs.map fun p => (ek p.1, ev p.2)
theorem mE {u : TypeDesc} (D : ∀ x y, Instr.sameNow u (ek x) (ek y) = some (decide (x = y))) (x : α) : ∀ (kvs : List (α × β)) (es : List MapEntry) (i : Nat), dk ek ev es kvs → Instr.findNow u (ek x) es i = some ((fe kvs x i).map fun p => (p.1, ev p.2))
 | [], es, i, h => by
  have : es = [] := by simpa [dk] using h
  subst this; rfl
 | p :: l, [], i, h => by simp [dk] at h
 | p :: l, e :: es, i, h => by
  simp only [dk, List.map_cons, List.cons.injEq, Prod.mk.injEq] at h
  obtain ⟨⟨h1, G⟩, I⟩ := h
  simp only [Instr.findNow, fe]
  rw [h1, D]
  by_cases hx : p.1 = x
  ·rw [if_pos hx, hx]; simp [G]
  ·rw [if_neg hx, decide_eq_false (fun e => hx e.symm)]
   exact mE D x l es (i + 1) I
theorem lC {x : α} (u : ∀ x y w, (Op.equal T (ek x) (ek y)).run P w = .ok (decide (x = y)) w) (w : World) : ∀ (kvs : List (α × β)) (es : List MapEntry) (i : Nat), dk ek ev es kvs → (Instr.findAsking T (ek x) es i).run P w = .ok ((fe kvs x i).map fun p => (p.1, ev p.2)) w
 | [], es, i, h => by
  have : es = [] := by simpa [dk] using h
  subst this; simp [Instr.findAsking, fe]
 | p :: l, [], i, h => by simp [dk] at h
 | p :: l, e :: es, i, h => by
  simp only [dk, List.map_cons, List.cons.injEq, Prod.mk.injEq] at h
  obtain ⟨⟨h1, D⟩, G⟩ := h
  simp only [Instr.findAsking, fe, Sem.run_bind]
  rw [h1, u]
  simp only [Result.andThen_ok]
  by_cases hx : p.1 = x
  ·rw [if_pos hx, hx]; simp [D]
  ·rw [if_neg hx, decide_eq_false (fun e => hx e.symm)]
   simpa using lC u w l es (i + 1) G
theorem qH {u : TypeDesc} (D : ∀ x y, Instr.sameNow u (ek x) (ek y) = none) (x : α) : ∀ (kvs : List (α × β)) (es : List MapEntry) (i : Nat), dk ek ev es kvs → kvs ≠ [] → Instr.findNow u (ek x) es i = none
 | [], es, i, h, hn => absurd rfl hn
 | p :: l, [], i, h, _ => by simp [dk] at h
 | p :: l, e :: es, i, h, _ => by
  simp only [dk, List.map_cons, List.cons.injEq, Prod.mk.injEq] at h
  simp only [Instr.findNow]
  rw [h.1.1, D]
theorem jx.find (K : jx P T ek) (w : World) {kvs : List (α × β)} {es : List MapEntry} (h : dk ek ev es kvs) (x : α) : (Instr.findKey T (ek x) es).run P w = .ok ((fe kvs x 0).map fun p => (p.1, ev p.2)) w := by
 obtain ⟨u, G, D⟩ := K.desc
 unfold Instr.findKey
 simp only [Sem.run_bind, underlying, program, Sem.run, G, Result.andThen_ok, Sem.run_pure]
 rcases D with D | ⟨D, I⟩
 ·rw [mE D x kvs es 0 h]; simp
 ·by_cases hn : kvs = []
  ·subst hn
   have : es = [] := by simpa [dk] using h
   subst this
   simp [Instr.findNow, fe]
  ·rw [qH D x kvs es 0 h hn]
   exact lC I w kvs es 0 h
def aj (b : Nat) (ek : α → Value) (ev : β → Value) (kvs : List (α × β)) : HA := fun h => ∃ es u, h b = some (.map es u) ∧ dk ek ev es.toList kvs ∧ (es.toList.map (·.born)).Nodup ∧ ∀ e ∈ es.toList, e.born < u
theorem Sat.map_open {W w : World} {l : List HA} {b : Nat} {kvs : List (α × β)} (s : Sat W (aj b ek ev kvs :: l) w) :
  ∃ es u, dk ek ev es.toList kvs ∧ (es.toList.map (·.born)).Nodup ∧ (∀ e ∈ es.toList, e.born < u) ∧ Sat W (pts b (.map es u) :: l) w := by
 obtain ⟨x, y, d, e, ⟨es, u, h1, D, G, I⟩, r⟩ := s.hp
 exact ⟨es, u, D, G, I, s.os, s.tape, s.output, s.size, x, y, d, e, h1, r⟩
theorem Sat.map_close {W w : World} {l : List HA} {b u : Nat} {es : Array MapEntry} {kvs : List (α × β)} (s : Sat W (pts b (.map es u) :: l) w) (h1 : dk ek ev es.toList kvs) (D : (es.toList.map (·.born)).Nodup) (G : ∀ e ∈ es.toList, e.born < u) : Sat W (aj b ek ev kvs :: l) w :=
 s.ent (Ent.sel' 0 rfl (fun h x => ⟨es, u, x, h1, D, G⟩) (Ent.refl _))
theorem lD : ∀ (l : List (α × β)) (x : α) (i j : Nat) (y : β), fe l x i = some (j, y) → i ≤ j ∧ j - i < l.length
 | [], _, _, _, _, h => by simp [fe] at h
 | p :: l, x, i, j, y, h => by
  simp only [fe] at h
  split at h
  ·simp at h; obtain ⟨rfl, _⟩ := h; simp
  ·obtain ⟨h1, u⟩ := lD l x (i + 1) j y h; simp; omega
theorem mF : ∀ (kvs : List (α × β)) (es : List MapEntry) (x : α) (y : β) (i j : Nat) (z : β), dk ek ev es kvs → fe kvs x i = some (j, z) → dk ek ev (es.modify (j - i) fun e => { e with key := ek x, val := ev y }) (aX kvs x y)
 | [], es, x, y, i, j, z, _, h => by simp [fe] at h
 | p :: l, [], x, y, i, j, z, he, h => by simp [dk] at he
 | p :: l, e :: es, x, y, i, j, z, he, h => by
  simp only [dk, List.map_cons, List.cons.injEq, Prod.mk.injEq] at he
  obtain ⟨⟨h1, G⟩, D⟩ := he
  simp only [fe] at h
  simp only [aX]
  split at h
  ·rename_i u
   simp at h
   rw [if_pos u, ← h.1]
   simp [dk]
   exact D
  ·rename_i u
   obtain ⟨a, b⟩ := lD l x (i + 1) j z h
   rw [if_neg u, show j - i = (j - (i + 1)) + 1 by omega]
   simp only [List.modify_succ_cons, dk, List.map_cons, List.cons.injEq, Prod.mk.injEq]
   exact ⟨⟨h1, G⟩, mF l es x y (i + 1) j z D h⟩
theorem mG : ∀ (kvs : List (α × β)) (es : List MapEntry) (x : α) (y : β) (i c : Nat), dk ek ev es kvs → fe kvs x i = none → dk ek ev (es ++ [{ key := ek x, val := ev y, born := c }]) (aX kvs x y)
 | [], es, x, y, i, c, he, _ => by
  have : es = [] := by simpa [dk] using he
  subst this; simp [dk, aX]
 | p :: l, [], x, y, i, c, he, h => by simp [dk] at he
 | p :: l, e :: es, x, y, i, c, he, h => by
  simp only [dk, List.map_cons, List.cons.injEq, Prod.mk.injEq] at he
  obtain ⟨⟨h1, u⟩, D⟩ := he
  simp only [fe] at h
  simp only [aX]
  split at h
  ·simp at h
  ·rename_i G
   rw [if_neg G]
   simp only [List.cons_append, dk, List.map_cons, List.cons.injEq, Prod.mk.injEq]
   exact ⟨⟨h1, u⟩, mG l es x y (i + 1) c D h⟩
theorem pq : ∀ (kvs : List (α × β)) (es : List MapEntry) (x : α) (i j : Nat) (z : β), dk ek ev es kvs → fe kvs x i = some (j, z) → dk ek ev (es.eraseIdx (j - i)) (dM kvs x)
 | [], es, x, i, j, z, _, h => by simp [fe] at h
 | p :: l, [], x, i, j, z, he, h => by simp [dk] at he
 | p :: l, e :: es, x, i, j, z, he, h => by
  simp only [dk, List.map_cons, List.cons.injEq, Prod.mk.injEq] at he
  obtain ⟨⟨h1, G⟩, D⟩ := he
  simp only [fe] at h
  simp only [dM]
  split at h
  ·rename_i u
   simp at h
   rw [if_pos u, ← h.1]
   simpa [dk] using D
  ·rename_i u
   obtain ⟨a, b⟩ := lD l x (i + 1) j z h
   rw [if_neg u, show j - i = (j - (i + 1)) + 1 by omega]
   simp only [List.eraseIdx_cons_succ, dk, List.map_cons, List.cons.injEq, Prod.mk.injEq]
   exact ⟨⟨h1, G⟩, pq l es x (i + 1) j z D h⟩
theorem pt : ∀ (kvs : List (α × β)) (x : α) (i : Nat), fe kvs x i = none → dM kvs x = kvs
 | [], _, _, _ => rfl
 | p :: l, x, i, h => by
  simp only [fe] at h
  simp only [dM]
  split at h
  ·simp at h
  ·rename_i u; rw [if_neg u, pt l x (i + 1) h]
theorem nL : ∀ (kvs : List (α × β)) (es : List MapEntry) (x : α) (i j : Nat) (z : β), dk ek ev es kvs → fe kvs x i = some (j, z) → ∃ e, es[j - i]? = some e ∧ e.key = ek x
 | [], es, x, i, j, z, _, h => by simp [fe] at h
 | p :: l, [], x, i, j, z, he, h => by simp [dk] at he
 | p :: l, e :: es, x, i, j, z, he, h => by
  simp only [dk, List.map_cons, List.cons.injEq, Prod.mk.injEq] at he
  obtain ⟨⟨h1, G⟩, u⟩ := he
  simp only [fe] at h
  split at h
  ·rename_i D
   simp at h
   rw [← h.1]
   exact ⟨e, by simp, by rw [h1, D]⟩
  ·obtain ⟨a, b⟩ := lD l x (i + 1) j z h
   rw [show j - i = (j - (i + 1)) + 1 by omega]
   simpa using nL l es x (i + 1) j z u h
end
section
variable {K : Cx} {R S Y : Type} {Q : dw R} {E : Env} {H : List HA} {opt : Option R} {ops : Array Oper} {rest : List Oper} {o : Oper} {α β : Type} [DecidableEq α] {ek : α → Value} {ev : β → Value} {T VT t : TypeId} {b : Nat} {kvs : List (α × β)}
theorem qI {t : TypeId} (u : o.op = .makeMap t none) : RE K (Y := Nat) o E H (fun b => .map (some b)) (fun b => aj b ek ev [] :: H) :=
 gN (by rw [u]; intro c h; cases h) fun a w G D => by
  refine ⟨w.heap.size, { w with heap := w.heap.push (.map #[] 0) }, ?_, (D.new _).map_close (by simp [dk]) (by simp) (by simp)⟩
  unfold execOp; simp only [u]
  simp [Instr.makeMap, newObj, Sem.run]
theorem ky {x y : Operand} {z : β} (k : Nat) (v : α) (J : o.op = .lookup t x y false) (hx : Go.Proofs.YtndjkejhacfpdaaGreatDoor.ev E x = some (.map (some b))) (hy : Go.Proofs.YtndjkejhacfpdaaGreatDoor.ev E y = some (ek v)) (L : K.P.underlying t = some (.map T VT)) (G : jx K.P T ek) (hz : ∀ w, (zeroValue VT).run K.P w = .ok (ev z) w) (hk : H[k]? = some (aj b ek ev kvs)) :
  RQ K o E H (ev ((aU kvs v).getD z)) :=
 cM (by rw [J]; intro c h; cases h) fun a w U s => by
  obtain ⟨es, I, h1, h2, h3, s2⟩ := (s.focus hk).map_open
  have X := s2.pts_at (i := 0) rfl
  have D := G.find w h1 v
  have u := lV kvs v 0
  unfold execOp; simp only [J]; rw [U.ev hx, U.ev hy]
  cases hp : fe kvs v 0 with
  | none =>
   rw [hp] at D u
   simp at u
   simp [Instr.lookup, underlying, program, Sem.run, L, getObj, X, G.chk, D, hz, ← u]
  | some p =>
   rw [hp] at D u
   simp at u
   simp [Instr.lookup, underlying, program, Sem.run, L, getObj, X, G.chk, D, ← u]
theorem gI (es : Array MapEntry) (i : Nat) (f : MapEntry → MapEntry) : (es.modify i f).toList = es.toList.modify i f := by
 apply List.ext_getElem?
 intro j
 simp [List.getElem?_modify, Array.getElem?_modify]
theorem xi {x y z : Operand} (k : Nat) (v : α) (u : β) (ho : o.op = .mapUpdate t x y z) (hx : Go.Proofs.YtndjkejhacfpdaaGreatDoor.ev E x = some (.map (some b))) (hy : Go.Proofs.YtndjkejhacfpdaaGreatDoor.ev E y = some (ek v)) (hz : Go.Proofs.YtndjkejhacfpdaaGreatDoor.ev E z = some (ev u)) (hu : K.P.underlying t = some (.map T VT)) (L : jx K.P T ek) (hk : H[k]? = some (aj b ek ev kvs)) :
  RE K (Y := Unit) o E H (fun _ => undef) (fun _ => H.set k (aj b ek ev (aX kvs v u))) :=
 oZ (by rw [ho]; intro c h; cases h) fun a w G s => by
  obtain ⟨es, D, h1, h2, h3, s2⟩ := (s.focus hk).map_open
  have U := s2.pts_at (i := 0) rfl
  have X := L.find w h1 v
  cases hp : fe kvs v 0 with
  | none =>
   rw [hp] at X
   refine ⟨(), _, ?_, Sat.unfocus hk ((s2.upd (b := b) (o' := .map (es.push { key := ek v, val := ev u, born := D }) (D + 1))).map_close ?_ ?_ ?_)⟩
   ·unfold execOp; simp only [ho]; rw [G.ev hx, G.ev hy, G.ev hz]
    simp [Instr.mapUpdate, underlying, program, Sem.run, hu, getObj, U, L.chk, X, setObj]
   ·simpa using mG kvs es.toList v u 0 D h1 hp
   ·simp only [Array.toList_push, List.map_append, List.map_cons, List.map_nil]
    refine List.nodup_append.2 ⟨h2, by simp, fun a ha b U => ?_⟩
    simp only [List.mem_singleton] at U
    obtain ⟨e, G, rfl⟩ := List.mem_map.1 ha
    have := h3 e G
    omega
   ·intro e G
    simp only [Array.toList_push, List.mem_append, List.mem_singleton] at G
    rcases G with G | rfl
    ·have := h3 e G; omega
    ·simp
  | some p =>
   obtain ⟨j, q⟩ := p
   rw [hp] at X
   obtain ⟨e0, hj, I⟩ := nL kvs es.toList v 0 j q h1 hp
   rw [Nat.sub_zero] at hj
   have an : es[j]? = some e0 := by simpa using hj
   have J : (Instr.keyThatStays (ek v) (ek v)).run K.P w = .ok (ek v) w := by simp [Instr.keyThatStays, L.bits]
   refine ⟨(), _, ?_, Sat.unfocus hk ((s2.upd (b := b) (o' := .map (es.modify j fun e => { e with key := ek v, val := ev u }) D)).map_close ?_ ?_ ?_)⟩
   ·unfold execOp; simp only [ho]; rw [G.ev hx, G.ev hy, G.ev hz]
    simp [Instr.mapUpdate, underlying, program, Sem.run, hu, getObj, U, L.chk, X, an, I, J, setObj]
   ·rw [gI]
    simpa using mF kvs es.toList v u 0 j q h1 hp
   ·rw [gI]
    have : (es.toList.modify j fun e => { e with key := ek v, val := ev u }).map (·.born) = es.toList.map (·.born) := by
     apply List.ext_getElem?
     intro i
     simp only [List.getElem?_map, List.getElem?_modify]
     by_cases hi : j = i <;> simp [hi] <;> cases es[i]? <;> simp
    rw [this]; exact h2
   ·rw [gI]
    intro e G
    obtain ⟨i, hi⟩ := List.mem_iff_getElem?.1 G
    rw [List.getElem?_modify] at hi
    cases hq : es.toList[i]? with
    | none => rw [hq] at hi; simp at hi
    | some e1 =>
     rw [hq] at hi
     have := h3 e1 (List.mem_of_getElem? hq)
     by_cases hji : j = i
     ·simp [hji] at hi; rw [← hi]; exact this
     ·simp [hji] at hi; rw [← hi]; exact this
theorem xj {x y : Operand} {ts : Array TypeId} (k : Nat) (v : α) (J : o.op = .call { callee := .builtin .delete, args := #[x, y], argTypes := ts }) (hx : Go.Proofs.YtndjkejhacfpdaaGreatDoor.ev E x = some (.map (some b))) (hy : Go.Proofs.YtndjkejhacfpdaaGreatDoor.ev E y = some (ek v)) (ht : ts[0]? = some t) (hu : K.P.underlying t = some (.map T VT)) (L : jx K.P T ek) (U : H[k]? = some (aj b ek ev kvs)) :
  RE K (Y := Unit) o E H (fun _ => .tuple #[]) (fun _ => H.set k (aj b ek ev (dM kvs v))) :=
 gN (by rw [J]; intro c h; cases h) fun a w D s => by
  obtain ⟨es, u, h1, h2, h3, X⟩ := (s.focus U).map_open
  have hb := X.pts_at (i := 0) rfl
  have I := L.find w h1 v
  cases hp : fe kvs v 0 with
  | none =>
   rw [hp] at I
   refine ⟨(), _, ?_, Sat.unfocus U ((X.upd (b := b) (o' := .map es u)).map_close (by rw [pt kvs v 0 hp]; exact h1) h2 h3)⟩
   unfold execOp; simp only [J]
   simp [resolve, invoke, builtin, Builtin.delete_, ht, underlying, program, Sem.run, hu, D.ev hx, D.ev hy, getObj, hb, L.chk, I, setObj]
  | some p =>
   obtain ⟨j, q⟩ := p
   rw [hp] at I
   have a7 := lD kvs v 0 j q hp
   have a8 : es.size = kvs.length := by have := congrArg List.length h1; simpa [dk] using this
   have G : j < es.size := by omega
   refine ⟨(), _, ?_, Sat.unfocus U ((X.upd (b := b) (o' := .map (es.eraseIdxIfInBounds j) u)).map_close ?_ ?_ ?_)⟩
   ·unfold execOp; simp only [J]
    simp [resolve, invoke, builtin, Builtin.delete_, ht, underlying, program, Sem.run, hu, D.ev hx, D.ev hy, getObj, hb, L.chk, I, setObj]
   ·have := pq kvs es.toList v 0 j q h1 hp
    simpa [Array.eraseIdxIfInBounds, G] using this
   ·simp only [Array.eraseIdxIfInBounds, G, dif_pos, Array.toList_eraseIdx]
    exact (List.Sublist.map _ (List.eraseIdx_sublist _ _)).nodup h2
   ·intro e D
    simp only [Array.eraseIdxIfInBounds, G, dif_pos, Array.toList_eraseIdx] at D
    exact h3 e ((List.eraseIdx_sublist _ _).subset D)
/-! ### Strings by order -/
end
/-! ### Keys -/
theorem vS {P : Program} {T : TypeId} {k : IntKind} (u : P.underlying T = some (.int k)) : jx P T (fun x : Int => .int k x) :=
 ⟨fun e x w => by rw [show (10000 : Nat) = 9999 + 1 from rfl, Instr.checkKey]; simp [underlying, program, Sem.run, u], ⟨_, u, .inl fun x y => by simp [Instr.sameNow]; rw [Bool.eq_iff_iff]; simp⟩, fun x => by rw [Instr.sameBits]; simp⟩
theorem vT {P : Program} {T : TypeId} (u : P.underlying T = some .string) : jx P T (fun x : List UInt8 => str x) :=
 ⟨fun e x w => by rw [show (10000 : Nat) = 9999 + 1 from rfl, Instr.checkKey]; simp [underlying, program, Sem.run, u, str], ⟨_, u, .inl fun x y => by simp [Instr.sameNow, str]; rw [beq_toListBytes, ByteArray.toList_eq, ByteArray.toList_eq, Bool.eq_iff_iff]; simp⟩, fun x => by unfold str; rw [Instr.sameBits, beq_toListBytes]; simp⟩
end Go.Proofs.YtndjkejhacfpdaaGreatDoor

namespace Go.Proofs.YtndjkejhacfpdaaGreatDoor
open Go.RowKit
theorem qf (vs : List Value) (l m : List Value) (k : Nat) (h : k + vs.length ≤ l.length) : gl (l ++ m) k vs = gl l k vs ++ m := by
 rw [iR _ _ _ (by simp; omega), iR _ _ _ h, List.take_append_of_le_length (by omega), List.drop_append_of_le_length h]
 simp
theorem oW (vs : List Value) (l m : List Value) (k : Nat) (h : k + vs.length ≤ m.length) : gl (l ++ m) (l.length + k) vs = l ++ gl m k vs := by
 rw [iR _ _ _ (by simp; omega), iR _ _ _ h]
 rw [List.take_append, List.drop_append, List.take_of_length_le (by omega), List.drop_of_length_le (by omega)]
 rw [show l.length + k - l.length = k by omega, show l.length + k + vs.length - l.length = k + vs.length by omega]
 simp
section
variable {α : Type} {n : Nat} {V : α → List Value → Prop}
theorem bP.set (u : α) (d : Nat) (vs : List Value) (hd : d + vs.length ≤ n) (h1 : one vs) (G : α) : ∀ {xs : List α} {rs : List (List Value)} (i : Nat), bP n V xs rs → i < xs.length → (∀ r, V (xs.getD i G) r → r.length = n → one r → V u (gl r d vs)) →
  ∃ D, bP n V (xs.set i u) D ∧ gl rs.flatten (i * n + d) vs = D.flatten
 | x :: xs, r :: rs, 0, ⟨⟨a, b, c⟩, t⟩, _, hu => by
  refine ⟨gl r d vs :: rs, ⟨⟨by rw [jT]; exact a, ?_, hu r c a b⟩, t⟩, ?_⟩
  ·rw [iR _ _ _ (by omega)]
   intro v I
   simp only [List.mem_append] at I
   rcases I with (I | I) | I
   ·exact b v (List.mem_of_mem_take I)
   ·exact h1 v I
   ·exact b v (List.mem_of_mem_drop I)
  ·simp only [List.flatten_cons, Nat.zero_mul, Nat.zero_add]
   exact qf vs r _ d (by omega)
 | x :: xs, r :: rs, i + 1, ⟨⟨a, b, c⟩, t⟩, h, hu => by
  obtain ⟨D, U, X⟩ := bP.set u d vs hd h1 G i t (by simpa using h) (by simpa using hu)
  refine ⟨r :: D, ⟨⟨a, b, c⟩, U⟩, ?_⟩
  simp only [List.flatten_cons]
  have J := t.flat
  have hi : i < xs.length := by simpa using h
  have L : i * n + d + vs.length ≤ rs.flatten.length := by
   rw [J]
   have : (i + 1) * n ≤ xs.length * n := Nat.mul_le_mul_right _ hi
   rw [Nat.add_mul] at this
   omega
  rw [← X, show (i + 1) * n + d = r.length + (i * n + d) by rw [Nat.add_mul, a]; omega]
  exact oW vs r _ _ L
end
structure qi (n : Nat) (a : Option Addr) (c : Nat) (lo : Int) (a' : Option Addr) (c' : Nat) : Prop where
 addr : a' = (if c = lo.toNat then a else a.map (·.add (lo.toNat * n)))
 cap : c' = c - lo.toNat
theorem gM {α : Type} {n : Nat} {V : α → List Value → Prop} {F : HA} {a : Option Addr} {l : List α} {c : Nat} {lo hi : Int} (I : RdV F n V a l) (D : l.length ≤ c) (J : 0 ≤ lo ∧ lo ≤ hi ∧ hi ≤ l.length) :
  ∃ G u, qi n a c lo G u ∧ RdV F n V G (cut l lo hi) ∧ (cut l lo hi).length ≤ u ∧ u ≤ c :=
 ⟨_, _, ⟨rfl, rfl⟩, I.cut lo.toNat hi.toNat (by omega), by rw [ic J.2.2]; omega, by omega⟩
section
variable {K : Cx} {R S Y α : Type} {Q : dw R} {E : Env} {H : List HA} {opt : Option R} {ops : Array Oper} {rest : List Oper} {o : Oper} {n : Nat} {V : α → List Value → Prop} {a : Option Addr} {xs : List α} {T : TypeId} {c : Nat}
theorem gr {x : Operand} {t e : Nat} {lo hi : Option Operand} {I : Option Addr} {J m : Nat} {l : List α} {D G : Option Value} {lo' hi' : Int}
  (ho : o.op = .slice t x lo hi none) (hx : ev E x = some (.slice a m c))
  (hl : lim E lo = some D) (hh : lim E hi = some G) (hu : K.P.underlying t = some (.slice e)) (hs : ∀ w, (sizeOf e).run K.P w = .ok n w)
  (h1 : (G = none ∧ hi' = m) ∨ ∃ k, G = some (.int k hi')) (h2 : (D = none ∧ lo' = 0) ∨ ∃ k, D = some (.int k lo')) (hb : 0 ≤ lo' ∧ lo' ≤ hi' ∧ hi' ≤ l.length) (U : l.length ≤ c) (hS : qi n a c lo' I J) :
  RQ K o E H (.slice I (cut l lo' hi').length J) := by
 obtain ⟨X, b2, b3⟩ := hb
 obtain ⟨rfl, rfl⟩ := hS
 obtain ⟨L, rfl⟩ := Int.eq_ofNat_of_zero_le X
 obtain ⟨M, rfl⟩ := Int.eq_ofNat_of_zero_le (Int.le_trans X b2)
 have u := ic (l := l) (lo := (L : Int)) (hi := (M : Int)) b3
 simp only [Int.toNat_natCast] at u
 have q := sG (K := K) (H := H) (o := o) (l := L) (h := M) ho hx hl hh hu hs (by rcases h1 with ⟨x, y⟩ | y; exact .inl ⟨x, by omega⟩; exact .inr y) (by rcases h2 with ⟨x, y⟩ | y; exact .inl ⟨x, by omega⟩; exact .inr y) (by omega) (by omega)
 rw [← u] at q
 simpa using q
theorem oS {T : TypeId} {n m c c' : Nat} {a a' : Option Addr} {cs : List Value} {lo hi : Nat} (h1 : lo ≤ hi) (h2 : hi * n ≤ cs.length) (h3 : hi ≤ c) (I : a' = (if c = lo then a else a.map (·.add (lo * n)))) (D : c' = c - lo) :
  ∀ h, Row T n a m c cs h → Row T n a' (hi - lo) c' ((cs.take (hi * n)).drop (lo * n)) h := by
 intro h x
 rcases x with ⟨x1, x2, x3, x4⟩ | ⟨b, off, pre, junk, fz, J, ok, hb⟩
 ·left
  subst x4
  subst x3
  have : hi = 0 := by omega
  have : lo = 0 := by omega
  subst x1
  refine ⟨?_, by omega, by omega, by simp⟩
  rw [I]; split <;> rfl
 ·right
  subst J
  have L : lo * n ≤ hi * n := Nat.mul_le_mul_right _ h1
  have a8 : hi * n ≤ c * n := Nat.mul_le_mul_right _ h3
  have U := ok.room
  have u := ok.offs
  have al := ok.cap
  by_cases e : c = lo
  ·have X : hi = lo := by omega
   refine ⟨b, off, pre, cs ++ junk, fz, by rw [I, if_pos e], ⟨u, by omega, by omega, by rw [D, e]; simp, by rw [X]; simp, by rw [X]; simp [List.drop_of_length_le], ?_⟩, ?_⟩
   ·rcases ok.fzok with x | x
    ·exact .inl x
    ·right; rw [D, e]; simp; omega
   ·rw [hb]; congr 1
    have : (cs.take (hi * n)).drop (lo * n) = [] := by rw [List.drop_of_length_le]; rw [List.length_take, X]; exact Nat.min_le_left _ _
    rw [this]; simp
  ·have G : (⟨b, off, none⟩ : Addr).add (lo * n) = ⟨b, off + lo * n, none⟩ := qB _ _ _
   refine ⟨b, off + lo * n, pre ++ cs.take (lo * n), cs.drop (hi * n) ++ junk, fz, by rw [I, if_neg e]; simp [G], ⟨?_, by omega, by omega, ?_, ?_, ?_, ?_⟩, ?_⟩
   ·rw [List.length_append, List.length_take]; omega
   ·rw [D, Nat.sub_mul, List.length_drop, List.length_take, List.length_append, List.length_drop]; omega
   ·rw [Nat.sub_mul, List.length_drop, List.length_take]; omega
   ·rw [D, Nat.sub_mul, List.length_drop, List.length_take]; omega
   ·rcases ok.fzok with x | x
    ·exact .inl x
    ·right; rw [D, Nat.sub_mul]; omega
   ·rw [hb]; congr 1
    have e1 : cs = cs.take (lo * n) ++ ((cs.take (hi * n)).drop (lo * n) ++ cs.drop (hi * n)) := by
     rw [← List.append_assoc]
     have : cs.take (lo * n) ++ (cs.take (hi * n)).drop (lo * n) = cs.take (hi * n) := by
      have := List.take_append_drop (lo * n) (cs.take (hi * n))
      rwa [List.take_take, Nat.min_eq_left L] at this
     rw [this, List.take_append_drop]
    have e2 : pre ++ cs ++ junk = pre ++ cs.take (lo * n) ++ (cs.take (hi * n)).drop (lo * n) ++ (cs.drop (hi * n) ++ junk) := by
     conv => lhs; rw [e1]
     simp only [List.append_assoc]
    rw [e2]
theorem qC {t e sz bytes : Nat} {D : List Value} (u : o.op = .buildSlice t 0 [].toArray) (G : K.P.underlying t = some (.slice e)) (I : Elt K.P e sz bytes D) :
  RE K (Y := Nat) o E H (fun b => .slice (some ⟨b, 0, none⟩) ([] : List α).length 0) (fun b => am e sz V (some ⟨b, 0, none⟩) ([] : List α) 0 :: H) :=
 gN (by rw [u]; intro c h; cases h) fun X w he s => by
  obtain ⟨i, z, hi, hz, J, L, U⟩ := I.info
  refine ⟨w.heap.size, { w with heap := w.heap.push (.cells #[] e (0, 0)) }, ?_, (s.new _).ent (Ent.sel' 0 rfl ?_ (Ent.refl _))⟩
  ·unfold execOp; simp only [u]
   simp [Instr.buildSlice, underlying, program, Sem.run, G, sizeOf, typeInfo, hi, newRow, newObj, Instr.fill]
   refine congrArg (fun x => w.alloc (.cells x e)) ?_
   apply Array.ext <;> simp
  ·intro h x
   exact ⟨[], trivial, Row.mk (pre := []) (junk := []) (fz := (0, 0)) ⟨rfl, Nat.le_refl _, by simp [maxLen], by simp, by simp, by simp, Or.inl rfl⟩ h (by simpa [pts] using x)⟩
end
/-! ### Structs within structs -/
section
variable {P : Program} {d : Nat} {xs ys : Array Value} {f : Field} {fs : List Field} {a b : Value} {r s : Bool} {w : World}
end
section
variable {K : Cx} {E : Env} {H : List HA} {o : Oper}
end
end Go.Proofs.YtndjkejhacfpdaaGreatDoor

namespace Go.Proofs.YtndjkejhacfpdaaGreatDoor
open Go.RowKit
theorem nl {α : Type} {b : Bool} (h : b = true) (u v : α) : (bif b then u else v) = u := by rw [h]; rfl
theorem oE {α : Type} {b : Bool} (h : b = false) (u v : α) : (bif b then u else v) = v := by rw [h]; rfl
theorem bK {b : Bool} (h : b = true) : (b == true) = true := by rw [h]; rfl
theorem bL {b : Bool} (h : b = false) : (b == true) = false := by rw [h]; rfl
theorem yG {b u : Bool} (h : (b == u) = true) (v : Value) : v = cv (b == u) v := by rw [h]; rfl
theorem zf {b u : Bool} (h : (b == u) = false) (v : Value) : undef = cv (b == u) v := by rw [h]; rfl
section
variable {K : Cx} {R S Y : Type} {Q : dw R} {E : Env} {H : List HA} {o : Option R}
theorem QOb.yes {ops : Array Oper} {D : List (List Nat)} {val : Nat → Value} {i j dj : Nat} {u b : Bool} {v : Value} {I : Oper} (G : Env) (J : ops[i]? = some I) (L : I.guard = some (j, u)) (U : eJ ops j = some dj) (X : lk G dj = some (.bool b)) (hw : (b == u) = true)
  (he : dV ops D val E i G) (h : RQ K I G H v) (hv : val i = v) : QOb K ops D val E H i :=
 .grd G J L U X he (fun _ => h) (by rw [hv]; exact yG hw v)
theorem QOb.no {ops : Array Oper} {D : List (List Nat)} {val : Nat → Value} {i j dj : Nat} {u b : Bool} {I : Oper} (G : Env) (L : ops[i]? = some I) (U : I.guard = some (j, u)) (X : eJ ops j = some dj) (hb : lk G dj = some (.bool b)) (J : (b == u) = false)
  (he : dV ops D val E i G) (hv : val i = undef) : QOb K ops D val E H i :=
 .grd (v := undef) G L U X hb he (fun x => by rw [J] at x; cases x) (by rw [hv]; exact zf J undef)
theorem dV.v {ops : Array Oper} {u : List (List Nat)} {val : Nat → Value} {E : Env} {i : Nat} {l : Env} {s : Nat} (p : Nat) (hp : (gG u i).contains p = true) (hd : eJ ops p = some s) (r : dV ops u val E i l) : dV ops u val E i ((s, val p) :: l) := .w p hp hd rfl r
theorem qp {ops : Array Oper} {u : List (List Nat)} {val : Nat → Value} {i : Nat} {D : Oper} {v : Value} {G : Env} (I : ops[i]? = some D) (J : D.guard = none) (L : dV ops u val E i G) (h : RQ K D G H v) (U : val i = v) : QOb K ops u val E H i := .plain G I J L h U
theorem qy {ops : Array Oper} {D : List (List Nat)} {val : Nat → Value} {i j dj : Nat} {u b : Bool} {v : Value} {I : Oper} {G : Env} (J : ops[i]? = some I) (L : I.guard = some (j, u)) (U : dV ops D val E i G) (X : eJ ops j = some dj) (hb : lk G dj = some (.bool b)) (hw : (b == u) = true)
  (h : RQ K I G H v) (hv : val i = v) : QOb K ops D val E H i := .yes G J L X hb hw U h hv
theorem qn {ops : Array Oper} {D : List (List Nat)} {val : Nat → Value} {i j dj : Nat} {u b : Bool} {I : Oper} {G : Env} (J : ops[i]? = some I) (L : I.guard = some (j, u)) (U : dV ops D val E i G) (X : eJ ops j = some dj) (hb : lk G dj = some (.bool b)) (hw : (b == u) = false)
  (hv : val i = undef) : QOb K ops D val E H i := .no G J L X hb hw U hv
theorem eo {ops : Array Oper} {u : List (List Nat)} {Γ Z : Type} {val : Γ → Nat → Value} {heap : Nat → Γ → List HA} {m i : Nat} {pre : List Nat} {γ : Γ} {D : Oper} {v : Z → Value} {H' : Z → List HA} {G : Env} (f : Z → Γ) (I : ops[i]? = some D) (J : D.guard = none) (L : dV ops u (val γ) E i G)
  (h : RE K (Y := Z) D G (heap m γ) v H') (U : ∀ z, gK pre (val (f z)) (val γ)) (X : ∀ z, D.dst = none ∨ v z = val (f z) i) (hH : ∀ z, Ent (H' z) (heap (m + 1) (f z))) : EOb K ops u val E heap m i pre γ := .mk G f I J L h U X hH
theorem ey {ops : Array Oper} {D : List (List Nat)} {Γ Z : Type} {val : Γ → Nat → Value} {heap : Nat → Γ → List HA} {m i j dj : Nat} {u b : Bool} {pre : List Nat} {γ : Γ} {G : Oper} {v : Z → Value} {H' : Z → List HA} {I : Env} (f : Z → Γ) (J : ops[i]? = some G) (L : G.guard = some (j, u)) (U : dV ops D (val γ) E i I)
  (X : eJ ops j = some dj) (hb : lk I dj = some (.bool b)) (hw : (b == u) = true)
  (h : RE K (Y := Z) G I (heap m γ) v H') (ha : ∀ z, gK pre (val (f z)) (val γ)) (hv : ∀ z, G.dst = none ∨ v z = val (f z) i) (hH : ∀ z, Ent (H' z) (heap (m + 1) (f z))) : EOb K ops D val E heap m i pre γ := .yes I f J L X hb hw U h ha hv hH
abbrev rL (n : Nat) : List Nat := List.range n
theorem zA {p : Nat → Prop} : All [] p := trivial
theorem ac {l : List Nat} {p : Nat → Prop} {i : Nat} (h : p i) (r : All l p) : All (i :: l) p := ⟨h, r⟩
end
end Go.Proofs.YtndjkejhacfpdaaGreatDoor

namespace Go.Proofs.YtndjkejhacfpdaaGreatDoor
open Go.RowKit
section
variable {P : Program}
end
end Go.Proofs.YtndjkejhacfpdaaGreatDoor

namespace Go.Proofs.YtndjkejhacfpdaaGreatDoor
open Go.RowKit
section
variable {α β : Type} [DecidableEq α] {P : Program} {T : TypeId} {ek : α → Value} {ev : β → Value}
end
section
variable {α β : Type} [DecidableEq α] {T VT : TypeId} {ek : α → Value} {ev : β → Value} {K : Cx} {E : Env} {H : List HA} {o : Oper} {t : TypeId} {b : Nat} {kvs : List (α × β)}
end
end Go.Proofs.YtndjkejhacfpdaaGreatDoor

namespace Go.Proofs.YtndjkejhacfpdaaGreatDoor
open Go.RowKit
theorem vK {α : Type} {l : List α} (k : Nat) {j : Nat} {v : α} (h : (l.drop k)[j]? = some v) : l[k + j]? = some v := by rwa [List.getElem?_drop] at h
theorem jt {H : List HA} {b o k j : Nat} {v : Value} (h : eM H b (o + (k + j)) v) : eM H b (o + k + j) v := by rw [Nat.add_assoc]; exact h
section
variable {K : Cx} {Y : Type} {E : Env} {H : List HA} {o : Oper} {v : Y → Value} {H' : Y → List HA}
theorem RE.ent {H1 : List HA} (e : Ent H H1) (h : RE K o E H1 v H') : RE K o E H v H' := fun a w u D next Q G => h a w u (D.ent e) next Q G
end
section
variable {α : Type} {T : TypeId} {n c : Nat} {a : Option Addr} {V : α → List Value → Prop} {xs : List α} {H : List HA}
theorem Ent.set' {l : List HA} {A B : HA} (k : Nat) (u : l[k]? = some A) (h : ∀ x, A x → B x) : Ent l (l.set k B) := by
 have e : l.set k A = l := by
  apply List.ext_getElem?
  intro i
  rw [List.getElem?_set]
  split
  ·rename_i hi; subst hi
   have := (List.getElem?_eq_some_iff.1 u).1
   rw [if_pos this, u]
  ·rfl
 have := Ent.set (l := l) k h
 rwa [e] at this
theorem Ent.cutV {lo hi : Int} {I : Option Addr} {J m : Nat} {rs : List (List Value)} (k : Nat) (X : H[k]? = some (Row T n a m c rs.flatten)) (u : bP n V xs rs) (L : qi n a c lo I J) (hb : 0 ≤ lo ∧ lo ≤ hi ∧ hi ≤ xs.length) (U : xs.length ≤ c) :
  Ent H (H.set k (am T n V I (cut xs lo hi) J)) :=
 Ent.set' k X fun p hp => by
  have D := u.flat
  have G : hi.toNat ≤ xs.length := by omega
  have h2 : hi.toNat * n ≤ rs.flatten.length := by rw [D]; exact Nat.mul_le_mul_right _ G
  have := oS (lo := lo.toNat) (hi := hi.toNat) (by omega) h2 (by omega) L.addr L.cap p hp
  refine ⟨(rs.take hi.toNat).drop lo.toNat, (u.take _).drop _, ?_⟩
  rw [ic hb.2.2, (u.take _).flat_drop, u.flat_take]
  exact this
theorem Ent.cutB {lo hi : Int} {u : Option Addr} {D m : Nat} {l : List UInt8} (k : Nat) (J : H[k]? = some (Row T 1 a m c (aB l))) (G : vL a c lo u D) (L : 0 ≤ lo ∧ lo ≤ hi ∧ hi ≤ l.length) (I : l.length ≤ c) :
  Ent H (H.set k (Row T 1 u (cut l lo hi).length D (aB (cut l lo hi)))) :=
 Ent.set' k J fun p hp => by
  have := oS (lo := lo.toNat) (hi := hi.toNat) (by omega) (by rw [dx]; omega) (by omega) G.addr G.cap p hp
  rw [ic L.2.2]
  unfold cut
  rw [← mz, ← kS]
  simpa using this
end
section
variable {K : Cx} {E : Env} {H : List HA} {o : Oper} {α : Type} {n c : Nat} {a : Option Addr} {V : α → List Value → Prop} {xs : List α}
theorem nv {x y : Operand} {t e bytes : Nat} {I : List Value} {a2 : Option Addr} {c2 : Nat} {u : List α} (k : Nat) (J : o.op = .call { callee := .builtin .append, args := #[x, y], argTypes := #[t, t] })
  (L : ev E x = some (.slice a xs.length c)) (U : ev E y = some (.slice a2 u.length c2)) (X : K.P.underlying t = some (.slice e)) (hE : Elt K.P e n bytes I) (G : H[k]? = some (am e n V a xs c))
  (hr : gX (H.eraseIdx k) n V a2 u) (hb : (xs.length + u.length) * bytes ≤ 140737488355328) :
  RE K (Y := Option Addr × Nat) o E H (fun y => .slice y.1 (xs ++ u).length y.2) (fun y => H.set k (am e n V y.1 (xs ++ u) y.2)) := by
 intro a' w he hs next Q hn
 obtain ⟨rs, hl, s⟩ := mA k G hs
 have D := (List.getElem?_eq_some_iff.1 G).1
 refine fg (H := H.set k (Row e n a xs.length c rs.flatten)) k J L U X hE (by simp [D]) hl (by rw [List.eraseIdx_set_eq]; exact hr) hb a' w he s next Q fun y w' s' => hn y w' ?_
 simpa only [List.set_set] using s'
theorem nw {u e : TypeId} (P : Program) (D : P.underlying u = some (.pointer e)) (w : World) : (Op.equal u (.pointer none) (.pointer none)).run P w = .ok true w := by
 rw [show Op.equal u (.pointer none) (.pointer none) = Op.equalIn (9999 + 1) u (.pointer none) (.pointer none) from rfl, Op.equalIn]
 simp [underlying, program, Sem.run, D]
theorem kE {u I e : TypeId} {x y : Operand} (D : o.op = .binOp .eql u x y I) (J : ev E x = some (.pointer none)) (L : ev E y = some (.pointer none)) (U : K.P.underlying u = some (.pointer e)) : RQ K o E H (.bool true) :=
 cM (by rw [D]; intro c h; cases h) fun a w G _ => by
  unfold execOp; simp only [D]; rw [G.ev J, G.ev L]
  simp [jR, binOp, nw K.P U]
theorem uz {u I e : TypeId} {x y : Operand} (D : o.op = .binOp .neq u x y I) (J : ev E x = some (.pointer none)) (L : ev E y = some (.pointer none)) (U : K.P.underlying u = some (.pointer e)) : RQ K o E H (.bool false) :=
 cM (by rw [D]; intro c h; cases h) fun a w G _ => by
  unfold execOp; simp only [D]; rw [G.ev J, G.ev L]
  simp [jR, binOp, nw K.P U]
end
theorem tB {K : Cx} {R : Type} {Q : dw R} {E : Env} {H : List HA} {o : Option R} {b : Bool} {x : Operand} {u c2 : Code} (D : ev E x = some (.bool b)) (G : b = false) (h1 : Sim K Q c2 E H o) : Sim K Q (.cond x u c2) E H o := gq (by rw [D, G]) h1
/-! ### What may be nil -/
def zm (b : Bool) (y : Nat) : Option Addr := match b with
 | true => some ⟨y, 0, none⟩
 | false => none
def oi (b : Bool) (l : List HA) : HA := match b with
 | true => aS l
 | false => tt
theorem Ent.when_yes {l m az : List HA} {b : Bool} (u : b = true) (r : Ent l (az ++ m)) : Ent l (oi b az :: m) := by
 subst u
 intro h s
 exact (cz az m h).1 (r h s)
theorem Ent.when_no {l m az : List HA} {b : Bool} (u : b = false) (r : Ent l m) : Ent l (oi b az :: m) := by
 subst u
 exact Ent.tt_in r
theorem Ent.when_yo {az : List HA} {b : Bool} (u : b = true) (m : List HA) : Ent (oi b az :: m) (az ++ m) := by
 subst u
 intro h s
 exact (cz az m h).2 s
theorem Ent.when_no_ {az : List HA} {b : Bool} (u : b = false) (m : List HA) : Ent (oi b az :: m) m := Ent.drop (Ent.refl m)
theorem Fn.when {P : Program} {W : World} {f : FuncId} {args : List Value} {A : List HA} {F : HA} {R Y : Type} {o : Option R} {val D : R → Y → Value} {B G : R → Y → List HA} (h : Fn P W f args A F o val B) (u : R → Bool) (b : Bool)
  (J : ∀ r y, u r = b → val r y = D r y) (L : ∀ r y, u r = b → Ent (B r y) (G r y)) : Fn P W f args A F (o.filter fun r => u r == b) D G := by
 intro r U w X
 obtain ⟨h1, h2⟩ := Option.filter_eq_some_iff.1 U
 have I : u r = b := by simpa using h2
 refine (h r h1 w X).mono ?_
 rintro e w' ⟨y, he, s⟩
 exact ⟨y, by rw [he, J r y I], s.ent (Ent.app (L r y I) (Ent.refl _))⟩
theorem kv {R : Type} {o : Option R} {r : R} {u : R → Bool} {b : Bool} (h : o = some r) (D : u r = b) : (o.filter fun r => u r == b) = some r := by
 rw [h, Option.filter_some, D]; simp
/-! ### Short forms -/
section
variable {K : Cx} {R S Y : Type} {Q : dw R} {E : Env} {H : List HA} {opt : Option R} {ops : Array Oper} {rest : List Oper}
theorem vq {d : Nat} {v : Value} {p : Op} {t : TypeId} {ps : String} {u : Array Edge} (D : RQ K ⟨some d, p, t, ps, u, none⟩ E H v) (G : Nat.blt d K.n = true) (h : cc K Q ops rest ((d, v) :: E) H opt) : cc K Q ops (⟨some d, p, t, ps, u, none⟩ :: rest) E H opt := jI D rfl rfl G h
theorem vm {d : Nat} {v : Value} {x : Operand} {t : TypeId} {ps : String} {u : Array Edge} (D : ev E x = some v) (G : Nat.blt d K.n = true) (h : cc K Q ops rest ((d, v) :: E) H opt) : cc K Q ops (⟨some d, .move x, t, ps, u, none⟩ :: rest) E H opt := jI (bh rfl D) rfl rfl G h
theorem va {d : Nat} {v : Value} {x : Operand} {t : TypeId} {ps : String} {u : Array Edge} (D : ev E x = some v) (G : Nat.blt d K.n = true) (h : cc K Q ops rest ((d, v) :: E) H opt) : cc K Q ops (⟨some d, .assign x, t, ps, u, none⟩ :: rest) E H opt := jI (cK rfl D) rfl rfl G h
theorem vn {d : Nat} {x : Operand} {u : Addr} {t : TypeId} {ps : String} {D : Array Edge} (G : ev E x = some (.pointer (some u))) (I : Nat.blt d K.n = true) (h : cc K Q ops rest ((d, .pointer (some u)) :: E) H opt) : cc K Q ops (⟨some d, .nilCheck x, t, ps, D, none⟩ :: rest) E H opt := jI (aW rfl G) rfl rfl I h
theorem nx {id : Nat} {l : List Oper} {c2 : Code} (h : cc K (kp K c2 Q) l.toArray l E H opt) : cc K (kp K (.seq (.region id l.toArray false) c2) Q) ops [] E H opt := ae (aa (ay (aI h)))
theorem ny {id : Nat} {l : List Oper} (h : cc K Q l.toArray l E H opt) : cc K (kp K (.region id l.toArray false) Q) ops [] E H opt := ae (aa (aI h))
theorem sr {id : Nat} {l : List Oper} {c2 : Code} (h : cc K (kp K c2 Q) l.toArray l E H opt) : Sim K Q (.seq (.region id l.toArray false) c2) E H opt := ay (aI h)
theorem qm {u : List (List Nat)} {val : Nat → Value} {i : Nat} {d : Option Nat} {x : Operand} {t : TypeId} {ps : String} {G : Array Edge} {D : Env} (I : ops[i]? = some ⟨d, .move x, t, ps, G, none⟩) (J : dV ops u val E i D) (L : ev D x = some (val i)) : QOb K ops u val E H i := .plain D I rfl J (bh rfl L) rfl
theorem aq {Γ : Type} {l : List Nat} {p : Γ → Nat → Nat → Prop} {f : Nat → List Nat} {i j : Nat} (u : f i = [j]) (h : ∀ γ, p γ i j) (r : All l fun i => ∀ γ, All (f i) fun j => p γ i j) : All (i :: l) fun i => ∀ γ, All (f i) fun j => p γ i j := ⟨fun γ => by rw [u]; exact ⟨h γ, trivial⟩, r⟩
end
end Go.Proofs.YtndjkejhacfpdaaGreatDoor

namespace Go.Proofs.YtndjkejhacfpdaaGreatDoor
open Go.RowKit
theorem Sat.below {W w u : World} {H : List HA} (s : Sat W H w) (b : Below w.heap.size w u) : Sat W H u := by
 refine ⟨b.os.trans s.os, b.tape.trans s.tape, b.output.trans s.output, Nat.le_trans s.size b.size, ?_⟩
 refine eP H tt _ ⟨fun i => if i < w.heap.size then none else u.heap[i]?, hpw w, ?_, ?_, trivial, s.hp⟩
 ·intro i
  by_cases h : i < w.heap.size
  ·left; simp [h]
  ·right; simp only [hpw]; exact Array.getElem?_eq_none (by omega)
 ·funext i
  simp only [hpw, un]
  by_cases h : i < w.heap.size
  ·simp [h]; rw [b.block i h]; simp [h]
  ·simp [h]
theorem Sat.below_new {W w u : World} {H : List HA} {g : Nat} {o : Obj} (s : Sat W H w) (b : Below w.heap.size w u) (G : w.heap.size ≤ g) (D : u.heap[g]? = some o) : Sat W (pts g o :: H) u := by
 refine ⟨b.os.trans s.os, b.tape.trans s.tape, b.output.trans s.output, Nat.le_trans s.size b.size, ?_⟩
 refine ⟨fun i => if i = g then some o else none, fun i => if i = g then none else u.heap[i]?, ?_, ?_, by simp [pts], ?_⟩
 ·intro i
  by_cases h : i = g
  ·right; simp [h]
  ·left; simp [h]
 ·funext i
  simp only [hpw, un]
  by_cases h : i = g
  ·subst h; simp [D]
  ·simp [h]
 ·refine eP H tt _ ⟨fun i => if i < w.heap.size ∨ i = g then none else u.heap[i]?, hpw w, ?_, ?_, trivial, s.hp⟩
  ·intro i
   by_cases h : i < w.heap.size
   ·left; simp [h]
   ·right; simp only [hpw]; exact Array.getElem?_eq_none (by omega)
  ·funext i
   simp only [hpw, un]
   by_cases h : i < w.heap.size
   ·have : i ≠ g := by omega
    simp [h, this]; rw [b.block i h]; simp [h]
   ·by_cases h2 : i = g
    ·subst h2; simp [h]
    ·simp [h, h2]
section
variable {α β : Type}
def ez (kvs : List (List UInt8 × β)) : List (List UInt8) := (kvs.map (·.1)).mergeSort fun x y => decide (x ≤ y)
theorem pM {n : Nat} {V : α → List Value → Prop} {f : α → Value} (h1 : n = 1) (u : ∀ x, V x [f x]) (D : ∀ x, (f x).oneCell' = true) : ∀ l : List α, bP n V l (l.map fun x => [f x])
 | [] => trivial
 | x :: l => by
  rw [List.map_cons]
  exact ⟨⟨by simp [h1], by intro v G; simp at G; subst G; exact D x, u x⟩, pM h1 u D l⟩
theorem pN {f : α → Value} : ∀ l : List α, (l.map fun x => [f x]).flatten = l.map f
 | [] => rfl
 | x :: l => by simp [pN l]
theorem Sat.ownsRow {W w u : World} {H : List HA} {T : TypeId} {v : Value} {n : Nat} {xs : List Value} (s : Sat W H w) (b : Below w.heap.size w u) (h : u.ownsRow w.heap.size T 1 v n xs) : ∃ a c, v = .slice a n c ∧ Sat W (Row T 1 a n c xs :: H) u := by
 obtain ⟨D, h⟩ := h
 rcases h with ⟨rfl, rfl⟩ | ⟨g, cap, G, rfl, L, U, X, hc, I, J⟩
 ·refine ⟨none, 0, rfl, ?_⟩
  have : xs = [] := List.eq_nil_of_length_eq_zero (by simpa using D)
  subst this
  exact (s.below b).ent (Ent.row_nil (Ent.refl _))
 ·refine ⟨some ⟨g, 0, none⟩, cap, rfl, ?_⟩
  rw [Nat.mul_one] at D I J
  refine (s.below_new b L U).ent (Ent.sel' 0 rfl (fun h x => ?_) (Ent.refl _))
  refine .inr ⟨g, 0, [], G.toList.drop n, (0, 0), rfl, ⟨rfl, X, hc, ?_, by omega, by omega, .inl rfl⟩, ?_⟩
  ·rw [Nat.mul_one, D, List.length_drop, Array.length_toList, I]; omega
  ·rw [x, List.nil_append, ← J, List.take_append_drop]
open Go.WideElems Go.Maps
def R0 : Value → Option (DataW Unit × List MemPlace) := fun _ => some (.lit (.bool true), [])
def zr (kvs : List (List UInt8 × β)) : DataW Unit := .map ((kvs.map fun p => (Lit.string p.1, (DataW.lit (.bool true) : DataW Unit))).foldr DataW.insert [])
theorem xb {P : Program} {k : TypeId} {ek : α → Value} {ev : β → Value} {kl : α → Lit} : ∀ (kvs : List (α × β)) (es : List MapEntry), dk ek ev es kvs → (∀ p ∈ kvs, keyOf P k (ek p.1) = some (kl p.1)) →
  es.map (rg P k R0) = kvs.map (fun p => (kl p.1, (DataW.lit (.bool true) : DataW Unit))) ∧ (∀ x ∈ es, ∃ y, rd P k R0 x = some y) ∧ es.map (·.key) = kvs.map fun p => ek p.1
 | [], es, h, _ => by
  have : es = [] := by simpa [dk] using h
  subst this; simp
 | p :: l, [], h, _ => by simp [dk] at h
 | p :: l, e :: es, h, hk => by
  simp only [dk, List.map_cons, List.cons.injEq, Prod.mk.injEq] at h
  obtain ⟨⟨h1, L⟩, G⟩ := h
  have D : rd P k R0 e = some (kl p.1, .lit (.bool true)) := by
   unfold rd R0
   rw [h1, hk p (by simp)]; rfl
  obtain ⟨I, i2, i3⟩ := xb l es G fun q J => hk q (by simp [J])
  refine ⟨by simp only [List.map_cons, rg_of D, I], ?_, by simp [h1, i3]⟩
  intro x u
  simp only [List.mem_cons] at u
  rcases u with rfl | u
  ·exact ⟨_, D⟩
  ·exact i2 x u
theorem Sat.owns {P : Program} {k : TypeId} {W w : World} {H : List HA} {b : Nat} {ek : α → Value} {ev : β → Value} {kl : α → Lit} {kvs : List (α × β)} [DecidableEq α] {i : Nat} (s : Sat W H w) (hi : H[i]? = some (aj b ek ev kvs)) (D : ∀ x y, ek x = ek y → x = y) (I : ∀ p ∈ kvs, keyOf P k (ek p.1) = some (kl p.1)) (G : (kvs.map (·.1)).Nodup) (J : kvs.length ≤ maxLen) :
  w.ownsMap P k R0 b kvs.length (.map ((kvs.map fun p => (kl p.1, (DataW.lit (.bool true) : DataW Unit))).foldr DataW.insert [])) := by
 obtain ⟨es, u, h1, L, U, X⟩ := (s.focus hi).map_open
 have hb := X.pts_at (i := 0) rfl
 obtain ⟨r1, r2, r3⟩ := xb (P := P) (k := k) kvs es.toList h1 I
 have hs : es.size = kvs.length := by have := congrArg List.length h1; simpa [dk] using this
 refine ⟨es, u, hb, ⟨by omega, ⟨U, L, ?_⟩, r2⟩, by omega, by rw [r1]⟩
 rw [r3]
 have : (kvs.map fun p => ek p.1) = (kvs.map (·.1)).map ek := by simp
 rw [this]
 exact List.Pairwise.map ek (fun a b hab e => hab (D _ _ e)) G
theorem te {l : List (Lit × DataW Unit)} : Maps.size (.map (l.foldr DataW.insert [])) = l.length := by
 show (l.foldr DataW.insert []).length = l.length
 exact (Go.WideShapes.sorted_perm l).length_eq
theorem rC (kvs : List (List UInt8 × β)) : (strKeys (zr kvs)).Perm (kvs.map (·.1)) := by
 have := (Go.WideShapes.sorted_perm (kvs.map fun p => (Lit.string p.1, (DataW.lit (.bool true) : DataW Unit)))).map (fun p => strOf p.1)
 refine this.trans ?_
 rw [List.map_map]
 exact List.Perm.refl _
theorem tS {P : Program} {W : World} {F : HA} {f g k T X b c : Nat} {ev : β → Value} {V : List UInt8 → List Value → Prop} {kvs : List (List UInt8 × β)} (hV : ∀ x, V x [str x]) (ab : P.underlying k = some .string)
  (hC : ∀ (w : World) (U : DataW Unit) (nn : Nat), w.ownsMap P k R0 b nn U → w.cell? ⟨c, 0, none⟩ = some (.map (some b)) → c < w.heap.size → Maps.size U ≤ maxLen → Maps.size U * 16 ≤ 140737488355328 →
   CallsIn Fence.wide 5 P f #[.func (.func g) #[] #[.pointer (some ⟨c, 0, none⟩)]] w fun e w' => ∃ (v : Value) (D : List (List UInt8)), e = .returned v ∧ D.Perm (strKeys U) ∧
    w'.ownsRow w.heap.size T 1 v D.length ((D.mergeSort (fun x y => decide (x ≤ y))).map encStr) ∧ (v = .slice none 0 0 ↔ D = []) ∧ Below w.heap.size w w') :
  Fn P W f [.func (.func g) #[] #[.pointer (some ⟨c, 0, none⟩)]] [obj c X [.map (some b)], aj b (fun x : List UInt8 => str x) ev kvs] F
   (if (kvs.map (·.1)).Nodup ∧ kvs.length * 16 ≤ 140737488355328 ∧ ∀ p ∈ kvs, p.1.length ≤ 140737488351232 then some (ez kvs) else none)
   (fun r (y : Option Addr × Nat) => .slice y.1 r.length y.2) (fun r y => [am T 1 V y.1 r y.2, obj c X [.map (some b)], aj b (fun x : List UInt8 => str x) ev kvs]) := by
 intro r hr w hs
 split at hr
 ·rename_i hh
  obtain ⟨an, bs, a1⟩ := hh
  cases hr
  have hm : maxLen = 9223372036854775807 := rfl
  have G := hs.owns (P := P) (k := k) (kl := fun x => Lit.string x) (i := 1) rfl (fun x y e => by simpa [str] using e) (fun p hp => by
   have := a1 p hp
   simp [keyOf, ab, mapKey, str, ByteArray.size, hm]; omega) an (by omega)
  have hc : w.heap[c]? = some (.cells #[.map (some b)] X (0, 0)) := hs.pts_at (i := 0) rfl
  have I : c < w.heap.size := (Array.getElem?_eq_some_iff.1 hc).1
  refine (callsIn_wide (n := 5)).1 ((hC w _ _ G (by simp [World.cell?, hc]) I (by rw [te]; simp; omega) (by rw [te]; simp; omega)).mono ?_)
  rintro e w' ⟨v, D, rfl, hp, J, a7, hb⟩
  have L : D.mergeSort (fun x y => decide (x ≤ y)) = ez kvs := mergeSort_of_perm (hp.trans (rC kvs))
  have u : D.length = (ez kvs).length := by rw [← L, List.length_mergeSort]
  obtain ⟨a, cap, rfl, s2⟩ := hs.ownsRow hb J
  refine ⟨(a, cap), by rw [u], s2.ent ?_⟩
  rw [L, u]
  refine Ent.sel' 0 rfl (fun h x => ⟨_, pM (f := str) rfl hV (fun _ => rfl) (ez kvs), ?_⟩) (Ent.refl _)
  rw [pN]; exact x
 ·cases hr
end
section
variable {α β : Type} [DecidableEq α]
end
section
variable {K : Cx} {E : Env} {H : List HA} {o : Oper} {α β : Type} [DecidableEq α] {ek : α → Value} {ev : β → Value} {T VT t : TypeId} {b : Nat} {kvs : List (α × β)}
theorem RQ.eq {v u : Value} (h : v = u) (D : RQ K o E H v) : RQ K o E H u := h ▸ D
theorem pg {x y z : Operand} (k : Nat) (v : α) (u : β) (ho : o.op = .insert t x y z) (hx : Go.Proofs.YtndjkejhacfpdaaGreatDoor.ev E x = some (.map (some b))) (hy : Go.Proofs.YtndjkejhacfpdaaGreatDoor.ev E y = some (ek v)) (hz : Go.Proofs.YtndjkejhacfpdaaGreatDoor.ev E z = some (ev u)) (hu : K.P.underlying t = some (.map T VT)) (L : jx K.P T ek) (hk : H[k]? = some (aj b ek ev kvs)) :
  RE K (Y := Unit) o E H (fun _ => undef) (fun _ => H.set k (aj b ek ev (aX kvs v u))) :=
 oZ (by rw [ho]; intro c h; cases h) fun a w G s => by
  obtain ⟨es, D, h1, h2, h3, s2⟩ := (s.focus hk).map_open
  have U := s2.pts_at (i := 0) rfl
  have X := L.find w h1 v
  cases hp : fe kvs v 0 with
  | none =>
   rw [hp] at X
   refine ⟨(), _, ?_, Sat.unfocus hk ((s2.upd (b := b) (o' := .map (es.push { key := ek v, val := ev u, born := D }) (D + 1))).map_close ?_ ?_ ?_)⟩
   ·unfold execOp; simp only [ho]; rw [G.ev hx, G.ev hy, G.ev hz]
    simp [Instr.mapUpdate, underlying, program, Sem.run, hu, getObj, U, L.chk, X, setObj]
   ·simpa using mG kvs es.toList v u 0 D h1 hp
   ·simp only [Array.toList_push, List.map_append, List.map_cons, List.map_nil]
    refine List.nodup_append.2 ⟨h2, by simp, fun a ha b U => ?_⟩
    simp only [List.mem_singleton] at U
    obtain ⟨e, G, rfl⟩ := List.mem_map.1 ha
    have := h3 e G
    omega
   ·intro e G
    simp only [Array.toList_push, List.mem_append, List.mem_singleton] at G
    rcases G with G | rfl
    ·have := h3 e G; omega
    ·simp
  | some p =>
   obtain ⟨j, q⟩ := p
   rw [hp] at X
   obtain ⟨e0, hj, I⟩ := nL kvs es.toList v 0 j q h1 hp
   rw [Nat.sub_zero] at hj
   have an : es[j]? = some e0 := by simpa using hj
   have J : (Instr.keyThatStays (ek v) (ek v)).run K.P w = .ok (ek v) w := by simp [Instr.keyThatStays, L.bits]
   refine ⟨(), _, ?_, Sat.unfocus hk ((s2.upd (b := b) (o' := .map (es.modify j fun e => { e with key := ek v, val := ev u }) D)).map_close ?_ ?_ ?_)⟩
   ·unfold execOp; simp only [ho]; rw [G.ev hx, G.ev hy, G.ev hz]
    simp [Instr.mapUpdate, underlying, program, Sem.run, hu, getObj, U, L.chk, X, an, I, J, setObj]
   ·rw [gI]
    simpa using mF kvs es.toList v u 0 j q h1 hp
   ·rw [gI]
    have : (es.toList.modify j fun e => { e with key := ek v, val := ev u }).map (·.born) = es.toList.map (·.born) := by
     apply List.ext_getElem?
     intro i
     simp only [List.getElem?_map, List.getElem?_modify]
     by_cases hi : j = i <;> simp [hi] <;> cases es[i]? <;> simp
    rw [this]; exact h2
   ·rw [gI]
    intro e G
    obtain ⟨i, hi⟩ := List.mem_iff_getElem?.1 G
    rw [List.getElem?_modify] at hi
    cases hq : es.toList[i]? with
    | none => rw [hq] at hi; simp at hi
    | some e1 =>
     rw [hq] at hi
     have := h3 e1 (List.mem_of_getElem? hq)
     by_cases hji : j = i
     ·simp [hji] at hi; rw [← hi]; exact this
     ·simp [hji] at hi; rw [← hi]; exact this
end
end Go.Proofs.YtndjkejhacfpdaaGreatDoor

namespace Go.Proofs.YtndjkejhacfpdaaGreatDoor
open Go.RowKit
theorem ia {p : Prop} {A : HA} {h : Hp} : bb (pr p) A h ↔ p ∧ bb tt A h := by
 constructor
 ·rintro ⟨a, b, d, e, hp, u⟩; exact ⟨hp, a, b, d, e, trivial, u⟩
 ·rintro ⟨hp, a, b, d, e, _, u⟩; exact ⟨a, b, d, e, hp, u⟩
theorem gv {A u B : HA} (h : Hp) (D : ∀ h, A h → u h) (s : bb A B h) : bb u B h := cj h D (fun _ x => x) s
theorem bV {A B u : HA} (h : Hp) (D : ∀ h, B h → u h) (s : bb A B h) : bb A u h := cj h (fun _ x => x) D s
theorem dI {A B C : HA} {h : Hp} (s : bb A (bb B C) h) : bb B (bb A C) h := by
 rw [← bj, ej A B, bj] at s; exact s
abbrev Kps := List (List UInt8 × Nat)
abbrev ak (p : Nat) : Value := .pointer (some ⟨p, 0, none⟩)
section
variable {α β Z : Type} [DecidableEq α] {ek : α → Value} {fp : Nat → β → Z → List HA}
def mr (fp : Nat → β → Z → List HA) (p : Nat) (v : β) : HA := exs fun y => aS (fp p v y)
def cm (fp : Nat → β → Z → List HA) : List (α × Nat) → List (α × β) → HA
 | [], [] => tt
 | (k, p) :: l, (k', v) :: m => bb (pr (k = k')) (bb (mr fp p v) (cm fp l m))
 | _, _ => pr False
def kh (fp : Nat → β → Z → List HA) (x : α) : List (α × Nat) → List (α × β) → HA
 | [], [] => tt
 | (k, p) :: l, (k', v) :: m => bb (pr (k = k')) (if k = x then cm fp l m else bb (mr fp p v) (kh fp x l m))
 | _, _ => pr False
def da (kps : List (α × Nat)) (x : α) : Nat := (aU kps x).getD 0
theorem ki {p : Prop} {X : HA} {h : Hp} (s : bb X (pr p) h) : p := by obtain ⟨_, _, _, _, _, hp⟩ := s; exact hp
theorem ko (X : HA) : ∀ (l : List (α × Nat)) (m : List (α × β)) (h : Hp), bb X (cm fp l m) h → cm fp l m h
 | [], [], h, _ => trivial
 | (k, p) :: l, (k', v) :: m, h, s => by
  simp only [cm] at s ⊢
  have s1 := dI s
  refine bV h (fun h s => ?_) s1
  have u := dI s
  exact bV h (fun h s => ko X l m h s) u
 | [], _ :: _, h, s => ki s
 | _ :: _, [], h, s => ki s
theorem iC : ∀ (l : List (α × Nat)) (m : List (α × β)) (h : Hp), cm fp l m h → l.map (·.1) = m.map (·.1)
 | [], [], h, _ => rfl
 | (k, p) :: l, (k', v) :: m, h, s => by
  simp only [cm] at s
  obtain ⟨u, s⟩ := ia.1 s
  obtain ⟨_, _, _, _, _, _, D, _, _, _, s⟩ := s
  simp only [List.map_cons]
  rw [u, iC l m D s]
 | [], _ :: _, h, s => s.elim
 | _ :: _, [], h, s => s.elim
theorem gE {γ δ : Type} : ∀ (l : List (α × γ)) (m : List (α × δ)) (x : α), l.map (·.1) = m.map (·.1) → (aU l x).isSome = (aU m x).isSome
 | [], [], x, _ => rfl
 | p :: l, q :: m, x, h => by
  simp only [List.map_cons, List.cons.injEq] at h
  simp only [aU, h.1]
  split
  ·rfl
  ·exact gE l m x h.2
 | [], _ :: _, x, h => by simp at h
 | _ :: _, [], x, h => by simp at h
theorem xV {kps : List (α × Nat)} {x : α} (h : (aU kps x).isSome = true) : aU kps x = some (da kps x) := by
 unfold da
 cases hm : aU kps x with
 | none => rw [hm] at h; cases h
 | some p => rfl
theorem nE (x : α) (v : β) : ∀ (l : List (α × Nat)) (m : List (α × β)) (h : Hp), aU m x = some v → cm fp l m h → bb (mr fp (da l x) v) (kh fp x l m) h
 | [], [], h, hx, _ => by simp [aU] at hx
 | (k, p) :: l, (k', u) :: m, h, hx, s => by
  simp only [cm] at s
  have D := (ia.1 s).1
  subst D
  rw [kh]
  by_cases hkx : k = x
  ·rw [if_pos hkx]
   simp only [aU, if_pos hkx, Option.some.injEq] at hx
   have hp : da ((k, p) :: l) x = p := by simp [da, aU, hkx]
   rw [hp, ← hx]
   exact dI s
  ·rw [if_neg hkx]
   simp only [aU, if_neg hkx] at hx
   have hp : da ((k, p) :: l) x = da l x := by simp [da, aU, hkx]
   rw [hp]
   have G := bV h (fun h s => bV h (fun h s => nE x v l m h hx s) s) s
   exact dI (bV h (fun h s => dI s) G)
 | [], _ :: _, h, _, s => s.elim
 | _ :: _, [], h, _, s => s.elim
theorem nF (x : α) (v : β) : ∀ (l : List (α × Nat)) (m : List (α × β)) (h : Hp), (aU l x).isSome = true → bb (mr fp (da l x) v) (kh fp x l m) h → cm fp l (aX m x v) h
 | [], m, h, hx, _ => by simp [aU] at hx
 | (k, p) :: l, (k', u) :: m, h, hx, s => by
  simp only [kh] at s
  have s1 := dI s
  have D := (ia.1 s1).1
  subst D
  by_cases hkx : k = x
  ·have hp : da ((k, p) :: l) x = p := by simp [da, aU, hkx]
   rw [hp, if_pos hkx] at s1
   subst hkx
   rw [aX, if_pos rfl, cm]
   exact s1
  ·simp only [aU, if_neg hkx] at hx
   have hp : da ((k, p) :: l) x = da l x := by simp [da, aU, hkx]
   rw [hp, if_neg hkx] at s1
   rw [aX, if_neg hkx, cm]
   exact bV h (fun h s => bV h (fun h s => nF x v l m h hx s) (dI s)) s1
 | _ :: _, [], h, _, s => (ki s).elim
theorem oL (x : α) : ∀ (l : List (α × Nat)) (m : List (α × β)) (h : Hp), cm fp l m h → cm fp (dM l x) (dM m x) h
 | [], [], h, _ => trivial
 | (k, p) :: l, (k', u) :: m, h, s => by
  simp only [cm] at s
  have D := (ia.1 s).1
  subst D
  by_cases hkx : k = x
  ·simp only [dM, if_pos hkx]
   exact ko _ _ _ _ (filesA_absorb_star s)
  ·rw [dM, dM, if_neg hkx, if_neg hkx, cm]
   exact bV h (fun h s => bV h (fun h s => oL x l m h s) s) s
 | [], _ :: _, h, s => s.elim
 | _ :: _, [], h, s => s.elim
where
 filesA_absorb_star {X Y C : HA} {h : Hp} (s : bb X (bb Y C) h) : bb (bb X Y) C h := by rw [bj]; exact s
theorem oM (x : α) (p : Nat) (v : β) : ∀ (l : List (α × Nat)) (m : List (α × β)) (h : Hp), bb (mr fp p v) (cm fp l m) h → cm fp (aX l x p) (aX m x v) h
 | [], [], h, s => by
  simp only [aX, cm]
  exact ia.2 ⟨trivial, iM s⟩
 | (k, q) :: l, (k', u) :: m, h, s => by
  simp only [cm] at s
  have s1 := dI s
  have D := (ia.1 s1).1
  subst D
  by_cases hkx : k = x
  ·rw [aX, aX, if_pos hkx, if_pos hkx, cm]
   refine ia.2 ⟨rfl, bV h (fun h s => ?_) (ia.1 s1).2⟩
   exact bV h (fun h s => ko _ _ _ _ s) s
  ·rw [aX, aX, if_neg hkx, if_neg hkx, cm]
   exact bV h (fun h s => bV h (fun h s => oM x p v l m h s) (dI s)) s1
 | [], _ :: _, h, s => (ki s).elim
 | _ :: _, [], h, s => (ki s).elim
def ao (M : HA) (fp : Nat → β → Z → List HA) (kps : List (α × Nat)) (kvs : List (α × β)) : HA := bb M (cm fp kps kvs)
def jh (M : HA) (fp : Nat → β → Z → List HA) (kps : List (α × Nat)) (kvs : List (α × β)) (x : α) : HA := bb (pr ((aU kps x).isSome = true)) (bb M (kh fp x kps kvs))
def yM (M : HA) (fp : Nat → β → Z → List HA) (kps : List (α × Nat)) (kvs : List (α × β)) (x : α) (p : Nat) : HA := bb M (cm fp kps kvs)
end
section
variable {α β Z : Type} [DecidableEq α] {ek : α → Value} {fp : Nat → β → Z → List HA} {M : HA} {kps : List (α × Nat)} {kvs : List (α × β)} {l m : List HA}
theorem Ent.openF {H : List HA} {x : α} {v : β} (k : Nat) (I : H[k]? = some (ao M fp kps kvs)) (G : aU kvs x = some v) :
  Ent H (exs (fun y => aS (fp (da kps x) v y)) :: jh M fp kps kvs x :: H.eraseIdx k) := by
 intro h s
 rw [fF H k _ I] at s
 have s1 : bb (bb M (cm fp kps kvs)) (aS (H.eraseIdx k)) h := s
 have u : (aU kps x).isSome = true := by
  obtain ⟨_, _, _, _, ⟨_, U, _, _, _, D⟩, _⟩ := s1
  rw [gE kps kvs x (iC _ _ _ D), G]; rfl
 rw [bj] at s1
 have D := bV h (fun h s => gv h (fun h s => nE x v kps kvs h G s) s) s1
 show bb (mr fp (da kps x) v) (bb (jh M fp kps kvs x) (aS (H.eraseIdx k))) h
 unfold jh
 have J : bb (mr fp (da kps x) v) (bb (bb M (kh fp x kps kvs)) (aS (H.eraseIdx k))) h := by
  rw [bj]
  have L := bV h (fun h s => by rw [bj] at s; exact s) D
  exact dI L
 refine bV h (fun h s => ?_) J
 rw [bj]
 exact ia.2 ⟨u, iM s⟩
theorem Ent.foldF {x : α} {v : β} {p : Nat} (y : Z) (hp : p = da kps x) (r : Ent l (jh M fp kps kvs x :: (fp p v y ++ m))) : Ent l (ao M fp kps (aX kvs x v) :: m) := by
 intro h s
 subst hp
 have s1 : bb (jh M fp kps kvs x) (aS (fp (da kps x) v y ++ m)) h := r h s
 unfold jh at s1
 rw [bj] at s1
 obtain ⟨G, I⟩ := ia.1 s1
 have u : bb (bb M (kh fp x kps kvs)) (bb (aS (fp (da kps x) v y)) (aS m)) h := by
  have J := stars_absorb_tt I
  exact bV h (fun h s => (cz _ _ h).1 s) J
 show bb (bb M (cm fp kps (aX kvs x v))) (aS m) h
 rw [bj] at u ⊢
 refine bV h (fun h s => ?_) u
 have D := dI s
 rw [← bj] at D
 exact gv h (fun h s => nF x v kps kvs h G (gv h (fun h s => ⟨y, s⟩) s)) D
where
 stars_absorb_tt {A : HA} {l : List HA} {h : Hp} (s : bb tt (bb A (aS l)) h) : bb A (aS l) h := bV h (fun h s => eP l tt h s) (dI s)
theorem ke {x : α} {v : β} : ∀ {kvs : List (α × β)}, aU kvs x = some v → aX kvs x v = kvs
 | [], h => by simp [aU] at h
 | p :: l, h => by
  rw [aU] at h
  rw [aX]
  by_cases hp : p.1 = x
  ·rw [if_pos hp] at h ⊢
   cases h
   rw [← hp]
  ·rw [if_neg hp] at h ⊢
   rw [ke h]
theorem Ent.foldF0 {x : α} {v : β} {p : Nat} (y : Z) (hp : p = da kps x) (u : aU kvs x = some v) (r : Ent l (jh M fp kps kvs x :: (fp p v y ++ m))) : Ent l (ao M fp kps kvs :: m) := by
 have := Ent.foldF (v := v) y hp r
 rwa [ke u] at this
theorem Ent.foldU {x : α} {v : β} {p : Nat} (y : Z) (r : Ent l (yM M fp kps kvs x p :: (fp p v y ++ m))) : Ent l (ao M fp (aX kps x p) (aX kvs x v) :: m) := by
 intro h s
 have s1 : bb (bb M (cm fp kps kvs)) (aS (fp p v y ++ m)) h := r h s
 show bb (bb M (cm fp (aX kps x p) (aX kvs x v))) (aS m) h
 rw [bj] at s1 ⊢
 refine bV h (fun h s => ?_) s1
 have D := bV h (fun h s => (cz _ _ h).1 s) s
 have u := dI D
 rw [← bj] at u
 exact gv h (fun h s => oM x p v kps kvs h (gv h (fun h s => ⟨y, s⟩) s)) u
theorem Ent.makeF (r : Ent l (M :: m)) : Ent l (ao M fp [] ([] : List (α × β)) :: m) := by
 intro h s
 have s1 : bb M (aS m) h := r h s
 exact gv h (fun h s => jp s) s1
theorem gu {δ : Type} {o : Option δ} {d : δ} (h : o.isSome = true) : o = some (o.getD d) := by cases o with
 | none => cases h
 | some x => rfl
theorem jl {δ : Type} {o : Option δ} (h : ¬ o.isSome = true) : o = none := by cases o with
 | none => rfl
 | some x => exact absurd rfl h
end
section
variable {K : Cx} {R S Y : Type} {Q : dw R} {E : Env} {H : List HA} {opt : Option R} {ops : Array Oper} {rest : List Oper} {o : Oper} {α β Z : Type} [DecidableEq α] {ek : α → Value} {fp : Nat → β → Z → List HA} {T VT t : TypeId} {M : HA} {kps : List (α × Nat)} {kvs : List (α × β)} {c : Code}
theorem jm {x : α} {v : β} (k : Nat) (u : H[k]? = some (ao M fp kps kvs)) (D : aU kvs x = some v)
  (h : ∀ y, Sim K Q c E (fp (da kps x) v y ++ (jh M fp kps kvs x :: H.eraseIdx k)) opt) : Sim K Q c E H opt := by
 refine fm (Ent.openF k u D) (xf fun y => fm ?_ (h y))
 intro h s
 exact (cz _ _ h).2 s
end
section
variable {K : Cx} {R S Y : Type} {Q : dw R} {E : Env} {H : List HA} {opt : Option R} {ops : Array Oper} {rest : List Oper} {o : Oper} {α β Z : Type} [DecidableEq α] {ek : α → Value} {fp : Nat → β → Z → List HA} {T VT t : TypeId} {b : Nat} {kps : List (α × Nat)} {kvs : List (α × β)} {c : Code}
theorem rT (k : Nat) (u : H[k]? = some (ao (aj b ek ak kps) fp kps kvs)) : Ent H (aj b ek ak kps :: cm fp kps kvs :: H.eraseIdx k) := by
 intro h s
 rw [fF H k _ u] at s
 have s1 : bb (bb (aj b ek ak kps) (cm fp kps kvs)) (aS (H.eraseIdx k)) h := s
 rw [bj] at s1
 exact s1
def lN (H : List HA) (b : Nat) (ek : α → Value) (kps : List (α × Nat)) (kvs : List (α × β)) : Prop := ∃ X rst, Ent H (aj b ek ak kps :: X :: rst) ∧ ∀ h, X h → kps.map (·.1) = kvs.map (·.1)
theorem iI (k : Nat) (u : H[k]? = some (ao (aj b ek ak kps) fp kps kvs)) : lN H b ek kps kvs := ⟨_, _, rT k u, fun h s => iC _ _ h s⟩
theorem lN.keys (t : lN H b ek kps kvs) {W w : World} (s : Sat W H w) : kps.map (·.1) = kvs.map (·.1) := by
 obtain ⟨X, rst, e, u⟩ := t
 obtain ⟨_, _, _, _, _, ⟨_, _, _, _, D, _⟩⟩ := (s.ent e).hp
 exact u _ D
theorem kG {x y : Operand} (v : α) (tl : lN H b ek kps kvs) (hm : (aU kvs v).isSome = true) (I : o.op = .lookup t x y false) (hx : Go.Proofs.YtndjkejhacfpdaaGreatDoor.ev E x = some (.map (some b))) (hy : Go.Proofs.YtndjkejhacfpdaaGreatDoor.ev E y = some (ek v)) (hu : K.P.underlying t = some (.map T VT)) (J : jx K.P T ek) :
  RQ K o E H (.pointer (some ⟨da kps v, 0, none⟩)) :=
 cM (by rw [I]; intro c h; cases h) fun a w L s => by
  have u := tl.keys s
  have hp := xV (by rw [gE kps kvs v u]; exact hm)
  obtain ⟨X, rst, e, hX⟩ := tl
  obtain ⟨es, G, h1, h2, h3, s2⟩ := (s.ent e).map_open
  have hb := s2.pts_at (i := 0) rfl
  have U := J.find w h1 v
  have D := lV kps v 0
  rw [hp] at D
  unfold execOp; simp only [I]; rw [L.ev hx, L.ev hy]
  cases hq : fe kps v 0 with
  | none => rw [hq] at D; simp at D
  | some q =>
   rw [hq] at U D
   simp at D
   simp [Instr.lookup, underlying, program, Sem.run, hu, getObj, hb, J.chk, U, D]
theorem kH {x y : Operand} (v : α) (tl : lN H b ek kps kvs) (hm : aU kvs v = none) (I : o.op = .lookup t x y false) (hx : Go.Proofs.YtndjkejhacfpdaaGreatDoor.ev E x = some (.map (some b))) (hy : Go.Proofs.YtndjkejhacfpdaaGreatDoor.ev E y = some (ek v)) (hu : K.P.underlying t = some (.map T VT)) (J : jx K.P T ek) (hz : ∀ w, (zeroValue VT).run K.P w = .ok (.pointer none) w) :
  RQ K o E H (.pointer none) :=
 cM (by rw [I]; intro c h; cases h) fun a w L s => by
  have u := tl.keys s
  have hp : aU kps v = none := by
   have := gE kps kvs v u
   rw [hm] at this
   exact jl (by rw [this]; simp)
  obtain ⟨X, rst, e, hX⟩ := tl
  obtain ⟨es, D, h1, h2, h3, s2⟩ := (s.ent e).map_open
  have hb := s2.pts_at (i := 0) rfl
  have U := J.find w h1 v
  have G := lV kps v 0
  rw [hp] at G
  unfold execOp; simp only [I]; rw [L.ev hx, L.ev hy]
  cases hq : fe kps v 0 with
  | none => rw [hq] at U; simp [Instr.lookup, underlying, program, Sem.run, hu, getObj, hb, J.chk, U, hz]
  | some q => rw [hq] at G; simp at G
theorem xo {x : Operand} {ts : Array TypeId} (tl : lN H b ek kps kvs) (I : o.op = .call { callee := .builtin .len, args := #[x], argTypes := ts }) (J : Go.Proofs.YtndjkejhacfpdaaGreatDoor.ev E x = some (.map (some b))) (L : ts[0]? = some t) (U : K.P.underlying t = some (.map T VT)) :
  RQ K o E H (.int .i64 (kvs.length : Int)) :=
 cM (by rw [I]; intro c h; cases h) fun a w he s => by
  have u := congrArg List.length (tl.keys s)
  simp only [List.length_map] at u
  obtain ⟨X, rst, e, hX⟩ := tl
  obtain ⟨es, D, h1, h2, h3, s2⟩ := (s.ent e).map_open
  have hb := s2.pts_at (i := 0) rfl
  have G : es.size = kvs.length := by have := congrArg List.length h1; simpa [dk, u] using this
  unfold execOp; simp only [I]
  simp [resolve, invoke, builtin, Builtin.len_, L, underlying, program, Sem.run, U, he.ev J, getObj, hb, goInt, G]
theorem vv {Y : Type} {v : Y → Value} {X : HA} (k : Nat) {M u : HA} (D : H[k]? = some (bb M X)) (h : RE K o E (M :: X :: H.eraseIdx k) v (fun _ : Y => u :: X :: H.eraseIdx k)) : RE K o E H v (fun _ => H.set k (bb u X)) := by
 have G : k < H.length := (List.getElem?_eq_some_iff.1 D).1
 refine mg (RE.ent ?_ h) (fun _ => rfl) fun y => ?_
 ·intro h s
  rw [fF H k _ D] at s
  have s1 : bb (bb M X) (aS (H.eraseIdx k)) h := s
  rw [bj] at s1
  exact s1
 ·intro h s
  rw [← gL H k _ G]
  show bb (bb u X) (aS (H.eraseIdx k)) h
  rw [bj]
  exact s
theorem vV {x y z : Operand} (k : Nat) (v : α) (p : Nat) (u : o.op = .mapUpdate t x y z) (D : Go.Proofs.YtndjkejhacfpdaaGreatDoor.ev E x = some (.map (some b))) (G : Go.Proofs.YtndjkejhacfpdaaGreatDoor.ev E y = some (ek v)) (I : Go.Proofs.YtndjkejhacfpdaaGreatDoor.ev E z = some (ak p)) (J : K.P.underlying t = some (.map T VT)) (L : jx K.P T ek) (U : H[k]? = some (ao (aj b ek ak kps) fp kps kvs)) :
  RE K (Y := Unit) o E H (fun _ => undef) (fun _ => H.set k (yM (aj b ek ak (aX kps v p)) fp kps kvs v p)) :=
 vv k U (xi (kvs := kps) (ev := ak) 0 v p u D G I J L rfl)
theorem wq {x y : Operand} {ts : Array TypeId} (k : Nat) (v : α) (u : o.op = .call { callee := .builtin .delete, args := #[x, y], argTypes := ts }) (D : Go.Proofs.YtndjkejhacfpdaaGreatDoor.ev E x = some (.map (some b))) (G : Go.Proofs.YtndjkejhacfpdaaGreatDoor.ev E y = some (ek v)) (I : ts[0]? = some t) (J : K.P.underlying t = some (.map T VT)) (L : jx K.P T ek) (U : H[k]? = some (ao (aj b ek ak kps) fp kps kvs)) :
  RE K (Y := Unit) o E H (fun _ => .tuple #[]) (fun _ => H.set k (ao (aj b ek ak (dM kps v)) fp (dM kps v) (dM kvs v))) :=
 mg (vv k U (xj (kvs := kps) (ev := ak) 0 v u D G I J L rfl)) (fun _ => rfl) fun y => Ent.set k fun h s => bV h (fun h s => oL v kps kvs h s) s
theorem uH {t : TypeId} (u : o.op = .makeMap t none) : RE K (Y := Nat) o E H (fun b => .map (some b)) (fun b => ao (aj b ek ak ([] : List (α × Nat))) fp ([] : List (α × Nat)) ([] : List (α × β)) :: H) :=
 mg (qI (ek := ek) (ev := ak) u) (fun _ => rfl) fun b => Ent.makeF (Ent.refl _)
end
end Go.Proofs.YtndjkejhacfpdaaGreatDoor

namespace Go.Proofs.YtndjkejhacfpdaaGreatDoor
open Go.RowKit
section
variable {α β S : Type} [DecidableEq α]
def gU (u : S → α → β → Option (S × β)) : List α → S → List (α × β) → Option (S × List (α × β))
 | [], s, kvs => some (s, kvs)
 | x :: l, s, kvs => (aU kvs x).bind fun v => (u s x v).bind fun z => gU u l z.1 (aX kvs x z.2)
def iV (x : α) : List α → List (List α)
 | [] => [[x]]
 | y :: l => (x :: y :: l) :: (iV x l).map (y :: ·)
def jX : List α → List (List α)
 | [] => [[]]
 | x :: l => (jX l).flatMap (iV x)
theorem nG {x : α} : ∀ {a b : List α}, a ++ x :: b ∈ iV x (a ++ b)
 | [], [] => by simp [iV]
 | [], y :: b => by simp [iV]
 | y :: a, b => by
  simp only [List.cons_append, iV, List.mem_cons, List.mem_map]
  exact .inr ⟨_, nG, rfl⟩
theorem mU {x : α} : ∀ {m l : List α}, l ∈ iV x m → l.Perm (x :: m)
 | [], l, h => by simp [iV] at h; subst h; exact List.Perm.refl _
 | y :: m, l, h => by
  simp only [iV, List.mem_cons, List.mem_map] at h
  rcases h with rfl | ⟨u, h, rfl⟩
  ·exact List.Perm.refl _
  ·exact (List.Perm.cons y (mU h)).trans (List.Perm.swap x y m)
theorem pW : ∀ {m l : List α}, l.Perm m → l ∈ jX m
 | [], l, h => by rw [h.eq_nil]; simp [jX]
 | x :: m, l, h => by
  obtain ⟨a, b, rfl⟩ := List.append_of_mem (h.mem_iff.2 List.mem_cons_self)
  have u : (a ++ b).Perm m := (List.perm_cons x).1 ((List.perm_middle.symm).trans h)
  simp only [jX, List.mem_flatMap]
  exact ⟨a ++ b, pW u, nG⟩
theorem me : ∀ {m l : List α}, l ∈ jX m → l.Perm m
 | [], l, h => by simp [jX] at h; subst h; exact List.Perm.refl _
 | x :: m, l, h => by
  simp only [jX, List.mem_flatMap] at h
  obtain ⟨a, h1, u⟩ := h
  exact (mU u).trans (List.Perm.cons x (me h1))
def jC [DecidableEq S] [DecidableEq β] (u : S → α → β → Option (S × β)) (s : S) (kvs : List (α × β)) : Option (S × List (α × β)) :=
 if (kvs.map (·.1)).Nodup ∧ ∀ l ∈ jX (kvs.map (·.1)), gU u l s kvs = gU u (kvs.map (·.1)) s kvs then gU u (kvs.map (·.1)) s kvs else none
def mH [DecidableEq S] [DecidableEq β] (u : S → α → β → Option S) (s : S) (kvs : List (α × β)) : Option S := (jC (fun s x v => (u s x v).map fun D => (D, v)) s kvs).map (·.1)
theorem oO {v : β} {x : α} : ∀ {kvs : List (α × β)}, (aU kvs x).isSome = true → (aX kvs x v).map (·.1) = kvs.map (·.1)
 | [], h => by simp [aU] at h
 | p :: l, h => by
  rw [aU] at h
  rw [aX]
  by_cases hp : p.1 = x
  ·rw [if_pos hp]; simp [hp]
  ·rw [if_neg hp] at h ⊢
   rw [List.map_cons, List.map_cons, oO h]
theorem pX {γ : Type} : ∀ {l : List (α × γ)} {p : α × γ}, (l.map (·.1)).Nodup → p ∈ l → aU l p.1 = some p.2
 | [], _, _, h => by cases h
 | q :: l, p, hn, h => by
  rw [List.map_cons, List.nodup_cons] at hn
  rw [aU]
  rcases List.mem_cons.1 h with rfl | h
  ·rw [if_pos rfl]
  ·rw [if_neg (fun e => hn.1 (by rw [e]; exact List.mem_map.2 ⟨p, h, rfl⟩))]
   exact pX hn.2 h
def itI (b r : Nat) (ek : α → Value) (kps : List (α × Nat)) (todo : List α) : HA := exs fun (es : Array MapEntry) => exs fun (k : Nat × Nat × Array Nat × Nat) =>
 bb (pts b (.map es k.1)) (bb (pts r (.mapIter (some b) k.2.1 k.2.2.1 k.2.2.2)) (pr (dk ek ak es.toList kps ∧ (es.toList.map (·.born)).Nodup ∧ (∀ e ∈ es.toList, e.born < k.2.1) ∧ k.2.1 ≤ k.2.2.2 ∧ k.2.1 ≤ k.1 ∧ (leftOf es k.2.2.1).toList.map (·.key) = todo.map ek)))
def itJ (b r : Nat) (ek : α → Value) (kps : List (α × Nat)) (todo : List α) (x : α) : HA := exs fun (es : Array MapEntry) => exs fun (k : Nat × Nat × Array Nat × MapEntry) =>
 bb (pts b (.map es k.1)) (bb (pts r (.mapIter (some b) k.2.1 (k.2.2.1.push k.2.2.2.born) k.1)) (pr (dk ek ak es.toList kps ∧ (es.toList.map (·.born)).Nodup ∧ (∀ e ∈ es.toList, e.born < k.2.1) ∧ k.2.1 ≤ k.1 ∧ (leftOf es (k.2.2.1.push k.2.2.2.born)).toList.map (·.key) = todo.map ek ∧ k.2.2.2 ∈ es.toList ∧ k.2.2.2.key = ek x ∧ k.2.2.2.val = ak (da kps x))))
theorem wJ {b r : Nat} {ek : α → Value} {kps : List (α × Nat)} {todo : List α} {x : α} (h : Hp) (s : itJ b r ek kps todo x h) : itI b r ek kps todo h := by
 obtain ⟨es, ⟨c, u, D, e⟩, s⟩ := s
 refine ⟨es, ⟨c, u, D.push e.born, c⟩, ?_⟩
 exact bV h (fun h s => bV h (fun h ⟨h1, I, J, G, L, _⟩ => ⟨h1, I, J, G, G, L⟩) s) s
theorem wK {b r : Nat} {ek : α → Value} {kps : List (α × Nat)} {todo : List α} (h : Hp) (s : itI b r ek kps todo h) : bb (aj b ek ak kps) tt h := by
 obtain ⟨es, ⟨c, u, D, X⟩, h1, G, hd, I, J, h3, h4, L, U, hr, hp⟩ := s
 exact ⟨h1, G, hd, I, ⟨es, c, J, hp.1, hp.2.1, fun e h => Nat.lt_of_lt_of_le (hp.2.2.1 e h) hp.2.2.2.2.1⟩, trivial⟩
end
section
variable {K : Cx} {R S Y : Type} {Q : dw R} {E : Env} {H : List HA} {opt : Option R} {ops : Array Oper} {rest : List Oper} {o : Oper} {α β Z : Type} [DecidableEq α] {ek : α → Value} {fp : Nat → β → Z → List HA} {T VT t : TypeId} {b r : Nat} {kps : List (α × Nat)} {kvs : List (α × β)} {c : Code}
theorem Ent.into {A u X : HA} {l : List HA} (h : ∀ h, A h → bb u tt h) : Ent (bb A X :: l) (bb u X :: l) := by
 intro hp s
 have s1 : bb (bb A X) (aS l) hp := s
 rw [bj] at s1
 have D := gv hp h s1
 rw [bj] at D
 show bb (bb u X) (aS l) hp
 rw [bj]
 refine bV hp (fun h s => ?_) D
 have G := dI s
 exact bV h (fun h s => eP l tt h s) G
theorem yd {todo : List α} {l : List HA} : Ent (ao (itI b r ek kps todo) fp kps kvs :: l) (ao (aj b ek ak kps) fp kps kvs :: l) := Ent.into fun h s => wK h s
theorem ye {todo : List α} {x : α} {l : List HA} : Ent (ao (itJ b r ek kps todo x) fp kps kvs :: l) (ao (itI b r ek kps todo) fp kps kvs :: l) := Ent.into fun h s => jp (wJ h s)
theorem uM {x : Operand} (k : Nat) (G : o.op = .range t x) (L : Go.Proofs.YtndjkejhacfpdaaGreatDoor.ev E x = some (.map (some b))) (U : K.P.underlying t = some (.map T VT)) (I : H[k]? = some (ao (aj b ek ak kps) fp kps kvs)) :
  RE K (Y := Nat) o E H (fun r => .pointer (some ⟨r, 0, none⟩)) (fun r => H.set k (ao (itI b r ek kps (kps.map (·.1))) fp kps kvs)) :=
 gN (by rw [G]; intro c h; cases h) fun a w X s => by
  have hl : k < H.length := (List.getElem?_eq_some_iff.1 I).1
  have s1 : Sat K.W (aj b ek ak kps :: cm fp kps kvs :: H.eraseIdx k) w := s.ent (rT k I)
  obtain ⟨es, u, h1, h2, h3, J⟩ := s1.map_open
  have hb := J.pts_at (i := 0) rfl
  refine ⟨w.heap.size, { w with heap := w.heap.push (.mapIter (some b) u #[] u) }, ?_, ?_⟩
  ·unfold execOp; simp only [G]; rw [X.ev L]
   have := run_range_map (P := K.P) w t T VT b es u U hb
   rw [show w.alloc (.mapIter (some b) u #[] u) = { w with heap := w.heap.push (.mapIter (some b) u #[] u) } from rfl] at this
   simp [this]
  ·refine (J.new (.mapIter (some b) u #[] u)).ent ?_
   intro h s
   rw [← gL H k _ hl]
   have s3 : bb (pts w.heap.size (.mapIter (some b) u #[] u)) (bb (pts b (.map es u)) (bb (cm fp kps kvs) (aS (H.eraseIdx k)))) h := s
   show bb (bb (itI b w.heap.size ek kps (kps.map (·.1))) (cm fp kps kvs)) (aS (H.eraseIdx k)) h
   rw [bj]
   have D := dI s3
   rw [← bj] at D
   rw [← bj] at D
   rw [bj] at D
   refine gv h (fun h s => ⟨es, ⟨u, u, #[], u⟩, bV h (fun h s => ?_) s⟩) D
   rw [ej]
   refine ia.2 ⟨⟨h1, h2, h3, Nat.le_refl _, Nat.le_refl _, ?_⟩, iM s⟩
   have e1 : (leftOf es #[]).toList = es.toList := by simp [leftOf]
   rw [e1]
   have := congrArg (List.map (·.1)) h1
   simpa [dk, List.map_map, Function.comp_def] using this
theorem vD {es : Array MapEntry} {u : Array Nat} {e : MapEntry} (G : (es.toList.map (·.born)).Nodup) {i : Nat} (hi : (leftOf es u).toList[i]? = some e) : (leftOf es (u.push e.born)).toList = (leftOf es u).toList.eraseIdx i := by
 have I : (leftOf es (u.push e.born)).toList = ((leftOf es u).toList).filter fun x => !(x.born == e.born) := by
  simp only [leftOf, Array.toList_filter, List.filter_filter]
  congr 1
  funext x
  simp only [Array.contains_push, Bool.not_or]
  rw [Bool.and_comm]
 rw [I]
 have D : ((leftOf es u).toList.map (·.born)).Nodup := by
  simp only [leftOf, Array.toList_filter]
  exact (List.Sublist.map _ List.filter_sublist).nodup G
 generalize (leftOf es u).toList = l at hi D
 clear I G
 induction l generalizing i with
 | nil => simp at hi
 | cons a l ih =>
  rw [List.map_cons, List.nodup_cons] at D
  cases i with
  | zero =>
   simp at hi
   subst hi
   simp only [List.eraseIdx_zero, List.tail_cons, List.filter_cons, beq_self_eq_true, Bool.not_true, Bool.false_eq_true, if_false]
   rw [List.filter_eq_self]
   intro x J
   have : x.born ≠ a.born := fun e => D.1 (by rw [← e]; exact List.mem_map.2 ⟨x, J, rfl⟩)
   simp [this]
  | succ i =>
   simp only [List.getElem?_cons_succ] at hi
   have : a.born ≠ e.born := fun L => D.1 (by rw [L]; exact List.mem_map.2 ⟨e, List.mem_of_getElem? hi, rfl⟩)
   rw [List.eraseIdx_cons_succ, List.filter_cons, if_pos (by simp [this]), ih hi D.2]
theorem mV {γ δ : Type} (f : γ → δ) : ∀ (l : List γ) (i : Nat), (l.eraseIdx i).map f = (l.map f).eraseIdx i
 | [], _ => by simp
 | a :: l, 0 => by simp
 | a :: l, i + 1 => by simp [mV f l i]
theorem wL {es : Array MapEntry} {u : Array Nat} {e : MapEntry} (h : e ∈ (leftOf es u).toList) : e ∈ es.toList := by
 simp only [leftOf, Array.toList_filter, List.mem_filter] at h
 exact h.1
theorem vE {x : Operand} {d : Nat} {todo : List α} (k : Nat) (ho : o.op = .next x false) (hg : o.guard = none) (hd : o.dst = some d) (a1 : Nat.blt d K.n = true) (hx : Go.Proofs.YtndjkejhacfpdaaGreatDoor.ev E x = some (.pointer (some ⟨r, 0, none⟩)))
  (a6 : ∀ x y, ek x = ek y → x = y) (b1 : (kvs.map (·.1)).Nodup) (hk : H[k]? = some (ao (itI b r ek kps todo) fp kps kvs))
  (h0 : todo = [] → cc K Q ops rest ((d, .tuple #[.bool false]) :: E) H opt)
  (h1 : ∀ i z, todo[i]? = some z → (aU kvs z).isSome = true → cc K Q ops rest ((d, .tuple #[.bool true, ek z, ak (da kps z)]) :: E) (H.set k (ao (itJ b r ek kps (todo.eraseIdx i) z) fp kps kvs)) opt) : cc K Q ops (o :: rest) E H opt := by
 intro rr hr a w he s
 have hl : k < H.length := (List.getElem?_eq_some_iff.1 hk).1
 have s1 : Sat K.W (itI b r ek kps todo :: cm fp kps kvs :: H.eraseIdx k) w := s.ent (by
  intro h s
  rw [fF H k _ hk] at s
  have s1 : bb (bb (itI b r ek kps todo) (cm fp kps kvs)) (aS (H.eraseIdx k)) h := s
  rw [bj] at s1
  exact s1)
 have I : kps.map (·.1) = kvs.map (·.1) := by
  obtain ⟨_, _, _, _, _, ⟨_, _, _, _, hx, _⟩⟩ := s1.hp
  exact iC _ _ _ hx
 obtain ⟨ha, b3, b4, b5, ⟨es, ⟨D, u, G, c0⟩, hI⟩, ab⟩ := s1.hp
 have s2 : Sat K.W (pts r (.mapIter (some b) u G c0) :: pts b (.map es D) :: pr (dk ek ak es.toList kps ∧ (es.toList.map (·.born)).Nodup ∧ (∀ e ∈ es.toList, e.born < u) ∧ u ≤ c0 ∧ u ≤ D ∧ (leftOf es G).toList.map (·.key) = todo.map ek) :: cm fp kps kvs :: H.eraseIdx k) w := by
  refine ⟨s1.os, s1.tape, s1.output, s1.size, ?_⟩
  have s3 : bb (bb (pts b (.map es D)) (bb (pts r (.mapIter (some b) u G c0)) (pr _))) (aS (cm fp kps kvs :: H.eraseIdx k)) (hpw w) := ⟨ha, b3, b4, b5, hI, ab⟩
  rw [bj, bj] at s3
  exact dI s3
 have b6 := s2.pts_at (i := 0) rfl
 have b7 := s2.pts_at (i := 1) rfl
 obtain ⟨_, ⟨p1, p2, p3, p4, p5, p6⟩, _⟩ := s2.at (i := 2) rfl
 have L : ∀ v w', (Instr.next (.pointer (some ⟨r, 0, none⟩)) false o.type).run K.P w = .ok v w' → (execOp a.eval o).run K.P w = .ok (.value v) w' := by
  intro v w' h
  unfold execOp; simp only [ho]; rw [he.ev hx]
  simp [h]
 have J : ∀ c, o.op ≠ .defer c := by rw [ho]; intro c h; cases h
 refine wpListIn_plain hg fun K' a8 => ?_
 refine ⟨fun f _ => gO _ _, ?_⟩
 rw [Oper.semAt_eq _ _ _ J]
 rcases run_next_at (P := K.P) w o.type r b u c0 G es D b6 b7 p3 p4 with ⟨hz, hn⟩ | ⟨e, bc, w1, ch, hn⟩
 ·rw [L _ _ hn]
  have ht : todo = [] := by
   have : (leftOf es G).toList = [] := List.eq_nil_of_length_eq_zero (by simpa using hz)
   rw [this] at p6
   simpa using p6.symm
  refine a8 _ _ ?_
  rw [hd]
  exact h0 ht rr hr _ w (he.put _ a1) s
 ·rw [L _ _ hn]
  obtain ⟨i, hi⟩ := List.mem_iff_getElem?.1 bc
  have be : (todo.map ek)[i]? = some e.key := by rw [← p6, List.getElem?_map, hi]; rfl
  rw [List.getElem?_map] at be
  obtain ⟨z, hz, ad⟩ := Option.map_eq_some_iff.1 be
  have U := wL bc
  have af : (e.key, e.val) ∈ kps.map fun p => (ek p.1, ak p.2) := by
   rw [← (show es.toList.map (fun e => (e.key, e.val)) = _ from p1)]
   exact List.mem_map.2 ⟨e, U, rfl⟩
  obtain ⟨p, hp, al⟩ := List.mem_map.1 af
  simp only [Prod.mk.injEq] at al
  have c1 : p.1 = z := a6 _ _ (by rw [al.1, ad])
  have br : aU kps z = some p.2 := by rw [← c1]; exact pX (by rw [I]; exact b1) hp
  have X : e.val = ak (da kps z) := by rw [← al.2]; simp [da, br]
  have c3 : (aU kvs z).isSome = true := by rw [← gE kps kvs z I, br]; rfl
  refine a8 _ _ ?_
  rw [hd]
  have c4 : Sat K.W (pts r (.mapIter (some b) u G c0) :: pts b (.map es D) :: pr (dk ek ak es.toList kps ∧ (es.toList.map (·.born)).Nodup ∧ (∀ e ∈ es.toList, e.born < u) ∧ u ≤ c0 ∧ u ≤ D ∧ (leftOf es G).toList.map (·.key) = todo.map ek) :: cm fp kps kvs :: H.eraseIdx k) w1 := by
   rcases ch with rfl | rfl
   ·exact s2
   ·exact s2.drew _
  have s5 := c4.upd (o' := .mapIter (some b) u (G.push e.born) D)
  have := h1 i z hz c3 rr hr (a.put (some d) (.tuple #[.bool true, e.key, e.val])) (Go.ChangeMaps.setBlock w1 r (.mapIter (some b) u (G.push e.born) D)) (by rw [ad.symm, X]; exact he.put _ a1) (s5.ent ?_)
  ·exact this
  ·intro h s
   rw [← gL H k _ hl]
   show bb (bb (itJ b r ek kps (todo.eraseIdx i) z) (cm fp kps kvs)) (aS (H.eraseIdx k)) h
   rw [bj]
   have s6 : bb (pts r (.mapIter (some b) u (G.push e.born) D)) (bb (pts b (.map es D)) (bb (pr _) (bb (cm fp kps kvs) (aS (H.eraseIdx k))))) h := s
   have s7 := dI s6
   have s8 : bb (pts b (.map es D)) (bb (pts r (.mapIter (some b) u (G.push e.born) D)) (bb (pr (dk ek ak es.toList kps ∧ (es.toList.map (·.born)).Nodup ∧ (∀ x ∈ es.toList, x.born < u) ∧ u ≤ D ∧ (leftOf es (G.push e.born)).toList.map (·.key) = (todo.eraseIdx i).map ek ∧ e ∈ es.toList ∧ e.key = ek z ∧ e.val = ak (da kps z))) (bb (cm fp kps kvs) (aS (H.eraseIdx k))))) h :=
    bV h (fun h s => bV h (fun h s => gv h (fun h q => ⟨p1, p2, p3, p5, by
     rw [vD p2 hi, mV, p6, mV], U, ad.symm, X⟩) s) s) s7
   rw [← bj (pts r _), ← bj (pts b _)] at s8
   exact gv h (fun h s => ⟨es, ⟨D, u, G, e⟩, s⟩) s8
theorem xr {x : Operand} {todo : List α} {z : α} {H' : List HA} {X : HA} (ho : o.op = .entry x) (hx : Go.Proofs.YtndjkejhacfpdaaGreatDoor.ev E x = some (.pointer (some ⟨r, 0, none⟩))) (e : Ent H (itJ b r ek kps todo z :: X :: H')) :
  RQ K o E H (.tuple #[ek z, ak (da kps z)]) :=
 cM (by rw [ho]; intro c h; cases h) fun a w he s => by
  have s1 := s.ent e
  obtain ⟨ha, J, L, U, ⟨es, ⟨u, D, G, e⟩, hI⟩, I⟩ := s1.hp
  have s2 : Sat K.W (pts r (.mapIter (some b) D (G.push e.born) u) :: pts b (.map es u) :: pr (dk ek ak es.toList kps ∧ (es.toList.map (·.born)).Nodup ∧ (∀ e ∈ es.toList, e.born < D) ∧ D ≤ u ∧ (leftOf es (G.push e.born)).toList.map (·.key) = todo.map ek ∧ e ∈ es.toList ∧ e.key = ek z ∧ e.val = ak (da kps z)) :: X :: H') w := by
   refine ⟨s1.os, s1.tape, s1.output, s1.size, ?_⟩
   have s3 : bb (bb (pts b (.map es u)) (bb (pts r (.mapIter (some b) D (G.push e.born) u)) (pr _))) (aS (X :: H')) (hpw w) := ⟨ha, J, L, U, hI, I⟩
   rw [bj, bj] at s3
   exact dI s3
  have ad := s2.pts_at (i := 0) rfl
  have af := s2.pts_at (i := 1) rfl
  obtain ⟨_, ⟨p1, p2, p3, p4, p5, p6, p7, p8⟩, _⟩ := s2.at (i := 2) rfl
  unfold execOp; simp only [ho]; rw [he.ev hx]
  simp [run_entry_at (P := K.P) w r b D G es u e ad af p6 p2, p7, p8]
theorem yX {todo : List α} {z : α} (k : Nat) (u : H[k]? = some (ao (itJ b r ek kps todo z) fp kps kvs)) : Ent H (itJ b r ek kps todo z :: cm fp kps kvs :: H.eraseIdx k) := by
 intro h s
 rw [fF H k _ u] at s
 have s1 : bb (bb (itJ b r ek kps todo z) (cm fp kps kvs)) (aS (H.eraseIdx k)) h := s
 rw [bj] at s1
 exact s1
theorem oP {γ : Type} : ∀ (l : List γ) (i : Nat) (x : γ), l[i]? = some x → (x :: l.eraseIdx i).Perm l
 | [], i, x, h => by simp at h
 | a :: l, 0, x, h => by simp at h; subst h; exact List.Perm.refl _
 | a :: l, i + 1, x, h => by
  rw [List.eraseIdx_cons_succ]
  exact (List.Perm.swap a x _).trans (List.Perm.cons a (oP l i x (by simpa using h)))
theorem wM {o' : Option R} (e : ∀ r, opt = some r → o' = some r) (h : cc K Q ops rest E H o') : cc K Q ops rest E H opt := fun r u a w D G => h r (e r u) a w D G
def iW {β S R : Type} {α : Type} [DecidableEq α] [DecidableEq S] [DecidableEq β] (u : S → α → β → Option (S × β)) (o2 : S × List (α × β) → Option R) (k : Nat) (z : S × List (α × β) × List α) : Option R :=
 if z.2.2.length < k ∧ (z.2.1.map (·.1)).Nodup ∧ ∀ l ∈ jX z.2.2, gU u l z.1 z.2.1 = gU u z.2.2 z.1 z.2.1 then (gU u z.2.2 z.1 z.2.1).bind o2 else none
theorem uu [DecidableEq S] [DecidableEq β] {u : S → α → β → Option (S × β)} {o2 : S × List (α × β) → Option R} {k : Nat} {s : S} {todo : List α} {i : Nat} {x : α} {v : β} {rr : R} (hi : todo[i]? = some x) (hv : aU kvs x = some v)
  (h : iW u o2 (k + 1) (s, kvs, todo) = some rr) : ∃ z, u s x v = some z ∧ iW u o2 k (z.1, aX kvs x z.2, todo.eraseIdx i) = some rr := by
 unfold iW at h
 split at h
 ·rename_i hc
  obtain ⟨h1, h2, I⟩ := hc
  simp only at h1 h2 I h
  have h3 := fun l G => I l (pW G)
  have J := (List.getElem?_eq_some_iff.1 hi).1
  have D : ∀ l, l.Perm (todo.eraseIdx i) → (x :: l).Perm todo := fun l G => by
   have L : todo[i]'J = x := (List.getElem?_eq_some_iff.1 hi).2
   have X : (x :: todo.eraseIdx i).Perm todo := by
    rw [← L]
    exact oP _ _ _ (by rw [L]; exact hi)
   exact (List.Perm.cons x G).trans X
  rw [← h3 _ (D _ (List.Perm.refl _))] at h
  rw [gU, hv, Option.bind_some] at h
  cases hs : u s x v with
  | none => rw [hs] at h; cases h
  | some z =>
   refine ⟨z, rfl, ?_⟩
   rw [hs, Option.bind_some] at h
   unfold iW
   have af : (todo.eraseIdx i).length < k := by rw [List.length_eraseIdx_of_lt J]; omega
   have hn : ((aX kvs x z.2).map (·.1)).Nodup := by rw [oO (by rw [hv]; rfl)]; exact h2
   have U : ∀ l, l.Perm (todo.eraseIdx i) → gU u l z.1 (aX kvs x z.2) = gU u (todo.eraseIdx i) z.1 (aX kvs x z.2) := fun l G => by
    have L := h3 _ (D l G)
    have X := h3 _ (D _ (List.Perm.refl _))
    rw [gU, hv, Option.bind_some, hs, Option.bind_some] at L X
    rw [L, ← X]
   rw [if_pos ⟨af, hn, fun l G => U l (me G)⟩]
   exact h
 ·cases h
theorem uv [DecidableEq S] [DecidableEq β] {u : S → α → β → Option (S × β)} {o2 : S × List (α × β) → Option R} {k : Nat} {s : S} {D : R} (h : iW u o2 k (s, kvs, []) = some D) : o2 (s, kvs) = some D := by
 unfold iW at h
 split at h
 ·simpa [gU] using h
 ·cases h
theorem sC [DecidableEq S] [DecidableEq β] {u : S → α → β → Option (S × β)} {o2 : S × List (α × β) → Option R} {k : Nat} {s : S} {todo : List α} {D : R} (h : iW u o2 k (s, kvs, todo) = some D) : (kvs.map (·.1)).Nodup := by
 unfold iW at h
 split at h
 ·rename_i G; exact G.2.1
 ·cases h
theorem sD [DecidableEq S] [DecidableEq β] {u : S → α → β → Option (S × β)} {o2 : S × List (α × β) → Option R} {s : S} : (jC u s kvs).bind o2 = iW u o2 (kvs.length + 1) (s, kvs, kvs.map (·.1)) := by
 unfold jC iW
 simp only [List.length_map]
 by_cases hc : (kvs.map (·.1)).Nodup ∧ ∀ l ∈ jX (kvs.map (·.1)), gU u l s kvs = gU u (kvs.map (·.1)) s kvs
 ·rw [if_pos hc, if_pos ⟨by omega, hc⟩]
 ·rw [if_neg hc, if_neg (fun h => hc h.2)]; rfl
theorem uw [DecidableEq S] [DecidableEq β] {tI U X ab ad a6 : Nat} {body : Code} {a7 a8 : TypeId} {bc be : String} {br bs : Array Edge} {o2 : S × List (α × β) → Option R} (u : S → α → β → Option (S × β)) (G : S → Y → Env) (Hs : S → Y → List HA) (s0 : S) (y0 : Y)
  (al : ∀ x y, ek x = ek y → x = y) (b1 : ∀ s y, lk (G s y) tI = some (.pointer (some ⟨r, 0, none⟩))) (b2 : Nat.blt U K.n = true) (an : Nat.blt X K.n = true) (hS : ∀ s y v1 v2, Sub (G s y) ((X, v1) :: (U, v2) :: G s y))
  (hE : Sub (G s0 y0) E) (hH : Ent H (ao (itI b r ek kps (kps.map (·.1))) fp kps kvs :: Hs s0 y0))
  (hB : ∀ kvs todo s y x v, aU kvs x = some v → Sim K (jw K (fun (z : S × β) (y : Y) => G z.1 y) (fun z y => ao (itJ b r ek kps todo x) fp kps (aX kvs x z.2) :: Hs z.1 y)) (.block ad body) ((X, .bool true) :: (U, .tuple #[.bool true, ek x, ak (da kps x)]) :: G s y) (ao (itJ b r ek kps todo x) fp kps kvs :: Hs s y) (u s x v))
  (hN : ∀ kvs s y, Nrm K Q (G s y) (ao (aj b ek ak kps) fp kps kvs :: Hs s y) (o2 (s, kvs))) :
  Sim K (lB ab Q) (.loop (.seq (.region a6 [⟨some U, .next (.tmp tI) false, a7, bc, br, none⟩, ⟨some X, .extract (.tmp U) 0, a8, be, bs, none⟩].toArray false) (.seq (.cond (.tmp X) .skip (.exit ab)) (.block ad body)))) E H ((jC u s0 kvs).bind o2) := by
 have I : ∀ w, Sat K.W H w → kps.map (·.1) = kvs.map (·.1) := fun w s => by
  obtain ⟨_, _, _, _, ⟨_, _, _, _, _, hx⟩, _⟩ := (s.ent hH).hp
  exact iC _ _ _ hx
 intro J D a w he L
 have hk := I w L
 rw [sD] at D
 rw [hk] at hH
 refine (ck (S := S × List (α × β) × List α) Y (fun k z => iW u o2 k z) (fun z y => G z.1 y) (fun z y => ao (itI b r ek kps z.2.2) fp kps z.2.1 :: Hs z.1 y) (fun z => by unfold iW; rw [if_neg (by omega)]) ?_ (kvs.length + 1) (s0, kvs, kvs.map (·.1)) y0 hE hH) J D a w he L
 rintro k ⟨s, kvs, todo⟩ y
 refine ay (aI ?_)
 by_cases hnd : (kvs.map (·.1)).Nodup
 ·refine vE (todo := todo) (kvs := kvs) 0 rfl rfl rfl b2 (b1 s y) al hnd rfl (fun ht => ?_) (fun i x hi hx => ?_)
  ·subst ht
   refine jI (bI (vs := #[.bool false]) (v := .bool false) (i := 0) rfl (by simp [Go.Proofs.YtndjkejhacfpdaaGreatDoor.ev, lk]) rfl) rfl rfl an (ae (aa (ay (gq (by simp [Go.Proofs.YtndjkejhacfpdaaGreatDoor.ev, lk]) (cA ?_)))))
   refine ce (cl (cf ?_))
   intro J D a w he L
   have hh := hN kvs s y J (uv D) a w (he.sub ?_) (L.ent yd)
   ·exact hh
   ·exact hS s y _ _
  ·obtain ⟨v, hv⟩ := Option.isSome_iff_exists.1 hx
   refine wM (o' := (u s x v).bind fun z => iW u o2 k (z.1, aX kvs x z.2, todo.eraseIdx i)) (fun J D => ?_) ?_
   ·obtain ⟨z, h1, h2⟩ := uu hi hv D
    rw [h1]; exact h2
   ·refine jI (bI (vs := #[.bool true, ek x, ak (da kps x)]) (v := .bool true) (i := 0) rfl (by simp [Go.Proofs.YtndjkejhacfpdaaGreatDoor.ev, lk]) rfl) rfl rfl an (ae (aa (ay (gh (by simp [Go.Proofs.YtndjkejhacfpdaaGreatDoor.ev, lk]) (aC (aa ?_))))))
    intro J D a w he L
    obtain ⟨z, h1, h2⟩ := Option.bind_eq_some_iff.1 D
    refine wpIn_mono (hB kvs (todo.eraseIdx i) s y x v hv z h1 a w he L) ?_
    intro e a' w' hq
    cases e with
    | normal => obtain ⟨y', x1, x2⟩ := hq; exact ⟨(z.1, aX kvs x z.2, todo.eraseIdx i), y', h2, x1, x2.ent ye⟩
    | _ => exact hq.elim
 ·exact fun J D => absurd (sC D) hnd
theorem pY {D : S → α → β → Option S} : ∀ (l : List α) (s : S) (kvs : List (α × β)) (z : S × List (α × β)), gU (fun s x v => (D s x v).map fun G => (G, v)) l s kvs = some z → z.2 = kvs
 | [], s, kvs, z, h => by simp [gU] at h; rw [← h]
 | x :: l, s, kvs, z, h => by
  rw [gU] at h
  obtain ⟨v, I, h⟩ := Option.bind_eq_some_iff.1 h
  obtain ⟨u, J, h⟩ := Option.bind_eq_some_iff.1 h
  obtain ⟨G, _, rfl⟩ := Option.map_eq_some_iff.1 J
  rw [ke I] at h
  exact pY l _ _ _ h
theorem sE [DecidableEq S] [DecidableEq β] {u : S → α → β → Option S} {s : S} {z : S × List (α × β)} (h : jC (fun s x v => (u s x v).map fun D => (D, v)) s kvs = some z) : z.2 = kvs := by
 unfold jC at h
 split at h
 ·exact pY _ _ _ _ h
 ·cases h
theorem Ent.sameF {M : HA} {x : α} {v : β} {l m : List HA} (u : aU kvs x = some v) (r : Ent l (ao M fp kps kvs :: m)) : Ent l (ao M fp kps (aX kvs x v) :: m) := by rw [ke u]; exact r
theorem tV [DecidableEq S] [DecidableEq β] {tI G I J L af : Nat} {body : Code} {al an : TypeId} {a1 a6 : String} {a7 a8 : Array Edge} {o2 : S → Option R} (u : S → α → β → Option S) (D : S → Y → Env) (U : S → Y → List HA) (s0 : S) (y0 : Y)
  (X : ∀ x y, ek x = ek y → x = y) (be : ∀ s y, lk (D s y) tI = some (.pointer (some ⟨r, 0, none⟩))) (br : Nat.blt G K.n = true) (bs : Nat.blt I K.n = true) (hS : ∀ s y v1 v2, Sub (D s y) ((I, v1) :: (G, v2) :: D s y))
  (hE : Sub (D s0 y0) E) (hH : Ent H (ao (itI b r ek kps (kps.map (·.1))) fp kps kvs :: U s0 y0))
  (hB : ∀ kvs todo s y x v, aU kvs x = some v → Sim K (jw K (fun (z : S) (y : Y) => D z y) (fun z y => ao (itJ b r ek kps todo x) fp kps kvs :: U z y)) (.block L body) ((I, .bool true) :: (G, .tuple #[.bool true, ek x, ak (da kps x)]) :: D s y) (ao (itJ b r ek kps todo x) fp kps kvs :: U s y) (u s x v))
  (hN : ∀ s y, Nrm K Q (D s y) (ao (aj b ek ak kps) fp kps kvs :: U s y) (o2 s)) :
  Sim K (lB J Q) (.loop (.seq (.region af [⟨some G, .next (.tmp tI) false, al, a1, a7, none⟩, ⟨some I, .extract (.tmp G) 0, an, a6, a8, none⟩].toArray false) (.seq (.cond (.tmp I) .skip (.exit J)) (.block L body)))) E H ((mH u s0 kvs).bind o2) := by
 have e : (mH u s0 kvs).bind o2 = (jC (fun s x v => (u s x v).map fun s' => (s', v)) s0 kvs).bind fun z => if z.2 = kvs then o2 z.1 else none := by
  unfold mH
  cases h : jC (fun s x v => (u s x v).map fun s' => (s', v)) s0 kvs with
  | none => rfl
  | some z => simp [sE h]
 rw [e]
 refine uw (o2 := fun z => if z.2 = kvs then o2 z.1 else none) _ D U s0 y0 X be br bs hS hE hH (fun kvs todo s y x v hv => ?_) (fun ad s y => ?_)
 ·intro z hz a w he hs
  obtain ⟨s', h1, rfl⟩ := Option.map_eq_some_iff.1 hz
  refine wpIn_mono (hB kvs todo s y x v hv s' h1 a w he hs) ?_
  intro e a' w' hq
  cases e with
  | normal => obtain ⟨y', x1, x2⟩ := hq; exact ⟨y', x1, x2.ent (Ent.sameF hv (Ent.refl _))⟩
  | _ => exact hq.elim
 ·by_cases hk : ad = kvs
  ·subst hk; simpa using hN s y
  ·simp only [hk, if_false]; exact vP
end
theorem sl {P : Program} {W : World} {F O : HA} {f b : Nat} {args : List Value} {β Z Y : Type} {ek : List UInt8 → Value} {fp : Nat → β → Z → List HA} {kps : List (List UInt8 × Nat)} {kvs : List (List UInt8 × β)} {val : List (List UInt8) → Y → Value} {B : List (List UInt8) → Y → HA}
  (h : ∀ F, Fn P W f args [O, aj b ek ak kps] F (if (kps.map (·.1)).Nodup ∧ kps.length * 16 ≤ 140737488355328 ∧ ∀ p ∈ kps, p.1.length ≤ 140737488351232 then some (ez kps) else none) val (fun r y => [B r y, O, aj b ek ak kps])) :
  Fn P W f args [O, ao (aj b ek ak kps) fp kps kvs] F (if (kvs.map (·.1)).Nodup ∧ kvs.length * 16 ≤ 140737488355328 ∧ ∀ p ∈ kvs, p.1.length ≤ 140737488351232 then some (ez kvs) else none) val (fun r y => [B r y, O, ao (aj b ek ak kps) fp kps kvs]) := by
 intro r I w X
 have D : Sat W (ao (aj b ek ak kps) fp kps kvs :: [O, F]) w := X.ent (Ent.sel 1 rfl (Ent.sel 0 rfl (Ent.sel 0 rfl (Ent.nil _))))
 have u : kps.map (·.1) = kvs.map (·.1) := by
  obtain ⟨_, _, _, _, ⟨_, _, _, _, _, hx⟩, _⟩ := D.hp
  exact iC _ _ _ hx
 have G : kps.length = kvs.length := by simpa using congrArg List.length u
 have J : ez kps = ez kvs := by unfold ez; rw [u]
 split at I
 ·rename_i L
  cases I
  have U : (kps.map (·.1)).Nodup ∧ kps.length * 16 ≤ 140737488355328 ∧ ∀ p ∈ kps, p.1.length ≤ 140737488351232 := by
   refine ⟨by rw [u]; exact L.1, by rw [G]; exact L.2.1, fun p hp => ?_⟩
   have : p.1 ∈ kvs.map (·.1) := by rw [← u]; exact List.mem_map.2 ⟨p, hp, rfl⟩
   obtain ⟨q, hq, e⟩ := List.mem_map.1 this
   rw [← e]; exact L.2.2 q hq
  have := h (bb (cm fp kps kvs) F) (ez kvs) (by rw [if_pos U, J]) w (D.ent ?_)
  ·refine this.mono ?_
   rintro e w' ⟨y, rfl, s⟩
   refine ⟨y, rfl, s.ent ?_⟩
   intro h s
   have s1 : bb (B (ez kvs) y) (bb O (bb (aj b ek ak kps) (bb (bb (cm fp kps kvs) F) tt))) h := s
   refine bV h (fun h s => bV h (fun h s => ?_) s) s1
   show bb (bb (aj b ek ak kps) (cm fp kps kvs)) (bb F tt) h
   rw [bj] at s
   rw [bj]
   exact s
  ·intro h s
   have s1 : bb (bb (aj b ek ak kps) (cm fp kps kvs)) (bb O (bb F tt)) h := s
   show bb O (bb (aj b ek ak kps) (bb (bb (cm fp kps kvs) F) tt)) h
   rw [bj] at s1
   have s2 := bV h (fun h s => dI s) s1
   have s3 := dI s2
   refine bV h (fun h s => bV h (fun h s => ?_) s) s3
   rw [bj]
   exact s
 ·cases I
section
variable {K : Cx} {E : Env} {H : List HA} {o : Oper} {α : Type} {n : Nat} {V : α → List Value → Prop} {xs : List α}
end
theorem am.empty {α : Type} {T n c : Nat} {V u : α → List Value → Prop} {a : Option Addr} {p : Hp} (h : am T n V a ([] : List α) c p) : am T n u a ([] : List α) c p := by
 obtain ⟨rs, D, G⟩ := h
 cases rs with
 | nil => exact ⟨[], trivial, G⟩
 | cons r rs => exact D.elim
end Go.Proofs.YtndjkejhacfpdaaGreatDoor

namespace Go.Proofs.YtndjkejhacfpdaaGreatDoor
open Go.RowKit
def vJ (T : TypeId) (F : HA) (a : Option Addr) (c : Nat) : Prop := ∀ h, F h → c = 0 ∨ ∃ b off, a = some ⟨b, off, none⟩ ∧ ∃ (l : List Value) (fz : Nat × Nat), h b = some (.cells l.toArray T fz) ∧ off + c ≤ l.length ∧ (fz.1 = fz.2 ∨ off + c ≤ fz.1)
theorem vJ.row {T : TypeId} {a : Option Addr} {n c : Nat} {cs : List Value} : vJ T (Row T 1 a n c cs) a c := by
 rintro h (⟨rfl, rfl, rfl, rfl⟩ | ⟨b, off, pre, junk, fz, rfl, ok, u⟩)
 ·exact .inl rfl
 ·have h1 := ok.room; have G := ok.offs; have D := ok.fzok
  refine .inr ⟨b, off, rfl, _, fz, u, ?_, ?_⟩
  ·simp only [List.length_append]; omega
  ·rcases D with h | h
   ·exact .inl h
   ·right; omega
structure RdW (T : TypeId) (F : HA) (a : Option Addr) (c : Nat) (cs : List Value) : Prop where
 rd : Rd F a cs
 cap : vJ T F a c
theorem RdW.row {T : TypeId} {a : Option Addr} {n c : Nat} {cs : List Value} (h : Rd (Row T 1 a n c cs) a cs) : RdW T (Row T 1 a n c cs) a c cs := ⟨h, .row⟩
theorem RdW.none {T : TypeId} {F : HA} : RdW T F none 0 [] := ⟨.inl rfl, fun _ _ => .inl rfl⟩
def UpC (G F : HA) : Prop := ∀ h, F h → ∃ g, G g ∧ ∀ b o, g b = some o → h b = some o
theorem UpC.refl (F : HA) : UpC F F := fun h x => ⟨h, x, fun _ _ e => e⟩
theorem UpC.trans {A B C : HA} (u : UpC A B) (v : UpC B C) : UpC A C := fun h x => by
 obtain ⟨g, D, e⟩ := v h x
 obtain ⟨f, G, I⟩ := u g D
 exact ⟨f, G, fun b o y => e b o (I b o y)⟩
theorem UpC.lend {F : HA} {l : List HA} (k : Nat) (u : l[k]? = some F) : UpC F (aS l) := fun h x => jH l k F u h x
theorem UpC.up {G F : HA} (u : UpC G F) : Up G F := fun a cs r => by
 rcases r with h | ⟨b, off, D, I⟩
 ·exact .inl h
 ·refine .inr ⟨b, off, D, fun h x => ?_⟩
  obtain ⟨g, J, e⟩ := u h x
  obtain ⟨l, T, fz, h1, L⟩ := I g J
  exact ⟨l, T, fz, e _ _ h1, L⟩
theorem RdW.up {T : TypeId} {G F : HA} {a : Option Addr} {c : Nat} {cs : List Value} (r : RdW T G a c cs) (u : UpC G F) : RdW T F a c cs :=
 ⟨u.up _ _ r.rd, fun h x => by
  obtain ⟨g, D, e⟩ := u h x
  rcases r.cap g D with h0 | ⟨b, off, I, l, fz, h1, J⟩
  ·exact .inl h0
  ·exact .inr ⟨b, off, I, l, fz, e _ _ h1, J⟩⟩
/-! ### What may be written -/
def lm (h : Hp) (b : Nat) (o : Obj) : Hp := fun i => if i = b then some o else h i
def Shp (z : HA) : HA := fun D => ∃ h, z h ∧ ∀ b (l : List Value) T fz, h b = some (.cells l.toArray T fz) → ∃ u : List Value, D b = some (.cells u.toArray T fz) ∧ u.length = l.length
theorem Shp.of {z : HA} (h : Hp) (x : z h) : Shp z h := ⟨h, x, fun _ l _ _ e => ⟨l, e, rfl⟩⟩
def Wrt (T : TypeId) (J : HA) (a : Option Addr) (c : Nat) : Prop := ∀ h, J h → c = 0 ∨ ∃ b off, a = some ⟨b, off, none⟩ ∧ ∃ (l : List Value) (fz : Nat × Nat), h b = some (.cells l.toArray T fz) ∧ off + c ≤ l.length ∧ (fz.1 = fz.2 ∨ off + c ≤ fz.1) ∧
 ∀ u : List Value, u.length = l.length → J (lm h b (.cells u.toArray T fz))
def UpW (J u : HA) : Prop := ∀ T a c, Wrt T J a c → Wrt T u a c
theorem UpW.refl (J : HA) : UpW J J := fun _ _ _ h => h
theorem UpW.trans {A B C : HA} (u : UpW A B) (v : UpW B C) : UpW A C := fun T a c h => v T a c (u T a c h)
theorem Wrt.up {T : TypeId} {J D : HA} {a : Option Addr} {c : Nat} (h : Wrt T J a c) (u : UpW J D) : Wrt T D a c := u T a c h
theorem UpW.star {A J : HA} : UpW J (bb A J) := by
 rintro T a c r h ⟨x, y, d, rfl, u, D⟩
 rcases r y D with h0 | ⟨b, off, G, l, fz, h1, I, L, U⟩
 ·exact .inl h0
 ·refine .inr ⟨b, off, G, l, fz, oe d h1, I, L, fun m X => ⟨x, lm y b (.cells m.toArray T fz), ?_, ?_, u, U m X⟩⟩
  ·intro i
   by_cases hi : i = b
   ·subst hi
    rcases d i with e | e
    ·exact .inl e
    ·rw [h1] at e; cases e
   ·simpa [lm, hi] using d i
  ·funext i
   by_cases hi : i = b
   ·subst hi
    rcases d i with e | e
    ·simp [lm, un, e]
    ·rw [h1] at e; cases e
   ·simp [lm, un, hi]
def Blk (T : TypeId) (b s : Nat) : HA := fun h => ∃ l : List Value, h b = some (.cells l.toArray T (0, 0)) ∧ l.length = s
theorem Wrt.blk {T : TypeId} {b s c : Nat} {J : HA} (G : c ≤ s) : Wrt T (bb (Blk T b s) J) (some ⟨b, 0, none⟩) c := by
 rintro h ⟨x, y, d, rfl, ⟨l, u, I⟩, D⟩
 refine .inr ⟨b, 0, rfl, l, (0, 0), lz u, by omega, .inl rfl, fun m L => ⟨lm x b (.cells m.toArray T (0, 0)), y, ?_, ?_, ⟨m, by simp [lm], by omega⟩, D⟩⟩
 ·intro i
  by_cases hi : i = b
  ·subst hi
   rcases d i with e | e
   ·rw [u] at e; cases e
   ·exact .inr e
  ·simpa [lm, hi] using d i
 ·funext i
  by_cases hi : i = b
  ·subst hi; simp [lm, un]
  ·simp [lm, un, hi]
section
variable {K : Cx} {R S Y : Type} {Q : dw R} {E : Env} {H : List HA} {opt : Option R} {ops : Array Oper} {rest : List Oper} {o : Oper}
end
end Go.Proofs.YtndjkejhacfpdaaGreatDoor

namespace Go.Proofs.YtndjkejhacfpdaaGreatDoor
open Go.RowKit
theorem lY {n : Int} {b : UInt8} {cs : List Value} {u : List UInt8} (h : (b.toNat : Int) = n) (t : cs = aB u) : Value.int .u8 n :: cs = aB (b :: u) := by
 subst h; subst t; rfl
theorem xq : ([] : List Value) = aB [] := rfl
section
variable {K : Cx} {R S Y : Type} {Q : dw R} {E : Env} {H : List HA} {opt : Option R} {ops : Array Oper} {rest : List Oper} {o : Oper}
theorem uI {x : Operand} {t : TypeId} {lo hi : Option Operand} {s : List UInt8} {u D : Option Value} {lo' hi' : Int} (I : o.op = .slice t x lo hi none) (J : ev E x = some (str s))
  (L : lim E lo = some u) (U : lim E hi = some D) (X : K.P.underlying t = some .string)
  (h1 : (D = none ∧ hi' = (s.length : Int)) ∨ ∃ k, D = some (.int k hi')) (h2 : (u = none ∧ lo' = 0) ∨ ∃ k, u = some (.int k lo')) (G : 0 ≤ lo' ∧ lo' ≤ hi' ∧ hi' ≤ (s.length : Int)) :
  RQ K o E H (str (cut s lo' hi')) := by
 obtain ⟨a, rfl⟩ := Int.eq_ofNat_of_zero_le G.1
 obtain ⟨b, rfl⟩ := Int.eq_ofNat_of_zero_le (Int.le_trans G.1 G.2.1)
 have q := vM (K := K) (E := E) (H := H) (o := o) (s := s) (l := a) (h := b) I J L U X (by rcases h1 with ⟨x, y⟩ | y; exact .inl ⟨x, by omega⟩; exact .inr y) (by rcases h2 with ⟨x, y⟩ | y; exact .inl ⟨x, by omega⟩; exact .inr y) (by omega) (by omega)
 simpa [cut] using q
end
/-! ### Functions of the library -/
theorem yw {P : Program} {W : World} {F : HA} {f : FuncId} {args : List Value} {R Y : Type} {p : Prop} [Decidable p] {r : R} {val : R → Y → Value} {A : List HA} {B : R → Y → List HA} (h : p → Fn P W f args A F (some r) val B) :
  Fn P W f args A F (if p then some r else none) val B := fun D u w G => by
 split at u
 ·rename_i hp; exact h hp D u w G
 ·cases u
/-! ### What the library's variables hold -/
def kg (F : HA) (w : World) : Prop := ∃ a, F a ∧ ∀ j o, a j = some o → w.heap[j]? = some o
structure Glb (P : Program) (F : HA) : Prop where
 pow : ∀ w, kg F w → Lib.TabIs P w "internal/strconv.uint64pow10" .u64 Lib.pow10Tab
 syn : (P.globalNamed "strconv.ErrSyntax").isSome = true → ∀ w, kg F w → ∃ t p, w.var? P "strconv.ErrSyntax" = some #[.iface t p]
 rng : (P.globalNamed "strconv.ErrRange").isSome = true → ∀ w, kg F w → ∃ t p, w.var? P "strconv.ErrRange" = some #[.iface t p]
theorem kg.lend {F : HA} {l : List HA} {w : World} (k : Nat) (u : l[k]? = some F) (h : kg (aS l) w) : kg F w := by
 obtain ⟨a, D, e⟩ := h
 obtain ⟨b, G, I⟩ := jH l k F u a D
 exact ⟨b, G, fun j o x => e j o (I j o x)⟩
theorem Glb.lend {P : Program} {F : HA} {l : List HA} (h : Glb P F) (k : Nat) (u : l[k]? = some F) : Glb P (aS l) :=
 ⟨fun w x => h.pow w (x.lend k u), fun e w x => h.syn e w (x.lend k u), fun e w x => h.rng e w (x.lend k u)⟩
theorem Sat.holds {W w : World} {l : List HA} {F : HA} (s : Sat W (l ++ [F]) w) : kg F w := s.at (i := l.length) (by simp)
theorem ur (w : World) (k : Nat) (os : Array Obj) : Below w.heap.size w (Sort.grow (w.drewN k) os) := by
 refine ⟨rfl, rfl, rfl, by simp [Sort.grow, World.drewN], fun j u => ?_⟩
 show (w.heap ++ os)[j]? = _
 rw [Array.getElem?_append_left u]
theorem xn {P : Program} {W : World} {F : HA} {f : FuncId} {args : List Value} {n : Int} (G : Glb P F)
  (I : ∀ w, Lib.TabIs P w "internal/strconv.uint64pow10" .u64 Lib.pow10Tab → Calls P f args.toArray w fun e u => e = .returned (.string ⟨(Lib.itoa n).toArray⟩) ∧ ∃ k os, u = Sort.grow (w.drewN k) os) :
  Fn P W f args [] F (some (Lib.itoa n)) (fun (r : List UInt8) (_ : Unit) => str r) (fun _ _ => []) := fun U J w D => by
 cases J
 exact (I w (G.pow w D.holds)).mono fun e u ⟨h1, k, os, L⟩ => ⟨(), h1, by subst L; exact D.below (ur w k os)⟩
def wz (ok : Bool) (T : TypeId) (y : Nat) : Value := match ok with
 | true => .nilIface
 | false => .iface T (.pointer (some ⟨y, 0, none⟩))
section
variable {K : Cx} {E : Env} {H : List HA} {o : Oper}
theorem xP {u J T : TypeId} {x : Operand} {ok : Bool} {y : Nat} {L : _} (D : o.op = .binOp .eql u x (.const .nilIface) J) (U : ev E x = some (wz ok T y)) (G : K.P.underlying u = some (.interface L)) : RQ K o E H (.bool ok) :=
 cM (by rw [D]; intro c h; cases h) fun a w I _ => by
  unfold execOp; simp only [D]; rw [I.ev U, I.ev (x := .const .nilIface) rfl]
  cases ok with
  | true =>
   have e : (Op.equal u .nilIface .nilIface).run K.P w = .ok true w := by
    rw [show Op.equal u .nilIface .nilIface = Op.equalIn (9999 + 1) u .nilIface .nilIface from rfl, Op.equalIn]
    simp [underlying, program, Sem.run, G]
   simp [wz, eqGuard, binOp, e]
  | false =>
   have e : (Op.equal u (.iface T (.pointer (some ⟨y, 0, none⟩))) .nilIface).run K.P w = .ok false w := by
    rw [show Op.equal u (.iface T (.pointer (some ⟨y, 0, none⟩))) .nilIface = Op.equalIn (9999 + 1) u (.iface T (.pointer (some ⟨y, 0, none⟩))) .nilIface from rfl, Op.equalIn]
    simp [underlying, program, Sem.run, G]
   simp [wz, eqGuard, binOp, e]
end
end Go.Proofs.YtndjkejhacfpdaaGreatDoor

namespace Go.Proofs.YtndjkejhacfpdaaGreatDoor
open Go.RowKit
theorem Ent.perm {l m : List HA} (p : l.Perm m) : Ent l m := by
 induction p with
 | nil => exact Ent.refl _
 | cons a _ ih => exact Ent.cons ih
 | swap a b l => exact Ent.sel 1 rfl (Ent.refl _)
 | trans _ _ ih1 ih2 => exact ih1.trans ih2
def kj (γ : Nat → Nat) (i z : Nat) : Nat → Nat := fun j => if Nat.beq j i then z else γ j
section
variable {K : Cx} {R S Y : Type} {Q : dw R} {E : Env} {H : List HA} {o : Option R}
def yu (K : Cx) (ops : Array Oper) (u : List (List Nat)) (val : (Nat → Nat) → Nat → Value) (add : (Nat → Nat) → Nat → List HA) (E : Env) (H X : List HA) (i : Nat) (pre : List Nat) (γ : Nat → Nat) : Prop :=
 ∃ D, ops[i]? = some D ∧ ∃ G, dV ops u (val γ) E i G ∧ GOk ops D G ∧
  (∀ z, gK pre (val (kj γ i z)) (val γ) ∧ All pre fun q => add (kj γ i z) q = add γ q) ∧
  RE K (Y := Nat) D G (H ++ X) (fun z => val (kj γ i z) i) (fun z => H ++ (add (kj γ i z) i ++ X))
theorem yu.mk {ops : Array Oper} {u : List (List Nat)} {Z : Type} {val : (Nat → Nat) → Nat → Value} {add : (Nat → Nat) → Nat → List HA} {X : List HA} {i : Nat} {pre : List Nat} {γ : Nat → Nat} {D : Oper} {v : Z → Value} {H' : Z → List HA} (G : Env) (f : Z → Nat) (I : ops[i]? = some D) (J : D.guard = none) (L : dV ops u (val γ) E i G)
  (U : ∀ z, gK pre (val (kj γ i z)) (val γ)) (hb : ∀ z, All pre fun q => add (kj γ i z) q = add γ q)
  (h : RE K (Y := Z) D G (H ++ X) v H') (hv : ∀ z, D.dst = none ∨ v z = val (kj γ i (f z)) i) (hH : ∀ z, Ent (H' z) (H ++ (add (kj γ i (f z)) i ++ X))) : yu K ops u val add E H X i pre γ :=
 ⟨D, I, G, L, .inl J, fun z => ⟨U z, hb z⟩, fun a w hh hs next Q hn => h a w hh hs next Q fun z w' s => by
  have := hn (f z) w' (s.ent (hH z))
  rcases hv z with e | e
  ·rw [e] at this ⊢; exact this
  ·rw [e]; exact this⟩
end
/-! ### Functions in cells -/
section
variable {K : Cx} {E : Env} {H : List HA} {o : Oper}
end
end Go.Proofs.YtndjkejhacfpdaaGreatDoor

namespace Go.Proofs.YtndjkejhacfpdaaGreatDoor
open Go.RowKit Go.Maps Go.Sort Go.Shelf
def lg : Go.Shelf.Ren := ⟨fun | 6 => 69 | 8 => 96 | 9 => 97 | 11 => 116 | 13 => 118 | 12 => 117 | 23 => 137 | 24 => 138 | 14 => 128 | 15 => 129 | 16 => 130 | 17 => 131 | 18 => 132 | 19 => 133 | 20 => 134 | 21 => 135 | 22 => 136 | 25 => 144 | 26 => 145 | 27 => 146 | 28 => 147 | 29 => 148 | 30 => 149 | 31 => 152 | n => n, fun | 26 => 9 | 28 => 119 | 24 => 60 | 0 => 0 | 3 => 3 | 37 => 169 | 48 => 149 | 50 => 174 | 4 => 4 | 40 => 190 | 39 => 189 | 45 => 26 | 5 => 5 | 9 => 9 | 51 => 202 | 55 => 206 | 57 => 208 | 58 => 70 | 33 => 106 | n => n, fun | n => n⟩
theorem su : Go.Proofs.SlLaysZ.n6 Tryz.prog lg := {
 mixed := by kernel_rfl
 f6 := ⟨Tryz.f69.name, by decide, Tryz.func69.trans (congrArg some (by kernel_rfl))⟩
 f8 := ⟨Tryz.f96.name, by decide, Tryz.func96.trans (congrArg some (by kernel_rfl))⟩
 f11 := ⟨Tryz.f116.name, by decide, Tryz.func116.trans (congrArg some (by kernel_rfl))⟩
 t0 := Tryz.underlying0
 a0 := Tryz.isAgg0
 z0 := Tryz.sizeOf0
 v0 := Tryz.zeroValue0
 t24 := Tryz.underlying60
 a24 := Tryz.isAgg60
 z24 := Tryz.sizeOf60
 v24 := Tryz.zeroValue60
 t26 := Tryz.underlying9
 a26 := Tryz.isAgg9
 z26 := Tryz.sizeOf9
 v26 := Tryz.zeroValue9
 t28 := Tryz.underlying119
 a28 := Tryz.isAgg119
 z28 := Tryz.sizeOf119
 v28 := Tryz.zeroValue119
 i26 := by kernel_rfl }
def mQ : Go.Shelf.Ren := ⟨fun | 10 => 98 | n => n, fun | 33 => 106 | 23 => 95 | 0 => 0 | 4 => 4 | 26 => 9 | 3 => 107 | n => n, fun | n => n⟩
theorem wp : Go.Proofs.SlLaysZ.n10 Tryz.prog mQ := {
 mixed := by kernel_rfl
 f10 := ⟨Tryz.f98.name, by decide, Tryz.func98.trans (congrArg some (by kernel_rfl))⟩
 t0 := Tryz.underlying0
 a0 := Tryz.isAgg0
 z0 := Tryz.sizeOf0
 v0 := Tryz.zeroValue0
 t4 := Tryz.underlying4
 a4 := Tryz.isAgg4
 z4 := Tryz.sizeOf4
 v4 := Tryz.zeroValue4
 t23 := Tryz.underlying95
 a23 := Tryz.isAgg95
 z23 := Tryz.sizeOf95
 v23 := Tryz.zeroValue95
 t26 := Tryz.underlying9
 a26 := Tryz.isAgg9
 z26 := Tryz.sizeOf9
 v26 := Tryz.zeroValue9
 t33 := Tryz.underlying106
 a33 := Tryz.isAgg106
 z33 := Tryz.sizeOf106
 v33 := Tryz.zeroValue106 }
def rH : Go.Shelf.Ren := ⟨fun | 6 => 97 | 8 => 118 | 9 => 117 | 19 => 137 | 20 => 138 | 21 => 128 | 22 => 129 | 23 => 130 | 24 => 131 | 25 => 132 | 26 => 133 | 27 => 134 | 28 => 135 | 29 => 136 | 36 => 144 | 31 => 145 | 32 => 146 | 37 => 147 | 38 => 148 | 39 => 149 | 41 => 152 | n => n, fun | 27 => 60 | 29 => 9 | 3 => 3 | 32 => 169 | 26 => 60 | 0 => 0 | 44 => 149 | 46 => 174 | 4 => 4 | 36 => 190 | 35 => 189 | 41 => 26 | 5 => 5 | 9 => 9 | 53 => 202 | 57 => 206 | 63 => 208 | 64 => 70 | n => n, fun | n => n⟩
theorem rJ : Go.Proofs.SlLaysM.n6 Tryz.prog rH := {
 mixed := by kernel_rfl
 f6 := ⟨Tryz.f97.name, by decide, Tryz.func97.trans (congrArg some (by kernel_rfl))⟩
 f8 := Tryz.func118.trans (congrArg some (by kernel_rfl))
 f9 := ⟨Tryz.f117.name, by decide, Tryz.func117.trans (congrArg some (by kernel_rfl))⟩
 f19 := Tryz.func137.trans (congrArg some (by kernel_rfl))
 f20 := Tryz.func138.trans (congrArg some (by kernel_rfl))
 f21 := ⟨Tryz.f128.name, by decide, Tryz.func128.trans (congrArg some (by kernel_rfl))⟩
 f22 := ⟨Tryz.f129.name, by decide, Tryz.func129.trans (congrArg some (by kernel_rfl))⟩
 f23 := ⟨Tryz.f130.name, by decide, Tryz.func130.trans (congrArg some (by kernel_rfl))⟩
 f24 := ⟨Tryz.f131.name, by decide, Tryz.func131.trans (congrArg some (by kernel_rfl))⟩
 f25 := ⟨Tryz.f132.name, by decide, Tryz.func132.trans (congrArg some (by kernel_rfl))⟩
 f26 := ⟨Tryz.f133.name, by decide, Tryz.func133.trans (congrArg some (by kernel_rfl))⟩
 f27 := ⟨Tryz.f134.name, by decide, Tryz.func134.trans (congrArg some (by kernel_rfl))⟩
 f28 := ⟨Tryz.f135.name, by decide, Tryz.func135.trans (congrArg some (by kernel_rfl))⟩
 f29 := ⟨Tryz.f136.name, by decide, Tryz.func136.trans (congrArg some (by kernel_rfl))⟩
 f31 := Tryz.func145.trans (congrArg some (by kernel_rfl))
 f32 := Tryz.func146.trans (congrArg some (by kernel_rfl))
 f36 := ⟨Tryz.f144.name, by decide, Tryz.func144.trans (congrArg some (by kernel_rfl))⟩
 f37 := ⟨Tryz.f147.name, by decide, Tryz.func147.trans (congrArg some (by kernel_rfl))⟩
 f38 := ⟨Tryz.f148.name, by decide, Tryz.func148.trans (congrArg some (by kernel_rfl))⟩
 f39 := ⟨Tryz.f149.name, by decide, Tryz.func149.trans (congrArg some (by kernel_rfl))⟩
 f41 := ⟨Tryz.f152.name, by decide, Tryz.func152.trans (congrArg some (by kernel_rfl))⟩
 t0 := Tryz.underlying0
 a0 := Tryz.isAgg0
 z0 := Tryz.sizeOf0
 v0 := Tryz.zeroValue0
 t3 := Tryz.underlying3
 a3 := Tryz.isAgg3
 z3 := Tryz.sizeOf3
 v3 := Tryz.zeroValue3
 t4 := Tryz.underlying4
 a4 := Tryz.isAgg4
 z4 := Tryz.sizeOf4
 v4 := Tryz.zeroValue4
 t5 := Tryz.underlying5
 a5 := Tryz.isAgg5
 z5 := Tryz.sizeOf5
 v5 := Tryz.zeroValue5
 t9 := Tryz.underlying9
 a9 := Tryz.isAgg9
 z9 := Tryz.sizeOf9
 v9 := Tryz.zeroValue9
 t26 := Tryz.underlying60
 a26 := Tryz.isAgg60
 z26 := Tryz.sizeOf60
 v26 := Tryz.zeroValue60
 t27 := Tryz.underlying60
 a27 := Tryz.isAgg60
 z27 := Tryz.sizeOf60
 v27 := Tryz.zeroValue60
 t29 := Tryz.underlying9
 a29 := Tryz.isAgg9
 z29 := Tryz.sizeOf9
 v29 := Tryz.zeroValue9
 t32 := Tryz.underlying169
 a32 := Tryz.isAgg169
 z32 := Tryz.sizeOf169
 v32 := Tryz.zeroValue169
 t35 := Tryz.underlying189
 a35 := Tryz.isAgg189
 z35 := Tryz.sizeOf189
 v35 := Tryz.zeroValue189
 t36 := Tryz.underlying190
 a36 := Tryz.isAgg190
 z36 := Tryz.sizeOf190
 v36 := Tryz.zeroValue190
 t41 := Tryz.underlying26
 a41 := Tryz.isAgg26
 z41 := Tryz.sizeOf26
 v41 := Tryz.zeroValue26
 t44 := Tryz.underlying149
 a44 := Tryz.isAgg149
 z44 := Tryz.sizeOf149
 v44 := Tryz.zeroValue149
 t46 := Tryz.underlying174
 a46 := Tryz.isAgg174
 z46 := Tryz.sizeOf174
 v46 := Tryz.zeroValue174
 t53 := Tryz.underlying202
 a53 := Tryz.isAgg202
 z53 := Tryz.sizeOf202
 v53 := Tryz.zeroValue202
 t57 := Tryz.underlying206
 a57 := Tryz.isAgg206
 z57 := Tryz.sizeOf206
 v57 := Tryz.zeroValue206
 t63 := Tryz.underlying208
 a63 := Tryz.isAgg208
 z63 := Tryz.sizeOf208
 v63 := Tryz.zeroValue208
 t64 := Tryz.underlying70
 a64 := Tryz.isAgg70
 z64 := Tryz.sizeOf70
 v64 := Tryz.zeroValue70 }
def uj : Go.Shelf.Ren := ⟨fun | 171 => 39 | 243 => 72 | 246 => 99 | 283 => 119 | 284 => 120 | 285 => 121 | 286 => 122 | 129 => 138 | 317 => 139 | 318 => 140 | 319 => 141 | 320 => 142 | 337 => 150 | 338 => 151 | n => n, fun | 3 => 3 | 9 => 9 | 2 => 2 | 4 => 4 | 171 => 173 | 0 => 0 | 53 => 174 | 37 => 33 | 5 => 5 | 173 => 177 | 212 => 198 | 51 => 149 | 20 => 20 | 213 => 199 | 46 => 169 | 232 => 210 | 233 => 211 | n => n, fun | 17 => 0 | 18 => 1 | 19 => 2 | n => n⟩
theorem yx : Go.Proofs.LaysM.n171 Tryz.prog uj := {
 mixed := by kernel_rfl
 f129 := Tryz.func138.trans (congrArg some (by kernel_rfl))
 f171 := Tryz.func39.trans (congrArg some (by kernel_rfl))
 f243 := Tryz.func72.trans (congrArg some (by kernel_rfl))
 f246 := Tryz.func99.trans (congrArg some (by kernel_rfl))
 f283 := Tryz.func119.trans (congrArg some (by kernel_rfl))
 f284 := Tryz.func120.trans (congrArg some (by kernel_rfl))
 f285 := Tryz.func121.trans (congrArg some (by kernel_rfl))
 f286 := Tryz.func122.trans (congrArg some (by kernel_rfl))
 f317 := Tryz.func139.trans (congrArg some (by kernel_rfl))
 f318 := Tryz.func140.trans (congrArg some (by kernel_rfl))
 f319 := Tryz.func141.trans (congrArg some (by kernel_rfl))
 f320 := Tryz.func142.trans (congrArg some (by kernel_rfl))
 f337 := Tryz.func150.trans (congrArg some (by kernel_rfl))
 f338 := Tryz.func151.trans (congrArg some (by kernel_rfl))
 t0 := Tryz.underlying0
 a0 := Tryz.isAgg0
 z0 := Tryz.sizeOf0
 v0 := Tryz.zeroValue0
 t2 := Tryz.underlying2
 a2 := Tryz.isAgg2
 z2 := Tryz.sizeOf2
 v2 := Tryz.zeroValue2
 t3 := Tryz.underlying3
 a3 := Tryz.isAgg3
 z3 := Tryz.sizeOf3
 v3 := Tryz.zeroValue3
 t4 := Tryz.underlying4
 a4 := Tryz.isAgg4
 z4 := Tryz.sizeOf4
 v4 := Tryz.zeroValue4
 t5 := Tryz.underlying5
 a5 := Tryz.isAgg5
 z5 := Tryz.sizeOf5
 v5 := Tryz.zeroValue5
 t9 := Tryz.underlying9
 a9 := Tryz.isAgg9
 z9 := Tryz.sizeOf9
 v9 := Tryz.zeroValue9
 t20 := Tryz.underlying20
 a20 := Tryz.isAgg20
 z20 := Tryz.sizeOf20
 v20 := Tryz.zeroValue20
 t37 := Tryz.underlying33
 a37 := Tryz.isAgg33
 z37 := Tryz.sizeOf33
 v37 := Tryz.zeroValue33
 t46 := Tryz.underlying169
 a46 := Tryz.isAgg169
 z46 := Tryz.sizeOf169
 v46 := Tryz.zeroValue169
 t51 := Tryz.underlying149
 a51 := Tryz.isAgg149
 z51 := Tryz.sizeOf149
 v51 := Tryz.zeroValue149
 t53 := Tryz.underlying174
 a53 := Tryz.isAgg174
 z53 := Tryz.sizeOf174
 v53 := Tryz.zeroValue174
 t171 := Tryz.underlying173
 a171 := Tryz.isAgg173
 z171 := Tryz.sizeOf173
 v171 := Tryz.zeroValue173
 t173 := Tryz.underlying177
 a173 := Tryz.isAgg177
 z173 := Tryz.sizeOf177
 v173 := Tryz.zeroValue177
 t212 := Tryz.underlying198
 a212 := Tryz.isAgg198
 z212 := Tryz.sizeOf198
 v212 := Tryz.zeroValue198
 t213 := Tryz.underlying199
 a213 := Tryz.isAgg199
 z213 := Tryz.sizeOf199
 t232 := Tryz.underlying210
 a232 := Tryz.isAgg210
 z232 := Tryz.sizeOf210
 v232 := Tryz.zeroValue210
 t233 := Tryz.underlying211
 a233 := Tryz.isAgg211
 z233 := Tryz.sizeOf211
 v233 := Tryz.zeroValue211
 g17 := by kernel_rfl
 g18 := by kernel_rfl
 g19 := by kernel_rfl
 i0 := by kernel_rfl
 i2 := by kernel_rfl
 i3 := by kernel_rfl
 i4 := by kernel_rfl
 i5 := by kernel_rfl
 i9 := by kernel_rfl
 i20 := by kernel_rfl
 i37 := by kernel_rfl
 i46 := by kernel_rfl
 i51 := by kernel_rfl
 i53 := by kernel_rfl
 i171 := by kernel_rfl
 i173 := by kernel_rfl
 i212 := by kernel_rfl
 i232 := by kernel_rfl
 i233 := by kernel_rfl
 m17 := by kernel_rfl
 m18 := by kernel_rfl
 m19 := by kernel_rfl }
theorem rK (m : Nat) : AnyZ.SortsIn Tryz.prog lg Fence.wide m :=
 ⟨fun blk off cap G W I u D => callsIn_wide.2 (AnyM.slices_Sort_string rJ blk off cap G W I u D),
  fun p cap W => callsIn_wide.2 (AnyM.slices_Sort_string_none rJ p cap W)⟩
set_option maxHeartbeats 1000000 in
theorem ow (w : World) (D : DataW Unit) (nn b c : Nat) (J : w.ownsMap Tryz.prog 9 R0 b nn D) (G : w.cell? ⟨c, 0, none⟩ = some (.map (some b))) (X : c < w.heap.size) (L : Maps.size D ≤ maxLen) (u : Maps.size D * 16 ≤ 140737488355328) :
  CallsIn Fence.wide 5 Tryz.prog 69 #[.func (.func 98) #[] #[.pointer (some ⟨c, 0, none⟩)]] w fun e w' => ∃ (v : Value) (I : List (List UInt8)), e = .returned v ∧ I.Perm (strKeys D) ∧
   w'.ownsRow w.heap.size 9 1 v I.length ((I.mergeSort (fun x y => decide (x ≤ y))).map encStr) ∧ (v = .slice none 0 0 ↔ I = []) ∧ Below w.heap.size w w' := by
 have U : SeqGives Fence.wide 2 Tryz.prog 98 #[.pointer (some ⟨c, 0, none⟩)] encStr (fun I => I.Perm (strKeys D)) (Maps.size D) w :=
  AnyZ.keys_gives (ρ := mQ) { wp with } Fence.wide _ trivial rfl (by omega) c b nn D _ X G J
 exact AnyZ.sorted_in su Fence.wide 5 trivial trivial trivial trivial O (by omega) (rK _) (enters_of Tryz.func97 (by kernel_rfl) O) 98 #[.pointer (some ⟨c, 0, none⟩)] trivial (enters_of Tryz.func98 (by kernel_rfl) O) _ _ L u _ U
abbrev W0 (b : Nat) (p0 : Nat) (x1 : Lb) (x2 : Int) (x3 : Bool) : HA := obj b 97 [.map (some p0), str x1, Iv x2, .bool x3]
abbrev W1 {t2 t9 : Type} (b : Nat) (p0 : Nat) (x1 : Int) (x2 : List t2) (x3 : Int) (x4 : Int) (x5 : Int) (x6 : Int) (x7 : Int) (x8 : Int) (x9 : List t9) (x10 : Bool) (a2 : Option Addr) (c2 : Nat) (a9 : Option Addr) (c9 : Nat) : HA := obj b 91 [Pt p0, Iv x1, .slice a2 x2.length c2, Iv x3, Iv x4, Iv x5, Iv x6, Iv x7, Iv x8, .slice a9 x9.length c9, .bool x10]
abbrev W2 {t6 : Type} (b : Nat) (x0 : Bool) (x1 : Int) (x2 : Int) (x3 : Int) (x4 : Int) (x5 : Int) (x6 : List t6) (a6 : Option Addr) (c6 : Nat) : HA := obj b 45 [.bool x0, Iv x1, Iv x2, Iv x3, Iv x4, Iv x5, .slice a6 x6.length c6]
abbrev W3 {r : Type} (b : Nat) (p0 : Nat) (x : Lb × Int × Bool × r) : HA := obj b 97 [.map (some p0), str x.1, Iv x.2.1, .bool x.2.2.1]
abbrev W4 {t2 t9 : Type} (b : Nat) (p0 : Nat) (x : Int × List t2 × Int × Int × Int × Int × Int × Int × List t9 × Bool) (a2 : Option Addr) (c2 : Nat) (a9 : Option Addr) (c9 : Nat) : HA := obj b 91 [Pt p0, Iv x.1, .slice a2 x.2.1.length c2, Iv x.2.2.1, Iv x.2.2.2.1, Iv x.2.2.2.2.1, Iv x.2.2.2.2.2.1, Iv x.2.2.2.2.2.2.1, Iv x.2.2.2.2.2.2.2.1, .slice a9 x.2.2.2.2.2.2.2.2.1.length c9, .bool x.2.2.2.2.2.2.2.2.2]
abbrev W5 (b : Nat) (p0 : Nat) (x : Lb × Int × Bool) : HA := obj b 97 [.map (some p0), str x.1, Iv x.2.1, .bool x.2.2]
abbrev W6 {t10 : Type} (b : Nat) (x : Int × Int × Int × Int × Int × Int × Int × Int × Int × Int × List t10) (a10 : Option Addr) (c10 : Nat) : HA := obj b 102 [Iv x.1, Iv x.2.1, Iv x.2.2.1, Iv x.2.2.2.1, Iv x.2.2.2.2.1, Iv x.2.2.2.2.2.1, Iv x.2.2.2.2.2.2.1, Iv x.2.2.2.2.2.2.2.1, Iv x.2.2.2.2.2.2.2.2.1, Iv x.2.2.2.2.2.2.2.2.2.1, .slice a10 x.2.2.2.2.2.2.2.2.2.2.length c10]
abbrev W7 {t2 t9 r : Type} (b : Nat) (p0 : Nat) (x : Int × List t2 × Int × Int × Int × Int × Int × Int × List t9 × Bool × r) (a2 : Option Addr) (c2 : Nat) (a9 : Option Addr) (c9 : Nat) : HA := obj b 91 [Pt p0, Iv x.1, .slice a2 x.2.1.length c2, Iv x.2.2.1, Iv x.2.2.2.1, Iv x.2.2.2.2.1, Iv x.2.2.2.2.2.1, Iv x.2.2.2.2.2.2.1, Iv x.2.2.2.2.2.2.2.1, .slice a9 x.2.2.2.2.2.2.2.2.1.length c9, .bool x.2.2.2.2.2.2.2.2.2.1]
abbrev W8 {t3 : Type} (b : Nat) (x : Int × Int × Int × List t3) (a3 : Option Addr) (c3 : Nat) : HA := obj b 35 [Iv x.1, Iv x.2.1, Iv x.2.2.1, .slice a3 x.2.2.2.length c3]
abbrev W9 (b : Nat) (x0 : Int) (x1 : Int) (x2 : Int) : HA := obj b 43 [Iv x0, Iv x1, Iv x2]
abbrev W10 {t3 : Type} (b : Nat) (x0 : Int) (x1 : Int) (x2 : Int) (x3 : List t3) (a3 : Option Addr) (c3 : Nat) : HA := obj b 35 [Iv x0, Iv x1, Iv x2, .slice a3 x3.length c3]
abbrev W11 {t5 : Type} (b : Nat) (x0 : Int) (x1 : Int) (x2 : Int) (x3 : Int) (x4 : Int) (x5 : List t5) (a5 : Option Addr) (c5 : Nat) : HA := obj b 89 [Iv x0, Iv x1, Iv x2, Iv x3, Iv x4, .slice a5 x5.length c5]
abbrev W12 {t3 r : Type} (b : Nat) (x : Int × Int × Int × List t3 × r) (a3 : Option Addr) (c3 : Nat) : HA := obj b 35 [Iv x.1, Iv x.2.1, Iv x.2.2.1, .slice a3 x.2.2.2.1.length c3]
abbrev W13 {t10 : Type} (b : Nat) (x0 : Int) (x1 : Int) (x2 : Int) (x3 : Int) (x4 : Int) (x5 : Int) (x6 : Int) (x7 : Int) (x8 : Int) (x9 : Int) (x10 : List t10) (a10 : Option Addr) (c10 : Nat) : HA := obj b 102 [Iv x0, Iv x1, Iv x2, Iv x3, Iv x4, Iv x5, Iv x6, Iv x7, Iv x8, Iv x9, .slice a10 x10.length c10]
abbrev W14 {t10 r : Type} (b : Nat) (x : Int × Int × Int × Int × Int × Int × Int × Int × Int × Int × List t10 × r) (a10 : Option Addr) (c10 : Nat) : HA := obj b 102 [Iv x.1, Iv x.2.1, Iv x.2.2.1, Iv x.2.2.2.1, Iv x.2.2.2.2.1, Iv x.2.2.2.2.2.1, Iv x.2.2.2.2.2.2.1, Iv x.2.2.2.2.2.2.2.1, Iv x.2.2.2.2.2.2.2.2.1, Iv x.2.2.2.2.2.2.2.2.2.1, .slice a10 x.2.2.2.2.2.2.2.2.2.2.1.length c10]
abbrev W15 {t5 : Type} (b : Nat) (x0 : Int) (x1 : Int) (x2 : Int) (x3 : Int) (x4 : Int) (x5 : List t5) (a5 : Option Addr) (c5 : Nat) : HA := obj b 47 [Iv x0, Iv x1, Iv x2, Iv x3, Iv x4, .slice a5 x5.length c5]
abbrev W16 {t3 : Type} (b : Nat) (x : Int × Int × Int × List t3 × Int) (a3 : Option Addr) (c3 : Nat) : HA := obj b 144 [Iv x.1, Iv x.2.1, Iv x.2.2.1, .slice a3 x.2.2.2.1.length c3, Iv x.2.2.2.2]
abbrev W17 {t5 : Type} (b : Nat) (x : Int × Int × Int × Int × Int × List t5) (a5 : Option Addr) (c5 : Nat) : HA := obj b 47 [Iv x.1, Iv x.2.1, Iv x.2.2.1, Iv x.2.2.2.1, Iv x.2.2.2.2.1, .slice a5 x.2.2.2.2.2.length c5]
abbrev W18 {t5 : Type} (b : Nat) (x : Int × Int × Int × Int × Int × List t5) (a5 : Option Addr) (c5 : Nat) : HA := obj b 89 [Iv x.1, Iv x.2.1, Iv x.2.2.1, Iv x.2.2.2.1, Iv x.2.2.2.2.1, .slice a5 x.2.2.2.2.2.length c5]
abbrev W19 {t0 : Type} (b : Nat) (x : List t0 × Int × Int) (a0 : Option Addr) (c0 : Nat) : HA := obj b 180 [.slice a0 x.1.length c0, Iv x.2.1, Iv x.2.2]
abbrev W20 {t0 : Type} (b : Nat) (x0 : List t0) (x1 : Int) (x2 : Int) (a0 : Option Addr) (c0 : Nat) : HA := obj b 180 [.slice a0 x0.length c0, Iv x1, Iv x2]
end Go.Proofs.YtndjkejhacfpdaaGreatDoor

namespace Go.Proofs.YtndjkejhacfpdaaGreatDoor
open Go.RowKit
section
variable {K : Cx} {E : Env} {H : List HA} {o : Oper} {α : Type} {V : α → List Value → Prop} {a : Option Addr} {xs : List α} {T : TypeId} {c : Nat}
end
/-! ### Effects that only add, told by lists: what each value and each part hangs on is said beside it -/
theorem All.of {l : List Nat} {p : Nat → Prop} (h : ∀ i, i ∈ l → p i) : All l p := by
 induction l with
 | nil => trivial
 | cons a l ih => exact ⟨h a (List.mem_cons_self ..), ih fun i hi => h i (List.mem_cons_of_mem _ hi)⟩
theorem gK.of {l : List Nat} {f g : Nat → Value} (h : ∀ i, i ∈ l → f i = g i) : gK l f g := by
 induction l with
 | nil => trivial
 | cons a l ih => exact ⟨h a (List.mem_cons_self ..), ih fun i hi => h i (List.mem_cons_of_mem _ hi)⟩
def yk (u : List ((Nat → Nat) → Value)) (γ : Nat → Nat) (i : Nat) : Value := u.getD i (fun _ => undef) γ
def yl (u : List ((Nat → Nat) → List HA)) (γ : Nat → Nat) (i : Nat) : List HA := u.getD i (fun _ => []) γ
def tD : List ((Nat → Nat) → Value) → List ((Nat → Nat) → List HA) → List (List Nat) → Prop
 | v :: vs, a :: zs, d :: ds => (∀ γ γ' : Nat → Nat, (∀ j, j ∈ d → γ j = γ' j) → v γ = v γ' ∧ a γ = a γ') ∧ tD vs zs ds
 | [], [], [] => True
 | _, _, _ => False
theorem tD.at : ∀ {u : List ((Nat → Nat) → Value)} {D : List ((Nat → Nat) → List HA)} {G : List (List Nat)}, tD u D G → ∀ (i : Nat) (γ γ' : Nat → Nat), (∀ j, j ∈ G.getD i [] → γ j = γ' j) → yk u γ i = yk u γ' i ∧ yl D γ i = yl D γ' i
 | v :: vs, a :: zs, d :: ds, h, 0, γ, γ', e => h.1 γ γ' e
 | v :: vs, a :: zs, d :: ds, h, i + 1, γ, γ', e => h.2.at i γ γ' e
 | [], [], [], _, i, γ, γ', e => ⟨rfl, rfl⟩
section
variable {K : Cx} {R S Y : Type} {Q : dw R} {E : Env} {H : List HA} {o : Option R}
def ym (K : Cx) (ops : Array Oper) (u : List (List Nat)) (val : (Nat → Nat) → Nat → Value) (add : (Nat → Nat) → Nat → List HA) (E : Env) (H X : List HA) (i : Nat) (γ : Nat → Nat) : Prop :=
 ∃ D, ops[i]? = some D ∧ ∃ G, dV ops u (val γ) E i G ∧ GOk ops D G ∧
  RE K (Y := Nat) D G (H ++ X) (fun z => val (kj γ i z) i) (fun z => H ++ (add (kj γ i z) i ++ X))
theorem ym.mk {ops : Array Oper} {u : List (List Nat)} {Z : Type} {val : (Nat → Nat) → Nat → Value} {add : (Nat → Nat) → Nat → List HA} {X : List HA} {i : Nat} {γ : Nat → Nat} {D : Oper} {v : Z → Value} {H' : Z → List HA} (G : Env) (f : Z → Nat) (I : ops[i]? = some D) (J : D.guard = none) (L : dV ops u (val γ) E i G)
  (h : RE K (Y := Z) D G (H ++ X) v H') (U : ∀ z, v z = val (kj γ i (f z)) i) (hH : ∀ z, Ent (H' z) (H ++ (add (kj γ i (f z)) i ++ X))) : ym K ops u val add E H X i γ :=
 ⟨D, I, G, L, .inl J, fun a w hh hs next Q hn => h a w hh hs next Q fun z w' s => by
  have := hn (f z) w' (s.ent (hH z))
  rw [U z]; exact this⟩
theorem Ent.left {a b : List HA} : Ent (a ++ b) a := by
 induction a with
 | nil => exact Ent.nil _
 | cons x a ih => exact Ent.cons ih
theorem Ent.pick {l m : List HA} (idx : List Nat) (n : Nat) (G : (idx.all fun i => (idx.count i == 1) && Nat.blt i n) = true) (I : l.length = n) (J : idx.map (fun i => l.getD i tt) = m) : Ent l m := by
 have h1 : ∀ i, i ∈ idx → idx.count i = 1 ∧ i < l.length := fun i hi => by
  have := List.all_eq_true.1 G i hi
  rw [← I] at this
  simpa [Nat.blt_eq] using this
 have u : idx.Nodup := List.nodup_iff_count.2 fun i => by
  by_cases hi : i ∈ idx
  ·exact Nat.le_of_eq (h1 i hi).1
  ·rw [List.count_eq_zero.2 hi]; omega
 have p : (List.range l.length).Perm (idx ++ (List.range l.length).filter fun i => !idx.contains i) := by
  refine (List.perm_ext_iff_of_nodup List.nodup_range (List.nodup_append.2 ⟨u, List.nodup_range.filter _, fun x L y U e => ?_⟩)).2 fun i => ?_
  ·subst e
   have := (List.mem_filter.1 U).2
   rw [List.contains_iff_mem.2 L] at this
   cases this
  ·rw [List.mem_append, List.mem_filter, List.mem_range]
   constructor
   ·intro h
    by_cases hi : i ∈ idx
    ·exact .inl hi
    ·exact .inr ⟨h, by simpa using hi⟩
   ·rintro (h | h)
    ·exact (h1 i h).2
    ·exact h.1
 have e : (List.range l.length).map (fun i => l.getD i tt) = l := by
  apply List.ext_getElem?
  intro i
  by_cases hi : i < l.length
  ·simp [List.getElem?_map, List.getElem?_range hi, hi]
  ·rw [List.getElem?_eq_none (by simp; omega), List.getElem?_eq_none (by omega)]
 have D := p.map fun i => l.getD i tt
 rw [e, List.map_append, J] at D
 exact (Ent.perm D).trans Ent.left
end
end Go.Proofs.YtndjkejhacfpdaaGreatDoor

namespace Go.Proofs.YtndjkejhacfpdaaGreatDoor
open Go.RowKit
section
variable {K : Cx} {E : Env} {H : List HA} {op : Oper}
end
end Go.Proofs.YtndjkejhacfpdaaGreatDoor

namespace Go.Proofs.YtndjkejhacfpdaaGreatDoor
open Go.RowKit Go.Shelf
theorem xg {F : HA} {l : List UInt8} (h : Rd F none (aB l)) : l = [] := by
 rcases h with h | ⟨b, off, h, _⟩
 ·cases l with
  | nil => rfl
  | cons c t => cases h
 ·cases h
theorem qQ {α : Type} {F : HA} {n : Nat} {V : α → List Value → Prop} {xs : List α} (G : Nat.blt 0 n = true) (h : RdV F n V none xs) : xs = [] := by
 obtain ⟨rs, h1, u⟩ := h
 rcases u with u | ⟨b, off, u, _⟩
 ·cases xs with
  | nil => rfl
  | cons x xs =>
   cases rs with
   | nil => exact h1.elim
   | cons r rs =>
    have I := h1.1.1
    rw [List.flatten_cons] at u
    have D := congrArg List.length u
    rw [List.length_append, I] at D
    have : 0 < n := by simpa [Nat.blt_eq] using G
    simp at D
    omega
 ·cases u
section
variable {K : Cx} {E : Env} {H : List HA} {o : Oper}
theorem nJ {u I e : TypeId} {x : Operand} {n c : Nat} (D : o.op = .binOp .eql u x (.const (.slice none 0 0)) I) (J : ev E x = some (.slice none n c)) (L : K.P.underlying u = some (.slice e)) : RQ K o E H (.bool true) :=
 cM (by rw [D]; intro c h; cases h) fun a w G _ => by
  unfold execOp; simp only [D]; rw [G.ev J, G.ev (x := .const (.slice none 0 0)) rfl]
  have e : (Op.equal u (.slice none n c) (.slice none 0 0)).run K.P w = .ok true w := by
   rw [show Op.equal u (.slice none n c) (.slice none 0 0) = Op.equalIn (9999 + 1) u (.slice none n c) (.slice none 0 0) from rfl, Op.equalIn]
   simp [underlying, program, Sem.run, L]
  simp [eqGuard, binOp, e]
theorem nK {u I e : TypeId} {x : Operand} {p : Addr} {n c : Nat} (D : o.op = .binOp .eql u x (.const (.slice none 0 0)) I) (J : ev E x = some (.slice (some p) n c)) (L : K.P.underlying u = some (.slice e)) : RQ K o E H (.bool false) :=
 cM (by rw [D]; intro c h; cases h) fun a w G _ => by
  unfold execOp; simp only [D]; rw [G.ev J, G.ev (x := .const (.slice none 0 0)) rfl]
  have e : (Op.equal u (.slice (some p) n c) (.slice none 0 0)).run K.P w = .ok false w := by
   rw [show Op.equal u (.slice (some p) n c) (.slice none 0 0) = Op.equalIn (9999 + 1) u (.slice (some p) n c) (.slice none 0 0) from rfl, Op.equalIn]
   simp [underlying, program, Sem.run, L]
  simp [eqGuard, binOp, e]
end
end Go.Proofs.YtndjkejhacfpdaaGreatDoor

namespace Go.Proofs.YtndjkejhacfpdaaGreatDoor
open Go.RowKit
def dfD (g : FuncId) (cap : List Value) : Deferred := { target := .fn (.func g) cap.toArray, args := #[] }
section
variable {K : Cx} {R S Y : Type} {Q : dw R} {E : Env} {H : List HA} {opt : Option R} {ops : Array Oper} {rest : List Oper} {o : Oper}
theorem kr {c : Call} {x : Operand} {cap : List Value} {g : FuncId} (U : o.op = .defer c) (u : c.callee = .value x) (G : c.args = #[]) (X : ev E x = some (.func (.func g) #[] cap.toArray))
  (I : K.ro = none) (hg : o.guard = none) (hd : o.dst = none) (h : cc ⟨K.P, K.W, K.ro, K.n, dfD g cap :: K.ds⟩ Q ops rest E H opt) : cc K Q ops (o :: rest) E H opt := by
 intro r J a w D hs
 refine wpListIn_plain hg fun K' L => ?_
 refine ⟨fun f _ => gO _ _, ?_⟩
 have e1 : (o.semAt (fen K.ro).round a.eval).run K.P w = .ok (.defer (dfD g cap)) w := by
  rw [uE, I, Oper.semAt_none]
  unfold execOp; simp only [U]
  simp [resolve, u, G, D.ev X, Deferred.ofValue, dfD]
 rw [e1]
 show K' ({ a with defers := dfD g cap :: a.defers }.put o.dst undef) w
 rw [hd]
 refine L _ _ (h r J _ w ⟨D.size, ?_, D.get⟩ hs)
 show dfD g cap :: a.defers = dfD g cap :: K.ds
 rw [D.defers]
end
def mD (P : Program) (g : FuncId) (cap : List Value) : Prop := ∀ (W w : World) (H : List HA), Sat W H w → CallsDIn Fence.wide 0 P g cap.toArray .returning w fun e u D => (∃ v, e = .returned v) ∧ u = .returning ∧ Sat W H D
def ut (K : Cx) {R Y : Type} (fn : Func) (val : R → Y → Value) (B : R → Y → List HA) : dw R := fun r e a w =>
 bodyPostDIn Fence.wide 0 K.P fn (fun e u => ∃ y, e = .returned (val r y) ∧ Sat K.W (B r y) u) e a w
section
variable {K : Cx} {R S Y : Type} {Q : dw R} {E : Env} {H : List HA} {o : Option R}
theorem kT {P : Program} {W : World} {f : FuncId} {args : List Value} {A : List HA} {F : HA} {o : Option R} {val : R → Y → Value} {B : R → Y → List HA}
  {fn : Func} {c : Code} (n : Nat) (u : P.funcs[f]? = some fn) (D : fn.body = some c) (G : fn.ntmps = n) (I : Nat.ble args.length n = true)
  (h : Sim ⟨P, W, none, n, []⟩ (ut ⟨P, W, none, n, []⟩ fn val fun r y => B r y ++ [F]) c (lT 0 args) (A ++ [F]) o) : Fn P W f args A F o val B := by
 intro r J w L
 refine (callsIn_wide (n := 0)).1 (callsIn_of_wp_defers u D trivial ?_ rfl)
 have := h r J _ w (lU args n (by simpa [Nat.ble_eq] using I)) L
 rw [G]
 exact this
theorem zk {fn : Func} {val : R → Y → Value} {B : R → Y → List HA} {r : R} {vs : List Value} (y : Y) (hd : K.ds = []) (u : jW K.P E H fn.results.toList vs) (J : tup vs = val r y) (L : Ent H (B r y)) :
  ∀ D, some r = some D → ∀ a w, Has K.n K.ds E a → Sat K.W H w → LeavesIn Fence.wide 0 K.P fn a.tmps (fun e U => ∃ y, e = .returned (val D y) ∧ Sat K.W (B D y) U) a.defers .returning w := by
 intro D X a w G I
 cases X
 rw [G.defers, hd]
 exact ⟨_, lx G I u, y, by rw [J], I.ent L⟩
theorem zl {fn : Func} {val : R → Y → Value} {B : R → Y → List HA} {r : R} {vs : List Value} (g : FuncId) (cap : List Value) (J : mD K.P g cap) (L : ∀ args w, (callFunc g args).run K.P w = .ok (.enter g args) w)
  (y : Y) (hd : K.ds = [dfD g cap]) (u : jW K.P E H fn.results.toList vs) (U : tup vs = val r y) (X : Ent H (B r y)) :
  ∀ D, some r = some D → ∀ a w, Has K.n K.ds E a → Sat K.W H w → LeavesIn Fence.wide 0 K.P fn a.tmps (fun e G => ∃ y, e = .returned (val D y) ∧ Sat K.W (B D y) G) a.defers .returning w := by
 intro D hr a w I hs
 cases hr
 rw [I.defers, hd]
 refine leavesIn_cons (F := Fence.wide) (n := 0) (f := g) (args := cap.toArray) (by simp) (fun h => by cases h) ?_ (fun _ _ => trivial) ?_
 ·simp [invoke, L]
 ·refine (J K.W w H hs).mono ?_
  rintro e u' G ⟨⟨v, rfl⟩, rfl, s⟩
  exact ⟨_, lx I s u, y, by rw [U], s.ent X⟩
theorem vR {fn : Func} {val : R → Y → Value} {B : R → Y → List HA} {r : R} {vs : List Value} (y : Y) (hd : K.ds = []) (u : jW K.P E H fn.results.toList vs) (D : tup vs = val r y) (G : Ent H (B r y)) :
  Rtn K (ut K fn val B) E H (some r) := fun I J a w L U => zk y hd u D G I J a w L U
theorem kF {fn : Func} {val : R → Y → Value} {B : R → Y → List HA} {r : R} {vs : List Value} (g : FuncId) (cap : List Value) (D : mD K.P g cap) (G : ∀ args w, (callFunc g args).run K.P w = .ok (.enter g args) w)
  (y : Y) (hd : K.ds = [dfD g cap]) (u : jW K.P E H fn.results.toList vs) (I : tup vs = val r y) (J : Ent H (B r y)) :
  Rtn K (ut K fn val B) E H (some r) := fun L U a w X hs => zl g cap D G y hd u I J L U a w X hs
end
theorem pk {P : Program} {f : FuncId} {fn : Func} {id : Nat} {G : Oper} {l : List Oper} {rest : Code} {args : Array Value} {w : World} {R : Ending → World → Prop}
  (hf : P.funcs[f]? = some fn) (hb : fn.body = some (.seq (.region id (G :: l).toArray false) rest)) (h0 : ∀ ev : Operand → Value, ∀ w, (G.semAt none ev).run P w = .ok .recover w) (hg : G.guard = none)
  (h : wpListIn Fence.wide 0 P (G :: l).toArray (Exit.then (rest.wpIn Fence.wide 0 P (bodyPost P fn R)) (bodyPost P fn R)) l (({ tmps := args ++ Array.replicate (fn.ntmps - args.size) undef, defers := [] } : Act).put G.dst .nilIface) w) :
  CallsDIn Fence.wide 0 P f args .returning w fun e u' I => u' = .returning ∧ R e I := by
 refine ⟨trivial, fun J cs hu hr => ?_⟩
 let b : Frame := { (default : Frame) with fn := f, kind := .deferred, roundOf := none }
 have L : Frame.enter P f args .deferred =
   b.atR { tmps := args ++ Array.replicate (fn.ntmps - args.size) undef, defers := [] } [.code (.seq (.region id (G :: l).toArray false) rest)] := by
  simp [Frame.enter, Frame.atR, hf, hb, b]
 have hc : ({ J with mode := .returning } : Frame) = J := by rw [← hu]
 obtain ⟨a0, br⟩ : ∃ a0 : Act, ({ tmps := args ++ Array.replicate (fn.ntmps - args.size) undef, defers := [] } : Act) = a0 := ⟨_, rfl⟩
 rw [br] at L h
 have hF : Fence.wide.fn b.fn := trivial
 have D : Fence.wide.room ((J :: cs).length + 1 + 0) := room_wide _
 have ho : (G :: l).toArray[0]? = some G := rfl
 have hw : Region.wanted G (yielded (G :: l).toArray a0.tmps) = true := by simp only [Region.wanted, hg]
 have s1 : StepsIn (Machine.fenced P Fence.wide) P (lone (Frame.enter P f args .deferred) (J :: cs) w) (lone (b.atR (a0.put G.dst .nilIface) (.inRegion (G :: l).toArray (List.range' 1 l.length) :: .code rest :: [])) (J :: cs) w) := by
  rw [L]
  refine .head (fenced_calm hF D rfl) stepR_seq (.head (fenced_calm hF D rfl) stepR_region ?_)
  have e2 : List.range (G :: l).toArray.size = 0 :: List.range' 1 l.length := by
   rw [List.range_eq_range']
   simp [List.range'_succ]
  rw [e2]
  refine .one (fenced_oper hF D ho (fun _ _ => trivial)) (step_lone_go ?_)
  have b0 := stepGR_op (P := P) (b := b) (a := a0) (k := .code rest :: []) (cs := J :: cs) (w := w) (rest := List.range' 1 l.length) ho hw
  rw [b0]
  have a1 : (b.atR a0 (.inRegion (G :: l).toArray (0 :: List.range' 1 l.length) :: .code rest :: [])).finish .nilIface = b.atR (a0.put G.dst .nilIface) (.inRegion (G :: l).toArray (List.range' 1 l.length) :: .code rest :: []) := by
   rw [Frame.finish_atR, ho]; rfl
  rw [← a1]
  have hk : (b.atR a0 (.inRegion (G :: l).toArray (0 :: List.range' 1 l.length) :: .code rest :: [])).kind = .deferred := rfl
  have ad := tryRecover_deferred hk (J :: cs)
  have a6 : recoverD (J :: cs) = none := by simp [recoverD, hu]
  have b1 := h0 a0.eval w
  rw [a6] at ad
  simp only [Frame.atR] at ad ⊢
  simp [stepG.apply, b, b1, ad]
  done
 rw [← wpOpsIn_eq_wpListIn l 1 (fun j => by simp [Nat.add_comm 1 j])] at h
 obtain ⟨e, a', I, U, u⟩ := wp_opsIn _ _ _ h b (.code rest :: []) (J :: cs) rfl hF D
 have X : ∀ (e : Exit) (a' : Act) (I : World), bodyPost P fn R e a' I → ArrivesIn (Machine.fenced P Fence.wide) P (lone (Frame.enter P f args .deferred) (J :: cs) w) b [] (J :: cs) e a' I →
   ∃ e u' I fr, (u' = FrameMode.returning ∧ R e I) ∧ ComesIn (Machine.fenced P Fence.wide) P (lone (Frame.enter P f args .deferred) (J :: cs) w) (lone fr ({ J with mode := u' } :: cs) I) e ∧ fr.kind = .deferred ∧ fr.fn = f ∧ fr.going P I e := by
  intro e a' I U u
  cases e with
  | normal =>
   obtain ⟨hd, v, af, hR⟩ := U
   exact ⟨.returned v, .returning, I, _, ⟨rfl, hR⟩, (by rw [hc]; exact StepsIn.trans u (.one (fenced_calm (fr := b.atR a' []) hF hr rfl) (stepR_end rfl))), rfl, rfl, rfl, hd, fn, hf, af⟩
  | ret =>
   obtain ⟨hd, v, af, hR⟩ := U
   obtain ⟨todo, hs⟩ := u.1 rfl
   exact ⟨.returned v, .returning, I, _, ⟨rfl, hR⟩, (by rw [hc]; exact hs), rfl, rfl, rfl, hd, fn, hf, af⟩
  | panic chain =>
   obtain ⟨hd, hR⟩ := U
   obtain ⟨todo, hs⟩ := u
   exact ⟨.panicked chain, .returning, I, _, ⟨rfl, hR⟩, (by rw [hc]; exact hs), rfl, rfl, rfl, hd, fn, hf⟩
  | exit id => exact U.elim
  | goto l => exact U.elim
  | outgrown => exact ⟨.outgrown, .returning, I, b, ⟨rfl, U⟩, u.resolve_left (by simp [b]), rfl, rfl, trivial⟩
 cases e with
 | normal =>
  obtain ⟨e₂, a₂, w₂, b3, al⟩ := U b [] (J :: cs) rfl hF D
  exact X _ _ _ b3 (.of_steps (StepsIn.trans s1 u) al)
 | exit id => exact U.elim
 | goto l => exact U.elim
 | ret => exact X .ret a' I U (.of_steps s1 (.pass (x := .code rest) rfl (fun _ _ => .inl (by simp)) u))
 | panic ch => exact X (.panic ch) a' I U (.of_steps s1 (.pass (x := .code rest) rfl (fun _ _ => .inl (by simp)) u))
 | outgrown => exact X .outgrown a' I U (.of_steps s1 (.pass (x := .code rest) rfl (fun _ _ => .inl (by simp)) u))
theorem pp {P : Program} {g : FuncId} {fn : Func} {id d : Nat} {u : Oper} {l : List Oper} {rest : Code} {cap : List Value} (n : Nat)
  (I : P.funcs[g]? = some fn) (J : fn.body = some (.seq (.region id (u :: l).toArray false) rest)) (L : fn.ntmps = n) (U : Nat.ble cap.length n = true)
  (X : ∀ ev : Operand → Value, ∀ w, (u.semAt none ev).run P w = .ok .recover w) (hg : u.guard = none) (hd : u.dst = some d) (D : Nat.blt d n = true) (o : Option Unit) (ho : o = some ())
  (h : ∀ (W : World) (F : HA), cc ⟨P, W, none, n, []⟩ (kp ⟨P, W, none, n, []⟩ rest (qD ⟨P, W, none, n, []⟩ fn (fun (_ : Unit) (_ : Unit) => Value.tuple #[]) fun _ _ => [F])) (u :: l).toArray l ((d, .nilIface) :: lT 0 cap) [F] o) : mD P g cap := by
 intro W w H hs
 refine (pk (args := cap.toArray) (R := fun e G => ∃ y : Unit, e = .returned (.tuple #[]) ∧ Sat W [aS H] G) I J X hg ?_).mono ?_
 ·have h1 := lU cap n (by simpa [Nat.ble_eq] using U)
  have h2 := h1.put (d := d) .nilIface D
  rw [L, hd]
  exact h W (aS H) () ho _ w h2 (hs.ent (by simpa using Ent.fold [] H))
 ·rintro e u' G ⟨rfl, _, rfl, s⟩
  exact ⟨⟨_, rfl⟩, rfl, s.ent (by simpa using Ent.unfold [] H)⟩
end Go.Proofs.YtndjkejhacfpdaaGreatDoor

namespace Go.Proofs.YtndjkejhacfpdaaGreatDoor
open Go.RowKit Go.Sort
section
variable {K : Cx} {E : Env} {H : List HA} {o : Oper}
end
end Go.Proofs.YtndjkejhacfpdaaGreatDoor

namespace Go.Proofs.YtndjkejhacfpdaaGreatDoor
open Go.RowKit
def nW (P : Program) (W : World) (l : Nat) (rec : Loop) {α γ S Y : Type} (enc : α → γ → List Value) (own : α → γ → HA) (u : S → α → Option S) (D : S → Y → List HA) : Prop :=
 ∀ s x g G y (Fr : HA) w, u s x = some G → Sat W (pts l (.loop rec) :: ((D s y ++ [own x g]) ++ [Fr])) w →
  RoundIn Fence.wide 0 P l rec.fn (kJ rec.params.toList (enc x g) rec.tmps) rec.assign rec.body w fun e I => e = .returned (.bool true) ∧ ∃ J, Sat W (pts l (.loop rec) :: (D G J ++ [Fr])) I
def mj (P : Program) (W : World) (l : Nat) {α γ S Y : Type} (enc : α → γ → List Value) (own : α → γ → HA) (u : S → α → Option S) (A : S → Y → HA) : Prop :=
 ∀ s x g D y (Fr : HA) w, u s x = some D → Sat W [A s y, own x g, Fr] w → ∃ f tmps assign body, (Instr.yield l (enc x g).toArray).run P w = .ok (.round l f tmps assign body) w ∧
  RoundIn Fence.wide 0 P l f tmps assign body w fun e G => e = .returned (.bool true) ∧ ∃ I, Sat W [A D I, Fr] G
theorem so {P : Program} {W : World} {l : Nat} {rec : Loop} {α γ S Y : Type} {enc : α → γ → List Value} {own : α → γ → HA} {D : S → α → Option S} {u : S → Y → List HA} (U : nW P W l rec enc own D u) (hp : ∀ x g, (enc x g).length = rec.params.size) :
  mj P W l enc own D (itA l rec u) := by
 intro s x g I y Fr w X G
 have J : Sat W (pts l (.loop rec) :: ((u s y ++ [own x g]) ++ [Fr])) w := by
  rw [List.append_assoc]
  exact G.ent (ma _ _)
 refine ⟨_, _, _, _, by rw [run_yield (J.pts_at (i := 0) rfl) (by simpa using hp x g), px], ?_⟩
 refine RoundIn.mono (U s x g I y Fr w X J) ?_
 rintro e w' ⟨h1, L, s3⟩
 exact ⟨h1, L, s3.ent (uQ (pts l (.loop rec) :: u I L) Fr)⟩
section
variable {K : Cx} {R S Y α γ : Type} {Q : dw R} {E : Env} {H : List HA} {o : Option R}
theorem sq {W : World} {P : Program} {n : Nat} {l : Nat} {rec : Loop} {ps : List Nat} {enc : α → γ → List Value} {own : α → γ → HA} {D : S → α → Option S} {u : S → Y → List HA} (Eb : S → α → γ → Y → Env) {a : Act} {ds : List Deferred}
  (he : Has n ds E a) (h1 : rec.tmps = a.tmps) (h2 : rec.params = ps.toArray) (I : rec.state = .ready) (h4 : rec.pending = none) (J : ∀ p ∈ ps, p < n) (L : ∀ x g, ps.length = (enc x g).length)
  (hA : ∀ s x g y Fr, Sim ⟨P, W, some l, n, []⟩ (jw ⟨P, W, some l, n, []⟩ (fun (_ : Unit) (_ : Unit) => Eb s x g y) (fun _ _ => (u s y ++ [own x g]) ++ [Fr])) rec.assign (mK ps (enc x g) E) ((u s y ++ [own x g]) ++ [Fr]) (some ()))
  (hB : ∀ s x g y Fr, Sim ⟨P, W, some l, n, []⟩ (jw ⟨P, W, some l, n, []⟩ (fun (_ : S) (_ : Y) => []) (fun s y => u s y ++ [Fr])) rec.body (Eb s x g y) ((u s y ++ [own x g]) ++ [Fr]) (D s x)) :
  nW P W l rec enc own D u := by
 intro s x g s' y Fr w U hs
 refine roundIn_of_wpIn trivial ?_
 have h0 : Has n [] E { tmps := rec.tmps, defers := [] } := ⟨by rw [h1]; exact he.size, rfl, fun i v h => by rw [h1]; exact he.get i v h⟩
 have X := qV ps (enc x g) J (L x g) h0
 have e2 : rec.params.toList = ps := by rw [h2]
 rw [e2]
 refine wpIn_mono (hA s x g y (aS [pts l (.loop rec), Fr]) () rfl _ w X (hs.ent (mb _ _ _))) ?_
 intro e a1 w1 G
 cases e with
 | normal =>
  obtain ⟨_, x1, x2⟩ := G
  have x3 := x2.ent (ks _ _ _)
  have hl := x3.pts_at (i := 0) rfl
  refine ⟨_, run_beginRound hl I, ?_⟩
  have x4 : Sat W (pts l (.loop { rec with state := .busy }) :: ((u s y ++ [own x g]) ++ [Fr])) (w1.putObj l (.loop { rec with state := .busy })) := x3.upd
  refine wpIn_mono (hB s x g y _ s' U a1 _ x1 (x4.ent (mb _ _ _))) ?_
  intro e a2 w2 G
  cases e with
  | normal =>
   obtain ⟨y', _, z2⟩ := G
   have z3 := z2.ent (ks _ _ _)
   have ad := z3.pts_at (i := 0) rfl
   refine ⟨_, _, run_endRound none ad, rfl, y', ?_⟩
   have z4 : Sat W (pts l (.loop rec) :: (u s' y' ++ [Fr])) (w2.putObj l (.loop rec)) := z3.upd
   have er : ({ ({ rec with state := .busy } : Loop) with state := if (none : Option Code).isNone then .ready else .done, pending := none } : Loop) = rec := by
    cases rec
    simp at I h4 ⊢
    exact ⟨I.symm, h4.symm⟩
   have af : w2.putObj l (.loop rec) = w2.putObj l (.loop ({ ({ rec with state := .busy } : Loop) with state := if (none : Option Code).isNone then .ready else .done, pending := none } : Loop)) := by rw [er]
   rw [af] at z4
   exact z4
  | _ => exact G.elim
 | _ => exact G.elim
theorem uh {R' Y' : Type} {g : Operand} {ps : List Nat} {assign body : Code} {f : FuncId} {cap : List Value} {Cap rst : List HA} {CapB : R' → Y' → List HA} {enc : α → γ → List Value} {own : α → γ → HA} {o2 : R' → Option R} {oN : Option R'} {val : R' → Y' → Value}
  {I : S → α → Option S} (G : S → Y → List HA) (s0 : S) (J : Y) (Eb : S → α → γ → Y → Env) (L : R' → S) (U : R' → Y' → Y) (a8 : K.ro = none) (hg : ev E g = some (.func (.func f) #[] cap.toArray))
  (hf : ∀ args w, (callFunc f args).run K.P w = .ok (.enter f args) w)
  (it : ∀ l (A : S → Y → HA), mj K.P K.W l enc own I A → ∀ X, Fn K.P K.W f (.func (.yield l) #[] #[] :: cap) (A s0 J :: Cap) (aS (X :: rst)) oN val (fun r y => A (L r) (U r y) :: CapB r y))
  (ab : ps.all (fun p => Nat.blt p K.n) = true) (ad : ∀ x g, ps.length = (enc x g).length)
  (hH : Ent H (G s0 J ++ (Cap ++ rst)))
  (hA : ∀ l s x g y Fr, Sim ⟨K.P, K.W, some l, K.n, []⟩ (jw ⟨K.P, K.W, some l, K.n, []⟩ (fun (_ : Unit) (_ : Unit) => Eb s x g y) (fun _ _ => (G s y ++ [own x g]) ++ [Fr])) assign (mK ps (enc x g) E) ((G s y ++ [own x g]) ++ [Fr]) (some ()))
  (hB : ∀ l s x g y Fr, Sim ⟨K.P, K.W, some l, K.n, []⟩ (jw ⟨K.P, K.W, some l, K.n, []⟩ (fun (_ : S) (_ : Y) => []) (fun s y => G s y ++ [Fr])) body (Eb s x g y) ((G s y ++ [own x g]) ++ [Fr]) (I s x))
  (h : ∀ D r y, Nrm { K with ds := mkD D :: K.ds } Q E (iT D :: (G (L r) (U r y) ++ (CapB r y ++ rst))) (o2 r)) :
  Sim K Q (.rangeFunc g ps.toArray assign body) E H (oN.bind o2) := by
 intro r hr a w he hs
 have bc : ∀ p ∈ ps, p < K.n := fun p hp => by simpa [Nat.blt_eq] using List.all_eq_true.1 ab p hp
 cases hfo : oN with
 | none => rw [hfo] at hr; cases hr
 | some rN =>
 rw [hfo] at hr
 rw [a8]
 refine wpIn_rangeFunc fun fn _ => ?_
 have be := hs.new (.deferred (some []))
 have al := be.new (.loop { state := .ready, pending := none, fn := fn, tmps := a.tmps, params := ps.toArray, assign := assign, body := body, defers := w.heap.size })
 have hz : ({ w with heap := w.heap.push (.deferred (some [])) } : World).heap.size = w.heap.size + 1 := by simp
 rw [hz] at al
 let u : Loop := { state := .ready, pending := none, fn, tmps := a.tmps, params := ps.toArray, assign, body, defers := w.heap.size }
 let w2 : World := (w.alloc (.deferred (some []))).alloc (.loop u)
 refine ⟨w.heap.size + 1, [mkD w.heap.size], w2, { target := .fn (.func f) cap.toArray, args := #[.func (.yield (w.heap.size + 1)) #[] #[]] }, w2, f, (Value.func (.yield (w.heap.size + 1)) #[] #[] :: cap).toArray, w2, run_enterLoop_outer fn a.tmps ps.toArray assign body, ?_, ?_⟩
 ·have e1 : a.eval (.const (.func (.yield (w.heap.size + 1)) #[] #[])) = .func (.yield (w.heap.size + 1)) #[] #[] := rfl
  simp [resolve, he.ev hg, Deferred.ofValue, e1]
 ·refine ⟨fun f' _ => trivial, ?_, (by intro h; cases h), ?_⟩
  ·simp [invoke, hf]
  refine callsIn_wide.2 ?_
  have hR : nW K.P K.W (w.heap.size + 1) u enc own I G :=
   sq (ps := ps) Eb he rfl rfl rfl rfl bc ad (hA _) (hB _)
  have hY := so hR (fun x g => by simpa [u] using (ad x g).symm)
  have br : Sat K.W ((itA (w.heap.size + 1) u G s0 J :: Cap) ++ [aS (pts w.heap.size (.deferred (some [])) :: rst)]) w2 := by
   refine al.ent ?_
   intro h x
   have x1 : bb (pts (w.heap.size + 1) (.loop u)) (bb (pts w.heap.size (.deferred (some []))) (bb (aS (G s0 J)) (aS (Cap ++ rst)))) h :=
    cj h (fun _ x => x) (fun h x => cj h (fun _ x => x) (fun h x => (cz _ _ h).1 (hH h x)) x) x
   have x2 : bb (bb (pts (w.heap.size + 1) (.loop u)) (aS (G s0 J))) (bb (pts w.heap.size (.deferred (some []))) (aS (Cap ++ rst))) h := by
    rw [← bj (pts w.heap.size _), ej (pts w.heap.size _), bj, ← bj] at x1
    exact x1
   refine cj h (fun _ x => x) (fun h x => ?_) x2
   have x3 : bb (pts w.heap.size (.deferred (some []))) (bb (aS Cap) (aS rst)) h := cj h (fun _ x => x) (fun h x => (cz _ _ h).1 x) x
   rw [← bj, ej (pts _ _), bj] at x3
   exact (cz _ _ h).2 (cj h (fun _ x => x) (fun h x => jp x) x3)
  have hc := it _ _ hY (pts w.heap.size (.deferred (some []))) rN hfo _ br
  refine hc.mono ?_
  rintro e w' ⟨y, rfl, s4⟩
  have s5 : Sat K.W (pts (w.heap.size + 1) (.loop u) :: (G (L rN) (U rN y) ++ (CapB rN y ++ [aS (pts w.heap.size (.deferred (some [])) :: rst)]))) w' := s4.ent (ma _ _)
  have hl := s5.pts_at (i := 0) rfl
  refine ⟨none, _, run_endLoop hl (by simp [u]), ?_⟩
  have s6 := s5.upd (o' := .loop { u with state := .exhausted })
  have s7 : Sat K.W (iT w.heap.size :: (G (L rN) (U rN y) ++ (CapB rN y ++ rst))) _ := s6.ent (Ent.drop (by
   intro h x
   rw [← List.append_assoc] at x
   have x2 := (cz _ _ h).1 x
   have x3 : bb (aS (G (L rN) (U rN y) ++ CapB rN y)) (bb (pts w.heap.size (.deferred (some []))) (aS rst)) h := cj h (fun _ x => x) (fun h (x : bb (aS _) tt h) => by
    rw [ej] at x
    exact eP _ tt h x) x2
   rw [← bj, ej _ (pts _ _), bj] at x3
   refine cj h (fun _ x => x) (fun h x => ?_) x3
   rw [← List.append_assoc]
   exact (cz _ _ h).2 x))
  exact h w.heap.size rN y r hr _ _ ⟨he.size, by simp [he.defers, mkD], he.get⟩ s7
theorem vp {X : Oper} {c : Call} {x : Operand} {xs : List Operand} {l : Nat} {enc : α → γ → List Value} {own : α → γ → HA} {D : S → α → Option S} {A : S → Y → HA} {s U : S} {y : Y} (v : α) (g : γ) (rst : List HA)
  (ho : X.op = .call c) (I : c.callee = .value x) (ab : c.args = xs.toArray) (hx : ev E x = some (.func (.yield l) #[] #[])) (ad : evs xs E = some (enc v g)) (af : K.ro = none)
  (hY : mj K.P K.W l enc own D A) (hH : Ent H (A s y :: own v g :: rst)) (hs : D s v = some U) :
  RE K (Y := Y) X E H (fun _ => .bool true) (fun y => A U y :: rst) := by
 intro a w he J next Q al
 refine ⟨fun f _ => gO _ _, ?_⟩
 rw [Oper.semAt_eq _ _ _ (by rw [ho]; intro c h; cases h)]
 have an : Sat K.W ([A s y, own v g] ++ [aS rst]) w := J.ent (fun h x => Ent.fold [A s y, own v g] rst h (hH h x))
 obtain ⟨f, tmps, assign, body, L, u⟩ := hY s v g U y _ w hs an
 have hr : (execOp a.eval X).run K.P w = .ok (.round l f tmps assign body) w := by
  unfold execOp; simp only [ho]
  have G : c.args.map a.eval = (enc v g).toArray := by rw [ab, ← jk he xs _ ad]; simp
  simp [resolve, I, G, he.ev hx, Deferred.ofValue, invoke, callFunc, L]
 rw [hr]
 refine ⟨kU _, ?_⟩
 rw [af]
 refine RoundIn.mono u ?_
 rintro e w' ⟨rfl, y', s3⟩
 exact al y' w' (s3.ent fun h x => Ent.unfold [A U y'] rst h x)
end
theorem tf {α : Type} {T : TypeId} {n : Nat} {V : α → List Value → Prop} {a : Option Addr} {c : Nat} {xs : List α} {lo hi : Int} {I : Option Addr} {J m : Nat} {rs : List (List Value)} (u : bP n V xs rs) (L : qi n a c lo I J) (X : 0 ≤ lo ∧ lo ≤ hi ∧ hi ≤ xs.length) (U : xs.length ≤ c) {p : Hp} (h : Row T n a m c rs.flatten p) : am T n V I (cut xs lo hi) J p := by
 have D := u.flat
 have G : hi.toNat ≤ xs.length := by omega
 have h2 : hi.toNat * n ≤ rs.flatten.length := by rw [D]; exact Nat.mul_le_mul_right _ G
 have := oS (lo := lo.toNat) (hi := hi.toNat) (by omega) h2 (by omega) L.addr L.cap p h
 refine ⟨(rs.take hi.toNat).drop lo.toNat, (u.take _).drop _, ?_⟩
 rw [ic X.2.2, (u.take _).flat_drop, u.flat_take]
 exact this
end Go.Proofs.YtndjkejhacfpdaaGreatDoor
