/- Texts that lead to the law WalRecovers: Sl15, Sl16, Sl17, Sl18, Sl19, Sl20, Sl21, Sl23, Sl24, Sl25, Sl26, Sl27, Sh, Sl28, Sl29, Sl30, Sl31, Sl32, Sl33, Sl34. Conditions: as each says. -/
import Derived.Test.YtndjkejhacfpdaaGreatDoorM1
import Derived.Maps.Own
import Derived.Maps.Range
import Derived.Sort.KeysCollected
import Derived.Lib.SlKeysI
import Derived.Maps.RangeRun
import Derived.Lib.LaidTab
import Derived.Shelf.Strconv.Itoa4
import Derived.Shelf.Strconv.ErrVarParseInt
import Derived.Shelf.SlIter.Nil
import Derived.Shelf.SlIterI.Nil
import Derived.Shelf.SortM.Plain
import Derived.Shelf.SortM.SortNone
import Derived.Shelf.Strconv.Itoa3
import Derived.Test.YtndjkejhacfpdaaGreatDoorProg
import Derived.RecoverIn
import Derived.Sort.Row
set_option linter.unusedVariables false
set_option linter.unusedSimpArgs false
set_option linter.unusedSectionVars false
namespace Go.Proofs.YtndjkejhacfpdaaGreatDoor
open Go.RowKit
section
variable {α β : Type} [DecidableEq α]
def aW : List (α × β) → α → Option β
 | [], _ => none
 | p :: l, x => if p.1 = x then some p.2 else aW l x
def bE : List (α × β) → α → β → List (α × β)
 | [], x, y => [(x, y)]
 | p :: l, x, y => if p.1 = x then (x, y) :: l else p :: bE l x y
def fj : List (α × β) → α → List (α × β)
 | [], _ => []
 | p :: l, x => if p.1 = x then l else p :: fj l x
def ib : List (α × β) → α → Nat → Option (Nat × β)
 | [], _, _ => none
 | p :: l, x, i => if p.1 = x then some (i, p.2) else ib l x (i + 1)
theorem pD : ∀ (l : List (α × β)) (x : α) (i : Nat), (ib l x i).map (·.2) = aW l x
 | [], _, _ => rfl
 | p :: l, x, i => by
  simp only [ib, aW]
  split
  ·rfl
  ·exact pD l x (i + 1)
end
structure mp (P : Program) (T : TypeId) {α : Type} [DecidableEq α] (ek : α → Value) : Prop where
 chk : ∀ e x w, (Instr.checkKey e 10000 T (ek x)).run P w = .ok () w
 desc : ∃ u, P.underlying T = some u ∧ ((∀ x y, Instr.sameNow u (ek x) (ek y) = some (decide (x = y))) ∨ ((∀ x y, Instr.sameNow u (ek x) (ek y) = none) ∧ ∀ x y w, (Op.equal T (ek x) (ek y)).run P w = .ok (decide (x = y)) w))
 bits : ∀ x, Instr.sameBits 10000 (ek x) (ek x) = true
section
variable {α β : Type} [DecidableEq α] {P : Program} {T : TypeId} {ek : α → Value} {ev : β → Value}
def eT (ek : α → Value) (ev : β → Value) (es : List MapEntry) (kvs : List (α × β)) : Prop := es.map (fun e => (e.key, e.val)) = kvs.map fun p => (ek p.1, ev p.2)
theorem qh {u : TypeDesc} (D : ∀ x y, Instr.sameNow u (ek x) (ek y) = some (decide (x = y))) (x : α) : ∀ (kvs : List (α × β)) (es : List MapEntry) (i : Nat), eT ek ev es kvs → Instr.findNow u (ek x) es i = some ((ib kvs x i).map fun p => (p.1, ev p.2))
 | [], es, i, h => by
  have : es = [] := by simpa [eT] using h
  subst this; rfl
 | p :: l, [], i, h => by simp [eT] at h
 | p :: l, e :: es, i, h => by
  simp only [eT, List.map_cons, List.cons.injEq, Prod.mk.injEq] at h
  obtain ⟨⟨h1, I⟩, J⟩ := h
  simp only [Instr.findNow, ib]
  rw [h1, D]
  by_cases hx : p.1 = x
  ·rw [if_pos hx, hx]; simp [I]
  ·rw [if_neg hx, decide_eq_false (fun e => hx e.symm)]
   exact qh D x l es (i + 1) J
theorem pc {x : α} (u : ∀ x y w, (Op.equal T (ek x) (ek y)).run P w = .ok (decide (x = y)) w) (w : World) : ∀ (kvs : List (α × β)) (es : List MapEntry) (i : Nat), eT ek ev es kvs → (Instr.findAsking T (ek x) es i).run P w = .ok ((ib kvs x i).map fun p => (p.1, ev p.2)) w
 | [], es, i, h => by
  have : es = [] := by simpa [eT] using h
  subst this; simp [Instr.findAsking, ib]
 | p :: l, [], i, h => by simp [eT] at h
 | p :: l, e :: es, i, h => by
  simp only [eT, List.map_cons, List.cons.injEq, Prod.mk.injEq] at h
  obtain ⟨⟨h1, D⟩, I⟩ := h
  simp only [Instr.findAsking, ib, Sem.run_bind]
  rw [h1, u]
  simp only [Result.andThen_ok]
  by_cases hx : p.1 = x
  ·rw [if_pos hx, hx]; simp [D]
  ·rw [if_neg hx, decide_eq_false (fun e => hx e.symm)]
   simpa using pc u w l es (i + 1) I
theorem uV {u : TypeDesc} (D : ∀ x y, Instr.sameNow u (ek x) (ek y) = none) (x : α) : ∀ (kvs : List (α × β)) (es : List MapEntry) (i : Nat), eT ek ev es kvs → kvs ≠ [] → Instr.findNow u (ek x) es i = none
 | [], es, i, h, hn => absurd rfl hn
 | p :: l, [], i, h, _ => by simp [eT] at h
 | p :: l, e :: es, i, h, _ => by
  simp only [eT, List.map_cons, List.cons.injEq, Prod.mk.injEq] at h
  simp only [Instr.findNow]
  rw [h.1.1, D]
theorem mp.find (K : mp P T ek) (w : World) {kvs : List (α × β)} {es : List MapEntry} (h : eT ek ev es kvs) (x : α) : (Instr.findKey T (ek x) es).run P w = .ok ((ib kvs x 0).map fun p => (p.1, ev p.2)) w := by
 obtain ⟨u, I, D⟩ := K.desc
 unfold Instr.findKey
 simp only [Sem.run_bind, underlying, program, Sem.run, I, Result.andThen_ok, Sem.run_pure]
 rcases D with D | ⟨D, J⟩
 ·rw [qh D x kvs es 0 h]; simp
 ·by_cases hn : kvs = []
  ·subst hn
   have : es = [] := by simpa [eT] using h
   subst this
   simp [Instr.findNow, ib]
  ·rw [uV D x kvs es 0 h hn]
   exact pc J w kvs es 0 h
def au (b : Nat) (ek : α → Value) (ev : β → Value) (kvs : List (α × β)) : HA := fun h => ∃ es u, h b = some (.map es u) ∧ eT ek ev es.toList kvs ∧ (es.toList.map (·.born)).Nodup ∧ ∀ e ∈ es.toList, e.born < u
theorem Sat.map_open {W w : World} {l : List HA} {b : Nat} {kvs : List (α × β)} (s : Sat W (au b ek ev kvs :: l) w) :
  ∃ es u, eT ek ev es.toList kvs ∧ (es.toList.map (·.born)).Nodup ∧ (∀ e ∈ es.toList, e.born < u) ∧ Sat W (pts b (.map es u) :: l) w := by
 obtain ⟨x, y, d, e, ⟨es, u, h1, D, I, J⟩, r⟩ := s.hp
 exact ⟨es, u, D, I, J, s.os, s.tape, s.output, s.size, x, y, d, e, h1, r⟩
theorem Sat.map_close {W w : World} {l : List HA} {b u : Nat} {es : Array MapEntry} {kvs : List (α × β)} (s : Sat W (pts b (.map es u) :: l) w) (h1 : eT ek ev es.toList kvs) (D : (es.toList.map (·.born)).Nodup) (I : ∀ e ∈ es.toList, e.born < u) : Sat W (au b ek ev kvs :: l) w :=
 s.ent (Ent.sel' 0 rfl (fun h x => ⟨es, u, x, h1, D, I⟩) (Ent.refl _))
theorem pd : ∀ (l : List (α × β)) (x : α) (i j : Nat) (y : β), ib l x i = some (j, y) → i ≤ j ∧ j - i < l.length
 | [], _, _, _, _, h => by simp [ib] at h
 | p :: l, x, i, j, y, h => by
  simp only [ib] at h
  split at h
  ·simp at h; obtain ⟨rfl, _⟩ := h; simp
  ·obtain ⟨h1, u⟩ := pd l x (i + 1) j y h; simp; omega
theorem qi : ∀ (kvs : List (α × β)) (es : List MapEntry) (x : α) (y : β) (i j : Nat) (z : β), eT ek ev es kvs → ib kvs x i = some (j, z) → eT ek ev (es.modify (j - i) fun e => { e with key := ek x, val := ev y }) (bE kvs x y)
 | [], es, x, y, i, j, z, _, h => by simp [ib] at h
 | p :: l, [], x, y, i, j, z, he, h => by simp [eT] at he
 | p :: l, e :: es, x, y, i, j, z, he, h => by
  simp only [eT, List.map_cons, List.cons.injEq, Prod.mk.injEq] at he
  obtain ⟨⟨h1, I⟩, D⟩ := he
  simp only [ib] at h
  simp only [bE]
  split at h
  ·rename_i u
   simp at h
   rw [if_pos u, ← h.1]
   simp [eT]
   exact D
  ·rename_i u
   obtain ⟨a, b⟩ := pd l x (i + 1) j z h
   rw [if_neg u, show j - i = (j - (i + 1)) + 1 by omega]
   simp only [List.modify_succ_cons, eT, List.map_cons, List.cons.injEq, Prod.mk.injEq]
   exact ⟨⟨h1, I⟩, qi l es x y (i + 1) j z D h⟩
theorem qj : ∀ (kvs : List (α × β)) (es : List MapEntry) (x : α) (y : β) (i c : Nat), eT ek ev es kvs → ib kvs x i = none → eT ek ev (es ++ [{ key := ek x, val := ev y, born := c }]) (bE kvs x y)
 | [], es, x, y, i, c, he, _ => by
  have : es = [] := by simpa [eT] using he
  subst this; simp [eT, bE]
 | p :: l, [], x, y, i, c, he, h => by simp [eT] at he
 | p :: l, e :: es, x, y, i, c, he, h => by
  simp only [eT, List.map_cons, List.cons.injEq, Prod.mk.injEq] at he
  obtain ⟨⟨h1, u⟩, D⟩ := he
  simp only [ib] at h
  simp only [bE]
  split at h
  ·simp at h
  ·rename_i I
   rw [if_neg I]
   simp only [List.cons_append, eT, List.map_cons, List.cons.injEq, Prod.mk.injEq]
   exact ⟨⟨h1, u⟩, qj l es x y (i + 1) c D h⟩
theorem tB : ∀ (kvs : List (α × β)) (es : List MapEntry) (x : α) (i j : Nat) (z : β), eT ek ev es kvs → ib kvs x i = some (j, z) → eT ek ev (es.eraseIdx (j - i)) (fj kvs x)
 | [], es, x, i, j, z, _, h => by simp [ib] at h
 | p :: l, [], x, i, j, z, he, h => by simp [eT] at he
 | p :: l, e :: es, x, i, j, z, he, h => by
  simp only [eT, List.map_cons, List.cons.injEq, Prod.mk.injEq] at he
  obtain ⟨⟨h1, I⟩, D⟩ := he
  simp only [ib] at h
  simp only [fj]
  split at h
  ·rename_i u
   simp at h
   rw [if_pos u, ← h.1]
   simpa [eT] using D
  ·rename_i u
   obtain ⟨a, b⟩ := pd l x (i + 1) j z h
   rw [if_neg u, show j - i = (j - (i + 1)) + 1 by omega]
   simp only [List.eraseIdx_cons_succ, eT, List.map_cons, List.cons.injEq, Prod.mk.injEq]
   exact ⟨⟨h1, I⟩, tB l es x (i + 1) j z D h⟩
theorem tC : ∀ (kvs : List (α × β)) (x : α) (i : Nat), ib kvs x i = none → fj kvs x = kvs
 | [], _, _, _ => rfl
 | p :: l, x, i, h => by
  simp only [ib] at h
  simp only [fj]
  split at h
  ·simp at h
  ·rename_i u; rw [if_neg u, tC l x (i + 1) h]
theorem rv : ∀ (kvs : List (α × β)) (es : List MapEntry) (x : α) (i j : Nat) (z : β), eT ek ev es kvs → ib kvs x i = some (j, z) → ∃ e, es[j - i]? = some e ∧ e.key = ek x
 | [], es, x, i, j, z, _, h => by simp [ib] at h
 | p :: l, [], x, i, j, z, he, h => by simp [eT] at he
 | p :: l, e :: es, x, i, j, z, he, h => by
  simp only [eT, List.map_cons, List.cons.injEq, Prod.mk.injEq] at he
  obtain ⟨⟨h1, I⟩, u⟩ := he
  simp only [ib] at h
  split at h
  ·rename_i D
   simp at h
   rw [← h.1]
   exact ⟨e, by simp, by rw [h1, D]⟩
  ·obtain ⟨a, b⟩ := pd l x (i + 1) j z h
   rw [show j - i = (j - (i + 1)) + 1 by omega]
   simpa using rv l es x (i + 1) j z u h
end
section
variable {K : Cx} {R S Y : Type} {Q : eM R} {E : Env} {H : List HA} {opt : Option R} {ops : Array Oper} {rest : List Oper} {o : Oper} {α β : Type} [DecidableEq α] {ek : α → Value} {ev : β → Value} {T VT t : TypeId} {b : Nat} {kvs : List (α × β)}
theorem uW {t : TypeId} (u : o.op = .makeMap t none) : RE K (Y := Nat) o E H (fun b => .map (some b)) (fun b => au b ek ev [] :: H) :=
 jK (by rw [u]; intro c h; cases h) fun a w I D => by
  refine ⟨w.heap.size, { w with heap := w.heap.push (.map #[] 0) }, ?_, (D.new _).map_close (by simp [eT]) (by simp) (by simp)⟩
  unfold execOp; simp only [u]
  simp [Instr.makeMap, newObj, Sem.run]
theorem nP {x y : Operand} {z : β} (k : Nat) (v : α) (U : o.op = .lookup t x y false) (hx : Go.Proofs.YtndjkejhacfpdaaGreatDoor.ev E x = some (.map (some b))) (hy : Go.Proofs.YtndjkejhacfpdaaGreatDoor.ev E y = some (ek v)) (X : K.P.underlying t = some (.map T VT)) (I : mp K.P T ek) (hz : ∀ w, (zeroValue VT).run K.P w = .ok (ev z) w) (hk : H[k]? = some (au b ek ev kvs)) :
  RQ K o E H (ev ((aW kvs v).getD z)) :=
 dL (by rw [U]; intro c h; cases h) fun a w he s => by
  obtain ⟨es, J, h1, h2, h3, s2⟩ := (s.focus hk).map_open
  have hb := s2.pts_at (i := 0) rfl
  have D := I.find w h1 v
  have u := pD kvs v 0
  unfold execOp; simp only [U]; rw [he.ev hx, he.ev hy]
  cases hp : ib kvs v 0 with
  | none =>
   rw [hp] at D u
   simp at u
   simp [Instr.lookup, underlying, program, Sem.run, X, getObj, hb, I.chk, D, hz, ← u]
  | some p =>
   rw [hp] at D u
   simp at u
   simp [Instr.lookup, underlying, program, Sem.run, X, getObj, hb, I.chk, D, ← u]
theorem jW (es : Array MapEntry) (i : Nat) (f : MapEntry → MapEntry) : (es.modify i f).toList = es.toList.modify i f := by
 apply List.ext_getElem?
 intro j
 simp [List.getElem?_modify, Array.getElem?_modify]
theorem Bt {x y z : Operand} (k : Nat) (v : α) (u : β) (ho : o.op = .mapUpdate t x y z) (hx : Go.Proofs.YtndjkejhacfpdaaGreatDoor.ev E x = some (.map (some b))) (hy : Go.Proofs.YtndjkejhacfpdaaGreatDoor.ev E y = some (ek v)) (hz : Go.Proofs.YtndjkejhacfpdaaGreatDoor.ev E z = some (ev u)) (hu : K.P.underlying t = some (.map T VT)) (X : mp K.P T ek) (hk : H[k]? = some (au b ek ev kvs)) :
  RE K (Y := Unit) o E H (fun _ => undef) (fun _ => H.set k (au b ek ev (bE kvs v u))) :=
 sW (by rw [ho]; intro c h; cases h) fun a w I s => by
  obtain ⟨es, D, h1, h2, h3, s2⟩ := (s.focus hk).map_open
  have hb := s2.pts_at (i := 0) rfl
  have hf := X.find w h1 v
  cases hp : ib kvs v 0 with
  | none =>
   rw [hp] at hf
   refine ⟨(), _, ?_, Sat.unfocus hk ((s2.upd (b := b) (o' := .map (es.push { key := ek v, val := ev u, born := D }) (D + 1))).map_close ?_ ?_ ?_)⟩
   ·unfold execOp; simp only [ho]; rw [I.ev hx, I.ev hy, I.ev hz]
    simp [Instr.mapUpdate, underlying, program, Sem.run, hu, getObj, hb, X.chk, hf, setObj]
   ·simpa using qj kvs es.toList v u 0 D h1 hp
   ·simp only [Array.toList_push, List.map_append, List.map_cons, List.map_nil]
    refine List.nodup_append.2 ⟨h2, by simp, fun a ha b hb => ?_⟩
    simp only [List.mem_singleton] at hb
    obtain ⟨e, I, rfl⟩ := List.mem_map.1 ha
    have := h3 e I
    omega
   ·intro e I
    simp only [Array.toList_push, List.mem_append, List.mem_singleton] at I
    rcases I with I | rfl
    ·have := h3 e I; omega
    ·simp
  | some p =>
   obtain ⟨j, q⟩ := p
   rw [hp] at hf
   obtain ⟨e0, hj, J⟩ := rv kvs es.toList v 0 j q h1 hp
   rw [Nat.sub_zero] at hj
   have a6 : es[j]? = some e0 := by simpa using hj
   have U : (Instr.keyThatStays (ek v) (ek v)).run K.P w = .ok (ek v) w := by simp [Instr.keyThatStays, X.bits]
   refine ⟨(), _, ?_, Sat.unfocus hk ((s2.upd (b := b) (o' := .map (es.modify j fun e => { e with key := ek v, val := ev u }) D)).map_close ?_ ?_ ?_)⟩
   ·unfold execOp; simp only [ho]; rw [I.ev hx, I.ev hy, I.ev hz]
    simp [Instr.mapUpdate, underlying, program, Sem.run, hu, getObj, hb, X.chk, hf, a6, J, U, setObj]
   ·rw [jW]
    simpa using qi kvs es.toList v u 0 j q h1 hp
   ·rw [jW]
    have : (es.toList.modify j fun e => { e with key := ek v, val := ev u }).map (·.born) = es.toList.map (·.born) := by
     apply List.ext_getElem?
     intro i
     simp only [List.getElem?_map, List.getElem?_modify]
     by_cases hi : j = i <;> simp [hi] <;> cases es[i]? <;> simp
    rw [this]; exact h2
   ·rw [jW]
    intro e I
    obtain ⟨i, hi⟩ := List.mem_iff_getElem?.1 I
    rw [List.getElem?_modify] at hi
    cases hq : es.toList[i]? with
    | none => rw [hq] at hi; simp at hi
    | some e1 =>
     rw [hq] at hi
     have := h3 e1 (List.mem_of_getElem? hq)
     by_cases hji : j = i
     ·simp [hji] at hi; rw [← hi]; exact this
     ·simp [hji] at hi; rw [← hi]; exact this
theorem Bu {x y : Operand} {ts : Array TypeId} (k : Nat) (v : α) (U : o.op = .call { callee := .builtin .delete, args := #[x, y], argTypes := ts }) (hx : Go.Proofs.YtndjkejhacfpdaaGreatDoor.ev E x = some (.map (some b))) (hy : Go.Proofs.YtndjkejhacfpdaaGreatDoor.ev E y = some (ek v)) (ht : ts[0]? = some t) (hu : K.P.underlying t = some (.map T VT)) (X : mp K.P T ek) (hk : H[k]? = some (au b ek ev kvs)) :
  RE K (Y := Unit) o E H (fun _ => .tuple #[]) (fun _ => H.set k (au b ek ev (fj kvs v))) :=
 jK (by rw [U]; intro c h; cases h) fun a w D s => by
  obtain ⟨es, u, h1, h2, h3, s2⟩ := (s.focus hk).map_open
  have hb := s2.pts_at (i := 0) rfl
  have J := X.find w h1 v
  cases hp : ib kvs v 0 with
  | none =>
   rw [hp] at J
   refine ⟨(), _, ?_, Sat.unfocus hk ((s2.upd (b := b) (o' := .map es u)).map_close (by rw [tC kvs v 0 hp]; exact h1) h2 h3)⟩
   unfold execOp; simp only [U]
   simp [resolve, invoke, builtin, Builtin.delete_, ht, underlying, program, Sem.run, hu, D.ev hx, D.ev hy, getObj, hb, X.chk, J, setObj]
  | some p =>
   obtain ⟨j, q⟩ := p
   rw [hp] at J
   have bc := pd kvs v 0 j q hp
   have be : es.size = kvs.length := by have := congrArg List.length h1; simpa [eT] using this
   have I : j < es.size := by omega
   refine ⟨(), _, ?_, Sat.unfocus hk ((s2.upd (b := b) (o' := .map (es.eraseIdxIfInBounds j) u)).map_close ?_ ?_ ?_)⟩
   ·unfold execOp; simp only [U]
    simp [resolve, invoke, builtin, Builtin.delete_, ht, underlying, program, Sem.run, hu, D.ev hx, D.ev hy, getObj, hb, X.chk, J, setObj]
   ·have := tB kvs es.toList v 0 j q h1 hp
    simpa [Array.eraseIdxIfInBounds, I] using this
   ·simp only [Array.eraseIdxIfInBounds, I, dif_pos, Array.toList_eraseIdx]
    exact (List.Sublist.map _ (List.eraseIdx_sublist _ _)).nodup h2
   ·intro e D
    simp only [Array.eraseIdxIfInBounds, I, dif_pos, Array.toList_eraseIdx] at D
    exact h3 e ((List.eraseIdx_sublist _ _).subset D)
/-! ### Strings by order -/
end
/-! ### Keys -/
theorem Ai {P : Program} {T : TypeId} {k : IntKind} (u : P.underlying T = some (.int k)) : mp P T (fun x : Int => .int k x) :=
 ⟨fun e x w => by rw [show (10000 : Nat) = 9999 + 1 from rfl, Instr.checkKey]; simp [underlying, program, Sem.run, u], ⟨_, u, .inl fun x y => by simp [Instr.sameNow]; rw [Bool.eq_iff_iff]; simp⟩, fun x => by rw [Instr.sameBits]; simp⟩
theorem Aj {P : Program} {T : TypeId} (u : P.underlying T = some .string) : mp P T (fun x : List UInt8 => str x) :=
 ⟨fun e x w => by rw [show (10000 : Nat) = 9999 + 1 from rfl, Instr.checkKey]; simp [underlying, program, Sem.run, u, str], ⟨_, u, .inl fun x y => by simp [Instr.sameNow, str]; rw [beq_toListBytes, ByteArray.toList_eq, ByteArray.toList_eq, Bool.eq_iff_iff]; simp⟩, fun x => by unfold str; rw [Instr.sameBits, beq_toListBytes]; simp⟩
end Go.Proofs.YtndjkejhacfpdaaGreatDoor

namespace Go.Proofs.YtndjkejhacfpdaaGreatDoor
open Go.RowKit
theorem uu (vs : List Value) (l m : List Value) (k : Nat) (h : k + vs.length ≤ l.length) : jA (l ++ m) k vs = jA l k vs ++ m := by
 rw [ly _ _ _ (by simp; omega), ly _ _ _ h, List.take_append_of_le_length (by omega), List.drop_append_of_le_length h]
 simp
theorem sT (vs : List Value) (l m : List Value) (k : Nat) (h : k + vs.length ≤ m.length) : jA (l ++ m) (l.length + k) vs = l ++ jA m k vs := by
 rw [ly _ _ _ (by simp; omega), ly _ _ _ h]
 rw [List.take_append, List.drop_append, List.take_of_length_le (by omega), List.drop_of_length_le (by omega)]
 rw [show l.length + k - l.length = k by omega, show l.length + k + vs.length - l.length = k + vs.length by omega]
 simp
section
variable {α : Type} {n : Nat} {V : α → List Value → Prop}
theorem bW.set (u : α) (d : Nat) (vs : List Value) (hd : d + vs.length ≤ n) (h1 : one vs) (I : α) : ∀ {xs : List α} {rs : List (List Value)} (i : Nat), bW n V xs rs → i < xs.length → (∀ r, V (xs.getD i I) r → r.length = n → one r → V u (jA r d vs)) →
  ∃ D, bW n V (xs.set i u) D ∧ jA rs.flatten (i * n + d) vs = D.flatten
 | x :: xs, r :: rs, 0, ⟨⟨a, b, c⟩, t⟩, _, hu => by
  refine ⟨jA r d vs :: rs, ⟨⟨by rw [mU]; exact a, ?_, hu r c a b⟩, t⟩, ?_⟩
  ·rw [ly _ _ _ (by omega)]
   intro v J
   simp only [List.mem_append] at J
   rcases J with (J | J) | J
   ·exact b v (List.mem_of_mem_take J)
   ·exact h1 v J
   ·exact b v (List.mem_of_mem_drop J)
  ·simp only [List.flatten_cons, Nat.zero_mul, Nat.zero_add]
   exact uu vs r _ d (by omega)
 | x :: xs, r :: rs, i + 1, ⟨⟨a, b, c⟩, t⟩, h, hu => by
  obtain ⟨D, h2, h3⟩ := bW.set u d vs hd h1 I i t (by simpa using h) (by simpa using hu)
  refine ⟨r :: D, ⟨⟨a, b, c⟩, h2⟩, ?_⟩
  simp only [List.flatten_cons]
  have U := t.flat
  have hi : i < xs.length := by simpa using h
  have X : i * n + d + vs.length ≤ rs.flatten.length := by
   rw [U]
   have : (i + 1) * n ≤ xs.length * n := Nat.mul_le_mul_right _ hi
   rw [Nat.add_mul] at this
   omega
  rw [← h3, show (i + 1) * n + d = r.length + (i * n + d) by rw [Nat.add_mul, a]; omega]
  exact sT vs r _ _ X
end
structure ux (n : Nat) (a : Option Addr) (c : Nat) (lo : Int) (a' : Option Addr) (c' : Nat) : Prop where
 addr : a' = (if c = lo.toNat then a else a.map (·.add (lo.toNat * n)))
 cap : c' = c - lo.toNat
theorem jY {α : Type} {n : Nat} {V : α → List Value → Prop} {F : HA} {a : Option Addr} {l : List α} {c : Nat} {lo hi : Int} (J : RdV F n V a l) (D : l.length ≤ c) (U : 0 ≤ lo ∧ lo ≤ hi ∧ hi ≤ l.length) :
  ∃ I u, ux n a c lo I u ∧ RdV F n V I (cut l lo hi) ∧ (cut l lo hi).length ≤ u ∧ u ≤ c :=
 ⟨_, _, ⟨rfl, rfl⟩, J.cut lo.toNat hi.toNat (by omega), by rw [kC U.2.2]; omega, by omega⟩
section
variable {K : Cx} {R S Y α : Type} {Q : eM R} {E : Env} {H : List HA} {opt : Option R} {ops : Array Oper} {rest : List Oper} {o : Oper} {n : Nat} {V : α → List Value → Prop} {a : Option Addr} {xs : List α} {T : TypeId} {c : Nat}
theorem gV {x : Operand} {t e : Nat} {lo hi : Option Operand} {J : Option Addr} {U m : Nat} {l : List α} {D I : Option Value} {lo' hi' : Int}
  (ho : o.op = .slice t x lo hi none) (hx : ev E x = some (.slice a m c))
  (hl : lim E lo = some D) (hh : lim E hi = some I) (hu : K.P.underlying t = some (.slice e)) (hs : ∀ w, (sizeOf e).run K.P w = .ok n w)
  (h1 : (I = none ∧ hi' = m) ∨ ∃ k, I = some (.int k hi')) (h2 : (D = none ∧ lo' = 0) ∨ ∃ k, D = some (.int k lo')) (hb : 0 ≤ lo' ∧ lo' ≤ hi' ∧ hi' ≤ l.length) (X : l.length ≤ c) (hS : ux n a c lo' J U) :
  RQ K o E H (.slice J (cut l lo' hi').length U) := by
 obtain ⟨b1, b2, b3⟩ := hb
 obtain ⟨rfl, rfl⟩ := hS
 obtain ⟨L, rfl⟩ := Int.eq_ofNat_of_zero_le b1
 obtain ⟨M, rfl⟩ := Int.eq_ofNat_of_zero_le (Int.le_trans b1 b2)
 have u := kC (l := l) (lo := (L : Int)) (hi := (M : Int)) b3
 simp only [Int.toNat_natCast] at u
 have q := wX (K := K) (H := H) (o := o) (l := L) (h := M) ho hx hl hh hu hs (by rcases h1 with ⟨x, y⟩ | y; exact .inl ⟨x, by omega⟩; exact .inr y) (by rcases h2 with ⟨x, y⟩ | y; exact .inl ⟨x, by omega⟩; exact .inr y) (by omega) (by omega)
 rw [← u] at q
 simpa using q
theorem sQ {T : TypeId} {n m c c' : Nat} {a a' : Option Addr} {cs : List Value} {lo hi : Nat} (h1 : lo ≤ hi) (h2 : hi * n ≤ cs.length) (h3 : hi ≤ c) (J : a' = (if c = lo then a else a.map (·.add (lo * n)))) (D : c' = c - lo) :
  ∀ h, Row T n a m c cs h → Row T n a' (hi - lo) c' ((cs.take (hi * n)).drop (lo * n)) h := by
 intro h x
 rcases x with ⟨x1, x2, x3, x4⟩ | ⟨b, off, pre, junk, fz, U, ok, hb⟩
 ·left
  subst x4
  subst x3
  have : hi = 0 := by omega
  have : lo = 0 := by omega
  subst x1
  refine ⟨?_, by omega, by omega, by simp⟩
  rw [J]; split <;> rfl
 ·right
  subst U
  have X : lo * n ≤ hi * n := Nat.mul_le_mul_right _ h1
  have be : hi * n ≤ c * n := Nat.mul_le_mul_right _ h3
  have ab := ok.room
  have u := ok.offs
  have a1 := ok.cap
  by_cases e : c = lo
  ·have hh : hi = lo := by omega
   refine ⟨b, off, pre, cs ++ junk, fz, by rw [J, if_pos e], ⟨u, by omega, by omega, by rw [D, e]; simp, by rw [hh]; simp, by rw [hh]; simp [List.drop_of_length_le], ?_⟩, ?_⟩
   ·rcases ok.fzok with x | x
    ·exact .inl x
    ·right; rw [D, e]; simp; omega
   ·rw [hb]; congr 1
    have : (cs.take (hi * n)).drop (lo * n) = [] := by rw [List.drop_of_length_le]; rw [List.length_take, hh]; exact Nat.min_le_left _ _
    rw [this]; simp
  ·have I : (⟨b, off, none⟩ : Addr).add (lo * n) = ⟨b, off + lo * n, none⟩ := uQ _ _ _
   refine ⟨b, off + lo * n, pre ++ cs.take (lo * n), cs.drop (hi * n) ++ junk, fz, by rw [J, if_neg e]; simp [I], ⟨?_, by omega, by omega, ?_, ?_, ?_, ?_⟩, ?_⟩
   ·rw [List.length_append, List.length_take]; omega
   ·rw [D, Nat.sub_mul, List.length_drop, List.length_take, List.length_append, List.length_drop]; omega
   ·rw [Nat.sub_mul, List.length_drop, List.length_take]; omega
   ·rw [D, Nat.sub_mul, List.length_drop, List.length_take]; omega
   ·rcases ok.fzok with x | x
    ·exact .inl x
    ·right; rw [D, Nat.sub_mul]; omega
   ·rw [hb]; congr 1
    have e1 : cs = cs.take (lo * n) ++ ((cs.take (hi * n)).drop (lo * n) ++ cs.drop (hi * n)) := by
     rw [← List.append_assoc]
     have : cs.take (lo * n) ++ (cs.take (hi * n)).drop (lo * n) = cs.take (hi * n) := by
      have := List.take_append_drop (lo * n) (cs.take (hi * n))
      rwa [List.take_take, Nat.min_eq_left X] at this
     rw [this, List.take_append_drop]
    have e2 : pre ++ cs ++ junk = pre ++ cs.take (lo * n) ++ (cs.take (hi * n)).drop (lo * n) ++ (cs.drop (hi * n) ++ junk) := by
     conv => lhs; rw [e1]
     simp only [List.append_assoc]
    rw [e2]
theorem mC {t e sz bytes : Nat} {D : List Value} (u : o.op = .buildSlice t 0 [].toArray) (I : K.P.underlying t = some (.slice e)) (J : Elt K.P e sz bytes D) :
  RE K (Y := Nat) o E H (fun b => .slice (some ⟨b, 0, none⟩) ([] : List α).length 0) (fun b => ah e sz V (some ⟨b, 0, none⟩) ([] : List α) 0 :: H) :=
 jK (by rw [u]; intro c h; cases h) fun a' w he s => by
  obtain ⟨i, z, hi, hz, U, X, ab⟩ := J.info
  refine ⟨w.heap.size, { w with heap := w.heap.push (.cells #[] e (0, 0)) }, ?_, (s.new _).ent (Ent.sel' 0 rfl ?_ (Ent.refl _))⟩
  ·unfold execOp; simp only [u]
   simp [Instr.buildSlice, underlying, program, Sem.run, I, sizeOf, typeInfo, hi, newRow, newObj, Instr.fill]
   refine congrArg (fun x => w.alloc (.cells x e)) ?_
   apply Array.ext <;> simp
  ·intro h x
   exact ⟨[], trivial, Row.mk (pre := []) (junk := []) (fz := (0, 0)) ⟨rfl, Nat.le_refl _, by simp [maxLen], by simp, by simp, by simp, Or.inl rfl⟩ h (by simpa [pts] using x)⟩
end
/-! ### Structs within structs -/
section
variable {P : Program} {d : Nat} {xs ys : Array Value} {f : Field} {fs : List Field} {a b : Value} {r s : Bool} {w : World}
end
section
variable {K : Cx} {E : Env} {H : List HA} {o : Oper}
end
end Go.Proofs.YtndjkejhacfpdaaGreatDoor

namespace Go.Proofs.YtndjkejhacfpdaaGreatDoor
open Go.RowKit
theorem oZ {α : Type} {b : Bool} (h : b = true) (u v : α) : (bif b then u else v) = u := by rw [h]; rfl
theorem qf {α : Type} {b : Bool} (h : b = false) (u v : α) : (bif b then u else v) = v := by rw [h]; rfl
theorem cg {b : Bool} (h : b = true) : (b == true) = true := by rw [h]; rfl
theorem lH {b : Bool} (h : b = false) : (b == false) = true := by rw [h]; rfl
theorem ki {b : Bool} (h : b = true) : (b == false) = false := by rw [h]; rfl
theorem ci {b : Bool} (h : b = false) : (b == true) = false := by rw [h]; rfl
theorem Cw {b u : Bool} (h : (b == u) = true) (v : Value) : v = cv (b == u) v := by rw [h]; rfl
theorem Ba {b u : Bool} (h : (b == u) = false) (v : Value) : undef = cv (b == u) v := by rw [h]; rfl
section
variable {K : Cx} {R S Y : Type} {Q : eM R} {E : Env} {H : List HA} {o : Option R}
theorem QOb.no {ops : Array Oper} {D : List (List Nat)} {val : Nat → Value} {i j dj : Nat} {u b : Bool} {J : Oper} (I : Env) (X : ops[i]? = some J) (hg : J.guard = some (j, u)) (hj : fk ops j = some dj) (hb : lk I dj = some (.bool b)) (U : (b == u) = false)
  (he : gm ops D val E i I) (hv : val i = undef) : QOb K ops D val E H i :=
 .grd (v := undef) I X hg hj hb he (fun x => by rw [U] at x; cases x) (by rw [hv]; exact Ba U undef)
theorem gm.v {ops : Array Oper} {u : List (List Nat)} {val : Nat → Value} {E : Env} {i : Nat} {l : Env} {s : Nat} (p : Nat) (hp : (ie u i).contains p = true) (hd : fk ops p = some s) (r : gm ops u val E i l) : gm ops u val E i ((s, val p) :: l) := .w p hp hd rfl r
theorem qp {ops : Array Oper} {u : List (List Nat)} {val : Nat → Value} {i : Nat} {D : Oper} {v : Value} {I : Env} (J : ops[i]? = some D) (U : D.guard = none) (X : gm ops u val E i I) (h : RQ K D I H v) (hv : val i = v) : QOb K ops u val E H i := .plain I J U X h hv
theorem eo {ops : Array Oper} {u : List (List Nat)} {Γ Z : Type} {val : Γ → Nat → Value} {heap : Nat → Γ → List HA} {m i : Nat} {pre : List Nat} {γ : Γ} {D : Oper} {v : Z → Value} {H' : Z → List HA} {I : Env} (f : Z → Γ) (J : ops[i]? = some D) (U : D.guard = none) (X : gm ops u (val γ) E i I)
  (h : RE K (Y := Z) D I (heap m γ) v H') (ha : ∀ z, kp pre (val (f z)) (val γ)) (hv : ∀ z, D.dst = none ∨ v z = val (f z) i) (hH : ∀ z, Ent (H' z) (heap (m + 1) (f z))) : EOb K ops u val E heap m i pre γ := .mk I f J U X h ha hv hH
theorem eoI {ops : Array Oper} {u : List (List Nat)} {Γ Z : Type} {val : Γ → Nat → Value} {heap : Nat → Γ → List HA} {s t i : Nat} {pre : List Nat} {γ : Γ} {D : Oper} {v : Z → Value} {H' : Z → List HA} {I : Env} (f : Z → Γ) (J : ops[i]? = some D) (U : D.guard = none) (X : gm ops u (val γ) E i I)
  (h : RE K (Y := Z) D I (heap s γ) v H') (ha : ∀ z, kp pre (val (f z)) (val γ)) (hv : ∀ z, D.dst = none ∨ v z = val (f z) i) (hH : ∀ z, Ent (H' z) (heap t (f z))) : rm K ops u val E heap s t i pre γ := .mk I f J U X h ha hv hH
abbrev rL (n : Nat) : List Nat := List.range n
theorem zA {p : Nat → Prop} : All [] p := trivial
theorem ac {l : List Nat} {p : Nat → Prop} {i : Nat} (h : p i) (r : All l p) : All (i :: l) p := ⟨h, r⟩
end
end Go.Proofs.YtndjkejhacfpdaaGreatDoor

namespace Go.Proofs.YtndjkejhacfpdaaGreatDoor
open Go.RowKit
section
variable {P : Program}
end
end Go.Proofs.YtndjkejhacfpdaaGreatDoor

namespace Go.Proofs.YtndjkejhacfpdaaGreatDoor
open Go.RowKit
section
variable {α β : Type} [DecidableEq α] {P : Program} {T : TypeId} {ek : α → Value} {ev : β → Value}
end
section
variable {α β : Type} [DecidableEq α] {T VT : TypeId} {ek : α → Value} {ev : β → Value} {K : Cx} {E : Env} {H : List HA} {o : Oper} {t : TypeId} {b : Nat} {kvs : List (α × β)}
end
end Go.Proofs.YtndjkejhacfpdaaGreatDoor

namespace Go.Proofs.YtndjkejhacfpdaaGreatDoor
open Go.RowKit
theorem nE {H : List HA} {b o k j : Nat} {v : Value} (h : gu H b (o + (k + j)) v) : gu H b (o + k + j) v := by rw [Nat.add_assoc]; exact h
section
variable {K : Cx} {Y : Type} {E : Env} {H : List HA} {o : Oper} {v : Y → Value} {H' : Y → List HA}
theorem RE.ent {H1 : List HA} (e : Ent H H1) (h : RE K o E H1 v H') : RE K o E H v H' := fun a w u D next Q I => h a w u (D.ent e) next Q I
end
section
variable {α : Type} {T : TypeId} {n c : Nat} {a : Option Addr} {V : α → List Value → Prop} {xs : List α} {H : List HA}
theorem Ent.set' {l : List HA} {A B : HA} (k : Nat) (u : l[k]? = some A) (h : ∀ x, A x → B x) : Ent l (l.set k B) := by
 have e : l.set k A = l := by
  apply List.ext_getElem?
  intro i
  rw [List.getElem?_set]
  split
  ·rename_i hi; subst hi
   have := (List.getElem?_eq_some_iff.1 u).1
   rw [if_pos this, u]
  ·rfl
 have := Ent.set (l := l) k h
 rwa [e] at this
theorem Ent.cutV {lo hi : Int} {J : Option Addr} {U m : Nat} {rs : List (List Value)} (k : Nat) (hk : H[k]? = some (Row T n a m c rs.flatten)) (u : bW n V xs rs) (X : ux n a c lo J U) (hb : 0 ≤ lo ∧ lo ≤ hi ∧ hi ≤ xs.length) (ab : xs.length ≤ c) :
  Ent H (H.set k (ah T n V J (cut xs lo hi) U)) :=
 Ent.set' k hk fun p hp => by
  have D := u.flat
  have I : hi.toNat ≤ xs.length := by omega
  have h2 : hi.toNat * n ≤ rs.flatten.length := by rw [D]; exact Nat.mul_le_mul_right _ I
  have := sQ (lo := lo.toNat) (hi := hi.toNat) (by omega) h2 (by omega) X.addr X.cap p hp
  refine ⟨(rs.take hi.toNat).drop lo.toNat, (u.take _).drop _, ?_⟩
  rw [kC hb.2.2, (u.take _).flat_drop, u.flat_take]
  exact this
theorem Ent.cutB {lo hi : Int} {u : Option Addr} {D m : Nat} {l : List UInt8} (k : Nat) (U : H[k]? = some (Row T 1 a m c (aL l))) (I : Ab a c lo u D) (X : 0 ≤ lo ∧ lo ≤ hi ∧ hi ≤ l.length) (J : l.length ≤ c) :
  Ent H (H.set k (Row T 1 u (cut l lo hi).length D (aL (cut l lo hi)))) :=
 Ent.set' k U fun p hp => by
  have := sQ (lo := lo.toNat) (hi := hi.toNat) (by omega) (by rw [eJ]; omega) (by omega) I.addr I.cap p hp
  rw [kC X.2.2]
  unfold cut
  rw [← ov, ← nf]
  simpa using this
end
section
variable {K : Cx} {E : Env} {H : List HA} {o : Oper} {α : Type} {n c : Nat} {a : Option Addr} {V : α → List Value → Prop} {xs : List α}
theorem jD {x y : Operand} {t e bytes : Nat} {J : List Value} {a2 : Option Addr} {c2 : Nat} {u : List α} (k : Nat) (U : o.op = .call { callee := .builtin .append, args := #[x, y], argTypes := #[t, t] })
  (X : ev E x = some (.slice a xs.length c)) (hy : ev E y = some (.slice a2 u.length c2)) (ht : K.P.underlying t = some (.slice e)) (hE : Elt K.P e n bytes J) (I : H[k]? = some (ah e n V a xs c))
  (hr : hQ (H.eraseIdx k) n V a2 u) (hb : (xs.length + u.length) * bytes ≤ 140737488355328) :
  RE K (Y := Option Addr × Nat) o E H (fun y => .slice y.1 (xs ++ u).length y.2) (fun y => H.set k (ah e n V y.1 (xs ++ u) y.2)) := by
 intro a' w he hs next Q hn
 obtain ⟨rs, hl, s⟩ := qd k I hs
 have D := (List.getElem?_eq_some_iff.1 I).1
 refine eV (H := H.set k (Row e n a xs.length c rs.flatten)) k U X hy ht hE (by simp [D]) hl (by rw [List.eraseIdx_set_eq]; exact hr) hb a' w he s next Q fun y w' s' => hn y w' ?_
 simpa only [List.set_set] using s'
theorem qY {u e : TypeId} (P : Program) (D : P.underlying u = some (.pointer e)) (w : World) : (Op.equal u (.pointer none) (.pointer none)).run P w = .ok true w := by
 rw [show Op.equal u (.pointer none) (.pointer none) = Op.equalIn (9999 + 1) u (.pointer none) (.pointer none) from rfl, Op.equalIn]
 simp [underlying, program, Sem.run, D]
theorem nT {u J e : TypeId} {x y : Operand} (D : o.op = .binOp .eql u x y J) (U : ev E x = some (.pointer none)) (X : ev E y = some (.pointer none)) (hu : K.P.underlying u = some (.pointer e)) : RQ K o E H (.bool true) :=
 dL (by rw [D]; intro c h; cases h) fun a w I _ => by
  unfold execOp; simp only [D]; rw [I.ev U, I.ev X]
  simp [mS, binOp, qY K.P hu]
theorem Cj {u J e : TypeId} {x y : Operand} (D : o.op = .binOp .neq u x y J) (U : ev E x = some (.pointer none)) (X : ev E y = some (.pointer none)) (hu : K.P.underlying u = some (.pointer e)) : RQ K o E H (.bool false) :=
 dL (by rw [D]; intro c h; cases h) fun a w I _ => by
  unfold execOp; simp only [D]; rw [I.ev U, I.ev X]
  simp [mS, binOp, qY K.P hu]
end
theorem yR {K : Cx} {R : Type} {Q : eM R} {E : Env} {H : List HA} {o : Option R} {b : Bool} {x : Operand} {u c2 : Code} (D : ev E x = some (.bool b)) (I : b = true) (h1 : Sim K Q u E H o) : Sim K Q (.cond x u c2) E H o := ix (by rw [D, I]) h1
/-! ### What may be nil -/
def Dh (b : Bool) (y : Nat) : Option Addr := match b with
 | true => some ⟨y, 0, none⟩
 | false => none
def sb (b : Bool) (l : List HA) : HA := match b with
 | true => bl l
 | false => tt
theorem Ent.when_yes {l m az : List HA} {b : Bool} (u : b = true) (r : Ent l (az ++ m)) : Ent l (sb b az :: m) := by
 subst u
 intro h s
 exact (dK az m h).1 (r h s)
theorem Ent.when_no {l m az : List HA} {b : Bool} (u : b = false) (r : Ent l m) : Ent l (sb b az :: m) := by
 subst u
 exact Ent.tt_in r
theorem Ent.when_yo {az : List HA} {b : Bool} (u : b = true) (m : List HA) : Ent (sb b az :: m) (az ++ m) := by
 subst u
 intro h s
 exact (dK az m h).2 s
theorem Ent.when_no_ {az : List HA} {b : Bool} (u : b = false) (m : List HA) : Ent (sb b az :: m) m := Ent.drop (Ent.refl m)
theorem Fn.when {P : Program} {W : World} {f : FuncId} {args : List Value} {A : List HA} {F : HA} {R Y : Type} {o : Option R} {val D : R → Y → Value} {B I : R → Y → List HA} (h : Fn P W f args A F o val B) (u : R → Bool) (b : Bool)
  (U : ∀ r y, u r = b → val r y = D r y) (X : ∀ r y, u r = b → Ent (B r y) (I r y)) : Fn P W f args A F (o.filter fun r => u r == b) D I := by
 intro r hr w hs
 obtain ⟨h1, h2⟩ := Option.filter_eq_some_iff.1 hr
 have J : u r = b := by simpa using h2
 refine (h r h1 w hs).mono ?_
 rintro e w' ⟨y, he, s⟩
 exact ⟨y, by rw [he, U r y J], s.ent (Ent.app (X r y J) (Ent.refl _))⟩
theorem nM {R : Type} {o : Option R} {r : R} {u : R → Bool} {b : Bool} (h : o = some r) (D : u r = b) : (o.filter fun r => u r == b) = some r := by
 rw [h, Option.filter_some, D]; simp
/-! ### Short forms -/
section
variable {K : Cx} {R S Y : Type} {Q : eM R} {E : Env} {H : List HA} {opt : Option R} {ops : Array Oper} {rest : List Oper}
theorem vq {d : Nat} {v : Value} {p : Op} {t : TypeId} {ps : String} {u : Array Edge} (D : RQ K ⟨some d, p, t, ps, u, none⟩ E H v) (I : Nat.blt d K.n = true) (h : cx K Q ops rest ((d, v) :: E) H opt) : cx K Q ops (⟨some d, p, t, ps, u, none⟩ :: rest) E H opt := mB D rfl rfl I h
theorem vm {d : Nat} {v : Value} {x : Operand} {t : TypeId} {ps : String} {u : Array Edge} (D : ev E x = some v) (I : Nat.blt d K.n = true) (h : cx K Q ops rest ((d, v) :: E) H opt) : cx K Q ops (⟨some d, .move x, t, ps, u, none⟩ :: rest) E H opt := mB (am rfl D) rfl rfl I h
theorem va {d : Nat} {v : Value} {x : Operand} {t : TypeId} {ps : String} {u : Array Edge} (D : ev E x = some v) (I : Nat.blt d K.n = true) (h : cx K Q ops rest ((d, v) :: E) H opt) : cx K Q ops (⟨some d, .assign x, t, ps, u, none⟩ :: rest) E H opt := mB (dx rfl D) rfl rfl I h
theorem vn {d : Nat} {x : Operand} {u : Addr} {t : TypeId} {ps : String} {D : Array Edge} (I : ev E x = some (.pointer (some u))) (J : Nat.blt d K.n = true) (h : cx K Q ops rest ((d, .pointer (some u)) :: E) H opt) : cx K Q ops (⟨some d, .nilCheck x, t, ps, D, none⟩ :: rest) E H opt := mB (bi rfl I) rfl rfl J h
theorem nx {id : Nat} {l : List Oper} {c2 : Code} (h : cx K (lJ K c2 Q) l.toArray l E H opt) : cx K (lJ K (.seq (.region id l.toArray false) c2) Q) ops [] E H opt := aw (ai (ap (aG h)))
theorem ny {id : Nat} {l : List Oper} (h : cx K Q l.toArray l E H opt) : cx K (lJ K (.region id l.toArray false) Q) ops [] E H opt := aw (ai (aG h))
theorem sr {id : Nat} {l : List Oper} {c2 : Code} (h : cx K (lJ K c2 Q) l.toArray l E H opt) : Sim K Q (.seq (.region id l.toArray false) c2) E H opt := ap (aG h)
theorem qm {u : List (List Nat)} {val : Nat → Value} {i : Nat} {d : Option Nat} {x : Operand} {t : TypeId} {ps : String} {I : Array Edge} {D : Env} (J : ops[i]? = some ⟨d, .move x, t, ps, I, none⟩) (U : gm ops u val E i D) (X : ev D x = some (val i)) : QOb K ops u val E H i := .plain D J rfl U (am rfl X) rfl
theorem aq {Γ : Type} {l : List Nat} {p : Γ → Nat → Nat → Prop} {f : Nat → List Nat} {i j : Nat} (u : f i = [j]) (h : ∀ γ, p γ i j) (r : All l fun i => ∀ γ, All (f i) fun j => p γ i j) : All (i :: l) fun i => ∀ γ, All (f i) fun j => p γ i j := ⟨fun γ => by rw [u]; exact ⟨h γ, trivial⟩, r⟩
end
end Go.Proofs.YtndjkejhacfpdaaGreatDoor

namespace Go.Proofs.YtndjkejhacfpdaaGreatDoor
open Go.RowKit
theorem Sat.below {W w u : World} {H : List HA} (s : Sat W H w) (b : Below w.heap.size w u) : Sat W H u := by
 refine ⟨b.os.trans s.os, b.tape.trans s.tape, b.output.trans s.output, Nat.le_trans s.size b.size, ?_⟩
 refine gC H tt _ ⟨fun i => if i < w.heap.size then none else u.heap[i]?, hpw w, ?_, ?_, trivial, s.hp⟩
 ·intro i
  by_cases h : i < w.heap.size
  ·left; simp [h]
  ·right; simp only [hpw]; exact Array.getElem?_eq_none (by omega)
 ·funext i
  simp only [hpw, un]
  by_cases h : i < w.heap.size
  ·simp [h]; rw [b.block i h]; simp [h]
  ·simp [h]
theorem Sat.below_new {W w u : World} {H : List HA} {g : Nat} {o : Obj} (s : Sat W H w) (b : Below w.heap.size w u) (I : w.heap.size ≤ g) (D : u.heap[g]? = some o) : Sat W (pts g o :: H) u := by
 refine ⟨b.os.trans s.os, b.tape.trans s.tape, b.output.trans s.output, Nat.le_trans s.size b.size, ?_⟩
 refine ⟨fun i => if i = g then some o else none, fun i => if i = g then none else u.heap[i]?, ?_, ?_, by simp [pts], ?_⟩
 ·intro i
  by_cases h : i = g
  ·right; simp [h]
  ·left; simp [h]
 ·funext i
  simp only [hpw, un]
  by_cases h : i = g
  ·subst h; simp [D]
  ·simp [h]
 ·refine gC H tt _ ⟨fun i => if i < w.heap.size ∨ i = g then none else u.heap[i]?, hpw w, ?_, ?_, trivial, s.hp⟩
  ·intro i
   by_cases h : i < w.heap.size
   ·left; simp [h]
   ·right; simp only [hpw]; exact Array.getElem?_eq_none (by omega)
  ·funext i
   simp only [hpw, un]
   by_cases h : i < w.heap.size
   ·have : i ≠ g := by omega
    simp [h, this]; rw [b.block i h]; simp [h]
   ·by_cases h2 : i = g
    ·subst h2; simp [h]
    ·simp [h, h2]
section
variable {α β : Type}
def gb (kvs : List (List UInt8 × β)) : List (List UInt8) := (kvs.map (·.1)).mergeSort fun x y => decide (x ≤ y)
theorem ua {n : Nat} {V : α → List Value → Prop} {f : α → Value} (h1 : n = 1) (u : ∀ x, V x [f x]) (D : ∀ x, (f x).oneCell' = true) : ∀ l : List α, bW n V l (l.map fun x => [f x])
 | [] => trivial
 | x :: l => by
  rw [List.map_cons]
  exact ⟨⟨by simp [h1], by intro v I; simp at I; subst I; exact D x, u x⟩, ua h1 u D l⟩
theorem ub {f : α → Value} : ∀ l : List α, (l.map fun x => [f x]).flatten = l.map f
 | [] => rfl
 | x :: l => by simp [ub l]
theorem Sat.ownsRow {W w u : World} {H : List HA} {T : TypeId} {v : Value} {n : Nat} {xs : List Value} (s : Sat W H w) (b : Below w.heap.size w u) (h : u.ownsRow w.heap.size T 1 v n xs) : ∃ a c, v = .slice a n c ∧ Sat W (Row T 1 a n c xs :: H) u := by
 obtain ⟨D, h⟩ := h
 rcases h with ⟨rfl, rfl⟩ | ⟨g, cap, I, rfl, X, hb, hn, hc, J, U⟩
 ·refine ⟨none, 0, rfl, ?_⟩
  have : xs = [] := List.eq_nil_of_length_eq_zero (by simpa using D)
  subst this
  exact (s.below b).ent (Ent.row_nil (Ent.refl _))
 ·refine ⟨some ⟨g, 0, none⟩, cap, rfl, ?_⟩
  rw [Nat.mul_one] at D J U
  refine (s.below_new b X hb).ent (Ent.sel' 0 rfl (fun h x => ?_) (Ent.refl _))
  refine .inr ⟨g, 0, [], I.toList.drop n, (0, 0), rfl, ⟨rfl, hn, hc, ?_, by omega, by omega, .inl rfl⟩, ?_⟩
  ·rw [Nat.mul_one, D, List.length_drop, Array.length_toList, J]; omega
  ·rw [x, List.nil_append, ← U, List.take_append_drop]
open Go.WideElems Go.Maps
def R0 : Value → Option (DataW Unit × List MemPlace) := fun _ => some (.lit (.bool true), [])
def Do (kvs : List (List UInt8 × β)) : DataW Unit := .map ((kvs.map fun p => (Lit.string p.1, (DataW.lit (.bool true) : DataW Unit))).foldr DataW.insert [])
theorem Bg {P : Program} {k : TypeId} {ek : α → Value} {ev : β → Value} {kl : α → Lit} : ∀ (kvs : List (α × β)) (es : List MapEntry), eT ek ev es kvs → (∀ p ∈ kvs, keyOf P k (ek p.1) = some (kl p.1)) →
  es.map (rg P k R0) = kvs.map (fun p => (kl p.1, (DataW.lit (.bool true) : DataW Unit))) ∧ (∀ x ∈ es, ∃ y, rd P k R0 x = some y) ∧ es.map (·.key) = kvs.map fun p => ek p.1
 | [], es, h, _ => by
  have : es = [] := by simpa [eT] using h
  subst this; simp
 | p :: l, [], h, _ => by simp [eT] at h
 | p :: l, e :: es, h, hk => by
  simp only [eT, List.map_cons, List.cons.injEq, Prod.mk.injEq] at h
  obtain ⟨⟨h1, X⟩, I⟩ := h
  have D : rd P k R0 e = some (kl p.1, .lit (.bool true)) := by
   unfold rd R0
   rw [h1, hk p (by simp)]; rfl
  obtain ⟨J, i2, i3⟩ := Bg l es I fun q U => hk q (by simp [U])
  refine ⟨by simp only [List.map_cons, rg_of D, J], ?_, by simp [h1, i3]⟩
  intro x u
  simp only [List.mem_cons] at u
  rcases u with rfl | u
  ·exact ⟨_, D⟩
  ·exact i2 x u
theorem Sat.owns {P : Program} {k : TypeId} {W w : World} {H : List HA} {b : Nat} {ek : α → Value} {ev : β → Value} {kl : α → Lit} {kvs : List (α × β)} [DecidableEq α] {i : Nat} (s : Sat W H w) (hi : H[i]? = some (au b ek ev kvs)) (D : ∀ x y, ek x = ek y → x = y) (J : ∀ p ∈ kvs, keyOf P k (ek p.1) = some (kl p.1)) (I : (kvs.map (·.1)).Nodup) (U : kvs.length ≤ maxLen) :
  w.ownsMap P k R0 b kvs.length (.map ((kvs.map fun p => (kl p.1, (DataW.lit (.bool true) : DataW Unit))).foldr DataW.insert [])) := by
 obtain ⟨es, u, h1, X, h3, s2⟩ := (s.focus hi).map_open
 have hb := s2.pts_at (i := 0) rfl
 obtain ⟨r1, r2, r3⟩ := Bg (P := P) (k := k) kvs es.toList h1 J
 have hs : es.size = kvs.length := by have := congrArg List.length h1; simpa [eT] using this
 refine ⟨es, u, hb, ⟨by omega, ⟨h3, X, ?_⟩, r2⟩, by omega, by rw [r1]⟩
 rw [r3]
 have : (kvs.map fun p => ek p.1) = (kvs.map (·.1)).map ek := by simp
 rw [this]
 exact List.Pairwise.map ek (fun a b hab e => hab (D _ _ e)) I
theorem xA {l : List (Lit × DataW Unit)} : Maps.size (.map (l.foldr DataW.insert [])) = l.length := by
 show (l.foldr DataW.insert []).length = l.length
 exact (Go.WideShapes.sorted_perm l).length_eq
theorem vU (kvs : List (List UInt8 × β)) : (strKeys (Do kvs)).Perm (kvs.map (·.1)) := by
 have := (Go.WideShapes.sorted_perm (kvs.map fun p => (Lit.string p.1, (DataW.lit (.bool true) : DataW Unit)))).map (fun p => strOf p.1)
 refine this.trans ?_
 rw [List.map_map]
 exact List.Perm.refl _
theorem yk {P : Program} {W : World} {F : HA} {f g k T T2 b c : Nat} {ev : β → Value} {V : List UInt8 → List Value → Prop} {kvs : List (List UInt8 × β)} (hV : ∀ x, V x [str x]) (af : P.underlying k = some .string)
  (hC : ∀ (w : World) (D0 : DataW Unit) (nn : Nat), w.ownsMap P k R0 b nn D0 → w.cell? ⟨c, 0, none⟩ = some (.map (some b)) → c < w.heap.size → Maps.size D0 ≤ maxLen → Maps.size D0 * 16 ≤ 140737488355328 →
   CallsIn Fence.wide 5 P f #[.func (.func g) #[] #[.pointer (some ⟨c, 0, none⟩)]] w fun e w' => ∃ (v : Value) (D : List (List UInt8)), e = .returned v ∧ D.Perm (strKeys D0) ∧
    w'.ownsRow w.heap.size T 1 v D.length ((D.mergeSort (fun x y => decide (x ≤ y))).map encStr) ∧ (v = .slice none 0 0 ↔ D = []) ∧ Below w.heap.size w w') :
  Fn P W f [.func (.func g) #[] #[.pointer (some ⟨c, 0, none⟩)]] [obj c T2 [.map (some b)], au b (fun x : List UInt8 => str x) ev kvs] F
   (if (kvs.map (·.1)).Nodup ∧ kvs.length * 16 ≤ 140737488355328 ∧ ∀ p ∈ kvs, p.1.length ≤ 140737488351232 then some (gb kvs) else none)
   (fun r (y : Option Addr × Nat) => .slice y.1 r.length y.2) (fun r y => [ah T 1 V y.1 r y.2, obj c T2 [.map (some b)], au b (fun x : List UInt8 => str x) ev kvs]) := by
 intro r hr w hs
 split at hr
 ·rename_i hh
  obtain ⟨a6, b2, a7⟩ := hh
  cases hr
  have hm : maxLen = 9223372036854775807 := rfl
  have I := hs.owns (P := P) (k := k) (kl := fun x => Lit.string x) (i := 1) rfl (fun x y e => by simpa [str] using e) (fun p hp => by
   have := a7 p hp
   simp [keyOf, af, mapKey, str, ByteArray.size, hm]; omega) a6 (by omega)
  have hc : w.heap[c]? = some (.cells #[.map (some b)] T2 (0, 0)) := hs.pts_at (i := 0) rfl
  have J : c < w.heap.size := (Array.getElem?_eq_some_iff.1 hc).1
  refine (callsIn_wide (n := 5)).1 ((hC w _ _ I (by simp [World.cell?, hc]) J (by rw [xA]; simp; omega) (by rw [xA]; simp; omega)).mono ?_)
  rintro e w' ⟨v, D, rfl, hp, U, bc, hb⟩
  have X : D.mergeSort (fun x y => decide (x ≤ y)) = gb kvs := mergeSort_of_perm (hp.trans (vU kvs))
  have u : D.length = (gb kvs).length := by rw [← X, List.length_mergeSort]
  obtain ⟨a, cap, rfl, s2⟩ := hs.ownsRow hb U
  refine ⟨(a, cap), by rw [u], s2.ent ?_⟩
  rw [X, u]
  refine Ent.sel' 0 rfl (fun h x => ⟨_, ua (f := str) rfl hV (fun _ => rfl) (gb kvs), ?_⟩) (Ent.refl _)
  rw [ub]; exact x
 ·cases hr
end
section
variable {α β : Type} [DecidableEq α]
end
section
variable {K : Cx} {E : Env} {H : List HA} {o : Oper} {α β : Type} [DecidableEq α] {ek : α → Value} {ev : β → Value} {T VT t : TypeId} {b : Nat} {kvs : List (α × β)}
theorem RQ.eq {v u : Value} (h : v = u) (D : RQ K o E H v) : RQ K o E H u := h ▸ D
theorem tf {x y z : Operand} (k : Nat) (v : α) (u : β) (ho : o.op = .insert t x y z) (hx : Go.Proofs.YtndjkejhacfpdaaGreatDoor.ev E x = some (.map (some b))) (hy : Go.Proofs.YtndjkejhacfpdaaGreatDoor.ev E y = some (ek v)) (hz : Go.Proofs.YtndjkejhacfpdaaGreatDoor.ev E z = some (ev u)) (hu : K.P.underlying t = some (.map T VT)) (X : mp K.P T ek) (hk : H[k]? = some (au b ek ev kvs)) :
  RE K (Y := Unit) o E H (fun _ => undef) (fun _ => H.set k (au b ek ev (bE kvs v u))) :=
 sW (by rw [ho]; intro c h; cases h) fun a w I s => by
  obtain ⟨es, D, h1, h2, h3, s2⟩ := (s.focus hk).map_open
  have hb := s2.pts_at (i := 0) rfl
  have hf := X.find w h1 v
  cases hp : ib kvs v 0 with
  | none =>
   rw [hp] at hf
   refine ⟨(), _, ?_, Sat.unfocus hk ((s2.upd (b := b) (o' := .map (es.push { key := ek v, val := ev u, born := D }) (D + 1))).map_close ?_ ?_ ?_)⟩
   ·unfold execOp; simp only [ho]; rw [I.ev hx, I.ev hy, I.ev hz]
    simp [Instr.mapUpdate, underlying, program, Sem.run, hu, getObj, hb, X.chk, hf, setObj]
   ·simpa using qj kvs es.toList v u 0 D h1 hp
   ·simp only [Array.toList_push, List.map_append, List.map_cons, List.map_nil]
    refine List.nodup_append.2 ⟨h2, by simp, fun a ha b hb => ?_⟩
    simp only [List.mem_singleton] at hb
    obtain ⟨e, I, rfl⟩ := List.mem_map.1 ha
    have := h3 e I
    omega
   ·intro e I
    simp only [Array.toList_push, List.mem_append, List.mem_singleton] at I
    rcases I with I | rfl
    ·have := h3 e I; omega
    ·simp
  | some p =>
   obtain ⟨j, q⟩ := p
   rw [hp] at hf
   obtain ⟨e0, hj, J⟩ := rv kvs es.toList v 0 j q h1 hp
   rw [Nat.sub_zero] at hj
   have a6 : es[j]? = some e0 := by simpa using hj
   have U : (Instr.keyThatStays (ek v) (ek v)).run K.P w = .ok (ek v) w := by simp [Instr.keyThatStays, X.bits]
   refine ⟨(), _, ?_, Sat.unfocus hk ((s2.upd (b := b) (o' := .map (es.modify j fun e => { e with key := ek v, val := ev u }) D)).map_close ?_ ?_ ?_)⟩
   ·unfold execOp; simp only [ho]; rw [I.ev hx, I.ev hy, I.ev hz]
    simp [Instr.mapUpdate, underlying, program, Sem.run, hu, getObj, hb, X.chk, hf, a6, J, U, setObj]
   ·rw [jW]
    simpa using qi kvs es.toList v u 0 j q h1 hp
   ·rw [jW]
    have : (es.toList.modify j fun e => { e with key := ek v, val := ev u }).map (·.born) = es.toList.map (·.born) := by
     apply List.ext_getElem?
     intro i
     simp only [List.getElem?_map, List.getElem?_modify]
     by_cases hi : j = i <;> simp [hi] <;> cases es[i]? <;> simp
    rw [this]; exact h2
   ·rw [jW]
    intro e I
    obtain ⟨i, hi⟩ := List.mem_iff_getElem?.1 I
    rw [List.getElem?_modify] at hi
    cases hq : es.toList[i]? with
    | none => rw [hq] at hi; simp at hi
    | some e1 =>
     rw [hq] at hi
     have := h3 e1 (List.mem_of_getElem? hq)
     by_cases hji : j = i
     ·simp [hji] at hi; rw [← hi]; exact this
     ·simp [hji] at hi; rw [← hi]; exact this
end
end Go.Proofs.YtndjkejhacfpdaaGreatDoor

namespace Go.Proofs.YtndjkejhacfpdaaGreatDoor
open Go.RowKit
theorem ky {p : Prop} {A : HA} {h : Hp} : bA (pr p) A h ↔ p ∧ bA tt A h := by
 constructor
 ·rintro ⟨a, b, d, e, hp, u⟩; exact ⟨hp, a, b, d, e, trivial, u⟩
 ·rintro ⟨hp, a, b, d, e, _, u⟩; exact ⟨a, b, d, e, hp, u⟩
theorem jF {A A' B : HA} (h : Hp) (u : ∀ h, A h → A' h) (s : bA A B h) : bA A' B h := dd h u (fun _ x => x) s
theorem cG {A B u : HA} (h : Hp) (D : ∀ h, B h → u h) (s : bA A B h) : bA A u h := dd h (fun _ x => x) D s
theorem fw {A B C : HA} {h : Hp} (s : bA A (bA B C) h) : bA B (bA A C) h := by
 rw [← bF, fW A B, bF] at s; exact s
abbrev Kps := List (List UInt8 × Nat)
abbrev ar (p : Nat) : Value := .pointer (some ⟨p, 0, none⟩)
section
variable {α β Z : Type} [DecidableEq α] {ek : α → Value} {fp : Nat → β → Z → List HA}
def pY (fp : Nat → β → Z → List HA) (p : Nat) (v : β) : HA := exs fun y => bl (fp p v y)
def dk (fp : Nat → β → Z → List HA) : List (α × Nat) → List (α × β) → HA
 | [], [] => tt
 | (k, p) :: l, (k', v) :: m => bA (pr (k = k')) (bA (pY fp p v) (dk fp l m))
 | _, _ => pr False
def nv (fp : Nat → β → Z → List HA) (x : α) : List (α × Nat) → List (α × β) → HA
 | [], [] => tt
 | (k, p) :: l, (k', v) :: m => bA (pr (k = k')) (if k = x then dk fp l m else bA (pY fp p v) (nv fp x l m))
 | _, _ => pr False
def dS (kps : List (α × Nat)) (x : α) : Nat := (aW kps x).getD 0
theorem nw {p : Prop} {X : HA} {h : Hp} (s : bA X (pr p) h) : p := by obtain ⟨_, _, _, _, _, hp⟩ := s; exact hp
theorem nD (X : HA) : ∀ (l : List (α × Nat)) (m : List (α × β)) (h : Hp), bA X (dk fp l m) h → dk fp l m h
 | [], [], h, _ => trivial
 | (k, p) :: l, (k', v) :: m, h, s => by
  simp only [dk] at s ⊢
  have s1 := fw s
  refine cG h (fun h s => ?_) s1
  have u := fw s
  exact cG h (fun h s => nD X l m h s) u
 | [], _ :: _, h, s => nw s
 | _ :: _, [], h, s => nw s
theorem kT : ∀ (l : List (α × Nat)) (m : List (α × β)) (h : Hp), dk fp l m h → l.map (·.1) = m.map (·.1)
 | [], [], h, _ => rfl
 | (k, p) :: l, (k', v) :: m, h, s => by
  simp only [dk] at s
  obtain ⟨u, s⟩ := ky.1 s
  obtain ⟨_, _, _, _, _, _, D, _, _, _, s⟩ := s
  simp only [List.map_cons]
  rw [u, kT l m D s]
 | [], _ :: _, h, s => s.elim
 | _ :: _, [], h, s => s.elim
theorem jQ {γ δ : Type} : ∀ (l : List (α × γ)) (m : List (α × δ)) (x : α), l.map (·.1) = m.map (·.1) → (aW l x).isSome = (aW m x).isSome
 | [], [], x, _ => rfl
 | p :: l, q :: m, x, h => by
  simp only [List.map_cons, List.cons.injEq] at h
  simp only [aW, h.1]
  split
  ·rfl
  ·exact jQ l m x h.2
 | [], _ :: _, x, h => by simp at h
 | _ :: _, [], x, h => by simp at h
theorem B6 {kps : List (α × Nat)} {x : α} (h : (aW kps x).isSome = true) : aW kps x = some (dS kps x) := by
 unfold dS
 cases hm : aW kps x with
 | none => rw [hm] at h; cases h
 | some p => rfl
theorem rh (x : α) (v : β) : ∀ (l : List (α × Nat)) (m : List (α × β)) (h : Hp), aW m x = some v → dk fp l m h → bA (pY fp (dS l x) v) (nv fp x l m) h
 | [], [], h, hx, _ => by simp [aW] at hx
 | (k, p) :: l, (k', u) :: m, h, hx, s => by
  simp only [dk] at s
  have D := (ky.1 s).1
  subst D
  rw [nv]
  by_cases hkx : k = x
  ·rw [if_pos hkx]
   simp only [aW, if_pos hkx, Option.some.injEq] at hx
   have hp : dS ((k, p) :: l) x = p := by simp [dS, aW, hkx]
   rw [hp, ← hx]
   exact fw s
  ·rw [if_neg hkx]
   simp only [aW, if_neg hkx] at hx
   have hp : dS ((k, p) :: l) x = dS l x := by simp [dS, aW, hkx]
   rw [hp]
   have I := cG h (fun h s => cG h (fun h s => rh x v l m h hx s) s) s
   exact fw (cG h (fun h s => fw s) I)
 | [], _ :: _, h, _, s => s.elim
 | _ :: _, [], h, _, s => s.elim
theorem ri (x : α) (v : β) : ∀ (l : List (α × Nat)) (m : List (α × β)) (h : Hp), (aW l x).isSome = true → bA (pY fp (dS l x) v) (nv fp x l m) h → dk fp l (bE m x v) h
 | [], m, h, hx, _ => by simp [aW] at hx
 | (k, p) :: l, (k', u) :: m, h, hx, s => by
  simp only [nv] at s
  have s1 := fw s
  have D := (ky.1 s1).1
  subst D
  by_cases hkx : k = x
  ·have hp : dS ((k, p) :: l) x = p := by simp [dS, aW, hkx]
   rw [hp, if_pos hkx] at s1
   subst hkx
   rw [bE, if_pos rfl, dk]
   exact s1
  ·simp only [aW, if_neg hkx] at hx
   have hp : dS ((k, p) :: l) x = dS l x := by simp [dS, aW, hkx]
   rw [hp, if_neg hkx] at s1
   rw [bE, if_neg hkx, dk]
   exact cG h (fun h s => cG h (fun h s => ri x v l m h hx s) (fw s)) s1
 | _ :: _, [], h, _, s => (nw s).elim
theorem sI (x : α) : ∀ (l : List (α × Nat)) (m : List (α × β)) (h : Hp), dk fp l m h → dk fp (fj l x) (fj m x) h
 | [], [], h, _ => trivial
 | (k, p) :: l, (k', u) :: m, h, s => by
  simp only [dk] at s
  have D := (ky.1 s).1
  subst D
  by_cases hkx : k = x
  ·simp only [fj, if_pos hkx]
   exact nD _ _ _ _ (filesA_absorb_star s)
  ·rw [fj, fj, if_neg hkx, if_neg hkx, dk]
   exact cG h (fun h s => cG h (fun h s => sI x l m h s) s) s
 | [], _ :: _, h, s => s.elim
 | _ :: _, [], h, s => s.elim
where
 filesA_absorb_star {X Y C : HA} {h : Hp} (s : bA X (bA Y C) h) : bA (bA X Y) C h := by rw [bF]; exact s
theorem sJ (x : α) (p : Nat) (v : β) : ∀ (l : List (α × Nat)) (m : List (α × β)) (h : Hp), bA (pY fp p v) (dk fp l m) h → dk fp (bE l x p) (bE m x v) h
 | [], [], h, s => by
  simp only [bE, dk]
  exact ky.2 ⟨trivial, lm s⟩
 | (k, q) :: l, (k', u) :: m, h, s => by
  simp only [dk] at s
  have s1 := fw s
  have D := (ky.1 s1).1
  subst D
  by_cases hkx : k = x
  ·rw [bE, bE, if_pos hkx, if_pos hkx, dk]
   refine ky.2 ⟨rfl, cG h (fun h s => ?_) (ky.1 s1).2⟩
   exact cG h (fun h s => nD _ _ _ _ s) s
  ·rw [bE, bE, if_neg hkx, if_neg hkx, dk]
   exact cG h (fun h s => cG h (fun h s => sJ x p v l m h s) (fw s)) s1
 | [], _ :: _, h, s => (nw s).elim
 | _ :: _, [], h, s => (nw s).elim
def ax (M : HA) (fp : Nat → β → Z → List HA) (kps : List (α × Nat)) (kvs : List (α × β)) : HA := bA M (dk fp kps kvs)
def lE (M : HA) (fp : Nat → β → Z → List HA) (kps : List (α × Nat)) (kvs : List (α × β)) (x : α) : HA := bA (pr ((aW kps x).isSome = true)) (bA M (nv fp x kps kvs))
def CW (M : HA) (fp : Nat → β → Z → List HA) (kps : List (α × Nat)) (kvs : List (α × β)) (x : α) (p : Nat) : HA := bA M (dk fp kps kvs)
end
section
variable {α β Z : Type} [DecidableEq α] {ek : α → Value} {fp : Nat → β → Z → List HA} {M : HA} {kps : List (α × Nat)} {kvs : List (α × β)} {l m : List HA}
theorem Ent.openF {H : List HA} {x : α} {v : β} (k : Nat) (J : H[k]? = some (ax M fp kps kvs)) (I : aW kvs x = some v) :
  Ent H (exs (fun y => bl (fp (dS kps x) v y)) :: lE M fp kps kvs x :: H.eraseIdx k) := by
 intro h s
 rw [iQ H k _ J] at s
 have s1 : bA (bA M (dk fp kps kvs)) (bl (H.eraseIdx k)) h := s
 have u : (aW kps x).isSome = true := by
  obtain ⟨_, _, _, _, ⟨_, h2, _, _, _, D⟩, _⟩ := s1
  rw [jQ kps kvs x (kT _ _ _ D), I]; rfl
 rw [bF] at s1
 have D := cG h (fun h s => jF h (fun h s => rh x v kps kvs h I s) s) s1
 show bA (pY fp (dS kps x) v) (bA (lE M fp kps kvs x) (bl (H.eraseIdx k))) h
 unfold lE
 have U : bA (pY fp (dS kps x) v) (bA (bA M (nv fp x kps kvs)) (bl (H.eraseIdx k))) h := by
  rw [bF]
  have X := cG h (fun h s => by rw [bF] at s; exact s) D
  exact fw X
 refine cG h (fun h s => ?_) U
 rw [bF]
 exact ky.2 ⟨u, lm s⟩
theorem Ent.foldF {x : α} {v : β} {p : Nat} (y : Z) (hp : p = dS kps x) (r : Ent l (lE M fp kps kvs x :: (fp p v y ++ m))) : Ent l (ax M fp kps (bE kvs x v) :: m) := by
 intro h s
 subst hp
 have s1 : bA (lE M fp kps kvs x) (bl (fp (dS kps x) v y ++ m)) h := r h s
 unfold lE at s1
 rw [bF] at s1
 obtain ⟨I, J⟩ := ky.1 s1
 have u : bA (bA M (nv fp x kps kvs)) (bA (bl (fp (dS kps x) v y)) (bl m)) h := by
  have U := stars_absorb_tt J
  exact cG h (fun h s => (dK _ _ h).1 s) U
 show bA (bA M (dk fp kps (bE kvs x v))) (bl m) h
 rw [bF] at u ⊢
 refine cG h (fun h s => ?_) u
 have D := fw s
 rw [← bF] at D
 exact jF h (fun h s => ri x v kps kvs h I (jF h (fun h s => ⟨y, s⟩) s)) D
where
 stars_absorb_tt {A : HA} {l : List HA} {h : Hp} (s : bA tt (bA A (bl l)) h) : bA A (bl l) h := cG h (fun h s => gC l tt h s) (fw s)
theorem nq {x : α} {v : β} : ∀ {kvs : List (α × β)}, aW kvs x = some v → bE kvs x v = kvs
 | [], h => by simp [aW] at h
 | p :: l, h => by
  rw [aW] at h
  rw [bE]
  by_cases hp : p.1 = x
  ·rw [if_pos hp] at h ⊢
   cases h
   rw [← hp]
  ·rw [if_neg hp] at h ⊢
   rw [nq h]
theorem Ent.foldF0 {x : α} {v : β} {p : Nat} (y : Z) (hp : p = dS kps x) (u : aW kvs x = some v) (r : Ent l (lE M fp kps kvs x :: (fp p v y ++ m))) : Ent l (ax M fp kps kvs :: m) := by
 have := Ent.foldF (v := v) y hp r
 rwa [nq u] at this
theorem Ent.foldU {x : α} {v : β} {p : Nat} (y : Z) (r : Ent l (CW M fp kps kvs x p :: (fp p v y ++ m))) : Ent l (ax M fp (bE kps x p) (bE kvs x v) :: m) := by
 intro h s
 have s1 : bA (bA M (dk fp kps kvs)) (bl (fp p v y ++ m)) h := r h s
 show bA (bA M (dk fp (bE kps x p) (bE kvs x v))) (bl m) h
 rw [bF] at s1 ⊢
 refine cG h (fun h s => ?_) s1
 have D := cG h (fun h s => (dK _ _ h).1 s) s
 have u := fw D
 rw [← bF] at u
 exact jF h (fun h s => sJ x p v kps kvs h (jF h (fun h s => ⟨y, s⟩) s)) u
theorem Ent.makeF (r : Ent l (M :: m)) : Ent l (ax M fp [] ([] : List (α × β)) :: m) := by
 intro h s
 have s1 : bA M (bl m) h := r h s
 exact jF h (fun h s => me s) s1
theorem jn {δ : Type} {o : Option δ} {d : δ} (h : o.isSome = true) : o = some (o.getD d) := by cases o with
 | none => cases h
 | some x => rfl
theorem md {δ : Type} {o : Option δ} (h : ¬ o.isSome = true) : o = none := by cases o with
 | none => rfl
 | some x => exact absurd rfl h
end
section
variable {K : Cx} {R S Y : Type} {Q : eM R} {E : Env} {H : List HA} {opt : Option R} {ops : Array Oper} {rest : List Oper} {o : Oper} {α β Z : Type} [DecidableEq α] {ek : α → Value} {fp : Nat → β → Z → List HA} {T VT t : TypeId} {M : HA} {kps : List (α × Nat)} {kvs : List (α × β)} {c : Code}
theorem kA {x : α} {v : β} (k : Nat) (u : H[k]? = some (ax M fp kps kvs)) (D : aW kvs x = some v)
  (h : ∀ y, Sim K Q c E (fp (dS kps x) v y ++ (lE M fp kps kvs x :: H.eraseIdx k)) opt) : Sim K Q c E H opt := by
 refine gq (Ent.openF k u D) (Br fun y => gq ?_ (h y))
 intro h s
 exact (dK _ _ h).2 s
end
section
variable {K : Cx} {R S Y : Type} {Q : eM R} {E : Env} {H : List HA} {opt : Option R} {ops : Array Oper} {rest : List Oper} {o : Oper} {α β Z : Type} [DecidableEq α] {ek : α → Value} {fp : Nat → β → Z → List HA} {T VT t : TypeId} {b : Nat} {kps : List (α × Nat)} {kvs : List (α × β)} {c : Code}
theorem wq (k : Nat) (u : H[k]? = some (ax (au b ek ar kps) fp kps kvs)) : Ent H (au b ek ar kps :: dk fp kps kvs :: H.eraseIdx k) := by
 intro h s
 rw [iQ H k _ u] at s
 have s1 : bA (bA (au b ek ar kps) (dk fp kps kvs)) (bl (H.eraseIdx k)) h := s
 rw [bF] at s1
 exact s1
def pp (H : List HA) (b : Nat) (ek : α → Value) (kps : List (α × Nat)) (kvs : List (α × β)) : Prop := ∃ X rst, Ent H (au b ek ar kps :: X :: rst) ∧ ∀ h, X h → kps.map (·.1) = kvs.map (·.1)
theorem lc (k : Nat) (u : H[k]? = some (ax (au b ek ar kps) fp kps kvs)) : pp H b ek kps kvs := ⟨_, _, wq k u, fun h s => kT _ _ h s⟩
theorem pp.keys (t : pp H b ek kps kvs) {W w : World} (s : Sat W H w) : kps.map (·.1) = kvs.map (·.1) := by
 obtain ⟨X, rst, e, u⟩ := t
 obtain ⟨_, _, _, _, _, ⟨_, _, _, _, D, _⟩⟩ := (s.ent e).hp
 exact u _ D
theorem nX {x y : Operand} (v : α) (tl : pp H b ek kps kvs) (hm : (aW kvs v).isSome = true) (J : o.op = .lookup t x y false) (hx : Go.Proofs.YtndjkejhacfpdaaGreatDoor.ev E x = some (.map (some b))) (hy : Go.Proofs.YtndjkejhacfpdaaGreatDoor.ev E y = some (ek v)) (hu : K.P.underlying t = some (.map T VT)) (U : mp K.P T ek) :
  RQ K o E H (.pointer (some ⟨dS kps v, 0, none⟩)) :=
 dL (by rw [J]; intro c h; cases h) fun a w he s => by
  have u := tl.keys s
  have hp := B6 (by rw [jQ kps kvs v u]; exact hm)
  obtain ⟨X, rst, e, hX⟩ := tl
  obtain ⟨es, I, h1, h2, h3, s2⟩ := (s.ent e).map_open
  have hb := s2.pts_at (i := 0) rfl
  have hf := U.find w h1 v
  have D := pD kps v 0
  rw [hp] at D
  unfold execOp; simp only [J]; rw [he.ev hx, he.ev hy]
  cases hq : ib kps v 0 with
  | none => rw [hq] at D; simp at D
  | some q =>
   rw [hq] at hf D
   simp at D
   simp [Instr.lookup, underlying, program, Sem.run, hu, getObj, hb, U.chk, hf, D]
theorem nY {x y : Operand} (v : α) (tl : pp H b ek kps kvs) (hm : aW kvs v = none) (J : o.op = .lookup t x y false) (hx : Go.Proofs.YtndjkejhacfpdaaGreatDoor.ev E x = some (.map (some b))) (hy : Go.Proofs.YtndjkejhacfpdaaGreatDoor.ev E y = some (ek v)) (hu : K.P.underlying t = some (.map T VT)) (U : mp K.P T ek) (hz : ∀ w, (zeroValue VT).run K.P w = .ok (.pointer none) w) :
  RQ K o E H (.pointer none) :=
 dL (by rw [J]; intro c h; cases h) fun a w he s => by
  have u := tl.keys s
  have hp : aW kps v = none := by
   have := jQ kps kvs v u
   rw [hm] at this
   exact md (by rw [this]; simp)
  obtain ⟨X, rst, e, hX⟩ := tl
  obtain ⟨es, D, h1, h2, h3, s2⟩ := (s.ent e).map_open
  have hb := s2.pts_at (i := 0) rfl
  have hf := U.find w h1 v
  have I := pD kps v 0
  rw [hp] at I
  unfold execOp; simp only [J]; rw [he.ev hx, he.ev hy]
  cases hq : ib kps v 0 with
  | none => rw [hq] at hf; simp [Instr.lookup, underlying, program, Sem.run, hu, getObj, hb, U.chk, hf, hz]
  | some q => rw [hq] at I; simp at I
theorem Bz {x : Operand} {ts : Array TypeId} (tl : pp H b ek kps kvs) (J : o.op = .call { callee := .builtin .len, args := #[x], argTypes := ts }) (U : Go.Proofs.YtndjkejhacfpdaaGreatDoor.ev E x = some (.map (some b))) (ht : ts[0]? = some t) (hu : K.P.underlying t = some (.map T VT)) :
  RQ K o E H (.int .i64 (kvs.length : Int)) :=
 dL (by rw [J]; intro c h; cases h) fun a w he s => by
  have u := congrArg List.length (tl.keys s)
  simp only [List.length_map] at u
  obtain ⟨X, rst, e, hX⟩ := tl
  obtain ⟨es, D, h1, h2, h3, s2⟩ := (s.ent e).map_open
  have hb := s2.pts_at (i := 0) rfl
  have I : es.size = kvs.length := by have := congrArg List.length h1; simpa [eT, u] using this
  unfold execOp; simp only [J]
  simp [resolve, invoke, builtin, Builtin.len_, ht, underlying, program, Sem.run, hu, he.ev U, getObj, hb, goInt, I]
theorem zP {Y : Type} {v : Y → Value} {X : HA} (k : Nat) {M u : HA} (D : H[k]? = some (bA M X)) (h : RE K o E (M :: X :: H.eraseIdx k) v (fun _ : Y => u :: X :: H.eraseIdx k)) : RE K o E H v (fun _ => H.set k (bA u X)) := by
 have I : k < H.length := (List.getElem?_eq_some_iff.1 D).1
 refine pR (RE.ent ?_ h) (fun _ => rfl) fun y => ?_
 ·intro h s
  rw [iQ H k _ D] at s
  have s1 : bA (bA M X) (bl (H.eraseIdx k)) h := s
  rw [bF] at s1
  exact s1
 ·intro h s
  rw [← jX H k _ I]
  show bA (bA u X) (bl (H.eraseIdx k)) h
  rw [bF]
  exact s
theorem Ap {x y z : Operand} (k : Nat) (v : α) (p : Nat) (u : o.op = .mapUpdate t x y z) (D : Go.Proofs.YtndjkejhacfpdaaGreatDoor.ev E x = some (.map (some b))) (I : Go.Proofs.YtndjkejhacfpdaaGreatDoor.ev E y = some (ek v)) (J : Go.Proofs.YtndjkejhacfpdaaGreatDoor.ev E z = some (ar p)) (U : K.P.underlying t = some (.map T VT)) (X : mp K.P T ek) (hk : H[k]? = some (ax (au b ek ar kps) fp kps kvs)) :
  RE K (Y := Unit) o E H (fun _ => undef) (fun _ => H.set k (CW (au b ek ar (bE kps v p)) fp kps kvs v p)) :=
 zP k hk (Bt (kvs := kps) (ev := ar) 0 v p u D I J U X rfl)
theorem AP {x y : Operand} {ts : Array TypeId} (k : Nat) (v : α) (u : o.op = .call { callee := .builtin .delete, args := #[x, y], argTypes := ts }) (D : Go.Proofs.YtndjkejhacfpdaaGreatDoor.ev E x = some (.map (some b))) (I : Go.Proofs.YtndjkejhacfpdaaGreatDoor.ev E y = some (ek v)) (J : ts[0]? = some t) (U : K.P.underlying t = some (.map T VT)) (X : mp K.P T ek) (hk : H[k]? = some (ax (au b ek ar kps) fp kps kvs)) :
  RE K (Y := Unit) o E H (fun _ => .tuple #[]) (fun _ => H.set k (ax (au b ek ar (fj kps v)) fp (fj kps v) (fj kvs v))) :=
 pR (zP k hk (Bu (kvs := kps) (ev := ar) 0 v u D I J U X rfl)) (fun _ => rfl) fun y => Ent.set k fun h s => cG h (fun h s => sI v kps kvs h s) s
theorem zc {t : TypeId} (u : o.op = .makeMap t none) : RE K (Y := Nat) o E H (fun b => .map (some b)) (fun b => ax (au b ek ar ([] : List (α × Nat))) fp ([] : List (α × Nat)) ([] : List (α × β)) :: H) :=
 pR (uW (ek := ek) (ev := ar) u) (fun _ => rfl) fun b => Ent.makeF (Ent.refl _)
theorem zQ (a : Addr) : a.add 0 = a := by unfold Addr.add; split <;> simp_all
theorem AQ {T : TypeId} {a : Option Addr} {m c n : Nat} {l : List UInt8} (h1 : n ≤ l.length) (D : l.length ≤ c) (h : Hp) (s : Row T 1 a m c (aL l) h) : Row T 1 a (l.take n).length n (aL (l.take n)) h := by
 have I : (l.take n).length = n := by simp; omega
 rcases s with ⟨rfl, J, U, X⟩ | ⟨b, off, pre, junk, fz, rfl, ok, u⟩
 ·have : l = [] := List.eq_nil_of_length_eq_zero (by omega)
  subst this
  have : n = 0 := by simpa using h1
  subst this
  exact Or.inl ⟨rfl, rfl, rfl, rfl⟩
 ·refine .inr ⟨b, off, pre, aL (l.drop n) ++ junk, fz, rfl, ⟨ok.offs, by omega, ?_, ?_, ?_, ?_, ?_⟩, ?_⟩
  ·have := ok.cap; omega
  ·simp [eJ]; omega
  ·simp [eJ]
  ·simp [eJ]; omega
  ·rcases ok.fzok with h | h
   ·exact .inl h
   ·exact .inr (by omega)
  ·have e : aL l = aL (l.take n) ++ aL (l.drop n) := by rw [← nf, ← ov, List.take_append_drop]
   rw [u, e]
   simp only [List.append_assoc]
theorem Bp {x hi U : Operand} {t e c : Nat} {T : TypeId} {a : Option Addr} {l : List UInt8} {k k' : IntKind} {n : Int} (j : Nat) (X : o.op = .slice t x none (some hi) (some U)) (hx : Go.Proofs.YtndjkejhacfpdaaGreatDoor.ev E x = some (.slice a l.length c)) (hh : Go.Proofs.YtndjkejhacfpdaaGreatDoor.ev E hi = some (.int k n)) (hm : Go.Proofs.YtndjkejhacfpdaaGreatDoor.ev E U = some (.int k' n))
  (hu : K.P.underlying t = some (.slice e)) (hs : ∀ w, (sizeOf e).run K.P w = .ok 1 w) (hk : H[j]? = some (Row T 1 a l.length c (aL l))) (hb : 0 ≤ n ∧ n ≤ (l.length : Int)) :
  RE K (Y := Unit) o E H (fun _ => .slice a (l.take n.toNat).length n.toNat) (fun _ => H.set j (Row T 1 a (l.take n.toNat).length n.toNat (aL (l.take n.toNat)))) :=
 jK (by rw [X]; intro c h; cases h) fun a' w D s => by
  obtain ⟨N, rfl⟩ := Int.eq_ofNat_of_zero_le hb.1
  have hN : N ≤ l.length := by omega
  have I : l.length ≤ c := by
   rcases (s.focus hk).row_cases with ⟨_, h1, h2, _⟩ | ⟨b, off, pre, junk, fz, _, ok, _⟩
   ·omega
   ·exact ok.le
  have u : (l.take N).length = N := by simp; omega
  refine ⟨(), w, ?_, s.ent (Ent.set' j hk fun h x => AQ hN I h x)⟩
  unfold execOp; simp only [X]
  have e0 : a.map (fun x => x.add 0) = a := by cases a <;> simp [zQ]
  have J : N ≤ c := by omega
  simp [Instr.sliceAt, Instr.slice, underlying, program, Sem.run, hu, D.ev hx, D.ev hh, D.ev hm, Instr.sliceBounds, Instr.sliceBound, asIntOf, hs, J, u, e0]
end
end Go.Proofs.YtndjkejhacfpdaaGreatDoor

namespace Go.Proofs.YtndjkejhacfpdaaGreatDoor
open Go.RowKit
section
variable {α β S : Type} [DecidableEq α]
def jx (u : S → α → β → Option (S × β)) : List α → S → List (α × β) → Option (S × List (α × β))
 | [], s, kvs => some (s, kvs)
 | x :: l, s, kvs => (aW kvs x).bind fun v => (u s x v).bind fun z => jx u l z.1 (bE kvs x z.2)
def lC (x : α) : List α → List (List α)
 | [] => [[x]]
 | y :: l => (x :: y :: l) :: (lC x l).map (y :: ·)
def nc : List α → List (List α)
 | [] => [[]]
 | x :: l => (nc l).flatMap (lC x)
theorem rk {x : α} : ∀ {a b : List α}, a ++ x :: b ∈ lC x (a ++ b)
 | [], [] => by simp [lC]
 | [], y :: b => by simp [lC]
 | y :: a, b => by
  simp only [List.cons_append, lC, List.mem_cons, List.mem_map]
  exact .inr ⟨_, rk, rfl⟩
theorem qB {x : α} : ∀ {m l : List α}, l ∈ lC x m → l.Perm (x :: m)
 | [], l, h => by simp [lC] at h; subst h; exact List.Perm.refl _
 | y :: m, l, h => by
  simp only [lC, List.mem_cons, List.mem_map] at h
  rcases h with rfl | ⟨u, h, rfl⟩
  ·exact List.Perm.refl _
  ·exact (List.Perm.cons y (qB h)).trans (List.Perm.swap x y m)
theorem um : ∀ {m l : List α}, l.Perm m → l ∈ nc m
 | [], l, h => by rw [h.eq_nil]; simp [nc]
 | x :: m, l, h => by
  obtain ⟨a, b, rfl⟩ := List.append_of_mem (h.mem_iff.2 List.mem_cons_self)
  have u : (a ++ b).Perm m := (List.perm_cons x).1 ((List.perm_middle.symm).trans h)
  simp only [nc, List.mem_flatMap]
  exact ⟨a ++ b, um u, rk⟩
theorem nJ : ∀ {m l : List α}, l ∈ nc m → l.Perm m
 | [], l, h => by simp [nc] at h; subst h; exact List.Perm.refl _
 | x :: m, l, h => by
  simp only [nc, List.mem_flatMap] at h
  obtain ⟨a, h1, u⟩ := h
  exact (qB u).trans (List.Perm.cons x (nJ h1))
def kW [DecidableEq S] [DecidableEq β] (u : S → α → β → Option (S × β)) (s : S) (kvs : List (α × β)) : Option (S × List (α × β)) :=
 if (kvs.map (·.1)).Nodup ∧ ∀ l ∈ nc (kvs.map (·.1)), jx u l s kvs = jx u (kvs.map (·.1)) s kvs then jx u (kvs.map (·.1)) s kvs else none
def qq [DecidableEq S] [DecidableEq β] (u : S → α → β → Option S) (s : S) (kvs : List (α × β)) : Option S := (kW (fun s x v => (u s x v).map fun D => (D, v)) s kvs).map (·.1)
theorem sK {v : β} {x : α} : ∀ {kvs : List (α × β)}, (aW kvs x).isSome = true → (bE kvs x v).map (·.1) = kvs.map (·.1)
 | [], h => by simp [aW] at h
 | p :: l, h => by
  rw [aW] at h
  rw [bE]
  by_cases hp : p.1 = x
  ·rw [if_pos hp]; simp [hp]
  ·rw [if_neg hp] at h ⊢
   rw [List.map_cons, List.map_cons, sK h]
theorem uo {γ : Type} : ∀ {l : List (α × γ)} {p : α × γ}, (l.map (·.1)).Nodup → p ∈ l → aW l p.1 = some p.2
 | [], _, _, h => by cases h
 | q :: l, p, hn, h => by
  rw [List.map_cons, List.nodup_cons] at hn
  rw [aW]
  rcases List.mem_cons.1 h with rfl | h
  ·rw [if_pos rfl]
  ·rw [if_neg (fun e => hn.1 (by rw [e]; exact List.mem_map.2 ⟨p, h, rfl⟩))]
   exact uo hn.2 h
def itI (b r : Nat) (ek : α → Value) (kps : List (α × Nat)) (todo : List α) : HA := exs fun (es : Array MapEntry) => exs fun (k : Nat × Nat × Array Nat × Nat) =>
 bA (pts b (.map es k.1)) (bA (pts r (.mapIter (some b) k.2.1 k.2.2.1 k.2.2.2)) (pr (eT ek ar es.toList kps ∧ (es.toList.map (·.born)).Nodup ∧ (∀ e ∈ es.toList, e.born < k.2.1) ∧ k.2.1 ≤ k.2.2.2 ∧ k.2.1 ≤ k.1 ∧ (leftOf es k.2.2.1).toList.map (·.key) = todo.map ek)))
def itJ (b r : Nat) (ek : α → Value) (kps : List (α × Nat)) (todo : List α) (x : α) : HA := exs fun (es : Array MapEntry) => exs fun (k : Nat × Nat × Array Nat × MapEntry) =>
 bA (pts b (.map es k.1)) (bA (pts r (.mapIter (some b) k.2.1 (k.2.2.1.push k.2.2.2.born) k.1)) (pr (eT ek ar es.toList kps ∧ (es.toList.map (·.born)).Nodup ∧ (∀ e ∈ es.toList, e.born < k.2.1) ∧ k.2.1 ≤ k.1 ∧ (leftOf es (k.2.2.1.push k.2.2.2.born)).toList.map (·.key) = todo.map ek ∧ k.2.2.2 ∈ es.toList ∧ k.2.2.2.key = ek x ∧ k.2.2.2.val = ar (dS kps x))))
theorem AZ {b r : Nat} {ek : α → Value} {kps : List (α × Nat)} {todo : List α} {x : α} (h : Hp) (s : itJ b r ek kps todo x h) : itI b r ek kps todo h := by
 obtain ⟨es, ⟨c, u, D, e⟩, s⟩ := s
 refine ⟨es, ⟨c, u, D.push e.born, c⟩, ?_⟩
 exact cG h (fun h s => cG h (fun h ⟨h1, J, U, I, X, _⟩ => ⟨h1, J, U, I, I, X⟩) s) s
theorem A0 {b r : Nat} {ek : α → Value} {kps : List (α × Nat)} {todo : List α} (h : Hp) (s : itI b r ek kps todo h) : bA (au b ek ar kps) tt h := by
 obtain ⟨es, ⟨c, u, D, c0⟩, h1, I, hd, J, U, h3, h4, X, ab, hr, hp⟩ := s
 exact ⟨h1, I, hd, J, ⟨es, c, U, hp.1, hp.2.1, fun e h => Nat.lt_of_lt_of_le (hp.2.2.1 e h) hp.2.2.2.2.1⟩, trivial⟩
end
section
variable {K : Cx} {R S Y : Type} {Q : eM R} {E : Env} {H : List HA} {opt : Option R} {ops : Array Oper} {rest : List Oper} {o : Oper} {α β Z : Type} [DecidableEq α] {ek : α → Value} {fp : Nat → β → Z → List HA} {T VT t : TypeId} {b r : Nat} {kps : List (α × Nat)} {kvs : List (α × β)} {c : Code}
theorem Ent.into {A A' X : HA} {l : List HA} (h : ∀ h, A h → bA A' tt h) : Ent (bA A X :: l) (bA A' X :: l) := by
 intro hp s
 have s1 : bA (bA A X) (bl l) hp := s
 rw [bF] at s1
 have u := jF hp h s1
 rw [bF] at u
 show bA (bA A' X) (bl l) hp
 rw [bF]
 refine cG hp (fun h s => ?_) u
 have D := fw s
 exact cG h (fun h s => gC l tt h s) D
theorem Cd {todo : List α} {l : List HA} : Ent (ax (itI b r ek kps todo) fp kps kvs :: l) (ax (au b ek ar kps) fp kps kvs :: l) := Ent.into fun h s => A0 h s
theorem Ce {todo : List α} {x : α} {l : List HA} : Ent (ax (itJ b r ek kps todo x) fp kps kvs :: l) (ax (itI b r ek kps todo) fp kps kvs :: l) := Ent.into fun h s => me (AZ h s)
theorem tz {x : Operand} (k : Nat) (I : o.op = .range t x) (X : Go.Proofs.YtndjkejhacfpdaaGreatDoor.ev E x = some (.map (some b))) (hu : K.P.underlying t = some (.map T VT)) (J : H[k]? = some (ax (au b ek ar kps) fp kps kvs)) :
  RE K (Y := Nat) o E H (fun r => .pointer (some ⟨r, 0, none⟩)) (fun r => H.set k (ax (itI b r ek kps (kps.map (·.1))) fp kps kvs)) :=
 jK (by rw [I]; intro c h; cases h) fun a w he s => by
  have hl : k < H.length := (List.getElem?_eq_some_iff.1 J).1
  have s1 : Sat K.W (au b ek ar kps :: dk fp kps kvs :: H.eraseIdx k) w := s.ent (wq k J)
  obtain ⟨es, u, h1, h2, h3, U⟩ := s1.map_open
  have hb := U.pts_at (i := 0) rfl
  refine ⟨w.heap.size, { w with heap := w.heap.push (.mapIter (some b) u #[] u) }, ?_, ?_⟩
  ·unfold execOp; simp only [I]; rw [he.ev X]
   have := run_range_map (P := K.P) w t T VT b es u hu hb
   rw [show w.alloc (.mapIter (some b) u #[] u) = { w with heap := w.heap.push (.mapIter (some b) u #[] u) } from rfl] at this
   simp [this]
  ·refine (U.new (.mapIter (some b) u #[] u)).ent ?_
   intro h s
   rw [← jX H k _ hl]
   have s3 : bA (pts w.heap.size (.mapIter (some b) u #[] u)) (bA (pts b (.map es u)) (bA (dk fp kps kvs) (bl (H.eraseIdx k)))) h := s
   show bA (bA (itI b w.heap.size ek kps (kps.map (·.1))) (dk fp kps kvs)) (bl (H.eraseIdx k)) h
   rw [bF]
   have D := fw s3
   rw [← bF] at D
   rw [← bF] at D
   rw [bF] at D
   refine jF h (fun h s => ⟨es, ⟨u, u, #[], u⟩, cG h (fun h s => ?_) s⟩) D
   rw [fW]
   refine ky.2 ⟨⟨h1, h2, h3, Nat.le_refl _, Nat.le_refl _, ?_⟩, lm s⟩
   have e1 : (leftOf es #[]).toList = es.toList := by simp [leftOf]
   rw [e1]
   have := congrArg (List.map (·.1)) h1
   simpa [eT, List.map_map, Function.comp_def] using this
theorem zX {es : Array MapEntry} {u : Array Nat} {e : MapEntry} (I : (es.toList.map (·.born)).Nodup) {i : Nat} (hi : (leftOf es u).toList[i]? = some e) : (leftOf es (u.push e.born)).toList = (leftOf es u).toList.eraseIdx i := by
 have J : (leftOf es (u.push e.born)).toList = ((leftOf es u).toList).filter fun x => !(x.born == e.born) := by
  simp only [leftOf, Array.toList_filter, List.filter_filter]
  congr 1
  funext x
  simp only [Array.contains_push, Bool.not_or]
  rw [Bool.and_comm]
 rw [J]
 have D : ((leftOf es u).toList.map (·.born)).Nodup := by
  simp only [leftOf, Array.toList_filter]
  exact (List.Sublist.map _ List.filter_sublist).nodup I
 generalize (leftOf es u).toList = l at hi D
 clear J I
 induction l generalizing i with
 | nil => simp at hi
 | cons a l ih =>
  rw [List.map_cons, List.nodup_cons] at D
  cases i with
  | zero =>
   simp at hi
   subst hi
   simp only [List.eraseIdx_zero, List.tail_cons, List.filter_cons, beq_self_eq_true, Bool.not_true, Bool.false_eq_true, if_false]
   rw [List.filter_eq_self]
   intro x U
   have : x.born ≠ a.born := fun e => D.1 (by rw [← e]; exact List.mem_map.2 ⟨x, U, rfl⟩)
   simp [this]
  | succ i =>
   simp only [List.getElem?_cons_succ] at hi
   have : a.born ≠ e.born := fun X => D.1 (by rw [X]; exact List.mem_map.2 ⟨e, List.mem_of_getElem? hi, rfl⟩)
   rw [List.eraseIdx_cons_succ, List.filter_cons, if_pos (by simp [this]), ih hi D.2]
theorem qC {γ δ : Type} (f : γ → δ) : ∀ (l : List γ) (i : Nat), (l.eraseIdx i).map f = (l.map f).eraseIdx i
 | [], _ => by simp
 | a :: l, 0 => by simp
 | a :: l, i + 1 => by simp [qC f l i]
theorem A1 {es : Array MapEntry} {u : Array Nat} {e : MapEntry} (h : e ∈ (leftOf es u).toList) : e ∈ es.toList := by
 simp only [leftOf, Array.toList_filter, List.mem_filter] at h
 exact h.1
theorem zY {x : Operand} {d : Nat} {todo : List α} (k : Nat) (ho : o.op = .next x false) (hg : o.guard = none) (hd : o.dst = some d) (a7 : Nat.blt d K.n = true) (hx : Go.Proofs.YtndjkejhacfpdaaGreatDoor.ev E x = some (.pointer (some ⟨r, 0, none⟩)))
  (a8 : ∀ x y, ek x = ek y → x = y) (b4 : (kvs.map (·.1)).Nodup) (hk : H[k]? = some (ax (itI b r ek kps todo) fp kps kvs))
  (h0 : todo = [] → cx K Q ops rest ((d, .tuple #[.bool false]) :: E) H opt)
  (h1 : ∀ i z, todo[i]? = some z → (aW kvs z).isSome = true → cx K Q ops rest ((d, .tuple #[.bool true, ek z, ar (dS kps z)]) :: E) (H.set k (ax (itJ b r ek kps (todo.eraseIdx i) z) fp kps kvs)) opt) : cx K Q ops (o :: rest) E H opt := by
 intro rr hr a w he s
 have hl : k < H.length := (List.getElem?_eq_some_iff.1 hk).1
 have s1 : Sat K.W (itI b r ek kps todo :: dk fp kps kvs :: H.eraseIdx k) w := s.ent (by
  intro h s
  rw [iQ H k _ hk] at s
  have s1 : bA (bA (itI b r ek kps todo) (dk fp kps kvs)) (bl (H.eraseIdx k)) h := s
  rw [bF] at s1
  exact s1)
 have J : kps.map (·.1) = kvs.map (·.1) := by
  obtain ⟨_, _, _, _, _, ⟨_, _, _, _, hx, _⟩⟩ := s1.hp
  exact kT _ _ _ hx
 obtain ⟨ha, b6, b7, b8, ⟨es, ⟨D, u, I, c0⟩, hI⟩, af⟩ := s1.hp
 have s2 : Sat K.W (pts r (.mapIter (some b) u I c0) :: pts b (.map es D) :: pr (eT ek ar es.toList kps ∧ (es.toList.map (·.born)).Nodup ∧ (∀ e ∈ es.toList, e.born < u) ∧ u ≤ c0 ∧ u ≤ D ∧ (leftOf es I).toList.map (·.key) = todo.map ek) :: dk fp kps kvs :: H.eraseIdx k) w := by
  refine ⟨s1.os, s1.tape, s1.output, s1.size, ?_⟩
  have s3 : bA (bA (pts b (.map es D)) (bA (pts r (.mapIter (some b) u I c0)) (pr _))) (bl (dk fp kps kvs :: H.eraseIdx k)) (hpw w) := ⟨ha, b6, b7, b8, hI, af⟩
  rw [bF, bF] at s3
  exact fw s3
 have b9 := s2.pts_at (i := 0) rfl
 have cd := s2.pts_at (i := 1) rfl
 obtain ⟨_, ⟨p1, p2, p3, p4, p5, p6⟩, _⟩ := s2.at (i := 2) rfl
 have X : ∀ v w', (Instr.next (.pointer (some ⟨r, 0, none⟩)) false o.type).run K.P w = .ok v w' → (execOp a.eval o).run K.P w = .ok (.value v) w' := by
  intro v w' h
  unfold execOp; simp only [ho]; rw [he.ev hx]
  simp [h]
 have U : ∀ c, o.op ≠ .defer c := by rw [ho]; intro c h; cases h
 refine wpListIn_plain hg fun K' be => ?_
 refine ⟨fun f _ => iU _ _, ?_⟩
 rw [Oper.semAt_eq _ _ _ U]
 rcases run_next_at (P := K.P) w o.type r b u c0 I es D b9 cd p3 p4 with ⟨hz, hn⟩ | ⟨e, br, w1, c4, hn⟩
 ·rw [X _ _ hn]
  have ht : todo = [] := by
   have : (leftOf es I).toList = [] := List.eq_nil_of_length_eq_zero (by simpa using hz)
   rw [this] at p6
   simpa using p6.symm
  refine be _ _ ?_
  rw [hd]
  exact h0 ht rr hr _ w (he.put _ a7) s
 ·rw [X _ _ hn]
  obtain ⟨i, hi⟩ := List.mem_iff_getElem?.1 br
  have b0 : (todo.map ek)[i]? = some e.key := by rw [← p6, List.getElem?_map, hi]; rfl
  rw [List.getElem?_map] at b0
  obtain ⟨z, hz, al⟩ := Option.map_eq_some_iff.1 b0
  have ab := A1 br
  have an : (e.key, e.val) ∈ kps.map fun p => (ek p.1, ar p.2) := by
   rw [← (show es.toList.map (fun e => (e.key, e.val)) = _ from p1)]
   exact List.mem_map.2 ⟨e, ab, rfl⟩
  obtain ⟨p, hp, a1⟩ := List.mem_map.1 an
  simp only [Prod.mk.injEq] at a1
  have c5 : p.1 = z := a8 _ _ (by rw [a1.1, al])
  have b1 : aW kps z = some p.2 := by rw [← c5]; exact uo (by rw [J]; exact b4) hp
  have ad : e.val = ar (dS kps z) := by rw [← a1.2]; simp [dS, b1]
  have c6 : (aW kvs z).isSome = true := by rw [← jQ kps kvs z J, b1]; rfl
  refine be _ _ ?_
  rw [hd]
  have c7 : Sat K.W (pts r (.mapIter (some b) u I c0) :: pts b (.map es D) :: pr (eT ek ar es.toList kps ∧ (es.toList.map (·.born)).Nodup ∧ (∀ e ∈ es.toList, e.born < u) ∧ u ≤ c0 ∧ u ≤ D ∧ (leftOf es I).toList.map (·.key) = todo.map ek) :: dk fp kps kvs :: H.eraseIdx k) w1 := by
   rcases c4 with rfl | rfl
   ·exact s2
   ·exact s2.drew _
  have s5 := c7.upd (o' := .mapIter (some b) u (I.push e.born) D)
  have := h1 i z hz c6 rr hr (a.put (some d) (.tuple #[.bool true, e.key, e.val])) (Go.ChangeMaps.setBlock w1 r (.mapIter (some b) u (I.push e.born) D)) (by rw [al.symm, ad]; exact he.put _ a7) (s5.ent ?_)
  ·exact this
  ·intro h s
   rw [← jX H k _ hl]
   show bA (bA (itJ b r ek kps (todo.eraseIdx i) z) (dk fp kps kvs)) (bl (H.eraseIdx k)) h
   rw [bF]
   have s6 : bA (pts r (.mapIter (some b) u (I.push e.born) D)) (bA (pts b (.map es D)) (bA (pr _) (bA (dk fp kps kvs) (bl (H.eraseIdx k))))) h := s
   have s7 := fw s6
   have s8 : bA (pts b (.map es D)) (bA (pts r (.mapIter (some b) u (I.push e.born) D)) (bA (pr (eT ek ar es.toList kps ∧ (es.toList.map (·.born)).Nodup ∧ (∀ x ∈ es.toList, x.born < u) ∧ u ≤ D ∧ (leftOf es (I.push e.born)).toList.map (·.key) = (todo.eraseIdx i).map ek ∧ e ∈ es.toList ∧ e.key = ek z ∧ e.val = ar (dS kps z))) (bA (dk fp kps kvs) (bl (H.eraseIdx k))))) h :=
    cG h (fun h s => cG h (fun h s => jF h (fun h q => ⟨p1, p2, p3, p5, by
     rw [zX p2 hi, qC, p6, qC], ab, al.symm, ad⟩) s) s) s7
   rw [← bF (pts r _), ← bF (pts b _)] at s8
   exact jF h (fun h s => ⟨es, ⟨D, u, I, e⟩, s⟩) s8
theorem wZ {x : Operand} {todo : List α} {z : α} {H' : List HA} {X : HA} (ho : o.op = .entry x) (hx : Go.Proofs.YtndjkejhacfpdaaGreatDoor.ev E x = some (.pointer (some ⟨r, 0, none⟩))) (e : Ent H (itJ b r ek kps todo z :: X :: H')) :
  RQ K o E H (.tuple #[ek z, ar (dS kps z)]) :=
 dL (by rw [ho]; intro c h; cases h) fun a w he s => by
  have s1 := s.ent e
  obtain ⟨ha, U, ab, ad, ⟨es, ⟨u, D, I, e⟩, hI⟩, J⟩ := s1.hp
  have s2 : Sat K.W (pts r (.mapIter (some b) D (I.push e.born) u) :: pts b (.map es u) :: pr (eT ek ar es.toList kps ∧ (es.toList.map (·.born)).Nodup ∧ (∀ e ∈ es.toList, e.born < D) ∧ D ≤ u ∧ (leftOf es (I.push e.born)).toList.map (·.key) = todo.map ek ∧ e ∈ es.toList ∧ e.key = ek z ∧ e.val = ar (dS kps z)) :: X :: H') w := by
   refine ⟨s1.os, s1.tape, s1.output, s1.size, ?_⟩
   have s3 : bA (bA (pts b (.map es u)) (bA (pts r (.mapIter (some b) D (I.push e.born) u)) (pr _))) (bl (X :: H')) (hpw w) := ⟨ha, U, ab, ad, hI, J⟩
   rw [bF, bF] at s3
   exact fw s3
  have al := s2.pts_at (i := 0) rfl
  have an := s2.pts_at (i := 1) rfl
  obtain ⟨_, ⟨p1, p2, p3, p4, p5, p6, p7, p8⟩, _⟩ := s2.at (i := 2) rfl
  unfold execOp; simp only [ho]; rw [he.ev hx]
  simp [run_entry_at (P := K.P) w r b D I es u e al an p6 p2, p7, p8]
theorem A5 {todo : List α} {z : α} (k : Nat) (u : H[k]? = some (ax (itJ b r ek kps todo z) fp kps kvs)) : Ent H (itJ b r ek kps todo z :: dk fp kps kvs :: H.eraseIdx k) := by
 intro h s
 rw [iQ H k _ u] at s
 have s1 : bA (bA (itJ b r ek kps todo z) (dk fp kps kvs)) (bl (H.eraseIdx k)) h := s
 rw [bF] at s1
 exact s1
theorem sL {γ : Type} : ∀ (l : List γ) (i : Nat) (x : γ), l[i]? = some x → (x :: l.eraseIdx i).Perm l
 | [], i, x, h => by simp at h
 | a :: l, 0, x, h => by simp at h; subst h; exact List.Perm.refl _
 | a :: l, i + 1, x, h => by
  rw [List.eraseIdx_cons_succ]
  exact (List.Perm.swap a x _).trans (List.Perm.cons a (sL l i x (by simpa using h)))
theorem A2 {o' : Option R} (e : ∀ r, opt = some r → o' = some r) (h : cx K Q ops rest E H o') : cx K Q ops rest E H opt := fun r u a w D I => h r (e r u) a w D I
def lD {β S R : Type} {α : Type} [DecidableEq α] [DecidableEq S] [DecidableEq β] (u : S → α → β → Option (S × β)) (o2 : S × List (α × β) → Option R) (k : Nat) (z : S × List (α × β) × List α) : Option R :=
 if z.2.2.length < k ∧ (z.2.1.map (·.1)).Nodup ∧ ∀ l ∈ nc z.2.2, jx u l z.1 z.2.1 = jx u z.2.2 z.1 z.2.1 then (jx u z.2.2 z.1 z.2.1).bind o2 else none
theorem yN [DecidableEq S] [DecidableEq β] {u : S → α → β → Option (S × β)} {o2 : S × List (α × β) → Option R} {k : Nat} {s : S} {todo : List α} {i : Nat} {x : α} {v : β} {rr : R} (hi : todo[i]? = some x) (hv : aW kvs x = some v)
  (h : lD u o2 (k + 1) (s, kvs, todo) = some rr) : ∃ z, u s x v = some z ∧ lD u o2 k (z.1, bE kvs x z.2, todo.eraseIdx i) = some rr := by
 unfold lD at h
 split at h
 ·rename_i hc
  obtain ⟨h1, h2, J⟩ := hc
  simp only at h1 h2 J h
  have h3 := fun l I => J l (um I)
  have U := (List.getElem?_eq_some_iff.1 hi).1
  have D : ∀ l, l.Perm (todo.eraseIdx i) → (x :: l).Perm todo := fun l I => by
   have X : todo[i]'U = x := (List.getElem?_eq_some_iff.1 hi).2
   have e2 : (x :: todo.eraseIdx i).Perm todo := by
    rw [← X]
    exact sL _ _ _ (by rw [X]; exact hi)
   exact (List.Perm.cons x I).trans e2
  rw [← h3 _ (D _ (List.Perm.refl _))] at h
  rw [jx, hv, Option.bind_some] at h
  cases hs : u s x v with
  | none => rw [hs] at h; cases h
  | some z =>
   refine ⟨z, rfl, ?_⟩
   rw [hs, Option.bind_some] at h
   unfold lD
   have an : (todo.eraseIdx i).length < k := by rw [List.length_eraseIdx_of_lt U]; omega
   have hn : ((bE kvs x z.2).map (·.1)).Nodup := by rw [sK (by rw [hv]; rfl)]; exact h2
   have ab : ∀ l, l.Perm (todo.eraseIdx i) → jx u l z.1 (bE kvs x z.2) = jx u (todo.eraseIdx i) z.1 (bE kvs x z.2) := fun l I => by
    have X := h3 _ (D l I)
    have e2 := h3 _ (D _ (List.Perm.refl _))
    rw [jx, hv, Option.bind_some, hs, Option.bind_some] at X e2
    rw [X, ← e2]
   rw [if_pos ⟨an, hn, fun l I => ab l (nJ I)⟩]
   exact h
 ·cases h
theorem yO [DecidableEq S] [DecidableEq β] {u : S → α → β → Option (S × β)} {o2 : S × List (α × β) → Option R} {k : Nat} {s : S} {D : R} (h : lD u o2 k (s, kvs, []) = some D) : o2 (s, kvs) = some D := by
 unfold lD at h
 split at h
 ·simpa [jx] using h
 ·cases h
theorem wS [DecidableEq S] [DecidableEq β] {u : S → α → β → Option (S × β)} {o2 : S × List (α × β) → Option R} {k : Nat} {s : S} {todo : List α} {D : R} (h : lD u o2 k (s, kvs, todo) = some D) : (kvs.map (·.1)).Nodup := by
 unfold lD at h
 split at h
 ·rename_i I; exact I.2.1
 ·cases h
theorem wT [DecidableEq S] [DecidableEq β] {u : S → α → β → Option (S × β)} {o2 : S × List (α × β) → Option R} {s : S} : (kW u s kvs).bind o2 = lD u o2 (kvs.length + 1) (s, kvs, kvs.map (·.1)) := by
 unfold kW lD
 simp only [List.length_map]
 by_cases hc : (kvs.map (·.1)).Nodup ∧ ∀ l ∈ nc (kvs.map (·.1)), jx u l s kvs = jx u (kvs.map (·.1)) s kvs
 ·rw [if_pos hc, if_pos ⟨by omega, hc⟩]
 ·rw [if_neg hc, if_neg (fun h => hc h.2)]; rfl
theorem se [DecidableEq S] [DecidableEq β] {tI tN tO af al a8 : Nat} {body : Code} {bc be : TypeId} {br b0 : String} {b1 b2 : Array Edge} {o2 : S × List (α × β) → Option R} (u : S → α → β → Option (S × β)) (I : S → Y → Env) (Hs : S → Y → List HA) (s0 : S) (y0 : Y)
  (a1 : ∀ x y, ek x = ek y → x = y) (b4 : ∀ s y, lk (I s y) tI = some (.pointer (some ⟨r, 0, none⟩))) (b5 : Nat.blt tN K.n = true) (a6 : Nat.blt tO K.n = true) (hS : ∀ s y v1 v2, Sub (I s y) ((tO, v1) :: (tN, v2) :: I s y))
  (hE : Sub (I s0 y0) E) (hH : Ent H (ax (itI b r ek kps (kps.map (·.1))) fp kps kvs :: Hs s0 y0))
  (hB : ∀ kvs todo s y x v, aW kvs x = some v → Sim K (mm K (fun (z : S × β) (y : Y) => I z.1 y) (fun z y => ax (itJ b r ek kps todo x) fp kps (bE kvs x z.2) :: Hs z.1 y)) (.block al body) ((tO, .bool true) :: (tN, .tuple #[.bool true, ek x, ar (dS kps x)]) :: I s y) (ax (itJ b r ek kps todo x) fp kps kvs :: Hs s y) (u s x v))
  (hN : ∀ kvs s y, Nrm K Q (I s y) (ax (au b ek ar kps) fp kps kvs :: Hs s y) (o2 (s, kvs))) :
  Sim K (nh af Q) (.loop (.seq (.region a8 [⟨some tN, .next (.tmp tI) false, bc, br, b1, none⟩, ⟨some tO, .extract (.tmp tN) 0, be, b0, b2, none⟩].toArray false) (.seq (.cond (.tmp tO) .skip (.exit af)) (.block al body)))) E H ((kW u s0 kvs).bind o2) := by
 have J : ∀ w, Sat K.W H w → kps.map (·.1) = kvs.map (·.1) := fun w s => by
  obtain ⟨_, _, _, _, ⟨_, _, _, _, _, hx⟩, _⟩ := (s.ent hH).hp
  exact kT _ _ _ hx
 intro U D a w he X
 have hk := J w X
 rw [wT] at D
 rw [hk] at hH
 refine (da (S := S × List (α × β) × List α) Y (fun k z => lD u o2 k z) (fun z y => I z.1 y) (fun z y => ax (itI b r ek kps z.2.2) fp kps z.2.1 :: Hs z.1 y) (fun z => by unfold lD; rw [if_neg (by omega)]) ?_ (kvs.length + 1) (s0, kvs, kvs.map (·.1)) y0 hE hH) U D a w he X
 rintro k ⟨s, kvs, todo⟩ y
 refine ap (aG ?_)
 by_cases hnd : (kvs.map (·.1)).Nodup
 ·refine zY (todo := todo) (kvs := kvs) 0 rfl rfl rfl b5 (b4 s y) a1 hnd rfl (fun ht => ?_) (fun i x hi hx => ?_)
  ·subst ht
   refine mB (bY (vs := #[.bool false]) (v := .bool false) (i := 0) rfl (by simp [Go.Proofs.YtndjkejhacfpdaaGreatDoor.ev, lk]) rfl) rfl rfl a6 (aw (ai (ap (jE (by simp [Go.Proofs.YtndjkejhacfpdaaGreatDoor.ev, lk]) (dt ?_)))))
   refine cK (cU (cN ?_))
   intro U D a w he X
   have hh := hN kvs s y U (yO D) a w (he.sub ?_) (X.ent Cd)
   ·exact hh
   ·exact hS s y _ _
  ·obtain ⟨v, hv⟩ := Option.isSome_iff_exists.1 hx
   refine A2 (o' := (u s x v).bind fun z => lD u o2 k (z.1, bE kvs x z.2, todo.eraseIdx i)) (fun U D => ?_) ?_
   ·obtain ⟨z, h1, h2⟩ := yN hi hv D
    rw [h1]; exact h2
   ·refine mB (bY (vs := #[.bool true, ek x, ar (dS kps x)]) (v := .bool true) (i := 0) rfl (by simp [Go.Proofs.YtndjkejhacfpdaaGreatDoor.ev, lk]) rfl) rfl rfl a6 (aw (ai (ap (ix (by simp [Go.Proofs.YtndjkejhacfpdaaGreatDoor.ev, lk]) (aA (ai ?_))))))
    intro U D a w he X
    obtain ⟨z, h1, h2⟩ := Option.bind_eq_some_iff.1 D
    refine wpIn_mono (hB kvs (todo.eraseIdx i) s y x v hv z h1 a w he X) ?_
    intro e a' w' hq
    cases e with
    | normal => obtain ⟨y', x1, x2⟩ := hq; exact ⟨(z.1, bE kvs x z.2, todo.eraseIdx i), y', h2, x1, x2.ent Ce⟩
    | _ => exact hq.elim
 ·exact fun U D => absurd (wS D) hnd
theorem uq {D : S → α → β → Option S} : ∀ (l : List α) (s : S) (kvs : List (α × β)) (z : S × List (α × β)), jx (fun s x v => (D s x v).map fun I => (I, v)) l s kvs = some z → z.2 = kvs
 | [], s, kvs, z, h => by simp [jx] at h; rw [← h]
 | x :: l, s, kvs, z, h => by
  rw [jx] at h
  obtain ⟨v, J, h⟩ := Option.bind_eq_some_iff.1 h
  obtain ⟨u, U, h⟩ := Option.bind_eq_some_iff.1 h
  obtain ⟨I, _, rfl⟩ := Option.map_eq_some_iff.1 U
  rw [nq J] at h
  exact uq l _ _ _ h
theorem wU [DecidableEq S] [DecidableEq β] {u : S → α → β → Option S} {s : S} {z : S × List (α × β)} (h : kW (fun s x v => (u s x v).map fun D => (D, v)) s kvs = some z) : z.2 = kvs := by
 unfold kW at h
 split at h
 ·exact uq _ _ _ _ h
 ·cases h
theorem Ent.sameF {M : HA} {x : α} {v : β} {l m : List HA} (u : aW kvs x = some v) (r : Ent l (ax M fp kps kvs :: m)) : Ent l (ax M fp kps (bE kvs x v) :: m) := by rw [nq u]; exact r
theorem ym [DecidableEq S] [DecidableEq β] {tI I J U X an : Nat} {body : Code} {a1 a6 : TypeId} {a7 a8 : String} {bc be : Array Edge} {o2 : S → Option R} (u : S → α → β → Option S) (D : S → Y → Env) (Hs : S → Y → List HA) (s0 : S) (y0 : Y)
  (ad : ∀ x y, ek x = ek y → x = y) (b0 : ∀ s y, lk (D s y) tI = some (.pointer (some ⟨r, 0, none⟩))) (b1 : Nat.blt I K.n = true) (b2 : Nat.blt J K.n = true) (hS : ∀ s y v1 v2, Sub (D s y) ((J, v1) :: (I, v2) :: D s y))
  (hE : Sub (D s0 y0) E) (hH : Ent H (ax (itI b r ek kps (kps.map (·.1))) fp kps kvs :: Hs s0 y0))
  (hB : ∀ kvs todo s y x v, aW kvs x = some v → Sim K (mm K (fun (z : S) (y : Y) => D z y) (fun z y => ax (itJ b r ek kps todo x) fp kps kvs :: Hs z y)) (.block X body) ((J, .bool true) :: (I, .tuple #[.bool true, ek x, ar (dS kps x)]) :: D s y) (ax (itJ b r ek kps todo x) fp kps kvs :: Hs s y) (u s x v))
  (hN : ∀ s y, Nrm K Q (D s y) (ax (au b ek ar kps) fp kps kvs :: Hs s y) (o2 s)) :
  Sim K (nh U Q) (.loop (.seq (.region an [⟨some I, .next (.tmp tI) false, a1, a7, bc, none⟩, ⟨some J, .extract (.tmp I) 0, a6, a8, be, none⟩].toArray false) (.seq (.cond (.tmp J) .skip (.exit U)) (.block X body)))) E H ((qq u s0 kvs).bind o2) := by
 have e : (qq u s0 kvs).bind o2 = (kW (fun s x v => (u s x v).map fun s' => (s', v)) s0 kvs).bind fun z => if z.2 = kvs then o2 z.1 else none := by
  unfold qq
  cases h : kW (fun s x v => (u s x v).map fun s' => (s', v)) s0 kvs with
  | none => rfl
  | some z => simp [wU h]
 rw [e]
 refine se (o2 := fun z => if z.2 = kvs then o2 z.1 else none) _ D Hs s0 y0 ad b0 b1 b2 hS hE hH (fun kvs todo s y x v hv => ?_) (fun al s y => ?_)
 ·intro z hz a w he hs
  obtain ⟨s', h1, rfl⟩ := Option.map_eq_some_iff.1 hz
  refine wpIn_mono (hB kvs todo s y x v hv s' h1 a w he hs) ?_
  intro e a' w' hq
  cases e with
  | normal => obtain ⟨y', x1, x2⟩ := hq; exact ⟨y', x1, x2.ent (Ent.sameF hv (Ent.refl _))⟩
  | _ => exact hq.elim
 ·by_cases hk : al = kvs
  ·subst hk; simpa using hN s y
  ·simp only [hk, if_false]; exact Af
end
theorem wG {P : Program} {W : World} {F O : HA} {f b : Nat} {args : List Value} {β Z Y : Type} {ek : List UInt8 → Value} {fp : Nat → β → Z → List HA} {kps : List (List UInt8 × Nat)} {kvs : List (List UInt8 × β)} {val : List (List UInt8) → Y → Value} {B : List (List UInt8) → Y → HA}
  (h : ∀ F, Fn P W f args [O, au b ek ar kps] F (if (kps.map (·.1)).Nodup ∧ kps.length * 16 ≤ 140737488355328 ∧ ∀ p ∈ kps, p.1.length ≤ 140737488351232 then some (gb kps) else none) val (fun r y => [B r y, O, au b ek ar kps])) :
  Fn P W f args [O, ax (au b ek ar kps) fp kps kvs] F (if (kvs.map (·.1)).Nodup ∧ kvs.length * 16 ≤ 140737488355328 ∧ ∀ p ∈ kvs, p.1.length ≤ 140737488351232 then some (gb kvs) else none) val (fun r y => [B r y, O, ax (au b ek ar kps) fp kps kvs]) := by
 intro r J w hs
 have D : Sat W (ax (au b ek ar kps) fp kps kvs :: [O, F]) w := hs.ent (Ent.sel 1 rfl (Ent.sel 0 rfl (Ent.sel 0 rfl (Ent.nil _))))
 have u : kps.map (·.1) = kvs.map (·.1) := by
  obtain ⟨_, _, _, _, ⟨_, _, _, _, _, hx⟩, _⟩ := D.hp
  exact kT _ _ _ hx
 have I : kps.length = kvs.length := by simpa using congrArg List.length u
 have U : gb kps = gb kvs := by unfold gb; rw [u]
 split at J
 ·rename_i X
  cases J
  have ab : (kps.map (·.1)).Nodup ∧ kps.length * 16 ≤ 140737488355328 ∧ ∀ p ∈ kps, p.1.length ≤ 140737488351232 := by
   refine ⟨by rw [u]; exact X.1, by rw [I]; exact X.2.1, fun p hp => ?_⟩
   have : p.1 ∈ kvs.map (·.1) := by rw [← u]; exact List.mem_map.2 ⟨p, hp, rfl⟩
   obtain ⟨q, hq, e⟩ := List.mem_map.1 this
   rw [← e]; exact X.2.2 q hq
  have := h (bA (dk fp kps kvs) F) (gb kvs) (by rw [if_pos ab, U]) w (D.ent ?_)
  ·refine this.mono ?_
   rintro e w' ⟨y, rfl, s⟩
   refine ⟨y, rfl, s.ent ?_⟩
   intro h s
   have s1 : bA (B (gb kvs) y) (bA O (bA (au b ek ar kps) (bA (bA (dk fp kps kvs) F) tt))) h := s
   refine cG h (fun h s => cG h (fun h s => ?_) s) s1
   show bA (bA (au b ek ar kps) (dk fp kps kvs)) (bA F tt) h
   rw [bF] at s
   rw [bF]
   exact s
  ·intro h s
   have s1 : bA (bA (au b ek ar kps) (dk fp kps kvs)) (bA O (bA F tt)) h := s
   show bA O (bA (au b ek ar kps) (bA (bA (dk fp kps kvs) F) tt)) h
   rw [bF] at s1
   have s2 := cG h (fun h s => fw s) s1
   have s3 := fw s2
   refine cG h (fun h s => cG h (fun h s => ?_) s) s3
   rw [bF]
   exact s
 ·cases J
section
variable {K : Cx} {E : Env} {H : List HA} {o : Oper} {α : Type} {n : Nat} {V : α → List Value → Prop} {xs : List α}
end
theorem ah.empty {α : Type} {T n c : Nat} {V u : α → List Value → Prop} {a : Option Addr} {p : Hp} (h : ah T n V a ([] : List α) c p) : ah T n u a ([] : List α) c p := by
 obtain ⟨rs, D, I⟩ := h
 cases rs with
 | nil => exact ⟨[], trivial, I⟩
 | cons r rs => exact D.elim
end Go.Proofs.YtndjkejhacfpdaaGreatDoor

namespace Go.Proofs.YtndjkejhacfpdaaGreatDoor
open Go.RowKit
def Aa (T : TypeId) (F : HA) (a : Option Addr) (c : Nat) : Prop := ∀ h, F h → c = 0 ∨ ∃ b off, a = some ⟨b, off, none⟩ ∧ ∃ (l : List Value) (fz : Nat × Nat), h b = some (.cells l.toArray T fz) ∧ off + c ≤ l.length ∧ (fz.1 = fz.2 ∨ off + c ≤ fz.1)
theorem Aa.row {T : TypeId} {a : Option Addr} {n c : Nat} {cs : List Value} : Aa T (Row T 1 a n c cs) a c := by
 rintro h (⟨rfl, rfl, rfl, rfl⟩ | ⟨b, off, pre, junk, fz, rfl, ok, u⟩)
 ·exact .inl rfl
 ·have h1 := ok.room; have I := ok.offs; have D := ok.fzok
  refine .inr ⟨b, off, rfl, _, fz, u, ?_, ?_⟩
  ·simp only [List.length_append]; omega
  ·rcases D with h | h
   ·exact .inl h
   ·right; omega
structure RdW (T : TypeId) (F : HA) (a : Option Addr) (c : Nat) (cs : List Value) : Prop where
 rd : Rd F a cs
 cap : Aa T F a c
theorem RdW.row {T : TypeId} {a : Option Addr} {n c : Nat} {cs : List Value} (h : Rd (Row T 1 a n c cs) a cs) : RdW T (Row T 1 a n c cs) a c cs := ⟨h, .row⟩
theorem RdW.none {T : TypeId} {F : HA} : RdW T F none 0 [] := ⟨.inl rfl, fun _ _ => .inl rfl⟩
def UpC (G F : HA) : Prop := ∀ h, F h → ∃ g, G g ∧ ∀ b o, g b = some o → h b = some o
theorem UpC.refl (F : HA) : UpC F F := fun h x => ⟨h, x, fun _ _ e => e⟩
theorem UpC.trans {A B C : HA} (u : UpC A B) (v : UpC B C) : UpC A C := fun h x => by
 obtain ⟨g, D, e⟩ := v h x
 obtain ⟨f, I, J⟩ := u g D
 exact ⟨f, I, fun b o y => e b o (J b o y)⟩
theorem UpC.lend {F : HA} {l : List HA} (k : Nat) (u : l[k]? = some F) : UpC F (bl l) := fun h x => mA l k F u h x
theorem UpC.up {G F : HA} (u : UpC G F) : Up G F := fun a cs r => by
 rcases r with h | ⟨b, off, D, I⟩
 ·exact .inl h
 ·refine .inr ⟨b, off, D, fun h x => ?_⟩
  obtain ⟨g, J, e⟩ := u h x
  obtain ⟨l, T, fz, h1, U⟩ := I g J
  exact ⟨l, T, fz, e _ _ h1, U⟩
theorem RdW.up {T : TypeId} {G F : HA} {a : Option Addr} {c : Nat} {cs : List Value} (r : RdW T G a c cs) (u : UpC G F) : RdW T F a c cs :=
 ⟨u.up _ _ r.rd, fun h x => by
  obtain ⟨g, D, e⟩ := u h x
  rcases r.cap g D with h0 | ⟨b, off, I, l, fz, h1, J⟩
  ·exact .inl h0
  ·exact .inr ⟨b, off, I, l, fz, e _ _ h1, J⟩⟩
/-! ### What may be written -/
def oP (h : Hp) (b : Nat) (o : Obj) : Hp := fun i => if i = b then some o else h i
def Shp (z : HA) : HA := fun h' => ∃ h, z h ∧ ∀ b (l : List Value) T fz, h b = some (.cells l.toArray T fz) → ∃ u : List Value, h' b = some (.cells u.toArray T fz) ∧ u.length = l.length
theorem Shp.of {z : HA} (h : Hp) (x : z h) : Shp z h := ⟨h, x, fun _ l _ _ e => ⟨l, e, rfl⟩⟩
def Wrt (T : TypeId) (J : HA) (a : Option Addr) (c : Nat) : Prop := ∀ h, J h → c = 0 ∨ ∃ b off, a = some ⟨b, off, none⟩ ∧ ∃ (l : List Value) (fz : Nat × Nat), h b = some (.cells l.toArray T fz) ∧ off + c ≤ l.length ∧ (fz.1 = fz.2 ∨ off + c ≤ fz.1) ∧
 ∀ u : List Value, u.length = l.length → J (oP h b (.cells u.toArray T fz))
def UpW (J u : HA) : Prop := ∀ T a c, Wrt T J a c → Wrt T u a c
theorem UpW.refl (J : HA) : UpW J J := fun _ _ _ h => h
theorem UpW.trans {A B C : HA} (u : UpW A B) (v : UpW B C) : UpW A C := fun T a c h => v T a c (u T a c h)
theorem Wrt.up {T : TypeId} {J D : HA} {a : Option Addr} {c : Nat} (h : Wrt T J a c) (u : UpW J D) : Wrt T D a c := u T a c h
theorem UpW.star {A J : HA} : UpW J (bA A J) := by
 rintro T a c r h ⟨x, y, d, rfl, u, D⟩
 rcases r y D with h0 | ⟨b, off, I, l, fz, h1, U, X, h4⟩
 ·exact .inl h0
 ·refine .inr ⟨b, off, I, l, fz, rY d h1, U, X, fun m hm => ⟨x, oP y b (.cells m.toArray T fz), ?_, ?_, u, h4 m hm⟩⟩
  ·intro i
   by_cases hi : i = b
   ·subst hi
    rcases d i with e | e
    ·exact .inl e
    ·rw [h1] at e; cases e
   ·simpa [oP, hi] using d i
  ·funext i
   by_cases hi : i = b
   ·subst hi
    rcases d i with e | e
    ·simp [oP, un, e]
    ·rw [h1] at e; cases e
   ·simp [oP, un, hi]
def Blk (T : TypeId) (b s : Nat) : HA := fun h => ∃ l : List Value, h b = some (.cells l.toArray T (0, 0)) ∧ l.length = s
theorem Wrt.blk {T : TypeId} {b s c : Nat} {J : HA} (I : c ≤ s) : Wrt T (bA (Blk T b s) J) (some ⟨b, 0, none⟩) c := by
 rintro h ⟨x, y, d, rfl, ⟨l, u, U⟩, D⟩
 refine .inr ⟨b, 0, rfl, l, (0, 0), oX u, by omega, .inl rfl, fun m X => ⟨oP x b (.cells m.toArray T (0, 0)), y, ?_, ?_, ⟨m, by simp [oP], by omega⟩, D⟩⟩
 ·intro i
  by_cases hi : i = b
  ·subst hi
   rcases d i with e | e
   ·rw [u] at e; cases e
   ·exact .inr e
  ·simpa [oP, hi] using d i
 ·funext i
  by_cases hi : i = b
  ·subst hi; simp [oP, un]
  ·simp [oP, un, hi]
section
variable {K : Cx} {R S Y : Type} {Q : eM R} {E : Env} {H : List HA} {opt : Option R} {ops : Array Oper} {rest : List Oper} {o : Oper}
end
end Go.Proofs.YtndjkejhacfpdaaGreatDoor

namespace Go.Proofs.YtndjkejhacfpdaaGreatDoor
open Go.RowKit
theorem pH {n : Int} {b : UInt8} {cs : List Value} {bs : List UInt8} (h : (b.toNat : Int) = n) (t : cs = aL bs) : Value.int .u8 n :: cs = aL (b :: bs) := by
 subst h; subst t; rfl
theorem BB : ([] : List Value) = aL [] := rfl
section
variable {K : Cx} {R S Y : Type} {Q : eM R} {E : Env} {H : List HA} {opt : Option R} {ops : Array Oper} {rest : List Oper} {o : Oper}
theorem zd {x : Operand} {t : TypeId} {lo hi : Option Operand} {s : List UInt8} {u D : Option Value} {lo' hi' : Int} (J : o.op = .slice t x lo hi none) (U : ev E x = some (str s))
  (X : lim E lo = some u) (hh : lim E hi = some D) (hu : K.P.underlying t = some .string)
  (h1 : (D = none ∧ hi' = (s.length : Int)) ∨ ∃ k, D = some (.int k hi')) (h2 : (u = none ∧ lo' = 0) ∨ ∃ k, u = some (.int k lo')) (I : 0 ≤ lo' ∧ lo' ≤ hi' ∧ hi' ≤ (s.length : Int)) :
  RQ K o E H (str (cut s lo' hi')) := by
 obtain ⟨a, rfl⟩ := Int.eq_ofNat_of_zero_le I.1
 obtain ⟨b, rfl⟩ := Int.eq_ofNat_of_zero_le (Int.le_trans I.1 I.2.1)
 have q := Ad (K := K) (E := E) (H := H) (o := o) (s := s) (l := a) (h := b) J U X hh hu (by rcases h1 with ⟨x, y⟩ | y; exact .inl ⟨x, by omega⟩; exact .inr y) (by rcases h2 with ⟨x, y⟩ | y; exact .inl ⟨x, by omega⟩; exact .inr y) (by omega) (by omega)
 simpa [cut] using q
end
/-! ### Functions of the library -/
theorem Cs {P : Program} {W : World} {F : HA} {f : FuncId} {args : List Value} {R Y : Type} {p : Prop} [Decidable p] {r : R} {val : R → Y → Value} {A : List HA} {B : R → Y → List HA} (h : p → Fn P W f args A F (some r) val B) :
  Fn P W f args A F (if p then some r else none) val B := fun D u w I => by
 split at u
 ·rename_i hp; exact h hp D u w I
 ·cases u
/-! ### What the library's variables hold -/
def nt (F : HA) (w : World) : Prop := ∃ a, F a ∧ ∀ j o, a j = some o → w.heap[j]? = some o
structure Glb (P : Program) (F : HA) : Prop where
 pow : ∀ w, nt F w → Lib.TabIs P w "internal/strconv.uint64pow10" .u64 Lib.pow10Tab
 syn : (P.globalNamed "strconv.ErrSyntax").isSome = true → ∀ w, nt F w → ∃ t p, w.var? P "strconv.ErrSyntax" = some #[.iface t p]
 rng : (P.globalNamed "strconv.ErrRange").isSome = true → ∀ w, nt F w → ∃ t p, w.var? P "strconv.ErrRange" = some #[.iface t p]
theorem nt.lend {F : HA} {l : List HA} {w : World} (k : Nat) (u : l[k]? = some F) (h : nt (bl l) w) : nt F w := by
 obtain ⟨a, D, e⟩ := h
 obtain ⟨b, I, J⟩ := mA l k F u a D
 exact ⟨b, I, fun j o x => e j o (J j o x)⟩
theorem Glb.lend {P : Program} {F : HA} {l : List HA} (h : Glb P F) (k : Nat) (u : l[k]? = some F) : Glb P (bl l) :=
 ⟨fun w x => h.pow w (x.lend k u), fun e w x => h.syn e w (x.lend k u), fun e w x => h.rng e w (x.lend k u)⟩
theorem Sat.holds {W w : World} {l : List HA} {F : HA} (s : Sat W (l ++ [F]) w) : nt F w := s.at (i := l.length) (by simp)
theorem yM (w : World) (k : Nat) (os : Array Obj) : Below w.heap.size w (Sort.grow (w.drewN k) os) := by
 refine ⟨rfl, rfl, rfl, by simp [Sort.grow, World.drewN], fun j u => ?_⟩
 show (w.heap ++ os)[j]? = _
 rw [Array.getElem?_append_left u]
theorem By {P : Program} {W : World} {F : HA} {f : FuncId} {args : List Value} {n : Int} (I : Glb P F)
  (J : ∀ w, Lib.TabIs P w "internal/strconv.uint64pow10" .u64 Lib.pow10Tab → Calls P f args.toArray w fun e u => e = .returned (.string ⟨(Lib.itoa n).toArray⟩) ∧ ∃ k os, u = Sort.grow (w.drewN k) os) :
  Fn P W f args [] F (some (Lib.itoa n)) (fun (r : List UInt8) (_ : Unit) => str r) (fun _ _ => []) := fun r' U w D => by
 cases U
 exact (J w (I.pow w D.holds)).mono fun e u ⟨h1, k, os, X⟩ => ⟨(), h1, by subst X; exact D.below (yM w k os)⟩
def AW (ok : Bool) (T : TypeId) (y : Nat) : Value := match ok with
 | true => .nilIface
 | false => .iface T (.pointer (some ⟨y, 0, none⟩))
section
variable {K : Cx} {E : Env} {H : List HA} {o : Oper}
theorem Ca {u U T : TypeId} {x : Operand} {ok : Bool} {y : Nat} {X : _} (D : o.op = .binOp .eql u x (.const .nilIface) U) (hx : ev E x = some (AW ok T y)) (I : K.P.underlying u = some (.interface X)) : RQ K o E H (.bool ok) :=
 dL (by rw [D]; intro c h; cases h) fun a w J _ => by
  unfold execOp; simp only [D]; rw [J.ev hx, J.ev (x := .const .nilIface) rfl]
  cases ok with
  | true =>
   have e : (Op.equal u .nilIface .nilIface).run K.P w = .ok true w := by
    rw [show Op.equal u .nilIface .nilIface = Op.equalIn (9999 + 1) u .nilIface .nilIface from rfl, Op.equalIn]
    simp [underlying, program, Sem.run, I]
   simp [AW, eqGuard, binOp, e]
  | false =>
   have e : (Op.equal u (.iface T (.pointer (some ⟨y, 0, none⟩))) .nilIface).run K.P w = .ok false w := by
    rw [show Op.equal u (.iface T (.pointer (some ⟨y, 0, none⟩))) .nilIface = Op.equalIn (9999 + 1) u (.iface T (.pointer (some ⟨y, 0, none⟩))) .nilIface from rfl, Op.equalIn]
    simp [underlying, program, Sem.run, I]
   simp [AW, eqGuard, binOp, e]
end
end Go.Proofs.YtndjkejhacfpdaaGreatDoor

namespace Go.Proofs.YtndjkejhacfpdaaGreatDoor
open Go.RowKit
theorem Ent.perm {l m : List HA} (p : l.Perm m) : Ent l m := by
 induction p with
 | nil => exact Ent.refl _
 | cons a _ ih => exact Ent.cons ih
 | swap a b l => exact Ent.sel 1 rfl (Ent.refl _)
 | trans _ _ ih1 ih2 => exact ih1.trans ih2
def nz (γ : Nat → Nat) (i z : Nat) : Nat → Nat := fun j => if Nat.beq j i then z else γ j
section
variable {K : Cx} {R S Y : Type} {Q : eM R} {E : Env} {H : List HA} {o : Option R}
def Cp (K : Cx) (ops : Array Oper) (u : List (List Nat)) (val : (Nat → Nat) → Nat → Value) (add : (Nat → Nat) → Nat → List HA) (E : Env) (H X : List HA) (i : Nat) (pre : List Nat) (γ : Nat → Nat) : Prop :=
 ∃ D, ops[i]? = some D ∧ ∃ I, gm ops u (val γ) E i I ∧ GOk ops D I ∧
  (∀ z, kp pre (val (nz γ i z)) (val γ) ∧ All pre fun q => add (nz γ i z) q = add γ q) ∧
  RE K (Y := Nat) D I (H ++ X) (fun z => val (nz γ i z) i) (fun z => H ++ (add (nz γ i z) i ++ X))
theorem Cp.mk {ops : Array Oper} {u : List (List Nat)} {Z : Type} {val : (Nat → Nat) → Nat → Value} {add : (Nat → Nat) → Nat → List HA} {X : List HA} {i : Nat} {pre : List Nat} {γ : Nat → Nat} {D : Oper} {v : Z → Value} {H' : Z → List HA} (I : Env) (f : Z → Nat) (J : ops[i]? = some D) (U : D.guard = none) (he : gm ops u (val γ) E i I)
  (ha : ∀ z, kp pre (val (nz γ i z)) (val γ)) (hb : ∀ z, All pre fun q => add (nz γ i z) q = add γ q)
  (h : RE K (Y := Z) D I (H ++ X) v H') (hv : ∀ z, D.dst = none ∨ v z = val (nz γ i (f z)) i) (hH : ∀ z, Ent (H' z) (H ++ (add (nz γ i (f z)) i ++ X))) : Cp K ops u val add E H X i pre γ :=
 ⟨D, J, I, he, .inl U, fun z => ⟨ha z, hb z⟩, fun a w hh hs next Q hn => h a w hh hs next Q fun z w' s => by
  have := hn (f z) w' (s.ent (hH z))
  rcases hv z with e | e
  ·rw [e] at this ⊢; exact this
  ·rw [e]; exact this⟩
end
/-! ### Functions in cells -/
section
variable {K : Cx} {E : Env} {H : List HA} {o : Oper}
end
end Go.Proofs.YtndjkejhacfpdaaGreatDoor

namespace Go.Proofs.YtndjkejhacfpdaaGreatDoor
open Go.RowKit Go.Maps Go.Sort Go.Shelf
def oK : Go.Shelf.Ren := ⟨fun | 6 => 69 | 8 => 96 | 9 => 97 | 11 => 116 | 13 => 118 | 12 => 117 | 23 => 137 | 24 => 138 | 14 => 128 | 15 => 129 | 16 => 130 | 17 => 131 | 18 => 132 | 19 => 133 | 20 => 134 | 21 => 135 | 22 => 136 | 25 => 144 | 26 => 145 | 27 => 146 | 28 => 147 | 29 => 148 | 30 => 149 | 31 => 152 | n => n, fun | 26 => 9 | 28 => 119 | 24 => 60 | 0 => 0 | 3 => 3 | 37 => 169 | 48 => 149 | 50 => 174 | 4 => 4 | 40 => 190 | 39 => 189 | 45 => 26 | 5 => 5 | 9 => 9 | 51 => 202 | 55 => 206 | 57 => 208 | 58 => 70 | 33 => 106 | n => n, fun | n => n⟩
theorem wN : Go.Proofs.SlLaysZ.n6 Tryz.prog oK := {
 mixed := by kernel_rfl
 f6 := ⟨Tryz.f69.name, by decide, Tryz.func69.trans (congrArg some (by kernel_rfl))⟩
 f8 := ⟨Tryz.f96.name, by decide, Tryz.func96.trans (congrArg some (by kernel_rfl))⟩
 f11 := ⟨Tryz.f116.name, by decide, Tryz.func116.trans (congrArg some (by kernel_rfl))⟩
 t0 := Tryz.underlying0
 a0 := Tryz.isAgg0
 z0 := Tryz.sizeOf0
 v0 := Tryz.zeroValue0
 t24 := Tryz.underlying60
 a24 := Tryz.isAgg60
 z24 := Tryz.sizeOf60
 v24 := Tryz.zeroValue60
 t26 := Tryz.underlying9
 a26 := Tryz.isAgg9
 z26 := Tryz.sizeOf9
 v26 := Tryz.zeroValue9
 t28 := Tryz.underlying119
 a28 := Tryz.isAgg119
 z28 := Tryz.sizeOf119
 v28 := Tryz.zeroValue119
 i26 := by kernel_rfl }
def qA : Go.Shelf.Ren := ⟨fun | 10 => 98 | n => n, fun | 33 => 106 | 23 => 95 | 0 => 0 | 4 => 4 | 26 => 9 | 3 => 107 | n => n, fun | n => n⟩
theorem AN : Go.Proofs.SlLaysZ.n10 Tryz.prog qA := {
 mixed := by kernel_rfl
 f10 := ⟨Tryz.f98.name, by decide, Tryz.func98.trans (congrArg some (by kernel_rfl))⟩
 t0 := Tryz.underlying0
 a0 := Tryz.isAgg0
 z0 := Tryz.sizeOf0
 v0 := Tryz.zeroValue0
 t4 := Tryz.underlying4
 a4 := Tryz.isAgg4
 z4 := Tryz.sizeOf4
 v4 := Tryz.zeroValue4
 t23 := Tryz.underlying95
 a23 := Tryz.isAgg95
 z23 := Tryz.sizeOf95
 v23 := Tryz.zeroValue95
 t26 := Tryz.underlying9
 a26 := Tryz.isAgg9
 z26 := Tryz.sizeOf9
 v26 := Tryz.zeroValue9
 t33 := Tryz.underlying106
 a33 := Tryz.isAgg106
 z33 := Tryz.sizeOf106
 v33 := Tryz.zeroValue106 }
def wj : Go.Shelf.Ren := ⟨fun | 6 => 97 | 8 => 118 | 9 => 117 | 19 => 137 | 20 => 138 | 21 => 128 | 22 => 129 | 23 => 130 | 24 => 131 | 25 => 132 | 26 => 133 | 27 => 134 | 28 => 135 | 29 => 136 | 36 => 144 | 31 => 145 | 32 => 146 | 37 => 147 | 38 => 148 | 39 => 149 | 41 => 152 | n => n, fun | 27 => 60 | 29 => 9 | 3 => 3 | 32 => 169 | 26 => 60 | 0 => 0 | 44 => 149 | 46 => 174 | 4 => 4 | 36 => 190 | 35 => 189 | 41 => 26 | 5 => 5 | 9 => 9 | 53 => 202 | 57 => 206 | 63 => 208 | 64 => 70 | n => n, fun | n => n⟩
theorem wk : Go.Proofs.SlLaysM.n6 Tryz.prog wj := {
 mixed := by kernel_rfl
 f6 := ⟨Tryz.f97.name, by decide, Tryz.func97.trans (congrArg some (by kernel_rfl))⟩
 f8 := Tryz.func118.trans (congrArg some (by kernel_rfl))
 f9 := ⟨Tryz.f117.name, by decide, Tryz.func117.trans (congrArg some (by kernel_rfl))⟩
 f19 := Tryz.func137.trans (congrArg some (by kernel_rfl))
 f20 := Tryz.func138.trans (congrArg some (by kernel_rfl))
 f21 := ⟨Tryz.f128.name, by decide, Tryz.func128.trans (congrArg some (by kernel_rfl))⟩
 f22 := ⟨Tryz.f129.name, by decide, Tryz.func129.trans (congrArg some (by kernel_rfl))⟩
 f23 := ⟨Tryz.f130.name, by decide, Tryz.func130.trans (congrArg some (by kernel_rfl))⟩
 f24 := ⟨Tryz.f131.name, by decide, Tryz.func131.trans (congrArg some (by kernel_rfl))⟩
 f25 := ⟨Tryz.f132.name, by decide, Tryz.func132.trans (congrArg some (by kernel_rfl))⟩
 f26 := ⟨Tryz.f133.name, by decide, Tryz.func133.trans (congrArg some (by kernel_rfl))⟩
 f27 := ⟨Tryz.f134.name, by decide, Tryz.func134.trans (congrArg some (by kernel_rfl))⟩
 f28 := ⟨Tryz.f135.name, by decide, Tryz.func135.trans (congrArg some (by kernel_rfl))⟩
 f29 := ⟨Tryz.f136.name, by decide, Tryz.func136.trans (congrArg some (by kernel_rfl))⟩
 f31 := Tryz.func145.trans (congrArg some (by kernel_rfl))
 f32 := Tryz.func146.trans (congrArg some (by kernel_rfl))
 f36 := ⟨Tryz.f144.name, by decide, Tryz.func144.trans (congrArg some (by kernel_rfl))⟩
 f37 := ⟨Tryz.f147.name, by decide, Tryz.func147.trans (congrArg some (by kernel_rfl))⟩
 f38 := ⟨Tryz.f148.name, by decide, Tryz.func148.trans (congrArg some (by kernel_rfl))⟩
 f39 := ⟨Tryz.f149.name, by decide, Tryz.func149.trans (congrArg some (by kernel_rfl))⟩
 f41 := ⟨Tryz.f152.name, by decide, Tryz.func152.trans (congrArg some (by kernel_rfl))⟩
 t0 := Tryz.underlying0
 a0 := Tryz.isAgg0
 z0 := Tryz.sizeOf0
 v0 := Tryz.zeroValue0
 t3 := Tryz.underlying3
 a3 := Tryz.isAgg3
 z3 := Tryz.sizeOf3
 v3 := Tryz.zeroValue3
 t4 := Tryz.underlying4
 a4 := Tryz.isAgg4
 z4 := Tryz.sizeOf4
 v4 := Tryz.zeroValue4
 t5 := Tryz.underlying5
 a5 := Tryz.isAgg5
 z5 := Tryz.sizeOf5
 v5 := Tryz.zeroValue5
 t9 := Tryz.underlying9
 a9 := Tryz.isAgg9
 z9 := Tryz.sizeOf9
 v9 := Tryz.zeroValue9
 t26 := Tryz.underlying60
 a26 := Tryz.isAgg60
 z26 := Tryz.sizeOf60
 v26 := Tryz.zeroValue60
 t27 := Tryz.underlying60
 a27 := Tryz.isAgg60
 z27 := Tryz.sizeOf60
 v27 := Tryz.zeroValue60
 t29 := Tryz.underlying9
 a29 := Tryz.isAgg9
 z29 := Tryz.sizeOf9
 v29 := Tryz.zeroValue9
 t32 := Tryz.underlying169
 a32 := Tryz.isAgg169
 z32 := Tryz.sizeOf169
 v32 := Tryz.zeroValue169
 t35 := Tryz.underlying189
 a35 := Tryz.isAgg189
 z35 := Tryz.sizeOf189
 v35 := Tryz.zeroValue189
 t36 := Tryz.underlying190
 a36 := Tryz.isAgg190
 z36 := Tryz.sizeOf190
 v36 := Tryz.zeroValue190
 t41 := Tryz.underlying26
 a41 := Tryz.isAgg26
 z41 := Tryz.sizeOf26
 v41 := Tryz.zeroValue26
 t44 := Tryz.underlying149
 a44 := Tryz.isAgg149
 z44 := Tryz.sizeOf149
 v44 := Tryz.zeroValue149
 t46 := Tryz.underlying174
 a46 := Tryz.isAgg174
 z46 := Tryz.sizeOf174
 v46 := Tryz.zeroValue174
 t53 := Tryz.underlying202
 a53 := Tryz.isAgg202
 z53 := Tryz.sizeOf202
 v53 := Tryz.zeroValue202
 t57 := Tryz.underlying206
 a57 := Tryz.isAgg206
 z57 := Tryz.sizeOf206
 v57 := Tryz.zeroValue206
 t63 := Tryz.underlying208
 a63 := Tryz.isAgg208
 z63 := Tryz.sizeOf208
 v63 := Tryz.zeroValue208
 t64 := Tryz.underlying70
 a64 := Tryz.isAgg70
 z64 := Tryz.sizeOf70
 v64 := Tryz.zeroValue70 }
def yH : Go.Shelf.Ren := ⟨fun | 171 => 39 | 243 => 72 | 246 => 99 | 283 => 119 | 284 => 120 | 285 => 121 | 286 => 122 | 129 => 138 | 317 => 139 | 318 => 140 | 319 => 141 | 320 => 142 | 337 => 150 | 338 => 151 | n => n, fun | 3 => 3 | 9 => 9 | 2 => 2 | 4 => 4 | 171 => 173 | 0 => 0 | 53 => 174 | 37 => 33 | 5 => 5 | 173 => 177 | 212 => 198 | 51 => 149 | 20 => 20 | 213 => 199 | 46 => 169 | 232 => 210 | 233 => 211 | n => n, fun | 17 => 0 | 18 => 1 | 19 => 2 | n => n⟩
theorem Ct : Go.Proofs.LaysM.n171 Tryz.prog yH := {
 mixed := by kernel_rfl
 f129 := Tryz.func138.trans (congrArg some (by kernel_rfl))
 f171 := Tryz.func39.trans (congrArg some (by kernel_rfl))
 f243 := Tryz.func72.trans (congrArg some (by kernel_rfl))
 f246 := Tryz.func99.trans (congrArg some (by kernel_rfl))
 f283 := Tryz.func119.trans (congrArg some (by kernel_rfl))
 f284 := Tryz.func120.trans (congrArg some (by kernel_rfl))
 f285 := Tryz.func121.trans (congrArg some (by kernel_rfl))
 f286 := Tryz.func122.trans (congrArg some (by kernel_rfl))
 f317 := Tryz.func139.trans (congrArg some (by kernel_rfl))
 f318 := Tryz.func140.trans (congrArg some (by kernel_rfl))
 f319 := Tryz.func141.trans (congrArg some (by kernel_rfl))
 f320 := Tryz.func142.trans (congrArg some (by kernel_rfl))
 f337 := Tryz.func150.trans (congrArg some (by kernel_rfl))
 f338 := Tryz.func151.trans (congrArg some (by kernel_rfl))
 t0 := Tryz.underlying0
 a0 := Tryz.isAgg0
 z0 := Tryz.sizeOf0
 v0 := Tryz.zeroValue0
 t2 := Tryz.underlying2
 a2 := Tryz.isAgg2
 z2 := Tryz.sizeOf2
 v2 := Tryz.zeroValue2
 t3 := Tryz.underlying3
 a3 := Tryz.isAgg3
 z3 := Tryz.sizeOf3
 v3 := Tryz.zeroValue3
 t4 := Tryz.underlying4
 a4 := Tryz.isAgg4
 z4 := Tryz.sizeOf4
 v4 := Tryz.zeroValue4
 t5 := Tryz.underlying5
 a5 := Tryz.isAgg5
 z5 := Tryz.sizeOf5
 v5 := Tryz.zeroValue5
 t9 := Tryz.underlying9
 a9 := Tryz.isAgg9
 z9 := Tryz.sizeOf9
 v9 := Tryz.zeroValue9
 t20 := Tryz.underlying20
 a20 := Tryz.isAgg20
 z20 := Tryz.sizeOf20
 v20 := Tryz.zeroValue20
 t37 := Tryz.underlying33
 a37 := Tryz.isAgg33
 z37 := Tryz.sizeOf33
 v37 := Tryz.zeroValue33
 t46 := Tryz.underlying169
 a46 := Tryz.isAgg169
 z46 := Tryz.sizeOf169
 v46 := Tryz.zeroValue169
 t51 := Tryz.underlying149
 a51 := Tryz.isAgg149
 z51 := Tryz.sizeOf149
 v51 := Tryz.zeroValue149
 t53 := Tryz.underlying174
 a53 := Tryz.isAgg174
 z53 := Tryz.sizeOf174
 v53 := Tryz.zeroValue174
 t171 := Tryz.underlying173
 a171 := Tryz.isAgg173
 z171 := Tryz.sizeOf173
 v171 := Tryz.zeroValue173
 t173 := Tryz.underlying177
 a173 := Tryz.isAgg177
 z173 := Tryz.sizeOf177
 v173 := Tryz.zeroValue177
 t212 := Tryz.underlying198
 a212 := Tryz.isAgg198
 z212 := Tryz.sizeOf198
 v212 := Tryz.zeroValue198
 t213 := Tryz.underlying199
 a213 := Tryz.isAgg199
 z213 := Tryz.sizeOf199
 t232 := Tryz.underlying210
 a232 := Tryz.isAgg210
 z232 := Tryz.sizeOf210
 v232 := Tryz.zeroValue210
 t233 := Tryz.underlying211
 a233 := Tryz.isAgg211
 z233 := Tryz.sizeOf211
 v233 := Tryz.zeroValue211
 g17 := by kernel_rfl
 g18 := by kernel_rfl
 g19 := by kernel_rfl
 i0 := by kernel_rfl
 i2 := by kernel_rfl
 i3 := by kernel_rfl
 i4 := by kernel_rfl
 i5 := by kernel_rfl
 i9 := by kernel_rfl
 i20 := by kernel_rfl
 i37 := by kernel_rfl
 i46 := by kernel_rfl
 i51 := by kernel_rfl
 i53 := by kernel_rfl
 i171 := by kernel_rfl
 i173 := by kernel_rfl
 i212 := by kernel_rfl
 i232 := by kernel_rfl
 i233 := by kernel_rfl
 m17 := by kernel_rfl
 m18 := by kernel_rfl
 m19 := by kernel_rfl }
theorem wl (m : Nat) : AnyZ.SortsIn Tryz.prog oK Fence.wide m :=
 ⟨fun blk off cap I W J u D => callsIn_wide.2 (AnyM.slices_Sort_string wk blk off cap I W J u D),
  fun p cap W => callsIn_wide.2 (AnyM.slices_Sort_string_none wk p cap W)⟩
set_option maxHeartbeats 1000000 in
theorem sn (w : World) (D : DataW Unit) (nn b c : Nat) (U : w.ownsMap Tryz.prog 9 R0 b nn D) (I : w.cell? ⟨c, 0, none⟩ = some (.map (some b))) (ad : c < w.heap.size) (X : Maps.size D ≤ maxLen) (u : Maps.size D * 16 ≤ 140737488355328) :
  CallsIn Fence.wide 5 Tryz.prog 69 #[.func (.func 98) #[] #[.pointer (some ⟨c, 0, none⟩)]] w fun e w' => ∃ (v : Value) (J : List (List UInt8)), e = .returned v ∧ J.Perm (strKeys D) ∧
   w'.ownsRow w.heap.size 9 1 v J.length ((J.mergeSort (fun x y => decide (x ≤ y))).map encStr) ∧ (v = .slice none 0 0 ↔ J = []) ∧ Below w.heap.size w w' := by
 have ab : SeqGives Fence.wide 2 Tryz.prog 98 #[.pointer (some ⟨c, 0, none⟩)] encStr (fun J => J.Perm (strKeys D)) (Maps.size D) w :=
  AnyZ.keys_gives (ρ := qA) { AN with } Fence.wide _ trivial rfl (by omega) c b nn D _ ad I U
 exact AnyZ.sorted_in wN Fence.wide 5 trivial trivial trivial trivial O (by omega) (wl _) (enters_of Tryz.func97 (by kernel_rfl) O) 98 #[.pointer (some ⟨c, 0, none⟩)] trivial (enters_of Tryz.func98 (by kernel_rfl) O) _ _ X u _ ab
abbrev W0 (b : Nat) (p0 : Nat) (x1 : Lb) (x2 : Int) (x3 : Bool) : HA := obj b 97 [.map (some p0), str x1, Iv x2, .bool x3]
abbrev W1 (b : Nat) (p0 : Nat) (x : Lb × Int × Bool) : HA := obj b 97 [.map (some p0), str x.1, Iv x.2.1, .bool x.2.2]
abbrev W2 {t4 t5 : Type} (b : Nat) (x0 : Int) (x1 : Int) (x2 : Int) (x3 : Int) (x4 : List t4) (x5 : List t5) (a4 : Option Addr) (c4 : Nat) (a5 : Option Addr) (c5 : Nat) : HA := obj b 80 [Iv x0, Iv x1, Iv x2, Iv x3, .slice a4 x4.length c4, .slice a5 x5.length c5]
abbrev W3 {t5 : Type} (b : Nat) (x0 : Int) (x1 : Int) (x2 : Int) (x3 : Int) (x4 : Int) (x5 : List t5) (a5 : Option Addr) (c5 : Nat) : HA := obj b 47 [Iv x0, Iv x1, Iv x2, Iv x3, Iv x4, .slice a5 x5.length c5]
abbrev W4 {t3 : Type} (b : Nat) (x : Int × Int × Int × List t3) (a3 : Option Addr) (c3 : Nat) : HA := obj b 35 [Iv x.1, Iv x.2.1, Iv x.2.2.1, .slice a3 x.2.2.2.length c3]
abbrev W5 {t4 t5 : Type} (b : Nat) (x : Int × Int × Int × Int × List t4 × List t5) (a4 : Option Addr) (c4 : Nat) (a5 : Option Addr) (c5 : Nat) : HA := obj b 80 [Iv x.1, Iv x.2.1, Iv x.2.2.1, Iv x.2.2.2.1, .slice a4 x.2.2.2.2.1.length c4, .slice a5 x.2.2.2.2.2.length c5]
abbrev W6 {t9 : Type} (b : Nat) (x0 : Int) (x1 : Int) (x2 : Int) (x3 : Int) (x4 : Int) (x5 : Int) (x6 : Int) (x7 : Int) (x8 : Int) (x9 : List t9) (a9 : Option Addr) (c9 : Nat) : HA := obj b 84 [Iv x0, Iv x1, Iv x2, Iv x3, Iv x4, Iv x5, Iv x6, Iv x7, Iv x8, .slice a9 x9.length c9]
abbrev W7 {t2 t9 : Type} (b : Nat) (p0 : Nat) (x1 : Int) (x2 : List t2) (x3 : Int) (x4 : Int) (x5 : Int) (x6 : Int) (x7 : Int) (x8 : Int) (x9 : List t9) (x10 : Bool) (a2 : Option Addr) (c2 : Nat) (a9 : Option Addr) (c9 : Nat) : HA := obj b 91 [Pt p0, Iv x1, .slice a2 x2.length c2, Iv x3, Iv x4, Iv x5, Iv x6, Iv x7, Iv x8, .slice a9 x9.length c9, .bool x10]
abbrev W8 {t3 : Type} (b : Nat) (x0 : Int) (x1 : Int) (x2 : Int) (x3 : List t3) (a3 : Option Addr) (c3 : Nat) : HA := obj b 35 [Iv x0, Iv x1, Iv x2, .slice a3 x3.length c3]
abbrev W9 {t3 : Type} (b : Nat) (x : Int × Int × Int × List t3 × Int) (a3 : Option Addr) (c3 : Nat) : HA := obj b 144 [Iv x.1, Iv x.2.1, Iv x.2.2.1, .slice a3 x.2.2.2.1.length c3, Iv x.2.2.2.2]
abbrev W10 {t5 : Type} (b : Nat) (x : Int × Int × Int × Int × Int × List t5) (a5 : Option Addr) (c5 : Nat) : HA := obj b 47 [Iv x.1, Iv x.2.1, Iv x.2.2.1, Iv x.2.2.2.1, Iv x.2.2.2.2.1, .slice a5 x.2.2.2.2.2.length c5]
abbrev W11 {r : Type} (b : Nat) (p0 : Nat) (x : Lb × Int × Bool × r) : HA := obj b 97 [.map (some p0), str x.1, Iv x.2.1, .bool x.2.2.1]
abbrev W12 {t2 t9 : Type} (b : Nat) (p0 : Nat) (x : Int × List t2 × Int × Int × Int × Int × Int × Int × List t9 × Bool) (a2 : Option Addr) (c2 : Nat) (a9 : Option Addr) (c9 : Nat) : HA := obj b 91 [Pt p0, Iv x.1, .slice a2 x.2.1.length c2, Iv x.2.2.1, Iv x.2.2.2.1, Iv x.2.2.2.2.1, Iv x.2.2.2.2.2.1, Iv x.2.2.2.2.2.2.1, Iv x.2.2.2.2.2.2.2.1, .slice a9 x.2.2.2.2.2.2.2.2.1.length c9, .bool x.2.2.2.2.2.2.2.2.2]
abbrev W13 {t6 : Type} (b : Nat) (x0 : Bool) (x1 : Int) (x2 : Int) (x3 : Int) (x4 : Int) (x5 : Int) (x6 : List t6) (a6 : Option Addr) (c6 : Nat) : HA := obj b 45 [.bool x0, Iv x1, Iv x2, Iv x3, Iv x4, Iv x5, .slice a6 x6.length c6]
abbrev W14 {t2 t9 r : Type} (b : Nat) (p0 : Nat) (x : Int × List t2 × Int × Int × Int × Int × Int × Int × List t9 × Bool × r) (a2 : Option Addr) (c2 : Nat) (a9 : Option Addr) (c9 : Nat) : HA := obj b 91 [Pt p0, Iv x.1, .slice a2 x.2.1.length c2, Iv x.2.2.1, Iv x.2.2.2.1, Iv x.2.2.2.2.1, Iv x.2.2.2.2.2.1, Iv x.2.2.2.2.2.2.1, Iv x.2.2.2.2.2.2.2.1, .slice a9 x.2.2.2.2.2.2.2.2.1.length c9, .bool x.2.2.2.2.2.2.2.2.2.1]
abbrev W15 {t5 : Type} (b : Nat) (x0 : Int) (x1 : Int) (x2 : Int) (x3 : Int) (x4 : Int) (x5 : List t5) (a5 : Option Addr) (c5 : Nat) : HA := obj b 89 [Iv x0, Iv x1, Iv x2, Iv x3, Iv x4, .slice a5 x5.length c5]
abbrev W16 (b : Nat) (x0 : Int) (x1 : Int) (x2 : Int) : HA := obj b 43 [Iv x0, Iv x1, Iv x2]
abbrev W17 {t5 : Type} (b : Nat) (x : Int × Int × Int × Int × Int × List t5) (a5 : Option Addr) (c5 : Nat) : HA := obj b 89 [Iv x.1, Iv x.2.1, Iv x.2.2.1, Iv x.2.2.2.1, Iv x.2.2.2.2.1, .slice a5 x.2.2.2.2.2.length c5]
abbrev W18 {t3 r : Type} (b : Nat) (x : Int × Int × Int × List t3 × r) (a3 : Option Addr) (c3 : Nat) : HA := obj b 35 [Iv x.1, Iv x.2.1, Iv x.2.2.1, .slice a3 x.2.2.2.1.length c3]
abbrev W19 {t10 : Type} (b : Nat) (x0 : Int) (x1 : Int) (x2 : Int) (x3 : Int) (x4 : Int) (x5 : Int) (x6 : Int) (x7 : Int) (x8 : Int) (x9 : Int) (x10 : List t10) (a10 : Option Addr) (c10 : Nat) : HA := obj b 102 [Iv x0, Iv x1, Iv x2, Iv x3, Iv x4, Iv x5, Iv x6, Iv x7, Iv x8, Iv x9, .slice a10 x10.length c10]
abbrev W20 {t10 : Type} (b : Nat) (x : Int × Int × Int × Int × Int × Int × Int × Int × Int × Int × List t10) (a10 : Option Addr) (c10 : Nat) : HA := obj b 102 [Iv x.1, Iv x.2.1, Iv x.2.2.1, Iv x.2.2.2.1, Iv x.2.2.2.2.1, Iv x.2.2.2.2.2.1, Iv x.2.2.2.2.2.2.1, Iv x.2.2.2.2.2.2.2.1, Iv x.2.2.2.2.2.2.2.2.1, Iv x.2.2.2.2.2.2.2.2.2.1, .slice a10 x.2.2.2.2.2.2.2.2.2.2.length c10]
abbrev W21 {t8 : Type} (b : Nat) (x : Int × Int × Bool × Int × Int × Int × Int × Int × List t8) (a8 : Option Addr) (c8 : Nat) : HA := obj b 56 [Iv x.1, Iv x.2.1, .bool x.2.2.1, Iv x.2.2.2.1, Iv x.2.2.2.2.1, Iv x.2.2.2.2.2.1, Iv x.2.2.2.2.2.2.1, Iv x.2.2.2.2.2.2.2.1, .slice a8 x.2.2.2.2.2.2.2.2.length c8]
abbrev W22 {t10 r : Type} (b : Nat) (x : Int × Int × Int × Int × Int × Int × Int × Int × Int × Int × List t10 × r) (a10 : Option Addr) (c10 : Nat) : HA := obj b 102 [Iv x.1, Iv x.2.1, Iv x.2.2.1, Iv x.2.2.2.1, Iv x.2.2.2.2.1, Iv x.2.2.2.2.2.1, Iv x.2.2.2.2.2.2.1, Iv x.2.2.2.2.2.2.2.1, Iv x.2.2.2.2.2.2.2.2.1, Iv x.2.2.2.2.2.2.2.2.2.1, .slice a10 x.2.2.2.2.2.2.2.2.2.2.1.length c10]
abbrev W23 {t0 : Type} (b : Nat) (x : List t0 × Int × Int) (a0 : Option Addr) (c0 : Nat) : HA := obj b 180 [.slice a0 x.1.length c0, Iv x.2.1, Iv x.2.2]
abbrev W24 {t0 : Type} (b : Nat) (x0 : List t0) (x1 : Int) (x2 : Int) (a0 : Option Addr) (c0 : Nat) : HA := obj b 180 [.slice a0 x0.length c0, Iv x1, Iv x2]
end Go.Proofs.YtndjkejhacfpdaaGreatDoor

namespace Go.Proofs.YtndjkejhacfpdaaGreatDoor
open Go.RowKit
section
variable {K : Cx} {E : Env} {H : List HA} {o : Oper} {α : Type} {V : α → List Value → Prop} {a : Option Addr} {xs : List α} {T : TypeId} {c : Nat}
end
/-! ### Effects that only add, told by lists: what each value and each part hangs on is said beside it -/
theorem All.of {l : List Nat} {p : Nat → Prop} (h : ∀ i, i ∈ l → p i) : All l p := by
 induction l with
 | nil => trivial
 | cons a l ih => exact ⟨h a (List.mem_cons_self ..), ih fun i hi => h i (List.mem_cons_of_mem _ hi)⟩
theorem kp.of {l : List Nat} {f g : Nat → Value} (h : ∀ i, i ∈ l → f i = g i) : kp l f g := by
 induction l with
 | nil => trivial
 | cons a l ih => exact ⟨h a (List.mem_cons_self ..), ih fun i hi => h i (List.mem_cons_of_mem _ hi)⟩
def Ck (u : List ((Nat → Nat) → Value)) (γ : Nat → Nat) (i : Nat) : Value := u.getD i (fun _ => undef) γ
def Cl (u : List ((Nat → Nat) → List HA)) (γ : Nat → Nat) (i : Nat) : List HA := u.getD i (fun _ => []) γ
def xZ : List ((Nat → Nat) → Value) → List ((Nat → Nat) → List HA) → List (List Nat) → Prop
 | v :: vs, a :: zs, d :: ds => (∀ γ γ' : Nat → Nat, (∀ j, j ∈ d → γ j = γ' j) → v γ = v γ' ∧ a γ = a γ') ∧ xZ vs zs ds
 | [], [], [] => True
 | _, _, _ => False
theorem xZ.at : ∀ {u : List ((Nat → Nat) → Value)} {D : List ((Nat → Nat) → List HA)} {dl : List (List Nat)}, xZ u D dl → ∀ (i : Nat) (γ γ' : Nat → Nat), (∀ j, j ∈ dl.getD i [] → γ j = γ' j) → Ck u γ i = Ck u γ' i ∧ Cl D γ i = Cl D γ' i
 | v :: vs, a :: zs, d :: ds, h, 0, γ, γ', e => h.1 γ γ' e
 | v :: vs, a :: zs, d :: ds, h, i + 1, γ, γ', e => h.2.at i γ γ' e
 | [], [], [], _, i, γ, γ', e => ⟨rfl, rfl⟩
section
variable {K : Cx} {R S Y : Type} {Q : eM R} {E : Env} {H : List HA} {o : Option R}
def Cm (K : Cx) (ops : Array Oper) (u : List (List Nat)) (val : (Nat → Nat) → Nat → Value) (add : (Nat → Nat) → Nat → List HA) (E : Env) (H X : List HA) (i : Nat) (γ : Nat → Nat) : Prop :=
 ∃ D, ops[i]? = some D ∧ ∃ I, gm ops u (val γ) E i I ∧ GOk ops D I ∧
  RE K (Y := Nat) D I (H ++ X) (fun z => val (nz γ i z) i) (fun z => H ++ (add (nz γ i z) i ++ X))
theorem Cm.mk {ops : Array Oper} {u : List (List Nat)} {Z : Type} {val : (Nat → Nat) → Nat → Value} {add : (Nat → Nat) → Nat → List HA} {X : List HA} {i : Nat} {γ : Nat → Nat} {D : Oper} {v : Z → Value} {H' : Z → List HA} (I : Env) (f : Z → Nat) (J : ops[i]? = some D) (U : D.guard = none) (he : gm ops u (val γ) E i I)
  (h : RE K (Y := Z) D I (H ++ X) v H') (hv : ∀ z, v z = val (nz γ i (f z)) i) (hH : ∀ z, Ent (H' z) (H ++ (add (nz γ i (f z)) i ++ X))) : Cm K ops u val add E H X i γ :=
 ⟨D, J, I, he, .inl U, fun a w hh hs next Q hn => h a w hh hs next Q fun z w' s => by
  have := hn (f z) w' (s.ent (hH z))
  rw [hv z]; exact this⟩
theorem Ent.left {a b : List HA} : Ent (a ++ b) a := by
 induction a with
 | nil => exact Ent.nil _
 | cons x a ih => exact Ent.cons ih
theorem Ent.pick {l m : List HA} (idx : List Nat) (n : Nat) (I : (idx.all fun i => (idx.count i == 1) && Nat.blt i n) = true) (J : l.length = n) (U : idx.map (fun i => l.getD i tt) = m) : Ent l m := by
 have h1 : ∀ i, i ∈ idx → idx.count i = 1 ∧ i < l.length := fun i hi => by
  have := List.all_eq_true.1 I i hi
  rw [← J] at this
  simpa [Nat.blt_eq] using this
 have u : idx.Nodup := List.nodup_iff_count.2 fun i => by
  by_cases hi : i ∈ idx
  ·exact Nat.le_of_eq (h1 i hi).1
  ·rw [List.count_eq_zero.2 hi]; omega
 have p : (List.range l.length).Perm (idx ++ (List.range l.length).filter fun i => !idx.contains i) := by
  refine (List.perm_ext_iff_of_nodup List.nodup_range (List.nodup_append.2 ⟨u, List.nodup_range.filter _, fun x X y hy e => ?_⟩)).2 fun i => ?_
  ·subst e
   have := (List.mem_filter.1 hy).2
   rw [List.contains_iff_mem.2 X] at this
   cases this
  ·rw [List.mem_append, List.mem_filter, List.mem_range]
   constructor
   ·intro h
    by_cases hi : i ∈ idx
    ·exact .inl hi
    ·exact .inr ⟨h, by simpa using hi⟩
   ·rintro (h | h)
    ·exact (h1 i h).2
    ·exact h.1
 have e : (List.range l.length).map (fun i => l.getD i tt) = l := by
  apply List.ext_getElem?
  intro i
  by_cases hi : i < l.length
  ·simp [List.getElem?_map, List.getElem?_range hi, hi]
  ·rw [List.getElem?_eq_none (by simp; omega), List.getElem?_eq_none (by omega)]
 have D := p.map fun i => l.getD i tt
 rw [e, List.map_append, U] at D
 exact (Ent.perm D).trans Ent.left
end
end Go.Proofs.YtndjkejhacfpdaaGreatDoor

namespace Go.Proofs.YtndjkejhacfpdaaGreatDoor
open Go.RowKit
section
variable {K : Cx} {E : Env} {H : List HA} {op : Oper}
end
end Go.Proofs.YtndjkejhacfpdaaGreatDoor

namespace Go.Proofs.YtndjkejhacfpdaaGreatDoor
open Go.RowKit Go.Shelf
theorem BH {F : HA} {l : List UInt8} (h : Rd F none (aL l)) : l = [] := by
 rcases h with h | ⟨b, off, h, _⟩
 ·cases l with
  | nil => rfl
  | cons c t => cases h
 ·cases h
theorem uU {α : Type} {F : HA} {n : Nat} {V : α → List Value → Prop} {xs : List α} (I : Nat.blt 0 n = true) (h : RdV F n V none xs) : xs = [] := by
 obtain ⟨rs, h1, u⟩ := h
 rcases u with u | ⟨b, off, u, _⟩
 ·cases xs with
  | nil => rfl
  | cons x xs =>
   cases rs with
   | nil => exact h1.elim
   | cons r rs =>
    have J := h1.1.1
    rw [List.flatten_cons] at u
    have D := congrArg List.length u
    rw [List.length_append, J] at D
    have : 0 < n := by simpa [Nat.blt_eq] using I
    simp at D
    omega
 ·cases u
section
variable {K : Cx} {E : Env} {H : List HA} {o : Oper}
theorem rt {u J e : TypeId} {x : Operand} {n c : Nat} (D : o.op = .binOp .eql u x (.const (.slice none 0 0)) J) (U : ev E x = some (.slice none n c)) (X : K.P.underlying u = some (.slice e)) : RQ K o E H (.bool true) :=
 dL (by rw [D]; intro c h; cases h) fun a w I _ => by
  unfold execOp; simp only [D]; rw [I.ev U, I.ev (x := .const (.slice none 0 0)) rfl]
  have e : (Op.equal u (.slice none n c) (.slice none 0 0)).run K.P w = .ok true w := by
   rw [show Op.equal u (.slice none n c) (.slice none 0 0) = Op.equalIn (9999 + 1) u (.slice none n c) (.slice none 0 0) from rfl, Op.equalIn]
   simp [underlying, program, Sem.run, X]
  simp [eqGuard, binOp, e]
theorem ru {u J e : TypeId} {x : Operand} {p : Addr} {n c : Nat} (D : o.op = .binOp .eql u x (.const (.slice none 0 0)) J) (U : ev E x = some (.slice (some p) n c)) (X : K.P.underlying u = some (.slice e)) : RQ K o E H (.bool false) :=
 dL (by rw [D]; intro c h; cases h) fun a w I _ => by
  unfold execOp; simp only [D]; rw [I.ev U, I.ev (x := .const (.slice none 0 0)) rfl]
  have e : (Op.equal u (.slice (some p) n c) (.slice none 0 0)).run K.P w = .ok false w := by
   rw [show Op.equal u (.slice (some p) n c) (.slice none 0 0) = Op.equalIn (9999 + 1) u (.slice (some p) n c) (.slice none 0 0) from rfl, Op.equalIn]
   simp [underlying, program, Sem.run, X]
  simp [eqGuard, binOp, e]
end
end Go.Proofs.YtndjkejhacfpdaaGreatDoor

namespace Go.Proofs.YtndjkejhacfpdaaGreatDoor
open Go.RowKit
def dfD (g : FuncId) (cap : List Value) : Deferred := { target := .fn (.func g) cap.toArray, args := #[] }
section
variable {K : Cx} {R S Y : Type} {Q : eM R} {E : Env} {H : List HA} {opt : Option R} {ops : Array Oper} {rest : List Oper} {o : Oper}
theorem lz {c : Call} {x : Operand} {cap : List Value} {g : FuncId} (ho : o.op = .defer c) (u : c.callee = .value x) (I : c.args = #[]) (hx : ev E x = some (.func (.func g) #[] cap.toArray))
  (J : K.ro = none) (hg : o.guard = none) (hd : o.dst = none) (h : cx ⟨K.P, K.W, K.ro, K.n, dfD g cap :: K.ds⟩ Q ops rest E H opt) : cx K Q ops (o :: rest) E H opt := by
 intro r U a w D hs
 refine wpListIn_plain hg fun K' X => ?_
 refine ⟨fun f _ => iU _ _, ?_⟩
 have e1 : (o.semAt (fen K.ro).round a.eval).run K.P w = .ok (.defer (dfD g cap)) w := by
  rw [yY, J, Oper.semAt_none]
  unfold execOp; simp only [ho]
  simp [resolve, u, I, D.ev hx, Deferred.ofValue, dfD]
 rw [e1]
 show K' ({ a with defers := dfD g cap :: a.defers }.put o.dst undef) w
 rw [hd]
 refine X _ _ (h r U _ w ⟨D.size, ?_, D.get⟩ hs)
 show dfD g cap :: a.defers = dfD g cap :: K.ds
 rw [D.defers]
end
def qu (P : Program) (g : FuncId) (cap : List Value) : Prop := ∀ (W w : World) (H : List HA), Sat W H w → CallsDIn Fence.wide 0 P g cap.toArray .returning w fun e u D => (∃ v, e = .returned v) ∧ u = .returning ∧ Sat W H D
def uE (K : Cx) {R Y : Type} (fn : Func) (val : R → Y → Value) (B : R → Y → List HA) : eM R := fun r e a w =>
 bodyPostDIn Fence.wide 0 K.P fn (fun e u => ∃ y, e = .returned (val r y) ∧ Sat K.W (B r y) u) e a w
section
variable {K : Cx} {R S Y : Type} {Q : eM R} {E : Env} {H : List HA} {o : Option R}
theorem lZ {P : Program} {W : World} {f : FuncId} {args : List Value} {A : List HA} {F : HA} {o : Option R} {val : R → Y → Value} {B : R → Y → List HA}
  {fn : Func} {c : Code} (n : Nat) (u : P.funcs[f]? = some fn) (D : fn.body = some c) (I : fn.ntmps = n) (J : Nat.ble args.length n = true)
  (h : Sim ⟨P, W, none, n, []⟩ (uE ⟨P, W, none, n, []⟩ fn val fun r y => B r y ++ [F]) c (nW 0 args) (A ++ [F]) o) : Fn P W f args A F o val B := by
 intro r U w X
 refine (callsIn_wide (n := 0)).1 (callsIn_of_wp_defers u D trivial ?_ rfl)
 have := h r U _ w (mF args n (by simpa [Nat.ble_eq] using J)) X
 rw [I]
 exact this
theorem Df {fn : Func} {val : R → Y → Value} {B : R → Y → List HA} {r : R} {vs : List Value} (y : Y) (hd : K.ds = []) (u : mw K.P E H fn.results.toList vs) (U : tup vs = val r y) (X : Ent H (B r y)) :
  ∀ D, some r = some D → ∀ a w, Has K.n K.ds E a → Sat K.W H w → LeavesIn Fence.wide 0 K.P fn a.tmps (fun e w' => ∃ y, e = .returned (val D y) ∧ Sat K.W (B D y) w') a.defers .returning w := by
 intro D hr a w I J
 cases hr
 rw [I.defers, hd]
 exact ⟨_, na I J u, y, by rw [U], J.ent X⟩
theorem Dg {fn : Func} {val : R → Y → Value} {B : R → Y → List HA} {r : R} {vs : List Value} (g : FuncId) (cap : List Value) (U : qu K.P g cap) (X : ∀ args w, (callFunc g args).run K.P w = .ok (.enter g args) w)
  (y : Y) (hd : K.ds = [dfD g cap]) (u : mw K.P E H fn.results.toList vs) (hv : tup vs = val r y) (hH : Ent H (B r y)) :
  ∀ D, some r = some D → ∀ a w, Has K.n K.ds E a → Sat K.W H w → LeavesIn Fence.wide 0 K.P fn a.tmps (fun e I => ∃ y, e = .returned (val D y) ∧ Sat K.W (B D y) I) a.defers .returning w := by
 intro D hr a w J hs
 cases hr
 rw [J.defers, hd]
 refine leavesIn_cons (F := Fence.wide) (n := 0) (f := g) (args := cap.toArray) (by simp) (fun h => by cases h) ?_ (fun _ _ => trivial) ?_
 ·simp [invoke, X]
 ·refine (U K.W w H hs).mono ?_
  rintro e u' I ⟨⟨v, rfl⟩, rfl, s⟩
  exact ⟨_, na J s u, y, by rw [hv], s.ent hH⟩
theorem Aw {fn : Func} {val : R → Y → Value} {B : R → Y → List HA} {r : R} {vs : List Value} (y : Y) (hd : K.ds = []) (u : mw K.P E H fn.results.toList vs) (D : tup vs = val r y) (I : Ent H (B r y)) :
  Rtn K (uE K fn val B) E H (some r) := fun J U a w X hs => Df y hd u D I J U a w X hs
theorem lR {fn : Func} {val : R → Y → Value} {B : R → Y → List HA} {r : R} {vs : List Value} (g : FuncId) (cap : List Value) (D : qu K.P g cap) (I : ∀ args w, (callFunc g args).run K.P w = .ok (.enter g args) w)
  (y : Y) (hd : K.ds = [dfD g cap]) (u : mw K.P E H fn.results.toList vs) (J : tup vs = val r y) (U : Ent H (B r y)) :
  Rtn K (uE K fn val B) E H (some r) := fun X hr a w he hs => Dg g cap D I y hd u J U X hr a w he hs
end
theorem tq {P : Program} {f : FuncId} {fn : Func} {id : Nat} {I : Oper} {l : List Oper} {rest : Code} {args : Array Value} {w : World} {R : Ending → World → Prop}
  (hf : P.funcs[f]? = some fn) (hb : fn.body = some (.seq (.region id (I :: l).toArray false) rest)) (h0 : ∀ ev : Operand → Value, ∀ w, (I.semAt none ev).run P w = .ok .recover w) (hg : I.guard = none)
  (h : wpListIn Fence.wide 0 P (I :: l).toArray (Exit.then (rest.wpIn Fence.wide 0 P (bodyPost P fn R)) (bodyPost P fn R)) l (({ tmps := args ++ Array.replicate (fn.ntmps - args.size) undef, defers := [] } : Act).put I.dst .nilIface) w) :
  CallsDIn Fence.wide 0 P f args .returning w fun e u' J => u' = .returning ∧ R e J := by
 refine ⟨trivial, fun U cs hu hr => ?_⟩
 let b : Frame := { (default : Frame) with fn := f, kind := .deferred, roundOf := none }
 have X : Frame.enter P f args .deferred =
   b.atR { tmps := args ++ Array.replicate (fn.ntmps - args.size) undef, defers := [] } [.code (.seq (.region id (I :: l).toArray false) rest)] := by
  simp [Frame.enter, Frame.atR, hf, hb, b]
 have hc : ({ U with mode := .returning } : Frame) = U := by rw [← hu]
 obtain ⟨a0, b0⟩ : ∃ a0 : Act, ({ tmps := args ++ Array.replicate (fn.ntmps - args.size) undef, defers := [] } : Act) = a0 := ⟨_, rfl⟩
 rw [b0] at X h
 have hF : Fence.wide.fn b.fn := trivial
 have D : Fence.wide.room ((U :: cs).length + 1 + 0) := room_wide _
 have ho : (I :: l).toArray[0]? = some I := rfl
 have hw : Region.wanted I (yielded (I :: l).toArray a0.tmps) = true := by simp only [Region.wanted, hg]
 have s1 : StepsIn (Machine.fenced P Fence.wide) P (lone (Frame.enter P f args .deferred) (U :: cs) w) (lone (b.atR (a0.put I.dst .nilIface) (.inRegion (I :: l).toArray (List.range' 1 l.length) :: .code rest :: [])) (U :: cs) w) := by
  rw [X]
  refine .head (fenced_calm hF D rfl) stepR_seq (.head (fenced_calm hF D rfl) stepR_region ?_)
  have e2 : List.range (I :: l).toArray.size = 0 :: List.range' 1 l.length := by
   rw [List.range_eq_range']
   simp [List.range'_succ]
  rw [e2]
  refine .one (fenced_oper hF D ho (fun _ _ => trivial)) (step_lone_go ?_)
  have b2 := stepGR_op (P := P) (b := b) (a := a0) (k := .code rest :: []) (cs := U :: cs) (w := w) (rest := List.range' 1 l.length) ho hw
  rw [b2]
  have a6 : (b.atR a0 (.inRegion (I :: l).toArray (0 :: List.range' 1 l.length) :: .code rest :: [])).finish .nilIface = b.atR (a0.put I.dst .nilIface) (.inRegion (I :: l).toArray (List.range' 1 l.length) :: .code rest :: []) := by
   rw [Frame.finish_atR, ho]; rfl
  rw [← a6]
  have hk : (b.atR a0 (.inRegion (I :: l).toArray (0 :: List.range' 1 l.length) :: .code rest :: [])).kind = .deferred := rfl
  have af := tryRecover_deferred hk (U :: cs)
  have a7 : recoverD (U :: cs) = none := by simp [recoverD, hu]
  have b3 := h0 a0.eval w
  rw [a7] at af
  simp only [Frame.atR] at af ⊢
  simp [stepG.apply, b, b3, af]
  done
 rw [← wpOpsIn_eq_wpListIn l 1 (fun j => by simp [Nat.add_comm 1 j])] at h
 obtain ⟨e, a', J, hq, u⟩ := wp_opsIn _ _ _ h b (.code rest :: []) (U :: cs) rfl hF D
 have fin : ∀ (e : Exit) (a' : Act) (J : World), bodyPost P fn R e a' J → ArrivesIn (Machine.fenced P Fence.wide) P (lone (Frame.enter P f args .deferred) (U :: cs) w) b [] (U :: cs) e a' J →
   ∃ e u' J fr, (u' = FrameMode.returning ∧ R e J) ∧ ComesIn (Machine.fenced P Fence.wide) P (lone (Frame.enter P f args .deferred) (U :: cs) w) (lone fr ({ U with mode := u' } :: cs) J) e ∧ fr.kind = .deferred ∧ fr.fn = f ∧ fr.going P J e := by
  intro e a' J hq u
  cases e with
  | normal =>
   obtain ⟨hd, v, al, hR⟩ := hq
   exact ⟨.returned v, .returning, J, _, ⟨rfl, hR⟩, (by rw [hc]; exact StepsIn.trans u (.one (fenced_calm (fr := b.atR a' []) hF hr rfl) (stepR_end rfl))), rfl, rfl, rfl, hd, fn, hf, al⟩
  | ret =>
   obtain ⟨hd, v, al, hR⟩ := hq
   obtain ⟨todo, hs⟩ := u.1 rfl
   exact ⟨.returned v, .returning, J, _, ⟨rfl, hR⟩, (by rw [hc]; exact hs), rfl, rfl, rfl, hd, fn, hf, al⟩
  | panic chain =>
   obtain ⟨hd, hR⟩ := hq
   obtain ⟨todo, hs⟩ := u
   exact ⟨.panicked chain, .returning, J, _, ⟨rfl, hR⟩, (by rw [hc]; exact hs), rfl, rfl, rfl, hd, fn, hf⟩
  | exit id => exact hq.elim
  | goto l => exact hq.elim
  | outgrown => exact ⟨.outgrown, .returning, J, b, ⟨rfl, hq⟩, u.resolve_left (by simp [b]), rfl, rfl, trivial⟩
 cases e with
 | normal =>
  obtain ⟨e₂, a₂, w₂, b5, an⟩ := hq b [] (U :: cs) rfl hF D
  exact fin _ _ _ b5 (.of_steps (StepsIn.trans s1 u) an)
 | exit id => exact hq.elim
 | goto l => exact hq.elim
 | ret => exact fin .ret a' J hq (.of_steps s1 (.pass (x := .code rest) rfl (fun _ _ => .inl (by simp)) u))
 | panic ch => exact fin (.panic ch) a' J hq (.of_steps s1 (.pass (x := .code rest) rfl (fun _ _ => .inl (by simp)) u))
 | outgrown => exact fin .outgrown a' J hq (.of_steps s1 (.pass (x := .code rest) rfl (fun _ _ => .inl (by simp)) u))
theorem tL {P : Program} {g : FuncId} {fn : Func} {id d : Nat} {u : Oper} {l : List Oper} {rest : Code} {cap : List Value} (n : Nat)
  (J : P.funcs[g]? = some fn) (U : fn.body = some (.seq (.region id (u :: l).toArray false) rest)) (X : fn.ntmps = n) (hl : Nat.ble cap.length n = true)
  (h0 : ∀ ev : Operand → Value, ∀ w, (u.semAt none ev).run P w = .ok .recover w) (hg : u.guard = none) (hd : u.dst = some d) (D : Nat.blt d n = true) (o : Option Unit) (ho : o = some ())
  (h : ∀ (W : World) (F : HA), cx ⟨P, W, none, n, []⟩ (lJ ⟨P, W, none, n, []⟩ rest (sU ⟨P, W, none, n, []⟩ fn (fun (_ : Unit) (_ : Unit) => Value.tuple #[]) fun _ _ => [F])) (u :: l).toArray l ((d, .nilIface) :: nW 0 cap) [F] o) : qu P g cap := by
 intro W w H hs
 refine (tq (args := cap.toArray) (R := fun e I => ∃ y : Unit, e = .returned (.tuple #[]) ∧ Sat W [bl H] I) J U h0 hg ?_).mono ?_
 ·have h1 := mF cap n (by simpa [Nat.ble_eq] using hl)
  have h2 := h1.put (d := d) .nilIface D
  rw [X, hd]
  exact h W (bl H) () ho _ w h2 (hs.ent (by simpa using Ent.fold [] H))
 ·rintro e u' I ⟨rfl, _, rfl, s⟩
  exact ⟨⟨_, rfl⟩, rfl, s.ent (by simpa using Ent.unfold [] H)⟩
end Go.Proofs.YtndjkejhacfpdaaGreatDoor

namespace Go.Proofs.YtndjkejhacfpdaaGreatDoor
open Go.RowKit Go.Sort
section
variable {K : Cx} {E : Env} {H : List HA} {o : Oper}
end
end Go.Proofs.YtndjkejhacfpdaaGreatDoor

namespace Go.Proofs.YtndjkejhacfpdaaGreatDoor
open Go.RowKit
def rS (P : Program) (W : World) (l : Nat) (rec : Loop) {α γ S Y : Type} (enc : α → γ → List Value) (own : α → γ → HA) (u : S → α → Option S) (D : S → Y → List HA) : Prop :=
 ∀ s x g I y (Fr : HA) w, u s x = some I → Sat W (pts l (.loop rec) :: ((D s y ++ [own x g]) ++ [Fr])) w →
  RoundIn Fence.wide 0 P l rec.fn (od rec.params.toList (enc x g) rec.tmps) rec.assign rec.body w fun e J => e = .returned (.bool true) ∧ ∃ U, Sat W (pts l (.loop rec) :: (D I U ++ [Fr])) J
def pW (P : Program) (W : World) (l : Nat) {α γ S Y : Type} (enc : α → γ → List Value) (own : α → γ → HA) (u : S → α → Option S) (A : S → Y → HA) : Prop :=
 ∀ s x g D y (Fr : HA) w, u s x = some D → Sat W [A s y, own x g, Fr] w → ∃ f tmps assign body, (Instr.yield l (enc x g).toArray).run P w = .ok (.round l f tmps assign body) w ∧
  RoundIn Fence.wide 0 P l f tmps assign body w fun e I => e = .returned (.bool true) ∧ ∃ J, Sat W [A D J, Fr] I
theorem wL {P : Program} {W : World} {l : Nat} {rec : Loop} {α γ S Y : Type} {enc : α → γ → List Value} {own : α → γ → HA} {D : S → α → Option S} {u : S → Y → List HA} (hR : rS P W l rec enc own D u) (hp : ∀ x g, (enc x g).length = rec.params.size) :
  pW P W l enc own D (itA l rec u) := by
 intro s x g J y Fr w hs I
 have U : Sat W (pts l (.loop rec) :: ((u s y ++ [own x g]) ++ [Fr])) w := by
  rw [List.append_assoc]
  exact I.ent (pM _ _)
 refine ⟨_, _, _, _, by rw [run_yield (U.pts_at (i := 0) rfl) (by simpa using hp x g), tH], ?_⟩
 refine RoundIn.mono (hR s x g J y Fr w hs U) ?_
 rintro e w' ⟨h1, X, s3⟩
 exact ⟨h1, X, s3.ent (zj (pts l (.loop rec) :: u J X) Fr)⟩
section
variable {K : Cx} {R S Y α γ : Type} {Q : eM R} {E : Env} {H : List HA} {o : Option R}
theorem wM {W : World} {P : Program} {n : Nat} {l : Nat} {rec : Loop} {ps : List Nat} {enc : α → γ → List Value} {own : α → γ → HA} {D : S → α → Option S} {u : S → Y → List HA} (Eb : S → α → γ → Y → Env) {a : Act} {ds : List Deferred}
  (he : Has n ds E a) (h1 : rec.tmps = a.tmps) (h2 : rec.params = ps.toArray) (J : rec.state = .ready) (h4 : rec.pending = none) (U : ∀ p ∈ ps, p < n) (X : ∀ x g, ps.length = (enc x g).length)
  (hA : ∀ s x g y Fr, Sim ⟨P, W, some l, n, []⟩ (mm ⟨P, W, some l, n, []⟩ (fun (_ : Unit) (_ : Unit) => Eb s x g y) (fun _ _ => (u s y ++ [own x g]) ++ [Fr])) rec.assign (qr ps (enc x g) E) ((u s y ++ [own x g]) ++ [Fr]) (some ()))
  (hB : ∀ s x g y Fr, Sim ⟨P, W, some l, n, []⟩ (mm ⟨P, W, some l, n, []⟩ (fun (_ : S) (_ : Y) => []) (fun s y => u s y ++ [Fr])) rec.body (Eb s x g y) ((u s y ++ [own x g]) ++ [Fr]) (D s x)) :
  rS P W l rec enc own D u := by
 intro s x g s' y Fr w ab hs
 refine roundIn_of_wpIn trivial ?_
 have h0 : Has n [] E { tmps := rec.tmps, defers := [] } := ⟨by rw [h1]; exact he.size, rfl, fun i v h => by rw [h1]; exact he.get i v h⟩
 have ad := vt ps (enc x g) U (X x g) h0
 have e2 : rec.params.toList = ps := by rw [h2]
 rw [e2]
 refine wpIn_mono (hA s x g y (bl [pts l (.loop rec), Fr]) () rfl _ w ad (hs.ent (pN _ _ _))) ?_
 intro e a1 w1 I
 cases e with
 | normal =>
  obtain ⟨_, x1, x2⟩ := I
  have x3 := x2.ent (nH _ _ _)
  have hl := x3.pts_at (i := 0) rfl
  refine ⟨_, run_beginRound hl J, ?_⟩
  have x4 : Sat W (pts l (.loop { rec with state := .busy }) :: ((u s y ++ [own x g]) ++ [Fr])) (w1.putObj l (.loop { rec with state := .busy })) := x3.upd
  refine wpIn_mono (hB s x g y _ s' ab a1 _ x1 (x4.ent (pN _ _ _))) ?_
  intro e a2 w2 I
  cases e with
  | normal =>
   obtain ⟨y', _, z2⟩ := I
   have z3 := z2.ent (nH _ _ _)
   have al := z3.pts_at (i := 0) rfl
   refine ⟨_, _, run_endRound none al, rfl, y', ?_⟩
   have z4 : Sat W (pts l (.loop rec) :: (u s' y' ++ [Fr])) (w2.putObj l (.loop rec)) := z3.upd
   have er : ({ ({ rec with state := .busy } : Loop) with state := if (none : Option Code).isNone then .ready else .done, pending := none } : Loop) = rec := by
    cases rec
    simp at J h4 ⊢
    exact ⟨J.symm, h4.symm⟩
   have an : w2.putObj l (.loop rec) = w2.putObj l (.loop ({ ({ rec with state := .busy } : Loop) with state := if (none : Option Code).isNone then .ready else .done, pending := none } : Loop)) := by rw [er]
   rw [an] at z4
   exact z4
  | _ => exact I.elim
 | _ => exact I.elim
theorem yF {R' Y' : Type} {g : Operand} {ps : List Nat} {assign body : Code} {f : FuncId} {cap : List Value} {Cap rst : List HA} {CapB : R' → Y' → List HA} {enc : α → γ → List Value} {own : α → γ → HA} {o2 : R' → Option R} {oN : Option R'} {val : R' → Y' → Value}
  {J : S → α → Option S} (I : S → Y → List HA) (s0 : S) (U : Y) (Eb : S → α → γ → Y → Env) (gs : R' → S) (gy : R' → Y' → Y) (be : K.ro = none) (hg : ev E g = some (.func (.func f) #[] cap.toArray))
  (hf : ∀ args w, (callFunc f args).run K.P w = .ok (.enter f args) w)
  (it : ∀ l (A : S → Y → HA), pW K.P K.W l enc own J A → ∀ X, Fn K.P K.W f (.func (.yield l) #[] #[] :: cap) (A s0 U :: Cap) (bl (X :: rst)) oN val (fun r y => A (gs r) (gy r y) :: CapB r y))
  (af : ps.all (fun p => Nat.blt p K.n) = true) (al : ∀ x g, ps.length = (enc x g).length)
  (hH : Ent H (I s0 U ++ (Cap ++ rst)))
  (hA : ∀ l s x g y Fr, Sim ⟨K.P, K.W, some l, K.n, []⟩ (mm ⟨K.P, K.W, some l, K.n, []⟩ (fun (_ : Unit) (_ : Unit) => Eb s x g y) (fun _ _ => (I s y ++ [own x g]) ++ [Fr])) assign (qr ps (enc x g) E) ((I s y ++ [own x g]) ++ [Fr]) (some ()))
  (hB : ∀ l s x g y Fr, Sim ⟨K.P, K.W, some l, K.n, []⟩ (mm ⟨K.P, K.W, some l, K.n, []⟩ (fun (_ : S) (_ : Y) => []) (fun s y => I s y ++ [Fr])) body (Eb s x g y) ((I s y ++ [own x g]) ++ [Fr]) (J s x))
  (h : ∀ D r y, Nrm { K with ds := mkD D :: K.ds } Q E (mW D :: (I (gs r) (gy r y) ++ (CapB r y ++ rst))) (o2 r)) :
  Sim K Q (.rangeFunc g ps.toArray assign body) E H (oN.bind o2) := by
 intro r hr a w he hs
 have br : ∀ p ∈ ps, p < K.n := fun p hp => by simpa [Nat.blt_eq] using List.all_eq_true.1 af p hp
 cases hfo : oN with
 | none => rw [hfo] at hr; cases hr
 | some rN =>
 rw [hfo] at hr
 rw [be]
 refine wpIn_rangeFunc fun fn _ => ?_
 have b0 := hs.new (.deferred (some []))
 have a1 := b0.new (.loop { state := .ready, pending := none, fn := fn, tmps := a.tmps, params := ps.toArray, assign := assign, body := body, defers := w.heap.size })
 have hz : ({ w with heap := w.heap.push (.deferred (some [])) } : World).heap.size = w.heap.size + 1 := by simp
 rw [hz] at a1
 let u : Loop := { state := .ready, pending := none, fn, tmps := a.tmps, params := ps.toArray, assign, body, defers := w.heap.size }
 let w2 : World := (w.alloc (.deferred (some []))).alloc (.loop u)
 refine ⟨w.heap.size + 1, [mkD w.heap.size], w2, { target := .fn (.func f) cap.toArray, args := #[.func (.yield (w.heap.size + 1)) #[] #[]] }, w2, f, (Value.func (.yield (w.heap.size + 1)) #[] #[] :: cap).toArray, w2, run_enterLoop_outer fn a.tmps ps.toArray assign body, ?_, ?_⟩
 ·have e1 : a.eval (.const (.func (.yield (w.heap.size + 1)) #[] #[])) = .func (.yield (w.heap.size + 1)) #[] #[] := rfl
  simp [resolve, he.ev hg, Deferred.ofValue, e1]
 ·refine ⟨fun f' _ => trivial, ?_, (by intro h; cases h), ?_⟩
  ·simp [invoke, hf]
  refine callsIn_wide.2 ?_
  have hR : rS K.P K.W (w.heap.size + 1) u enc own J I :=
   wM (ps := ps) Eb he rfl rfl rfl rfl br al (hA _) (hB _)
  have hY := wL hR (fun x g => by simpa [u] using (al x g).symm)
  have b1 : Sat K.W ((itA (w.heap.size + 1) u I s0 U :: Cap) ++ [bl (pts w.heap.size (.deferred (some [])) :: rst)]) w2 := by
   refine a1.ent ?_
   intro h x
   have x1 : bA (pts (w.heap.size + 1) (.loop u)) (bA (pts w.heap.size (.deferred (some []))) (bA (bl (I s0 U)) (bl (Cap ++ rst)))) h :=
    dd h (fun _ x => x) (fun h x => dd h (fun _ x => x) (fun h x => (dK _ _ h).1 (hH h x)) x) x
   have x2 : bA (bA (pts (w.heap.size + 1) (.loop u)) (bl (I s0 U))) (bA (pts w.heap.size (.deferred (some []))) (bl (Cap ++ rst))) h := by
    rw [← bF (pts w.heap.size _), fW (pts w.heap.size _), bF, ← bF] at x1
    exact x1
   refine dd h (fun _ x => x) (fun h x => ?_) x2
   have x3 : bA (pts w.heap.size (.deferred (some []))) (bA (bl Cap) (bl rst)) h := dd h (fun _ x => x) (fun h x => (dK _ _ h).1 x) x
   rw [← bF, fW (pts _ _), bF] at x3
   exact (dK _ _ h).2 (dd h (fun _ x => x) (fun h x => me x) x3)
  have hc := it _ _ hY (pts w.heap.size (.deferred (some []))) rN hfo _ b1
  refine hc.mono ?_
  rintro e w' ⟨y, rfl, s4⟩
  have s5 : Sat K.W (pts (w.heap.size + 1) (.loop u) :: (I (gs rN) (gy rN y) ++ (CapB rN y ++ [bl (pts w.heap.size (.deferred (some [])) :: rst)]))) w' := s4.ent (pM _ _)
  have hl := s5.pts_at (i := 0) rfl
  refine ⟨none, _, run_endLoop hl (by simp [u]), ?_⟩
  have s6 := s5.upd (o' := .loop { u with state := .exhausted })
  have s7 : Sat K.W (mW w.heap.size :: (I (gs rN) (gy rN y) ++ (CapB rN y ++ rst))) _ := s6.ent (Ent.drop (by
   intro h x
   rw [← List.append_assoc] at x
   have x2 := (dK _ _ h).1 x
   have x3 : bA (bl (I (gs rN) (gy rN y) ++ CapB rN y)) (bA (pts w.heap.size (.deferred (some []))) (bl rst)) h := dd h (fun _ x => x) (fun h (x : bA (bl _) tt h) => by
    rw [fW] at x
    exact gC _ tt h x) x2
   rw [← bF, fW _ (pts _ _), bF] at x3
   refine dd h (fun _ x => x) (fun h x => ?_) x3
   rw [← List.append_assoc]
   exact (dK _ _ h).2 x))
  exact h w.heap.size rN y r hr _ _ ⟨he.size, by simp [he.defers, mkD], he.get⟩ s7
theorem zL {op : Oper} {c : Call} {x : Operand} {xs : List Operand} {l : Nat} {enc : α → γ → List Value} {own : α → γ → HA} {D : S → α → Option S} {A : S → Y → HA} {s s' : S} {y : Y} (v : α) (g : γ) (rst : List HA)
  (ho : op.op = .call c) (J : c.callee = .value x) (af : c.args = xs.toArray) (hx : ev E x = some (.func (.yield l) #[] #[])) (al : evs xs E = some (enc v g)) (an : K.ro = none)
  (hY : pW K.P K.W l enc own D A) (hH : Ent H (A s y :: own v g :: rst)) (hs : D s v = some s') :
  RE K (Y := Y) op E H (fun _ => .bool true) (fun y => A s' y :: rst) := by
 intro a w he U next Q a1
 refine ⟨fun f _ => iU _ _, ?_⟩
 rw [Oper.semAt_eq _ _ _ (by rw [ho]; intro c h; cases h)]
 have a6 : Sat K.W ([A s y, own v g] ++ [bl rst]) w := U.ent (fun h x => Ent.fold [A s y, own v g] rst h (hH h x))
 obtain ⟨f, tmps, assign, body, X, u⟩ := hY s v g s' y _ w hs a6
 have hr : (execOp a.eval op).run K.P w = .ok (.round l f tmps assign body) w := by
  unfold execOp; simp only [ho]
  have I : c.args.map a.eval = (enc v g).toArray := by rw [af, ← ls he xs _ al]; simp
  simp [resolve, J, I, he.ev hx, Deferred.ofValue, invoke, callFunc, X]
 rw [hr]
 refine ⟨ng _, ?_⟩
 rw [an]
 refine RoundIn.mono u ?_
 rintro e w' ⟨rfl, y', s3⟩
 exact a1 y' w' (s3.ent fun h x => Ent.unfold [A s' y'] rst h x)
end
theorem xB {α : Type} {T : TypeId} {n : Nat} {V : α → List Value → Prop} {a : Option Addr} {c : Nat} {xs : List α} {lo hi : Int} {J : Option Addr} {U m : Nat} {rs : List (List Value)} (u : bW n V xs rs) (X : ux n a c lo J U) (hb : 0 ≤ lo ∧ lo ≤ hi ∧ hi ≤ xs.length) (ab : xs.length ≤ c) {p : Hp} (h : Row T n a m c rs.flatten p) : ah T n V J (cut xs lo hi) U p := by
 have D := u.flat
 have I : hi.toNat ≤ xs.length := by omega
 have h2 : hi.toNat * n ≤ rs.flatten.length := by rw [D]; exact Nat.mul_le_mul_right _ I
 have := sQ (lo := lo.toNat) (hi := hi.toNat) (by omega) h2 (by omega) X.addr X.cap p h
 refine ⟨(rs.take hi.toNat).drop lo.toNat, (u.take _).drop _, ?_⟩
 rw [kC hb.2.2, (u.take _).flat_drop, u.flat_take]
 exact this
end Go.Proofs.YtndjkejhacfpdaaGreatDoor

namespace Go.Proofs.YtndjkejhacfpdaaGreatDoor
open Go.RowKit
abbrev tk (v : Value) : List PanicEntry := [{ v, recovered := false }]
def Pan (K : Cx) {R : Type} (Q : eM R) (v : Value) (E : Env) (H : List HA) (o : Option R) : Prop := ∀ r, o = some r → ∀ a w, Has K.n K.ds E a → Sat K.W H w → Q r (.panic (tk v)) a w
def tm (u : Int → Value) (e : Int) : Ending := if e = 0 then .returned (.tuple #[]) else .panicked (tk (u e))
def FnP (P : Program) (W : World) (f : FuncId) (args : List Value) (A : List HA) (F : HA) {R Y : Type} (o : Option R) (en : R → Int) (u : Int → Value) (B : R → Y → List HA) : Prop :=
 ∀ r, o = some r → ∀ w, Sat W (A ++ [F]) w → Calls P f args.toArray w fun e D => ∃ y, e = tm u (en r) ∧ Sat W (B r y ++ [F]) D
def AI (K : Cx) {R Y : Type} (fn : Func) (en : R → Int) (u : Int → Value) (B : R → Y → List HA) : eM R := fun r e a w =>
 bodyPost K.P fn (fun e D => ∃ y, e = tm u (en r) ∧ Sat K.W (B r y) D) e a w
section
variable {K : Cx} {R S Y : Type} {Q : eM R} {E : Env} {H : List HA} {o : Option R} {v : Value}
theorem kF {c : Code} (h : Pan K Q v E H o) : Pan K (lJ K c Q) v E H o := h
theorem uc {id : Nat} (h : Pan K Q v E H o) : Pan K (nh id Q) v E H o := h
theorem AF {L : S → Option R} {u : S → Y → Env} {D : S → Y → List HA} (h : Pan K Q v E H o) : Pan K (si K L u D Q) v E H o := h
theorem rO {u : S → Y → Env} {D : S → Y → List HA} {r : R} (h : Pan K Q v E H (some r)) : Pan K (yd K Q u D) v E H (some (.inr r)) := fun X I a w J U => by cases I; exact h r rfl a w J U
theorem lY {P : Program} {W : World} {f : FuncId} {args : List Value} {A : List HA} {F : HA} {o : Option R} {en : R → Int} {u : Int → Value} {B : R → Y → List HA}
  {fn : Func} {c : Code} (n : Nat) (D : P.funcs[f]? = some fn) (I : fn.body = some c) (J : fn.ntmps = n) (U : Nat.ble args.length n = true)
  (h : Sim ⟨P, W, none, n, []⟩ (AI ⟨P, W, none, n, []⟩ fn en u fun r y => B r y ++ [F]) c (nW 0 args) (A ++ [F]) o) : FnP P W f args A F o en u B := by
 intro r X w hs
 refine (callsIn_wide (n := 0)).1 (callsIn_of_wp D I trivial ?_ rfl)
 have := h r X _ w (mF args n (by simpa [Nat.ble_eq] using U)) hs
 rw [J]
 exact this
theorem nO {fn : Func} {en : R → Int} {I : Int → Value} {B : R → Y → List HA} {r : R} (y : Y) (J : en r = 0) (hd : K.ds = []) (u : mE fn.results.toList E = some []) (U : Ent H (B r y)) : Nrm K (AI K fn en I B) E H (some r) := fun r' X a w D hs => by
 cases X
 exact ⟨D.defers.trans hd, _, pB D u, y, by unfold tm; rw [if_pos J]; rfl, hs.ent U⟩
theorem kX {fn : Func} {en : R → Int} {D : Int → Value} {B : R → Y → List HA} {r : R} {e : Int} (y : Y) (I : en r = e) (J : e ≠ 0) (hd : K.ds = []) (U : Ent H (B r y)) : Pan K (AI K fn en D B) (D e) E H (some r) := fun r' u a w X hs => by
 cases u
 exact ⟨X.defers.trans hd, y, by unfold tm; rw [I, if_neg J], hs.ent U⟩
def REP (K : Cx) {Y : Type} (D : Oper) (E : Env) (H : List HA) (en : Int) (I : Int → Value) (v : Y → Value) (H' : Y → List HA) : Prop :=
 ∀ a w, Has K.n K.ds E a → Sat K.W H w → ∀ next Q, (en = 0 → ∀ y u, Sat K.W (H' y) u → next (a.put D.dst (v y)) u) → (en ≠ 0 → ∀ y u, Sat K.W (H' y) u → Q (.panic (tk (I en))) a u) → D.wpIn (fen K.ro) 0 K.P a w next Q
theorem iY {U : Oper} {c : Call} {x : Operand} {xs : List Operand} {vs I cap : List Value} {f : FuncId} {A : List HA} {rst : List HA} {o1 : Option S} {en : S → Int} {X : Int → Value} {B : S → Y → List HA} {s : S}
  (ho : U.op = .call c) (u : c.callee = .value x) (ab : c.args = xs.toArray) (hx : ev E x = some (.func (.func f) #[] cap.toArray)) (ad : evs xs E = some vs) (af : vs ++ cap = I)
  (hf : ∀ args w, (callFunc f args).run K.P w = .ok (.enter f args) w) (hH : Ent H (A ++ rst))
  {e : Int} (h : FnP K.P K.W f I A (bl rst) o1 en X B) (hs : o1 = some s) (al : en s = e) : REP K U E H e X (fun _ => .tuple #[]) (fun y => B s y ++ rst) := by
 subst al
 intro a w he D next Q an a1
 refine ⟨fun f _ => iU _ _, ?_⟩
 rw [Oper.semAt_eq _ _ _ (by rw [ho]; intro c h; cases h)]
 have hr : (execOp a.eval U).run K.P w = .ok (.enter f I.toArray) w := by
  unfold execOp; simp only [ho]
  have : c.args.map a.eval = vs.toArray := by rw [ab, ← ls he xs vs ad]; simp
  simp [resolve, u, this, he.ev hx, Deferred.ofValue, invoke, hf, ← af]
 rw [hr]
 refine ⟨ng _, ?_⟩
 have := h s hs w (D.ent (hH.trans (Ent.fold A rst)))
 have hw : CallsIn (fen K.ro) (0 - 1) K.P f I.toArray w (fun e J => ∃ y, e = tm X (en s) ∧ Sat K.W (B s y ++ [bl rst]) J) := by
  cases hro : K.ro with
  | none => exact callsIn_wide.2 this
  | some l => exact CallsIn.inRound l (callsIn_wide.2 this)
 refine hw.mono ?_
 rintro e J ⟨y, rfl, s2⟩
 unfold tm
 by_cases hz : en s = 0
 ·rw [if_pos hz]; exact an hz y J (s2.ent (Ent.unfold _ _))
 ·rw [if_neg hz]; exact a1 hz y J (s2.ent (Ent.unfold _ _))
theorem nV {d : Nat} {ops : Array Oper} {rest : List Oper} {J : Oper} {en : Int} {ft : Int → Value} {u : Y → Value} {H' : Y → List HA} {o1 o2 : Option R} (hr : REP K J E H en ft u H') (hg : J.guard = none) (hd : J.dst = some d) (hn : Nat.blt d K.n = true)
  (h1 : en ≠ 0 → ∀ y, Pan K Q (ft en) E (H' y) o2) (h2 : en = 0 → ∀ y, cx K Q ops rest ((d, u y) :: E) (H' y) o1) : cx K Q ops (J :: rest) E H (if en = 0 then o1 else o2) := by
 intro r D a w U hs
 refine wpListIn_plain hg fun K' X => hr a w U hs _ _ (fun I y w' s => X _ _ ?_) (fun I y w' s => ?_)
 ·rw [if_pos I] at D
  rw [hd]
  exact h2 I y r D _ w' (U.put _ hn) s
 ·rw [if_neg I] at D
  exact h1 I y r D a w' U s
theorem yc {ops : Array Oper} {rest : List Oper} {D : Oper} {x : Operand} {t : TypeId} {u : Value} (J : D.op = .panic x) (X : D.guard = none) (hx : ev E x = some (.iface t u)) (h : Pan K Q (.iface t u) E H o) : cx K Q ops (D :: rest) E H o := by
 intro r I a w U hs
 refine wpListIn_plain X fun K' af => ?_
 refine ⟨fun f _ => iU _ _, ?_⟩
 rw [Oper.semAt_eq _ _ _ (by rw [J]; intro c h; cases h)]
 have e1 : (execOp a.eval D).run K.P w = .halt (.panic (.iface t u)) w := by
  unfold execOp; simp only [J]; rw [U.ev hx]
  simp [Instr.panic, goPanic]
 rw [e1]
 exact h r I a w U hs
def Dq (K : Cx) (ops : Array Oper) (D : List (List Nat)) {Γ : Type} (val : Γ → Nat → Value) (E : Env) (heap : Nat → Γ → List HA) (m i : Nat) (pre : List Nat) (γ : Γ) (J : Exit → Act → World → Prop) : Prop :=
 ∃ u, ops[i]? = some u ∧ ∃ I, gm ops D (val γ) E i I ∧ GOk ops u I ∧
  ∀ a w, Has K.n K.ds I a → Sat K.W (heap m γ) w → ∀ next, (∀ (y : { γ' : Γ // kp pre (val γ') (val γ) }) w', Sat K.W (heap (m + 1) y.1) w' → next (a.put u.dst (val y.1 i)) w') → u.wpIn (fen K.ro) 0 K.P a w next J
theorem EOb.x {ops : Array Oper} {u : List (List Nat)} {Γ : Type} {val : Γ → Nat → Value} {heap : Nat → Γ → List HA} {m i : Nat} {pre : List Nat} {γ : Γ} {I : Exit → Act → World → Prop} (h : EOb K ops u val E heap m i pre γ) : Dq K ops u val E heap m i pre γ I := by
 obtain ⟨J, U, Ei, X, hg, D⟩ := h
 exact ⟨J, U, Ei, X, hg, fun a w hh hs next hn => D a w hh hs next I hn⟩
end
/-! ### What recovers -/
def AE (P : Program) (g : FuncId) (cap : List Value) (v : Value) (A A' : List HA) : Prop := ∀ (W w : World) (F : HA), Sat W (A ++ [F]) w → CallsDIn Fence.wide 0 P g cap.toArray (.panicking (tk v)) w fun e u D => (∃ x, e = .returned x) ∧ u = .panicking [{ v, recovered := true }] ∧ Sat W (A' ++ [F]) D
theorem wi {P : Program} {f : FuncId} {fn : Func} {id : Nat} {D : Oper} {l : List Oper} {rest : Code} {args : Array Value} {w : World} {v : Value} {R : Ending → World → Prop}
  (hf : P.funcs[f]? = some fn) (hb : fn.body = some (.seq (.region id (D :: l).toArray false) rest)) (h0 : ∀ ev : Operand → Value, ∀ w, (D.semAt none ev).run P w = .ok .recover w) (hg : D.guard = none)
  (h : wpListIn Fence.wide 0 P (D :: l).toArray (Exit.then (rest.wpIn Fence.wide 0 P (bodyPost P fn R)) (bodyPost P fn R)) l (({ tmps := args ++ Array.replicate (fn.ntmps - args.size) undef, defers := [] } : Act).put D.dst v) w) :
  CallsDIn Fence.wide 0 P f args (.panicking (tk v)) w fun e u' I => u' = .panicking [{ v, recovered := true }] ∧ R e I := by
 refine ⟨trivial, fun c₀ cs hu hr => ?_⟩
 let b : Frame := { (default : Frame) with fn := f, kind := .deferred, roundOf := none }
 have U : Frame.enter P f args .deferred =
   b.atR { tmps := args ++ Array.replicate (fn.ntmps - args.size) undef, defers := [] } [.code (.seq (.region id (D :: l).toArray false) rest)] := by
  simp [Frame.enter, Frame.atR, hf, hb, b]
 obtain ⟨c1, a8⟩ : ∃ c1 : Frame, c1 = { c₀ with mode := .panicking [{ v, recovered := true }] } := ⟨_, rfl⟩
 obtain ⟨a0, b2⟩ : ∃ a0 : Act, ({ tmps := args ++ Array.replicate (fn.ntmps - args.size) undef, defers := [] } : Act) = a0 := ⟨_, rfl⟩
 rw [b2] at U h
 have hF : Fence.wide.fn b.fn := trivial
 have J : Fence.wide.room ((c₀ :: cs).length + 1 + 0) := room_wide _
 have X : Fence.wide.room ((c1 :: cs).length + 1 + 0) := room_wide _
 have ho : (D :: l).toArray[0]? = some D := rfl
 have hw : Region.wanted D (yielded (D :: l).toArray a0.tmps) = true := by simp only [Region.wanted, hg]
 have s1 : StepsIn (Machine.fenced P Fence.wide) P (lone (Frame.enter P f args .deferred) (c₀ :: cs) w) (lone (b.atR (a0.put D.dst v) (.inRegion (D :: l).toArray (List.range' 1 l.length) :: .code rest :: [])) (c1 :: cs) w) := by
  rw [U]
  refine .head (fenced_calm hF J rfl) stepR_seq (.head (fenced_calm hF J rfl) stepR_region ?_)
  have e2 : List.range (D :: l).toArray.size = 0 :: List.range' 1 l.length := by
   rw [List.range_eq_range']
   simp [List.range'_succ]
  rw [e2]
  refine .one (fenced_oper hF J ho (fun _ _ => trivial)) (step_lone_go ?_)
  have b4 := stepGR_op (P := P) (b := b) (a := a0) (k := .code rest :: []) (cs := c₀ :: cs) (w := w) (rest := List.range' 1 l.length) ho hw
  rw [b4]
  have bc : (b.atR a0 (.inRegion (D :: l).toArray (0 :: List.range' 1 l.length) :: .code rest :: [])).finish v = b.atR (a0.put D.dst v) (.inRegion (D :: l).toArray (List.range' 1 l.length) :: .code rest :: []) := by
   rw [Frame.finish_atR, ho]; rfl
  rw [← bc]
  have hk : (b.atR a0 (.inRegion (D :: l).toArray (0 :: List.range' 1 l.length) :: .code rest :: [])).kind = .deferred := rfl
  have an := tryRecover_deferred hk (c₀ :: cs)
  have be : recoverD (c₀ :: cs) = some (v, c1 :: cs) := by simp [recoverD, hu, a8]
  have b5 := h0 a0.eval w
  rw [be] at an
  simp only [Frame.atR] at an ⊢
  simp [stepG.apply, b, b5, an]
  done
 rw [← wpOpsIn_eq_wpListIn l 1 (fun j => by simp [Nat.add_comm 1 j])] at h
 obtain ⟨e, a', I, hq, u⟩ := wp_opsIn _ _ _ h b (.code rest :: []) (c1 :: cs) rfl hF X
 have fin : ∀ (e : Exit) (a' : Act) (I : World), bodyPost P fn R e a' I → ArrivesIn (Machine.fenced P Fence.wide) P (lone (Frame.enter P f args .deferred) (c₀ :: cs) w) b [] (c1 :: cs) e a' I →
   ∃ e u' I fr, (u' = FrameMode.panicking [{ v, recovered := true }] ∧ R e I) ∧ ComesIn (Machine.fenced P Fence.wide) P (lone (Frame.enter P f args .deferred) (c₀ :: cs) w) (lone fr ({ c₀ with mode := u' } :: cs) I) e ∧ fr.kind = .deferred ∧ fr.fn = f ∧ fr.going P I e := by
  intro e a' I hq u
  subst a8
  cases e with
  | normal =>
   obtain ⟨hd, v', a1, hR⟩ := hq
   exact ⟨.returned v', _, I, _, ⟨rfl, hR⟩, StepsIn.trans u (.one (fenced_calm (fr := b.atR a' []) hF hr rfl) (stepR_end rfl)), rfl, rfl, rfl, hd, fn, hf, a1⟩
  | ret =>
   obtain ⟨hd, v', a1, hR⟩ := hq
   obtain ⟨todo, hs⟩ := u.1 rfl
   exact ⟨.returned v', _, I, _, ⟨rfl, hR⟩, hs, rfl, rfl, rfl, hd, fn, hf, a1⟩
  | panic chain =>
   obtain ⟨hd, hR⟩ := hq
   obtain ⟨todo, hs⟩ := u
   exact ⟨.panicked chain, _, I, _, ⟨rfl, hR⟩, hs, rfl, rfl, rfl, hd, fn, hf⟩
  | exit id => exact hq.elim
  | goto l => exact hq.elim
  | outgrown => exact ⟨.outgrown, _, I, b, ⟨rfl, hq⟩, u.resolve_left (by simp [b]), rfl, rfl, trivial⟩
 cases e with
 | normal =>
  obtain ⟨e₂, a₂, w₂, b8, a6⟩ := hq b [] (c1 :: cs) rfl hF X
  exact fin _ _ _ b8 (.of_steps (StepsIn.trans s1 u) a6)
 | exit id => exact hq.elim
 | goto l => exact hq.elim
 | ret => exact fin .ret a' I hq (.of_steps s1 (.pass (x := .code rest) rfl (fun _ _ => .inl (by simp)) u))
 | panic ch => exact fin (.panic ch) a' I hq (.of_steps s1 (.pass (x := .code rest) rfl (fun _ _ => .inl (by simp)) u))
 | outgrown => exact fin .outgrown a' I hq (.of_steps s1 (.pass (x := .code rest) rfl (fun _ _ => .inl (by simp)) u))
theorem BW {P : Program} {g : FuncId} {fn : Func} {id d : Nat} {u : Oper} {l : List Oper} {rest : Code} {cap : List Value} {v : Value} {A A' : List HA} (n : Nat)
  (J : P.funcs[g]? = some fn) (U : fn.body = some (.seq (.region id (u :: l).toArray false) rest)) (X : fn.ntmps = n) (hl : Nat.ble cap.length n = true)
  (h0 : ∀ ev : Operand → Value, ∀ w, (u.semAt none ev).run P w = .ok .recover w) (hg : u.guard = none) (hd : u.dst = some d) (D : Nat.blt d n = true)
  (h : ∀ (W : World) (F : HA), cx ⟨P, W, none, n, []⟩ (lJ ⟨P, W, none, n, []⟩ rest (sU ⟨P, W, none, n, []⟩ fn (fun (_ : Unit) (_ : Unit) => Value.tuple #[]) fun _ _ => A' ++ [F])) (u :: l).toArray l ((d, v) :: nW 0 cap) (A ++ [F]) (some ())) : AE P g cap v A A' := by
 intro W w F hs
 refine (wi (args := cap.toArray) (R := fun e I => ∃ y : Unit, e = .returned (.tuple #[]) ∧ Sat W (A' ++ [F]) I) J U h0 hg ?_).mono ?_
 ·have h1 := mF cap n (by simpa [Nat.ble_eq] using hl)
  have h2 := h1.put (d := d) v D
  rw [X, hd]
  exact h W F () rfl _ w h2 hs
 ·rintro e u' I ⟨rfl, _, rfl, s⟩
  exact ⟨⟨_, rfl⟩, rfl, s⟩
theorem rH {K : Cx} {R Y : Type} {E : Env} {H : List HA} {fn : Func} {val : R → Y → Value} {B : R → Y → List HA} {r : R} {vs : List Value} {v : Value} (g : FuncId) (cap : List Value) {A A' rst : List HA} (u : AE K.P g cap v A A') (U : ∀ args w, (callFunc g args).run K.P w = .ok (.enter g args) w)
  (y : Y) (hd : K.ds = [dfD g cap]) (X : Ent H (A ++ rst)) (D : mw K.P E (A' ++ rst) fn.results.toList vs) (hv : tup vs = val r y) (hH : Ent (A' ++ rst) (B r y)) : Pan K (uE K fn val B) v E H (some r) := by
 intro r' hr a w I hs
 cases hr
 show LeavesIn Fence.wide 0 K.P fn a.tmps _ a.defers (.panicking (tk v)) w
 rw [I.defers, hd]
 refine leavesIn_cons (F := Fence.wide) (n := 0) (f := g) (args := cap.toArray) (by simp) (fun h => by cases h) ?_ (fun _ _ => trivial) ?_
 ·simp [invoke, U]
 ·refine (u K.W w (bl rst) (hs.ent (X.trans (Ent.fold A rst)))).mono ?_
  rintro e u' w' ⟨⟨x, rfl⟩, rfl, s⟩
  have J := s.ent (Ent.unfold _ _)
  exact ⟨_, na I J D, y, by rw [hv], J.ent hH⟩
theorem BV {K : Cx} {E : Env} {H : List HA} {o : Oper} {D U T : TypeId} {x : Operand} {u : Value} {X : _} (I : o.op = .binOp .eql D x (.const .nilIface) U) (hx : ev E x = some (.iface T u)) (hu : K.P.underlying D = some (.interface X)) : RQ K o E H (.bool false) :=
 dL (by rw [I]; intro c h; cases h) fun a w J _ => by
  unfold execOp; simp only [I]; rw [J.ev hx, J.ev (x := .const .nilIface) rfl]
  have e : (Op.equal D (.iface T u) .nilIface).run K.P w = .ok false w := by
   rw [show Op.equal D (.iface T u) .nilIface = Op.equalIn (9999 + 1) D (.iface T u) .nilIface from rfl, Op.equalIn]
   simp [underlying, program, Sem.run, hu]
  simp [eqGuard, binOp, e]
theorem CI {K : Cx} {E : Env} {H : List HA} {o : Oper} {I T : TypeId} {x : Operand} {u : Value} {d : TypeDesc} (D : o.op = .typeAssert x I T true) (J : ev E x = some (.iface T u)) (U : K.P.underlying T = some d) (X : (match d with | .interface _ => true | _ => false) = false) : RQ K o E H (.tuple #[u, .bool true]) :=
 dL (by rw [D]; intro c h; cases h) fun a w he _ => by
  unfold execOp; simp only [D]; rw [he.ev J]
  cases d <;> first | (simp at X; done) | simp [Instr.typeAssert, underlying, program, Sem.run, U]
end Go.Proofs.YtndjkejhacfpdaaGreatDoor
