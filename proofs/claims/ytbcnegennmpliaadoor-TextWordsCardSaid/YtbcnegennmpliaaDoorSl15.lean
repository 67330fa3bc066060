/- Maps of the call's own as parts of the heap: made, asked, changed; strings compared by order; structs within structs compared. Conditions: none. -/
import Derived.Test.YtbcnegennmpliaaDoorSl14
namespace Go.Proofs.YtbcnegennmpliaaDoor
set_option linter.unusedVariables false
set_option linter.unusedSimpArgs false
set_option linter.unusedSectionVars false
open Go.RowKit
section
variable {α β : Type} [DecidableEq α]
def mget : List (α × β) → α → Option β
  | [], _ => none
  | p :: l, x => if p.1 = x then some p.2 else mget l x
def mput : List (α × β) → α → β → List (α × β)
  | [], x, y => [(x, y)]
  | p :: l, x, y => if p.1 = x then (x, y) :: l else p :: mput l x y
def mdel : List (α × β) → α → List (α × β)
  | [], _ => []
  | p :: l, x => if p.1 = x then l else p :: mdel l x
def mpos : List (α × β) → α → Nat → Option (Nat × β)
  | [], _, _ => none
  | p :: l, x, i => if p.1 = x then some (i, p.2) else mpos l x (i + 1)
theorem mpos_get : ∀ (l : List (α × β)) (x : α) (i : Nat), (mpos l x i).map (·.2) = mget l x
  | [], _, _ => rfl
  | p :: l, x, i => by
    simp only [mpos, mget]
    split
    · rfl
    · exact mpos_get l x (i + 1)
end
structure KeyT (P : Program) (T : TypeId) {α : Type} [DecidableEq α] (ek : α → Value) : Prop where
  chk : ∀ e x w, (Instr.checkKey e 10000 T (ek x)).run P w = .ok () w
  desc : ∃ u, P.underlying T = some u ∧ ((∀ x y, Instr.sameNow u (ek x) (ek y) = some (decide (x = y))) ∨ ((∀ x y, Instr.sameNow u (ek x) (ek y) = none) ∧ ∀ x y w, (Op.equal T (ek x) (ek y)).run P w = .ok (decide (x = y)) w))
  bits : ∀ x, Instr.sameBits 10000 (ek x) (ek x) = true
section
variable {α β : Type} [DecidableEq α] {P : Program} {T : TypeId} {ek : α → Value} {ev : β → Value}
def esOk (ek : α → Value) (ev : β → Value) (es : List MapEntry) (kvs : List (α × β)) : Prop := es.map (fun e => (e.key, e.val)) = kvs.map fun p => (ek p.1, ev p.2)
theorem findNow_some {u : TypeDesc} (hs : ∀ x y, Instr.sameNow u (ek x) (ek y) = some (decide (x = y))) (x : α) : ∀ (kvs : List (α × β)) (es : List MapEntry) (i : Nat), esOk ek ev es kvs → Instr.findNow u (ek x) es i = some ((mpos kvs x i).map fun p => (p.1, ev p.2))
  | [], es, i, h => by
    have : es = [] := by simpa [esOk] using h
    subst this; rfl
  | p :: l, [], i, h => by simp [esOk] at h
  | p :: l, e :: es, i, h => by
    simp only [esOk, List.map_cons, List.cons.injEq, Prod.mk.injEq] at h
    obtain ⟨⟨h1, h2⟩, h3⟩ := h
    simp only [Instr.findNow, mpos]
    rw [h1, hs]
    by_cases hx : p.1 = x
    · rw [if_pos hx, hx]; simp [h2]
    · rw [if_neg hx, decide_eq_false (fun e => hx e.symm)]
      exact findNow_some hs x l es (i + 1) h3
theorem findAsking_run {x : α} (hs : ∀ x y w, (Op.equal T (ek x) (ek y)).run P w = .ok (decide (x = y)) w) (w : World) : ∀ (kvs : List (α × β)) (es : List MapEntry) (i : Nat), esOk ek ev es kvs → (Instr.findAsking T (ek x) es i).run P w = .ok ((mpos kvs x i).map fun p => (p.1, ev p.2)) w
  | [], es, i, h => by
    have : es = [] := by simpa [esOk] using h
    subst this; simp [Instr.findAsking, mpos]
  | p :: l, [], i, h => by simp [esOk] at h
  | p :: l, e :: es, i, h => by
    simp only [esOk, List.map_cons, List.cons.injEq, Prod.mk.injEq] at h
    obtain ⟨⟨h1, h2⟩, h3⟩ := h
    simp only [Instr.findAsking, mpos, Sem.run_bind]
    rw [h1, hs]
    simp only [Result.andThen_ok]
    by_cases hx : p.1 = x
    · rw [if_pos hx, hx]; simp [h2]
    · rw [if_neg hx, decide_eq_false (fun e => hx e.symm)]
      simpa using findAsking_run hs w l es (i + 1) h3
theorem findNow_none {u : TypeDesc} (hs : ∀ x y, Instr.sameNow u (ek x) (ek y) = none) (x : α) : ∀ (kvs : List (α × β)) (es : List MapEntry) (i : Nat), esOk ek ev es kvs → kvs ≠ [] → Instr.findNow u (ek x) es i = none
  | [], es, i, h, hn => absurd rfl hn
  | p :: l, [], i, h, _ => by simp [esOk] at h
  | p :: l, e :: es, i, h, _ => by
    simp only [esOk, List.map_cons, List.cons.injEq, Prod.mk.injEq] at h
    simp only [Instr.findNow]
    rw [h.1.1, hs]
theorem KeyT.find (K : KeyT P T ek) (w : World) {kvs : List (α × β)} {es : List MapEntry} (h : esOk ek ev es kvs) (x : α) : (Instr.findKey T (ek x) es).run P w = .ok ((mpos kvs x 0).map fun p => (p.1, ev p.2)) w := by
  obtain ⟨u, hu, hs⟩ := K.desc
  unfold Instr.findKey
  simp only [Sem.run_bind, underlying, program, Sem.run, hu, Result.andThen_ok, Sem.run_pure]
  rcases hs with hs | ⟨hs, he⟩
  · rw [findNow_some hs x kvs es 0 h]; simp
  · by_cases hn : kvs = []
    · subst hn
      have : es = [] := by simpa [esOk] using h
      subst this
      simp [Instr.findNow, mpos]
    · rw [findNow_none hs x kvs es 0 h hn]
      exact findAsking_run he w kvs es 0 h
def mapO (b : Nat) (ek : α → Value) (ev : β → Value) (kvs : List (α × β)) : HA := fun h => ∃ es clock, h b = some (.map es clock) ∧ esOk ek ev es.toList kvs ∧ (es.toList.map (·.born)).Nodup ∧ ∀ e ∈ es.toList, e.born < clock
theorem Sat.map_open {W w : World} {l : List HA} {b : Nat} {kvs : List (α × β)} (s : Sat W (mapO b ek ev kvs :: l) w) :
    ∃ es clock, esOk ek ev es.toList kvs ∧ (es.toList.map (·.born)).Nodup ∧ (∀ e ∈ es.toList, e.born < clock) ∧ Sat W (pts b (.map es clock) :: l) w := by
  obtain ⟨x, y, d, e, ⟨es, clock, h1, h2, h3, h4⟩, r⟩ := s.hp
  exact ⟨es, clock, h2, h3, h4, s.os, s.tape, s.output, s.size, x, y, d, e, h1, r⟩
theorem Sat.map_close {W w : World} {l : List HA} {b clock : Nat} {es : Array MapEntry} {kvs : List (α × β)} (s : Sat W (pts b (.map es clock) :: l) w) (h1 : esOk ek ev es.toList kvs) (h2 : (es.toList.map (·.born)).Nodup) (h3 : ∀ e ∈ es.toList, e.born < clock) : Sat W (mapO b ek ev kvs :: l) w :=
  s.ent (Ent.sel' 0 rfl (fun h x => ⟨es, clock, x, h1, h2, h3⟩) (Ent.refl _))
theorem mpos_lt : ∀ (l : List (α × β)) (x : α) (i j : Nat) (y : β), mpos l x i = some (j, y) → i ≤ j ∧ j - i < l.length
  | [], _, _, _, _, h => by simp [mpos] at h
  | p :: l, x, i, j, y, h => by
    simp only [mpos] at h
    split at h
    · simp at h; obtain ⟨rfl, _⟩ := h; simp
    · obtain ⟨h1, h2⟩ := mpos_lt l x (i + 1) j y h; simp; omega
theorem mput_some : ∀ (kvs : List (α × β)) (es : List MapEntry) (x : α) (y : β) (i j : Nat) (z : β), esOk ek ev es kvs → mpos kvs x i = some (j, z) → esOk ek ev (es.modify (j - i) fun e => { e with key := ek x, val := ev y }) (mput kvs x y)
  | [], es, x, y, i, j, z, _, h => by simp [mpos] at h
  | p :: l, [], x, y, i, j, z, he, h => by simp [esOk] at he
  | p :: l, e :: es, x, y, i, j, z, he, h => by
    simp only [esOk, List.map_cons, List.cons.injEq, Prod.mk.injEq] at he
    obtain ⟨⟨h1, h2⟩, h3⟩ := he
    simp only [mpos] at h
    simp only [mput]
    split at h
    · rename_i hx
      simp at h
      rw [if_pos hx, ← h.1]
      simp [esOk]
      exact h3
    · rename_i hx
      obtain ⟨a, b⟩ := mpos_lt l x (i + 1) j z h
      rw [if_neg hx, show j - i = (j - (i + 1)) + 1 by omega]
      simp only [List.modify_succ_cons, esOk, List.map_cons, List.cons.injEq, Prod.mk.injEq]
      exact ⟨⟨h1, h2⟩, mput_some l es x y (i + 1) j z h3 h⟩
theorem mput_none : ∀ (kvs : List (α × β)) (es : List MapEntry) (x : α) (y : β) (i c : Nat), esOk ek ev es kvs → mpos kvs x i = none → esOk ek ev (es ++ [{ key := ek x, val := ev y, born := c }]) (mput kvs x y)
  | [], es, x, y, i, c, he, _ => by
    have : es = [] := by simpa [esOk] using he
    subst this; simp [esOk, mput]
  | p :: l, [], x, y, i, c, he, h => by simp [esOk] at he
  | p :: l, e :: es, x, y, i, c, he, h => by
    simp only [esOk, List.map_cons, List.cons.injEq, Prod.mk.injEq] at he
    obtain ⟨⟨h1, h2⟩, h3⟩ := he
    simp only [mpos] at h
    simp only [mput]
    split at h
    · simp at h
    · rename_i hx
      rw [if_neg hx]
      simp only [List.cons_append, esOk, List.map_cons, List.cons.injEq, Prod.mk.injEq]
      exact ⟨⟨h1, h2⟩, mput_none l es x y (i + 1) c h3 h⟩
theorem mdel_some : ∀ (kvs : List (α × β)) (es : List MapEntry) (x : α) (i j : Nat) (z : β), esOk ek ev es kvs → mpos kvs x i = some (j, z) → esOk ek ev (es.eraseIdx (j - i)) (mdel kvs x)
  | [], es, x, i, j, z, _, h => by simp [mpos] at h
  | p :: l, [], x, i, j, z, he, h => by simp [esOk] at he
  | p :: l, e :: es, x, i, j, z, he, h => by
    simp only [esOk, List.map_cons, List.cons.injEq, Prod.mk.injEq] at he
    obtain ⟨⟨h1, h2⟩, h3⟩ := he
    simp only [mpos] at h
    simp only [mdel]
    split at h
    · rename_i hx
      simp at h
      rw [if_pos hx, ← h.1]
      simpa [esOk] using h3
    · rename_i hx
      obtain ⟨a, b⟩ := mpos_lt l x (i + 1) j z h
      rw [if_neg hx, show j - i = (j - (i + 1)) + 1 by omega]
      simp only [List.eraseIdx_cons_succ, esOk, List.map_cons, List.cons.injEq, Prod.mk.injEq]
      exact ⟨⟨h1, h2⟩, mdel_some l es x (i + 1) j z h3 h⟩
theorem mdel_none : ∀ (kvs : List (α × β)) (x : α) (i : Nat), mpos kvs x i = none → mdel kvs x = kvs
  | [], _, _, _ => rfl
  | p :: l, x, i, h => by
    simp only [mpos] at h
    simp only [mdel]
    split at h
    · simp at h
    · rename_i hx; rw [if_neg hx, mdel_none l x (i + 1) h]
theorem esOk_get : ∀ (kvs : List (α × β)) (es : List MapEntry) (x : α) (i j : Nat) (z : β), esOk ek ev es kvs → mpos kvs x i = some (j, z) → ∃ e, es[j - i]? = some e ∧ e.key = ek x
  | [], es, x, i, j, z, _, h => by simp [mpos] at h
  | p :: l, [], x, i, j, z, he, h => by simp [esOk] at he
  | p :: l, e :: es, x, i, j, z, he, h => by
    simp only [esOk, List.map_cons, List.cons.injEq, Prod.mk.injEq] at he
    obtain ⟨⟨h1, h2⟩, h3⟩ := he
    simp only [mpos] at h
    split at h
    · rename_i hx
      simp at h
      rw [← h.1]
      exact ⟨e, by simp, by rw [h1, hx]⟩
    · obtain ⟨a, b⟩ := mpos_lt l x (i + 1) j z h
      rw [show j - i = (j - (i + 1)) + 1 by omega]
      simpa using esOk_get l es x (i + 1) j z h3 h
end
section
variable {K : Cx} {R S Y : Type} {Q : Post R} {E : Env} {H : List HA} {opt : Option R} {ops : Array Oper} {rest : List Oper} {o : Oper} {α β : Type} [DecidableEq α] {ek : α → Value} {ev : β → Value} {T VT t : TypeId} {b : Nat} {kvs : List (α × β)}
theorem re_mkmap {t : TypeId} (ho : o.op = .makeMap t none) : RE K (Y := Nat) o E H (fun b => .map (some b)) (fun b => mapO b ek ev [] :: H) :=
  re_run (by rw [ho]; intro c h; cases h) fun a w he hs => by
    refine ⟨w.heap.size, { w with heap := w.heap.push (.map #[] 0) }, ?_, (hs.new _).map_close (by simp [esOk]) (by simp) (by simp)⟩
    unfold execOp; simp only [ho]
    simp [Instr.makeMap, newObj, Sem.run]
theorem q_mlen {x : Operand} {ts : Array TypeId} (k : Nat) (ho : o.op = .call { callee := .builtin .len, args := #[x], argTypes := ts }) (hx : Go.Proofs.YtbcnegennmpliaaDoor.ev E x = some (.map (some b))) (ht : ts[0]? = some t) (hu : K.P.underlying t = some (.map T VT)) (hk : H[k]? = some (mapO b ek ev kvs)) :
    RQ K o E H (.int .i64 (kvs.length : Int)) :=
  rq_same (by rw [ho]; intro c h; cases h) fun a w he s => by
    obtain ⟨es, clock, h1, h2, h3, s2⟩ := (s.focus hk).map_open
    have hb := s2.pts_at (i := 0) rfl
    have hsz : es.size = kvs.length := by have := congrArg List.length h1; simpa [esOk] using this
    unfold execOp; simp only [ho]
    simp [resolve, invoke, builtin, Builtin.len_, ht, underlying, program, Sem.run, hu, he.ev hx, getObj, hb, goInt, hsz]
theorem q_mlook {x y : Operand} {z : β} (k : Nat) (v : α) (ho : o.op = .lookup t x y false) (hx : Go.Proofs.YtbcnegennmpliaaDoor.ev E x = some (.map (some b))) (hy : Go.Proofs.YtbcnegennmpliaaDoor.ev E y = some (ek v)) (hu : K.P.underlying t = some (.map T VT)) (hK : KeyT K.P T ek) (hz : ∀ w, (zeroValue VT).run K.P w = .ok (ev z) w) (hk : H[k]? = some (mapO b ek ev kvs)) :
    RQ K o E H (ev ((mget kvs v).getD z)) :=
  rq_same (by rw [ho]; intro c h; cases h) fun a w he s => by
    obtain ⟨es, clock, h1, h2, h3, s2⟩ := (s.focus hk).map_open
    have hb := s2.pts_at (i := 0) rfl
    have hf := hK.find w h1 v
    have hg := mpos_get kvs v 0
    unfold execOp; simp only [ho]; rw [he.ev hx, he.ev hy]
    cases hp : mpos kvs v 0 with
    | none =>
      rw [hp] at hf hg
      simp at hg
      simp [Instr.lookup, underlying, program, Sem.run, hu, getObj, hb, hK.chk, hf, hz, ← hg]
    | some p =>
      rw [hp] at hf hg
      simp at hg
      simp [Instr.lookup, underlying, program, Sem.run, hu, getObj, hb, hK.chk, hf, ← hg]
theorem q_mlook2 {x y : Operand} {z : β} (k : Nat) (v : α) (ho : o.op = .lookup t x y true) (hx : Go.Proofs.YtbcnegennmpliaaDoor.ev E x = some (.map (some b))) (hy : Go.Proofs.YtbcnegennmpliaaDoor.ev E y = some (ek v)) (hu : K.P.underlying t = some (.map T VT)) (hK : KeyT K.P T ek) (hz : ∀ w, (zeroValue VT).run K.P w = .ok (ev z) w) (hk : H[k]? = some (mapO b ek ev kvs)) :
    RQ K o E H (.tuple #[ev ((mget kvs v).getD z), .bool (mget kvs v).isSome]) :=
  rq_same (by rw [ho]; intro c h; cases h) fun a w he s => by
    obtain ⟨es, clock, h1, h2, h3, s2⟩ := (s.focus hk).map_open
    have hb := s2.pts_at (i := 0) rfl
    have hf := hK.find w h1 v
    have hg := mpos_get kvs v 0
    unfold execOp; simp only [ho]; rw [he.ev hx, he.ev hy]
    cases hp : mpos kvs v 0 with
    | none =>
      rw [hp] at hf hg
      simp at hg
      simp [Instr.lookup, underlying, program, Sem.run, hu, getObj, hb, hK.chk, hf, hz, ← hg]
    | some p =>
      rw [hp] at hf hg
      simp at hg
      simp [Instr.lookup, underlying, program, Sem.run, hu, getObj, hb, hK.chk, hf, ← hg]
theorem modify_toList (es : Array MapEntry) (i : Nat) (f : MapEntry → MapEntry) : (es.modify i f).toList = es.toList.modify i f := by
  apply List.ext_getElem?
  intro j
  simp [List.getElem?_modify, Array.getElem?_modify]
theorem re_mput {x y z : Operand} (k : Nat) (v : α) (u : β) (ho : o.op = .mapUpdate t x y z) (hx : Go.Proofs.YtbcnegennmpliaaDoor.ev E x = some (.map (some b))) (hy : Go.Proofs.YtbcnegennmpliaaDoor.ev E y = some (ek v)) (hz : Go.Proofs.YtbcnegennmpliaaDoor.ev E z = some (ev u)) (hu : K.P.underlying t = some (.map T VT)) (hK : KeyT K.P T ek) (hk : H[k]? = some (mapO b ek ev kvs)) :
    RE K (Y := Unit) o E H (fun _ => undef) (fun _ => H.set k (mapO b ek ev (mput kvs v u))) :=
  re_skip (by rw [ho]; intro c h; cases h) fun a w he s => by
    obtain ⟨es, clock, h1, h2, h3, s2⟩ := (s.focus hk).map_open
    have hb := s2.pts_at (i := 0) rfl
    have hf := hK.find w h1 v
    cases hp : mpos kvs v 0 with
    | none =>
      rw [hp] at hf
      refine ⟨(), _, ?_, Sat.unfocus hk ((s2.upd (b := b) (o' := .map (es.push { key := ek v, val := ev u, born := clock }) (clock + 1))).map_close ?_ ?_ ?_)⟩
      · unfold execOp; simp only [ho]; rw [he.ev hx, he.ev hy, he.ev hz]
        simp [Instr.mapUpdate, underlying, program, Sem.run, hu, getObj, hb, hK.chk, hf, setObj]
      · simpa using mput_none kvs es.toList v u 0 clock h1 hp
      · simp only [Array.toList_push, List.map_append, List.map_cons, List.map_nil]
        refine List.nodup_append.2 ⟨h2, by simp, fun a ha b hb => ?_⟩
        simp only [List.mem_singleton] at hb
        obtain ⟨e, he, rfl⟩ := List.mem_map.1 ha
        have := h3 e he
        omega
      · intro e he
        simp only [Array.toList_push, List.mem_append, List.mem_singleton] at he
        rcases he with he | rfl
        · have := h3 e he; omega
        · simp
    | some p =>
      obtain ⟨j, q⟩ := p
      rw [hp] at hf
      obtain ⟨e0, hj, hkey⟩ := esOk_get kvs es.toList v 0 j q h1 hp
      rw [Nat.sub_zero] at hj
      have hj' : es[j]? = some e0 := by simpa using hj
      have hkts : (Instr.keyThatStays (ek v) (ek v)).run K.P w = .ok (ek v) w := by simp [Instr.keyThatStays, hK.bits]
      refine ⟨(), _, ?_, Sat.unfocus hk ((s2.upd (b := b) (o' := .map (es.modify j fun e => { e with key := ek v, val := ev u }) clock)).map_close ?_ ?_ ?_)⟩
      · unfold execOp; simp only [ho]; rw [he.ev hx, he.ev hy, he.ev hz]
        simp [Instr.mapUpdate, underlying, program, Sem.run, hu, getObj, hb, hK.chk, hf, hj', hkey, hkts, setObj]
      · rw [modify_toList]
        simpa using mput_some kvs es.toList v u 0 j q h1 hp
      · rw [modify_toList]
        have : (es.toList.modify j fun e => { e with key := ek v, val := ev u }).map (·.born) = es.toList.map (·.born) := by
          apply List.ext_getElem?
          intro i
          simp only [List.getElem?_map, List.getElem?_modify]
          by_cases hi : j = i <;> simp [hi] <;> cases es[i]? <;> simp
        rw [this]; exact h2
      · rw [modify_toList]
        intro e he
        obtain ⟨i, hi⟩ := List.mem_iff_getElem?.1 he
        rw [List.getElem?_modify] at hi
        cases hq : es.toList[i]? with
        | none => rw [hq] at hi; simp at hi
        | some e1 =>
          rw [hq] at hi
          have := h3 e1 (List.mem_of_getElem? hq)
          by_cases hji : j = i
          · simp [hji] at hi; rw [← hi]; exact this
          · simp [hji] at hi; rw [← hi]; exact this
theorem re_mdel {x y : Operand} {ts : Array TypeId} (k : Nat) (v : α) (ho : o.op = .call { callee := .builtin .delete, args := #[x, y], argTypes := ts }) (hx : Go.Proofs.YtbcnegennmpliaaDoor.ev E x = some (.map (some b))) (hy : Go.Proofs.YtbcnegennmpliaaDoor.ev E y = some (ek v)) (ht : ts[0]? = some t) (hu : K.P.underlying t = some (.map T VT)) (hK : KeyT K.P T ek) (hk : H[k]? = some (mapO b ek ev kvs)) :
    RE K (Y := Unit) o E H (fun _ => .tuple #[]) (fun _ => H.set k (mapO b ek ev (mdel kvs v))) :=
  re_run (by rw [ho]; intro c h; cases h) fun a w he s => by
    obtain ⟨es, clock, h1, h2, h3, s2⟩ := (s.focus hk).map_open
    have hb := s2.pts_at (i := 0) rfl
    have hf := hK.find w h1 v
    cases hp : mpos kvs v 0 with
    | none =>
      rw [hp] at hf
      refine ⟨(), _, ?_, Sat.unfocus hk ((s2.upd (b := b) (o' := .map es clock)).map_close (by rw [mdel_none kvs v 0 hp]; exact h1) h2 h3)⟩
      unfold execOp; simp only [ho]
      simp [resolve, invoke, builtin, Builtin.delete_, ht, underlying, program, Sem.run, hu, he.ev hx, he.ev hy, getObj, hb, hK.chk, hf, setObj]
    | some p =>
      obtain ⟨j, q⟩ := p
      rw [hp] at hf
      have hjl := mpos_lt kvs v 0 j q hp
      have hsz : es.size = kvs.length := by have := congrArg List.length h1; simpa [esOk] using this
      have hjs : j < es.size := by omega
      refine ⟨(), _, ?_, Sat.unfocus hk ((s2.upd (b := b) (o' := .map (es.eraseIdxIfInBounds j) clock)).map_close ?_ ?_ ?_)⟩
      · unfold execOp; simp only [ho]
        simp [resolve, invoke, builtin, Builtin.delete_, ht, underlying, program, Sem.run, hu, he.ev hx, he.ev hy, getObj, hb, hK.chk, hf, setObj]
      · have := mdel_some kvs es.toList v 0 j q h1 hp
        simpa [Array.eraseIdxIfInBounds, hjs] using this
      · simp only [Array.eraseIdxIfInBounds, hjs, dif_pos, Array.toList_eraseIdx]
        exact (List.Sublist.map _ (List.eraseIdx_sublist _ _)).nodup h2
      · intro e he
        simp only [Array.eraseIdxIfInBounds, hjs, dif_pos, Array.toList_eraseIdx] at he
        exact h3 e ((List.eraseIdx_sublist _ _).subset he)
theorem q_mnil0 {x y : Operand} {z : Value} (v : α) (ho : o.op = .lookup t x y false) (hx : Go.Proofs.YtbcnegennmpliaaDoor.ev E x = some (.map none)) (hy : Go.Proofs.YtbcnegennmpliaaDoor.ev E y = some (ek v)) (hu : K.P.underlying t = some (.map T VT)) (hK : KeyT K.P T ek) (hz : ∀ w, (zeroValue VT).run K.P w = .ok z w) : RQ K o E H z :=
  rq_same (by rw [ho]; intro c h; cases h) fun a w he s => by
    have hf := hK.find (ev := fun (u : Unit) => Value.tuple #[]) w (kvs := []) (es := []) rfl v
    unfold execOp; simp only [ho]; rw [he.ev hx, he.ev hy]
    simp [Instr.lookup, underlying, program, Sem.run, hu, hK.chk, hf, hz, mpos]
/-! ### Strings by order -/
theorem q_lts {xt yt : TypeId} {x y : Operand} {l m : List UInt8} (ho : o.op = .binOp .lss xt x y yt) (hx : Go.Proofs.YtbcnegennmpliaaDoor.ev E x = some (str l)) (hy : Go.Proofs.YtbcnegennmpliaaDoor.ev E y = some (str m)) : RQ K o E H (.bool (Op.bytesLess l m)) :=
  q_bin ho hx hy eqGuard_str fun P w => by simp [binOp, Op.stringOp, str, ByteArray.toList_eq]
theorem q_gts {xt yt : TypeId} {x y : Operand} {l m : List UInt8} (ho : o.op = .binOp .gtr xt x y yt) (hx : Go.Proofs.YtbcnegennmpliaaDoor.ev E x = some (str l)) (hy : Go.Proofs.YtbcnegennmpliaaDoor.ev E y = some (str m)) : RQ K o E H (.bool (!(Op.bytesLess l m || decide (l = m)))) :=
  q_bin ho hx hy eqGuard_str fun P w => by simp [binOp, Op.stringOp, str, ByteArray.toList_eq]; congr 2; rw [Bool.eq_iff_iff]; simp
theorem q_les {xt yt : TypeId} {x y : Operand} {l m : List UInt8} (ho : o.op = .binOp .leq xt x y yt) (hx : Go.Proofs.YtbcnegennmpliaaDoor.ev E x = some (str l)) (hy : Go.Proofs.YtbcnegennmpliaaDoor.ev E y = some (str m)) : RQ K o E H (.bool (Op.bytesLess l m || decide (l = m))) :=
  q_bin ho hx hy eqGuard_str fun P w => by simp [binOp, Op.stringOp, str, ByteArray.toList_eq]; congr 1; rw [Bool.eq_iff_iff]; simp
theorem q_ges {xt yt : TypeId} {x y : Operand} {l m : List UInt8} (ho : o.op = .binOp .geq xt x y yt) (hx : Go.Proofs.YtbcnegennmpliaaDoor.ev E x = some (str l)) (hy : Go.Proofs.YtbcnegennmpliaaDoor.ev E y = some (str m)) : RQ K o E H (.bool (!Op.bytesLess l m)) :=
  q_bin ho hx hy eqGuard_str fun P w => by simp [binOp, Op.stringOp, str, ByteArray.toList_eq]
end
/-! ### Keys -/
theorem keyT_int {P : Program} {T : TypeId} {k : IntKind} (hu : P.underlying T = some (.int k)) : KeyT P T (fun x : Int => .int k x) :=
  ⟨fun e x w => by rw [show (10000 : Nat) = 9999 + 1 from rfl, Instr.checkKey]; simp [underlying, program, Sem.run, hu], ⟨_, hu, .inl fun x y => by simp [Instr.sameNow]; rw [Bool.eq_iff_iff]; simp⟩, fun x => by rw [Instr.sameBits]; simp⟩
theorem keyT_str {P : Program} {T : TypeId} (hu : P.underlying T = some .string) : KeyT P T (fun x : List UInt8 => str x) :=
  ⟨fun e x w => by rw [show (10000 : Nat) = 9999 + 1 from rfl, Instr.checkKey]; simp [underlying, program, Sem.run, hu, str], ⟨_, hu, .inl fun x y => by simp [Instr.sameNow, str]; rw [beq_toListBytes, ByteArray.toList_eq, ByteArray.toList_eq, Bool.eq_iff_iff]; simp⟩, fun x => by unfold str; rw [Instr.sameBits, beq_toListBytes]; simp⟩
end Go.Proofs.YtbcnegennmpliaaDoor
