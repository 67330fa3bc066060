/- An entry of a map, found and then stored into. Conditions: as each says. -/
import Derived.Test.YtbcnegennmpliaaDoorSl18
namespace Go.Proofs.YtbcnegennmpliaaDoor
set_option linter.unusedVariables false
set_option linter.unusedSimpArgs false
open Go.RowKit
section
variable {α β : Type} [DecidableEq α] {P : Program} {T : TypeId} {ek : α → Value} {ev : β → Value}
theorem mpos_put : ∀ (l : List (α × β)) (x : α) (y : β) (i : Nat), ∃ j, mpos (mput l x y) x i = some (j, y)
  | [], x, y, i => ⟨i, by simp [mput, mpos]⟩
  | p :: l, x, y, i => by
    by_cases h : p.1 = x
    · exact ⟨i, by simp [mput, mpos, h]⟩
    · obtain ⟨j, hj⟩ := mpos_put l x y (i + 1)
      exact ⟨j, by simp [mput, mpos, h, hj]⟩
theorem mput_put : ∀ (l : List (α × β)) (x : α) (y z : β), mput (mput l x y) x z = mput l x z
  | [], x, y, z => by simp [mput]
  | p :: l, x, y, z => by
    by_cases h : p.1 = x
    · simp [mput, h]
    · simp [mput, h, mput_put l x y z]
def mapP (b : Nat) (ek : α → Value) (ev : β → Value) (kvs : List (α × β)) (x : α) (q : β) (st : Int) : HA := fun h => ∃ (es : Array MapEntry) (clock : Nat) (kvs' : List (α × β)) (j : Nat) (e : MapEntry),
  h b = some (.map es clock) ∧ esOk ek ev es.toList kvs' ∧ mpos kvs' x 0 = some (j, q) ∧ (∀ u, mput kvs' x u = mput kvs x u) ∧ (es.toList.map (·.born)).Nodup ∧ (∀ e ∈ es.toList, e.born < clock) ∧ es.toList[j]? = some e ∧ (e.born : Int) = st
theorem nodup_at {es : List MapEntry} (h : (es.map (·.born)).Nodup) {i j : Nat} {a b : MapEntry} (ha : es[i]? = some a) (hb : es[j]? = some b) (hab : a.born = b.born) : i = j := by
  obtain ⟨h1, e1⟩ := List.getElem?_eq_some_iff.1 ha
  obtain ⟨h2, e2⟩ := List.getElem?_eq_some_iff.1 hb
  have hp := List.pairwise_iff_getElem.1 h
  rcases Nat.lt_trichotomy i j with hij | hij | hij
  · have h3 := hp i j (by simpa using h1) (by simpa using h2) hij; simp [e1, e2, hab] at h3
  · exact hij
  · have h3 := hp j i (by simpa using h2) (by simpa using h1) hij; simp [e1, e2, hab] at h3
theorem mpos_put_none : ∀ (l : List (α × β)) (x : α) (y : β) (i : Nat), mpos l x i = none → mpos (mput l x y) x i = some (i + l.length, y)
  | [], x, y, i, _ => by simp [mput, mpos]
  | p :: l, x, y, i, h => by
    by_cases hx : p.1 = x
    · simp [mpos, hx] at h
    · simp only [mpos, hx, if_false] at h
      have := mpos_put_none l x y (i + 1) h
      simp [mput, mpos, hx, this]; omega
theorem modify_same {es : Array MapEntry} {j : Nat} {f : MapEntry → MapEntry} (h : ∀ e, es.toList[j]? = some e → f e = e) : es.modify j f = es := by
  apply Array.ext_getElem?
  intro i
  rw [Array.getElem?_modify]
  by_cases hj : j = i
  · subst hj
    rw [if_pos rfl]
    cases he : es[j]? with
    | none => rfl
    | some e => have := h e (by simpa using he); simp [this]
  · rw [if_neg hj]
theorem find_at {es : Array MapEntry} {j : Nat} {e : MapEntry} (h : (es.toList.map (·.born)).Nodup) (hj : es.toList[j]? = some e) : es.findIdx? (fun x => (x.born : Int) == (e.born : Int)) = some j := by
  rw [Array.findIdx?_eq_some_iff_getElem]
  obtain ⟨h1, e1⟩ := List.getElem?_eq_some_iff.1 hj
  have h1' : j < es.size := by simpa using h1
  refine ⟨h1', ?_, fun i hi hc => ?_⟩
  · simp at e1; simp [e1]
  · have h2 : es.toList[i]? = some es[i] := by simp [List.getElem?_eq_getElem, show i < es.size by omega]
    have := nodup_at h h2 hj (Int.ofNat_inj.1 (by simpa using hc))
    omega
end
section
variable {α β : Type} [DecidableEq α] {T VT : TypeId} {ek : α → Value} {ev : β → Value} {K : Cx} {E : Env} {H : List HA} {o : Oper} {t : TypeId} {b : Nat} {kvs : List (α × β)}
theorem re_mentry {x y : Operand} {z : β} (k : Nat) (v : α) (ho : o.op = .mapEntry t x y) (hx : Go.Proofs.YtbcnegennmpliaaDoor.ev E x = some (.map (some b))) (hy : Go.Proofs.YtbcnegennmpliaaDoor.ev E y = some (ek v)) (hu : K.P.underlying t = some (.map T VT)) (hK : KeyT K.P T ek) (hz : ∀ w, (zeroValue VT).run K.P w = .ok (ev z) w) (hk : H[k]? = some (mapO b ek ev kvs)) :
    RE K (Y := Int) o E H (fun s => .tuple #[ev ((mget kvs v).getD z), .int .i64 s]) (fun s => H.set k (mapP b ek ev kvs v ((mget kvs v).getD z) s)) :=
  re_run (by rw [ho]; intro c h; cases h) fun a w he s => by
    obtain ⟨es, clock, h1, h2, h3, s2⟩ := (s.focus hk).map_open
    have hb := s2.pts_at (i := 0) rfl
    have hf := hK.find w h1 v
    have hg := mpos_get kvs v 0
    cases hp : mpos kvs v 0 with
    | none =>
      rw [hp] at hf hg
      simp at hg
      have hj := mpos_put_none kvs v z 0 hp
      have hsz : es.size = kvs.length := by have := congrArg List.length h1; simpa [esOk] using this
      refine ⟨(clock : Int), _, ?_, Sat.unfocus hk ((s2.upd (b := b) (o' := .map (es.push { key := ek v, val := ev z, born := clock }) (clock + 1))).ent (Ent.sel' 0 rfl (fun h x => ⟨_, _, mput kvs v z, 0 + kvs.length, { key := ek v, val := ev z, born := clock }, x, ?_, by rw [← hg]; exact hj, fun u => mput_put kvs v z u, ?_, ?_, ?_, rfl⟩) (Ent.refl _)))⟩
      · unfold execOp; simp only [ho]; rw [he.ev hx, he.ev hy]
        simp [Instr.mapEntry, underlying, program, Sem.run, hu, getObj, hb, hK.chk, hf, setObj, hz, goInt, ← hg]
      · simpa using mput_none kvs es.toList v z 0 clock h1 hp
      · simp only [Array.toList_push, List.map_append, List.map_cons, List.map_nil]
        refine List.nodup_append.2 ⟨h2, by simp, fun a ha b hb => ?_⟩
        simp only [List.mem_singleton] at hb
        obtain ⟨e, he, rfl⟩ := List.mem_map.1 ha
        have := h3 e he
        omega
      · intro e he
        simp only [Array.toList_push, List.mem_append, List.mem_singleton] at he
        rcases he with he | rfl
        · have := h3 e he; omega
        · simp
      · simp [← hsz]
    | some p =>
      obtain ⟨j, q⟩ := p
      rw [hp] at hf hg
      simp at hg
      obtain ⟨e0, hj, hkey⟩ := esOk_get kvs es.toList v 0 j q h1 hp
      rw [Nat.sub_zero] at hj
      have hj' : es[j]? = some e0 := by simpa using hj
      have hkts : (Instr.keyThatStays (ek v) (ek v)).run K.P w = .ok (ek v) w := by simp [Instr.keyThatStays, hK.bits]
      have hm : (es.modify j fun e => { e with key := ek v }) = es := modify_same fun e h => by rw [hj] at h; cases h; rw [← hkey]
      refine ⟨(e0.born : Int), _, ?_, Sat.unfocus hk ((s2.upd (b := b) (o' := .map es clock)).ent (Ent.sel' 0 rfl (fun h x => ⟨es, clock, kvs, j, e0, x, h1, by rw [← hg]; exact hp, fun u => rfl, h2, h3, hj, rfl⟩) (Ent.refl _)))⟩
      unfold execOp; simp only [ho]; rw [he.ev hx, he.ev hy]
      simp [Instr.mapEntry, underlying, program, Sem.run, hu, getObj, hb, hK.chk, hf, hj', hkey, hkts, setObj, goInt, ← hg, hm]
theorem q_mlookP {x y : Operand} {st : Int} (k : Nat) (v : α) (q : β) (ho : o.op = .lookup t x y false) (hx : Go.Proofs.YtbcnegennmpliaaDoor.ev E x = some (.map (some b))) (hy : Go.Proofs.YtbcnegennmpliaaDoor.ev E y = some (ek v)) (hu : K.P.underlying t = some (.map T VT)) (hK : KeyT K.P T ek) (hk : H[k]? = some (mapP b ek ev kvs v q st)) :
    RQ K o E H (ev q) :=
  rq_same (by rw [ho]; intro c h; cases h) fun a w he s => by
    obtain ⟨x1, x2, d, e, ⟨es, clock, kvs', j, e0, g1, g2, g3, g4, g5, g6, g7, rfl⟩, r⟩ := (s.focus hk).hp
    have s0 := s.focus hk
    have s2 : Sat _ (pts b (.map es clock) :: _) w := ⟨s0.os, s0.tape, s0.output, s0.size, x1, x2, d, e, g1, r⟩
    have hb := s2.pts_at (i := 0) rfl
    have hf := hK.find w g2 v
    unfold execOp; simp only [ho]; rw [he.ev hx, he.ev hy]
    rw [g3] at hf
    simp [Instr.lookup, underlying, program, Sem.run, hu, getObj, hb, hK.chk, hf]
theorem re_mstore {x y z : Operand} {v : α} {q0 : β} {st : Int} (k : Nat) (u : β) (ho : o.op = .entryStore t x y z) (hx : Go.Proofs.YtbcnegennmpliaaDoor.ev E x = some (.map (some b))) (hy : Go.Proofs.YtbcnegennmpliaaDoor.ev E y = some (.int .i64 st)) (hz : Go.Proofs.YtbcnegennmpliaaDoor.ev E z = some (ev u)) (hk : H[k]? = some (mapP b ek ev kvs v q0 st)) :
    RE K (Y := Unit) o E H (fun _ => undef) (fun _ => H.set k (mapO b ek ev (mput kvs v u))) :=
  re_skip (by rw [ho]; intro c h; cases h) fun a w he s => by
    obtain ⟨x1, x2, d, e, ⟨es, clock, kvs', j, e0, g1, g2, g3, g4, g5, g6, g7, rfl⟩, r⟩ := (s.focus hk).hp
    have s0 := s.focus hk
    have s2 : Sat _ (pts b (.map es clock) :: _) w := ⟨s0.os, s0.tape, s0.output, s0.size, x1, x2, d, e, g1, r⟩
    have hb := s2.pts_at (i := 0) rfl
    obtain ⟨e1, hj, hkey⟩ := esOk_get kvs' es.toList v 0 j q0 g2 g3
    rw [Nat.sub_zero, g7] at hj
    cases hj
    have hm : (es.modify j fun e => { e with key := ek v, val := ev u }) = es.modify j fun e => { e with val := ev u } := by
      apply Array.ext_getElem?
      intro i
      rw [Array.getElem?_modify, Array.getElem?_modify]
      by_cases hji : j = i
      · subst hji
        have : es[j]? = some e0 := by simpa using g7
        simp [this, ← hkey]
      · simp [hji]
    refine ⟨(), _, ?_, Sat.unfocus hk ((s2.upd (b := b) (o' := .map (es.modify j fun e => { e with val := ev u }) clock)).map_close ?_ ?_ ?_)⟩
    · unfold execOp; simp only [ho]; rw [he.ev hx, he.ev hy, he.ev hz]
      simp [Instr.entryStore, Sem.run, getObj, hb, asInt, asIntOf, find_at g5 g7, setObj]
    · rw [← g4, ← hm, modify_toList]
      simpa using mput_some kvs' es.toList v u 0 j q0 g2 g3
    · rw [modify_toList]
      have : (es.toList.modify j fun e => { e with val := ev u }).map (·.born) = es.toList.map (·.born) := by
        apply List.ext_getElem?
        intro i
        simp only [List.getElem?_map, List.getElem?_modify]
        by_cases hi : j = i <;> simp [hi] <;> cases es[i]? <;> simp
      rw [this]; exact g5
    · rw [modify_toList]
      intro e he
      obtain ⟨i, hi⟩ := List.mem_iff_getElem?.1 he
      rw [List.getElem?_modify] at hi
      cases hq : es.toList[i]? with
      | none => rw [hq] at hi; simp at hi
      | some e1 =>
        rw [hq] at hi
        have := g6 e1 (List.mem_of_getElem? hq)
        by_cases hji : j = i
        · simp [hji] at hi; rw [← hi]; exact this
        · simp [hji] at hi; rw [← hi]; exact this
end
end Go.Proofs.YtbcnegennmpliaaDoor
