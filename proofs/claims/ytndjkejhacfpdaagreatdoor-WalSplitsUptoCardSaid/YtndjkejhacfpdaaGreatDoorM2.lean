/- Texts that lead to the law WalSplits: Sl14, Sl15, Sl16, Sl17, Sl18, Sl19, Sl20, Sl21, Sl23, Sl24, Sl25, Sl26, Sl27, Sh, Sl28, Sl29, Sl30, Sl31, Sl32, Sl33. Conditions: as each says. -/
import Derived.Test.YtndjkejhacfpdaaGreatDoorM1
import Derived.Maps.Own
import Derived.Maps.Range
import Derived.Sort.KeysCollected
import Derived.Lib.SlKeysI
import Derived.Maps.RangeRun
import Derived.Lib.LaidTab
import Derived.Shelf.Strconv.Itoa4
import Derived.Shelf.Strconv.ErrVarParseInt
import Derived.Shelf.SlIter.Nil
import Derived.Shelf.SlIterI.Nil
import Derived.Shelf.SortM.Plain
import Derived.Shelf.SortM.SortNone
import Derived.Shelf.Strconv.Itoa3
import Derived.Test.YtndjkejhacfpdaaGreatDoorProg
import Derived.RecoverIn
import Derived.Sort.Row
namespace Go.Proofs.YtndjkejhacfpdaaGreatDoor
set_option linter.unusedVariables false
set_option linter.unusedSimpArgs false
open Go.RowKit
section
variable {K : Cx} {R S Y : Type} {Q : cT R} {E : Env} {H : List HA} {o : Option R}
def kG (K : Cx) (ops : Array Oper) (anc : List (List Nat)) {Γ : Type} (val : Γ → Nat → Value) (E : Env) (heap : Nat → Γ → List HA) (s t i : Nat) (pre : List Nat) (γ : Γ) : Prop :=
  ∃ op, ops[i]? = some op ∧ ∃ Ei, dq ops anc (val γ) E i Ei ∧ GOk ops op Ei ∧
    RE K (Y := { γ' : Γ // fE pre (val γ') (val γ) }) op Ei (heap s γ) (fun γ' => val γ'.1 i) (fun γ' => heap t γ'.1)
theorem kG.gen {ops : Array Oper} {anc : List (List Nat)} {Γ Z : Type} {val : Γ → Nat → Value} {heap : Nat → Γ → List HA} {s t i : Nat} {pre : List Nat} {γ : Γ} {op : Oper} {v : Z → Value} {H' : Z → List HA} (Ei : Env) (f : Z → Γ) (ho : ops[i]? = some op) (hg : GOk ops op Ei) (he : dq ops anc (val γ) E i Ei)
    (h : RE K (Y := Z) op Ei (heap s γ) v H') (ha : ∀ z, fE pre (val (f z)) (val γ)) (hv : ∀ z, op.dst = none ∨ v z = val (f z) i) (hH : ∀ z, Ent (H' z) (heap t (f z))) : kG K ops anc val E heap s t i pre γ :=
  ⟨op, ho, Ei, he, hg, fun a w hh hs next Q hn => h a w hh hs next Q fun z w' s => by
    have := hn ⟨f z, ha z⟩ w' (s.ent (hH z))
    rcases hv z with e | e
    · rw [e] at this ⊢; exact this
    · rw [e]; exact this⟩
theorem kG.mk {ops : Array Oper} {anc : List (List Nat)} {Γ Z : Type} {val : Γ → Nat → Value} {heap : Nat → Γ → List HA} {s t i : Nat} {pre : List Nat} {γ : Γ} {op : Oper} {v : Z → Value} {H' : Z → List HA} (Ei : Env) (f : Z → Γ) (ho : ops[i]? = some op) (hg : op.guard = none) (he : dq ops anc (val γ) E i Ei)
    (h : RE K (Y := Z) op Ei (heap s γ) v H') (ha : ∀ z, fE pre (val (f z)) (val γ)) (hv : ∀ z, op.dst = none ∨ v z = val (f z) i) (hH : ∀ z, Ent (H' z) (heap t (f z))) : kG K ops anc val E heap s t i pre γ :=
  kG.gen Ei f ho (.inl hg) he h ha hv hH
theorem kG.yes {ops : Array Oper} {anc : List (List Nat)} {Γ Z : Type} {val : Γ → Nat → Value} {heap : Nat → Γ → List HA} {s t i : Nat} {pre : List Nat} {γ : Γ} {j dj : Nat} {want b : Bool} {op : Oper} {v : Z → Value} {H' : Z → List HA} (Ei : Env) (f : Z → Γ) (ho : ops[i]? = some op) (hg : op.guard = some (j, want)) (hj : dD ops j = some dj) (hb : lk Ei dj = some (.bool b)) (hw : (b == want) = true) (he : dq ops anc (val γ) E i Ei)
    (h : RE K (Y := Z) op Ei (heap s γ) v H') (ha : ∀ z, fE pre (val (f z)) (val γ)) (hv : ∀ z, op.dst = none ∨ v z = val (f z) i) (hH : ∀ z, Ent (H' z) (heap t (f z))) : kG K ops anc val E heap s t i pre γ :=
  kG.gen Ei f ho (.inr ⟨j, want, dj, b, hg, hj, hb, hw⟩) he h ha hv hH
def stg (ids : List (List Nat)) (s : Nat) : List Nat := ids.getD s []
def qf (anc : List (List Nat)) (effs : List Nat) (ids : List (List Nat)) (i s : Nat) : Bool :=
  effs.any fun e => ((fm anc i).contains e && !(stg ids s).contains e) || ((fm anc e).contains i && (stg ids s).contains e)
theorem RE.lend {op : Oper} {v : Y → Value} {H' : Y → List HA} {T : TypeId} {sz n c : Nat} {a : Option Addr} {cs : List Value} (k : Nat) (hk : H[k]? = some (Row T sz a n c cs)) (h : Rd (Row T sz a n c cs) a cs → n ≤ c → c ≤ maxLen → n * sz ≤ cs.length → RE K op E H v H') : RE K op E H v H' := by
  intro a' w he hs next Q hn
  rcases (hs.focus hk).row_cases with ⟨h1, h2, h3, h0⟩ | ⟨b, off, pre, junk, fz, ha, ok, _⟩
  · subst h2; subst h3
    exact h (.inl h0) (Nat.le_refl _) (Nat.zero_le _) (by simp) a' w he hs next Q hn
  · subst ha
    refine h (.inr ⟨b, off, rfl, fun x hx => ?_⟩) ok.le ok.cap ok.len a' w he hs next Q hn
    rcases hx with ⟨h, _⟩ | ⟨b', off', pre', junk', fz', e, ok', hb⟩
    · cases h
    · cases e
      refine ⟨_, T, fz', hb, fun j v hj => ?_⟩
      have := hQ (pre := pre') (junk := junk') hj
      rw [ok'.offs] at this
      simpa using this
theorem jh {α : Type} {V : α → List Value → Prop} {xs : List α} {cd : Code} {T : TypeId} {n c : Nat} {a : Option Addr} {rs : List (List Value)} {i : Nat} (k : Nat) (hk : H[k]? = some (Row T n a xs.length c rs.flatten)) (hl : bx n V xs rs) (hn : Nat.blt 0 n = true) (hi : i < xs.length) (d : α)
    (h : ∀ b off r, a = some ⟨b, off, none⟩ → V (xs.getD i d) r → r.length = n → (∀ {H' : List HA} (k : Nat), H'[k]? = some (Row T n a xs.length c rs.flatten) → ∀ j v, r[j]? = some v → dH H' b (off + i * n + j) v) → Sim K Q cd E H o) : Sim K Q cd E H o := by
  intro r hr a' w he hs
  exact fw (rest := []) (ops := #[]) (Q := fun r e a w => cd.wpIn (fen K.ro) 0 K.P (Q r) a w) k hk hl hn hi d (fun b off r h1 h2 h3 h4 r hr a w he hs => h b off _ h1 h2 h3 h4 r hr a w he hs) r hr a' w he hs
end
end Go.Proofs.YtndjkejhacfpdaaGreatDoor

namespace Go.Proofs.YtndjkejhacfpdaaGreatDoor
set_option linter.unusedVariables false
set_option linter.unusedSimpArgs false
set_option linter.unusedSectionVars false
open Go.RowKit
section
variable {α β : Type} [DecidableEq α]
def aR : List (α × β) → α → Option β
  | [], _ => none
  | p :: l, x => if p.1 = x then some p.2 else aR l x
def aV : List (α × β) → α → β → List (α × β)
  | [], x, y => [(x, y)]
  | p :: l, x, y => if p.1 = x then (x, y) :: l else p :: aV l x y
def fY : List (α × β) → α → List (α × β)
  | [], _ => []
  | p :: l, x => if p.1 = x then l else p :: fY l x
def dR : List (α × β) → α → Nat → Option (Nat × β)
  | [], _, _ => none
  | p :: l, x, i => if p.1 = x then some (i, p.2) else dR l x (i + 1)
theorem jX : ∀ (l : List (α × β)) (x : α) (i : Nat), (dR l x i).map (·.2) = aR l x
  | [], _, _ => rfl
  | p :: l, x, i => by
    simp only [dR, aR]
    split
    · rfl
    · exact jX l x (i + 1)
end
structure hP (P : Program) (T : TypeId) {α : Type} [DecidableEq α] (ek : α → Value) : Prop where
  chk : ∀ e x w, (Instr.checkKey e 10000 T (ek x)).run P w = .ok () w
  desc : ∃ u, P.underlying T = some u ∧ ((∀ x y, Instr.sameNow u (ek x) (ek y) = some (decide (x = y))) ∨ ((∀ x y, Instr.sameNow u (ek x) (ek y) = none) ∧ ∀ x y w, (Op.equal T (ek x) (ek y)).run P w = .ok (decide (x = y)) w))
  bits : ∀ x, Instr.sameBits 10000 (ek x) (ek x) = true
section
variable {α β : Type} [DecidableEq α] {P : Program} {T : TypeId} {ek : α → Value} {ev : β → Value}
def cG (ek : α → Value) (ev : β → Value) (es : List MapEntry) (kvs : List (α × β)) : Prop := es.map (fun e => (e.key, e.val)) = kvs.map fun p => (ek p.1, ev p.2)
theorem ks {u : TypeDesc} (hs : ∀ x y, Instr.sameNow u (ek x) (ek y) = some (decide (x = y))) (x : α) : ∀ (kvs : List (α × β)) (es : List MapEntry) (i : Nat), cG ek ev es kvs → Instr.findNow u (ek x) es i = some ((dR kvs x i).map fun p => (p.1, ev p.2))
  | [], es, i, h => by
    have : es = [] := by simpa [cG] using h
    subst this; rfl
  | p :: l, [], i, h => by simp [cG] at h
  | p :: l, e :: es, i, h => by
    simp only [cG, List.map_cons, List.cons.injEq, Prod.mk.injEq] at h
    obtain ⟨⟨h1, h2⟩, h3⟩ := h
    simp only [Instr.findNow, dR]
    rw [h1, hs]
    by_cases hx : p.1 = x
    · rw [if_pos hx, hx]; simp [h2]
    · rw [if_neg hx, decide_eq_false (fun e => hx e.symm)]
      exact ks hs x l es (i + 1) h3
theorem jG {x : α} (hs : ∀ x y w, (Op.equal T (ek x) (ek y)).run P w = .ok (decide (x = y)) w) (w : World) : ∀ (kvs : List (α × β)) (es : List MapEntry) (i : Nat), cG ek ev es kvs → (Instr.findAsking T (ek x) es i).run P w = .ok ((dR kvs x i).map fun p => (p.1, ev p.2)) w
  | [], es, i, h => by
    have : es = [] := by simpa [cG] using h
    subst this; simp [Instr.findAsking, dR]
  | p :: l, [], i, h => by simp [cG] at h
  | p :: l, e :: es, i, h => by
    simp only [cG, List.map_cons, List.cons.injEq, Prod.mk.injEq] at h
    obtain ⟨⟨h1, h2⟩, h3⟩ := h
    simp only [Instr.findAsking, dR, Sem.run_bind]
    rw [h1, hs]
    simp only [Result.andThen_ok]
    by_cases hx : p.1 = x
    · rw [if_pos hx, hx]; simp [h2]
    · rw [if_neg hx, decide_eq_false (fun e => hx e.symm)]
      simpa using jG hs w l es (i + 1) h3
theorem oH {u : TypeDesc} (hs : ∀ x y, Instr.sameNow u (ek x) (ek y) = none) (x : α) : ∀ (kvs : List (α × β)) (es : List MapEntry) (i : Nat), cG ek ev es kvs → kvs ≠ [] → Instr.findNow u (ek x) es i = none
  | [], es, i, h, hn => absurd rfl hn
  | p :: l, [], i, h, _ => by simp [cG] at h
  | p :: l, e :: es, i, h, _ => by
    simp only [cG, List.map_cons, List.cons.injEq, Prod.mk.injEq] at h
    simp only [Instr.findNow]
    rw [h.1.1, hs]
theorem hP.find (K : hP P T ek) (w : World) {kvs : List (α × β)} {es : List MapEntry} (h : cG ek ev es kvs) (x : α) : (Instr.findKey T (ek x) es).run P w = .ok ((dR kvs x 0).map fun p => (p.1, ev p.2)) w := by
  obtain ⟨u, hu, hs⟩ := K.desc
  unfold Instr.findKey
  simp only [Sem.run_bind, underlying, program, Sem.run, hu, Result.andThen_ok, Sem.run_pure]
  rcases hs with hs | ⟨hs, he⟩
  · rw [ks hs x kvs es 0 h]; simp
  · by_cases hn : kvs = []
    · subst hn
      have : es = [] := by simpa [cG] using h
      subst this
      simp [Instr.findNow, dR]
    · rw [oH hs x kvs es 0 h hn]
      exact jG he w kvs es 0 h
def aj (b : Nat) (ek : α → Value) (ev : β → Value) (kvs : List (α × β)) : HA := fun h => ∃ es clock, h b = some (.map es clock) ∧ cG ek ev es.toList kvs ∧ (es.toList.map (·.born)).Nodup ∧ ∀ e ∈ es.toList, e.born < clock
theorem Sat.map_open {W w : World} {l : List HA} {b : Nat} {kvs : List (α × β)} (s : Sat W (aj b ek ev kvs :: l) w) :
    ∃ es clock, cG ek ev es.toList kvs ∧ (es.toList.map (·.born)).Nodup ∧ (∀ e ∈ es.toList, e.born < clock) ∧ Sat W (pts b (.map es clock) :: l) w := by
  obtain ⟨x, y, d, e, ⟨es, clock, h1, h2, h3, h4⟩, r⟩ := s.hp
  exact ⟨es, clock, h2, h3, h4, s.os, s.tape, s.output, s.size, x, y, d, e, h1, r⟩
theorem Sat.map_close {W w : World} {l : List HA} {b clock : Nat} {es : Array MapEntry} {kvs : List (α × β)} (s : Sat W (pts b (.map es clock) :: l) w) (h1 : cG ek ev es.toList kvs) (h2 : (es.toList.map (·.born)).Nodup) (h3 : ∀ e ∈ es.toList, e.born < clock) : Sat W (aj b ek ev kvs :: l) w :=
  s.ent (Ent.sel' 0 rfl (fun h x => ⟨es, clock, x, h1, h2, h3⟩) (Ent.refl _))
theorem jH : ∀ (l : List (α × β)) (x : α) (i j : Nat) (y : β), dR l x i = some (j, y) → i ≤ j ∧ j - i < l.length
  | [], _, _, _, _, h => by simp [dR] at h
  | p :: l, x, i, j, y, h => by
    simp only [dR] at h
    split at h
    · simp at h; obtain ⟨rfl, _⟩ := h; simp
    · obtain ⟨h1, h2⟩ := jH l x (i + 1) j y h; simp; omega
theorem kt : ∀ (kvs : List (α × β)) (es : List MapEntry) (x : α) (y : β) (i j : Nat) (z : β), cG ek ev es kvs → dR kvs x i = some (j, z) → cG ek ev (es.modify (j - i) fun e => { e with key := ek x, val := ev y }) (aV kvs x y)
  | [], es, x, y, i, j, z, _, h => by simp [dR] at h
  | p :: l, [], x, y, i, j, z, he, h => by simp [cG] at he
  | p :: l, e :: es, x, y, i, j, z, he, h => by
    simp only [cG, List.map_cons, List.cons.injEq, Prod.mk.injEq] at he
    obtain ⟨⟨h1, h2⟩, h3⟩ := he
    simp only [dR] at h
    simp only [aV]
    split at h
    · rename_i hx
      simp at h
      rw [if_pos hx, ← h.1]
      simp [cG]
      exact h3
    · rename_i hx
      obtain ⟨a, b⟩ := jH l x (i + 1) j z h
      rw [if_neg hx, show j - i = (j - (i + 1)) + 1 by omega]
      simp only [List.modify_succ_cons, cG, List.map_cons, List.cons.injEq, Prod.mk.injEq]
      exact ⟨⟨h1, h2⟩, kt l es x y (i + 1) j z h3 h⟩
theorem ku : ∀ (kvs : List (α × β)) (es : List MapEntry) (x : α) (y : β) (i c : Nat), cG ek ev es kvs → dR kvs x i = none → cG ek ev (es ++ [{ key := ek x, val := ev y, born := c }]) (aV kvs x y)
  | [], es, x, y, i, c, he, _ => by
    have : es = [] := by simpa [cG] using he
    subst this; simp [cG, aV]
  | p :: l, [], x, y, i, c, he, h => by simp [cG] at he
  | p :: l, e :: es, x, y, i, c, he, h => by
    simp only [cG, List.map_cons, List.cons.injEq, Prod.mk.injEq] at he
    obtain ⟨⟨h1, h2⟩, h3⟩ := he
    simp only [dR] at h
    simp only [aV]
    split at h
    · simp at h
    · rename_i hx
      rw [if_neg hx]
      simp only [List.cons_append, cG, List.map_cons, List.cons.injEq, Prod.mk.injEq]
      exact ⟨⟨h1, h2⟩, ku l es x y (i + 1) c h3 h⟩
theorem mX : ∀ (kvs : List (α × β)) (es : List MapEntry) (x : α) (i j : Nat) (z : β), cG ek ev es kvs → dR kvs x i = some (j, z) → cG ek ev (es.eraseIdx (j - i)) (fY kvs x)
  | [], es, x, i, j, z, _, h => by simp [dR] at h
  | p :: l, [], x, i, j, z, he, h => by simp [cG] at he
  | p :: l, e :: es, x, i, j, z, he, h => by
    simp only [cG, List.map_cons, List.cons.injEq, Prod.mk.injEq] at he
    obtain ⟨⟨h1, h2⟩, h3⟩ := he
    simp only [dR] at h
    simp only [fY]
    split at h
    · rename_i hx
      simp at h
      rw [if_pos hx, ← h.1]
      simpa [cG] using h3
    · rename_i hx
      obtain ⟨a, b⟩ := jH l x (i + 1) j z h
      rw [if_neg hx, show j - i = (j - (i + 1)) + 1 by omega]
      simp only [List.eraseIdx_cons_succ, cG, List.map_cons, List.cons.injEq, Prod.mk.injEq]
      exact ⟨⟨h1, h2⟩, mX l es x (i + 1) j z h3 h⟩
theorem mY : ∀ (kvs : List (α × β)) (x : α) (i : Nat), dR kvs x i = none → fY kvs x = kvs
  | [], _, _, _ => rfl
  | p :: l, x, i, h => by
    simp only [dR] at h
    simp only [fY]
    split at h
    · simp at h
    · rename_i hx; rw [if_neg hx, mY l x (i + 1) h]
theorem lx : ∀ (kvs : List (α × β)) (es : List MapEntry) (x : α) (i j : Nat) (z : β), cG ek ev es kvs → dR kvs x i = some (j, z) → ∃ e, es[j - i]? = some e ∧ e.key = ek x
  | [], es, x, i, j, z, _, h => by simp [dR] at h
  | p :: l, [], x, i, j, z, he, h => by simp [cG] at he
  | p :: l, e :: es, x, i, j, z, he, h => by
    simp only [cG, List.map_cons, List.cons.injEq, Prod.mk.injEq] at he
    obtain ⟨⟨h1, h2⟩, h3⟩ := he
    simp only [dR] at h
    split at h
    · rename_i hx
      simp at h
      rw [← h.1]
      exact ⟨e, by simp, by rw [h1, hx]⟩
    · obtain ⟨a, b⟩ := jH l x (i + 1) j z h
      rw [show j - i = (j - (i + 1)) + 1 by omega]
      simpa using lx l es x (i + 1) j z h3 h
end
section
variable {K : Cx} {R S Y : Type} {Q : cT R} {E : Env} {H : List HA} {opt : Option R} {ops : Array Oper} {rest : List Oper} {o : Oper} {α β : Type} [DecidableEq α] {ek : α → Value} {ev : β → Value} {T VT t : TypeId} {b : Nat} {kvs : List (α × β)}
theorem oI {t : TypeId} (ho : o.op = .makeMap t none) : RE K (Y := Nat) o E H (fun b => .map (some b)) (fun b => aj b ek ev [] :: H) :=
  fu (by rw [ho]; intro c h; cases h) fun a w he hs => by
    refine ⟨w.heap.size, { w with heap := w.heap.push (.map #[] 0) }, ?_, (hs.new _).map_close (by simp [cG]) (by simp) (by simp)⟩
    unfold execOp; simp only [ho]
    simp [Instr.makeMap, newObj, Sem.run]
theorem iX {x y : Operand} {z : β} (k : Nat) (v : α) (ho : o.op = .lookup t x y false) (hx : Go.Proofs.YtndjkejhacfpdaaGreatDoor.ev E x = some (.map (some b))) (hy : Go.Proofs.YtndjkejhacfpdaaGreatDoor.ev E y = some (ek v)) (hu : K.P.underlying t = some (.map T VT)) (hK : hP K.P T ek) (hz : ∀ w, (zeroValue VT).run K.P w = .ok (ev z) w) (hk : H[k]? = some (aj b ek ev kvs)) :
    RQ K o E H (ev ((aR kvs v).getD z)) :=
  ck (by rw [ho]; intro c h; cases h) fun a w he s => by
    obtain ⟨es, clock, h1, h2, h3, s2⟩ := (s.focus hk).map_open
    have hb := s2.pts_at (i := 0) rfl
    have hf := hK.find w h1 v
    have hg := jX kvs v 0
    unfold execOp; simp only [ho]; rw [he.ev hx, he.ev hy]
    cases hp : dR kvs v 0 with
    | none =>
      rw [hp] at hf hg
      simp at hg
      simp [Instr.lookup, underlying, program, Sem.run, hu, getObj, hb, hK.chk, hf, hz, ← hg]
    | some p =>
      rw [hp] at hf hg
      simp at hg
      simp [Instr.lookup, underlying, program, Sem.run, hu, getObj, hb, hK.chk, hf, ← hg]
theorem ft (es : Array MapEntry) (i : Nat) (f : MapEntry → MapEntry) : (es.modify i f).toList = es.toList.modify i f := by
  apply List.ext_getElem?
  intro j
  simp [List.getElem?_modify, Array.getElem?_modify]
theorem sO {x y z : Operand} (k : Nat) (v : α) (u : β) (ho : o.op = .mapUpdate t x y z) (hx : Go.Proofs.YtndjkejhacfpdaaGreatDoor.ev E x = some (.map (some b))) (hy : Go.Proofs.YtndjkejhacfpdaaGreatDoor.ev E y = some (ek v)) (hz : Go.Proofs.YtndjkejhacfpdaaGreatDoor.ev E z = some (ev u)) (hu : K.P.underlying t = some (.map T VT)) (hK : hP K.P T ek) (hk : H[k]? = some (aj b ek ev kvs)) :
    RE K (Y := Unit) o E H (fun _ => undef) (fun _ => H.set k (aj b ek ev (aV kvs v u))) :=
  mn (by rw [ho]; intro c h; cases h) fun a w he s => by
    obtain ⟨es, clock, h1, h2, h3, s2⟩ := (s.focus hk).map_open
    have hb := s2.pts_at (i := 0) rfl
    have hf := hK.find w h1 v
    cases hp : dR kvs v 0 with
    | none =>
      rw [hp] at hf
      refine ⟨(), _, ?_, Sat.unfocus hk ((s2.upd (b := b) (o' := .map (es.push { key := ek v, val := ev u, born := clock }) (clock + 1))).map_close ?_ ?_ ?_)⟩
      · unfold execOp; simp only [ho]; rw [he.ev hx, he.ev hy, he.ev hz]
        simp [Instr.mapUpdate, underlying, program, Sem.run, hu, getObj, hb, hK.chk, hf, setObj]
      · simpa using ku kvs es.toList v u 0 clock h1 hp
      · simp only [Array.toList_push, List.map_append, List.map_cons, List.map_nil]
        refine List.nodup_append.2 ⟨h2, by simp, fun a ha b hb => ?_⟩
        simp only [List.mem_singleton] at hb
        obtain ⟨e, he, rfl⟩ := List.mem_map.1 ha
        have := h3 e he
        omega
      · intro e he
        simp only [Array.toList_push, List.mem_append, List.mem_singleton] at he
        rcases he with he | rfl
        · have := h3 e he; omega
        · simp
    | some p =>
      obtain ⟨j, q⟩ := p
      rw [hp] at hf
      obtain ⟨e0, hj, hkey⟩ := lx kvs es.toList v 0 j q h1 hp
      rw [Nat.sub_zero] at hj
      have hj' : es[j]? = some e0 := by simpa using hj
      have hkts : (Instr.keyThatStays (ek v) (ek v)).run K.P w = .ok (ek v) w := by simp [Instr.keyThatStays, hK.bits]
      refine ⟨(), _, ?_, Sat.unfocus hk ((s2.upd (b := b) (o' := .map (es.modify j fun e => { e with key := ek v, val := ev u }) clock)).map_close ?_ ?_ ?_)⟩
      · unfold execOp; simp only [ho]; rw [he.ev hx, he.ev hy, he.ev hz]
        simp [Instr.mapUpdate, underlying, program, Sem.run, hu, getObj, hb, hK.chk, hf, hj', hkey, hkts, setObj]
      · rw [ft]
        simpa using kt kvs es.toList v u 0 j q h1 hp
      · rw [ft]
        have : (es.toList.modify j fun e => { e with key := ek v, val := ev u }).map (·.born) = es.toList.map (·.born) := by
          apply List.ext_getElem?
          intro i
          simp only [List.getElem?_map, List.getElem?_modify]
          by_cases hi : j = i <;> simp [hi] <;> cases es[i]? <;> simp
        rw [this]; exact h2
      · rw [ft]
        intro e he
        obtain ⟨i, hi⟩ := List.mem_iff_getElem?.1 he
        rw [List.getElem?_modify] at hi
        cases hq : es.toList[i]? with
        | none => rw [hq] at hi; simp at hi
        | some e1 =>
          rw [hq] at hi
          have := h3 e1 (List.mem_of_getElem? hq)
          by_cases hji : j = i
          · simp [hji] at hi; rw [← hi]; exact this
          · simp [hji] at hi; rw [← hi]; exact this
theorem sP {x y : Operand} {ts : Array TypeId} (k : Nat) (v : α) (ho : o.op = .call { callee := .builtin .delete, args := #[x, y], argTypes := ts }) (hx : Go.Proofs.YtndjkejhacfpdaaGreatDoor.ev E x = some (.map (some b))) (hy : Go.Proofs.YtndjkejhacfpdaaGreatDoor.ev E y = some (ek v)) (ht : ts[0]? = some t) (hu : K.P.underlying t = some (.map T VT)) (hK : hP K.P T ek) (hk : H[k]? = some (aj b ek ev kvs)) :
    RE K (Y := Unit) o E H (fun _ => .tuple #[]) (fun _ => H.set k (aj b ek ev (fY kvs v))) :=
  fu (by rw [ho]; intro c h; cases h) fun a w he s => by
    obtain ⟨es, clock, h1, h2, h3, s2⟩ := (s.focus hk).map_open
    have hb := s2.pts_at (i := 0) rfl
    have hf := hK.find w h1 v
    cases hp : dR kvs v 0 with
    | none =>
      rw [hp] at hf
      refine ⟨(), _, ?_, Sat.unfocus hk ((s2.upd (b := b) (o' := .map es clock)).map_close (by rw [mY kvs v 0 hp]; exact h1) h2 h3)⟩
      unfold execOp; simp only [ho]
      simp [resolve, invoke, builtin, Builtin.delete_, ht, underlying, program, Sem.run, hu, he.ev hx, he.ev hy, getObj, hb, hK.chk, hf, setObj]
    | some p =>
      obtain ⟨j, q⟩ := p
      rw [hp] at hf
      have hjl := jH kvs v 0 j q hp
      have hsz : es.size = kvs.length := by have := congrArg List.length h1; simpa [cG] using this
      have hjs : j < es.size := by omega
      refine ⟨(), _, ?_, Sat.unfocus hk ((s2.upd (b := b) (o' := .map (es.eraseIdxIfInBounds j) clock)).map_close ?_ ?_ ?_)⟩
      · unfold execOp; simp only [ho]
        simp [resolve, invoke, builtin, Builtin.delete_, ht, underlying, program, Sem.run, hu, he.ev hx, he.ev hy, getObj, hb, hK.chk, hf, setObj]
      · have := mX kvs es.toList v 0 j q h1 hp
        simpa [Array.eraseIdxIfInBounds, hjs] using this
      · simp only [Array.eraseIdxIfInBounds, hjs, dif_pos, Array.toList_eraseIdx]
        exact (List.Sublist.map _ (List.eraseIdx_sublist _ _)).nodup h2
      · intro e he
        simp only [Array.eraseIdxIfInBounds, hjs, dif_pos, Array.toList_eraseIdx] at he
        exact h3 e ((List.eraseIdx_sublist _ _).subset he)
/-! ### Strings by order -/
end
/-! ### Keys -/
theorem rM {P : Program} {T : TypeId} {k : IntKind} (hu : P.underlying T = some (.int k)) : hP P T (fun x : Int => .int k x) :=
  ⟨fun e x w => by rw [show (10000 : Nat) = 9999 + 1 from rfl, Instr.checkKey]; simp [underlying, program, Sem.run, hu], ⟨_, hu, .inl fun x y => by simp [Instr.sameNow]; rw [Bool.eq_iff_iff]; simp⟩, fun x => by rw [Instr.sameBits]; simp⟩
theorem rO {P : Program} {T : TypeId} (hu : P.underlying T = some .string) : hP P T (fun x : List UInt8 => str x) :=
  ⟨fun e x w => by rw [show (10000 : Nat) = 9999 + 1 from rfl, Instr.checkKey]; simp [underlying, program, Sem.run, hu, str], ⟨_, hu, .inl fun x y => by simp [Instr.sameNow, str]; rw [beq_toListBytes, ByteArray.toList_eq, ByteArray.toList_eq, Bool.eq_iff_iff]; simp⟩, fun x => by unfold str; rw [Instr.sameBits, beq_toListBytes]; simp⟩
end Go.Proofs.YtndjkejhacfpdaaGreatDoor

namespace Go.Proofs.YtndjkejhacfpdaaGreatDoor
set_option linter.unusedVariables false
set_option linter.unusedSimpArgs false
set_option linter.unusedSectionVars false
open Go.RowKit
theorem nz (vs : List Value) (l m : List Value) (k : Nat) (h : k + vs.length ≤ l.length) : eO (l ++ m) k vs = eO l k vs ++ m := by
  rw [gC _ _ _ (by simp; omega), gC _ _ _ h, List.take_append_of_le_length (by omega), List.drop_append_of_le_length h]
  simp
theorem mC (vs : List Value) (l m : List Value) (k : Nat) (h : k + vs.length ≤ m.length) : eO (l ++ m) (l.length + k) vs = l ++ eO m k vs := by
  rw [gC _ _ _ (by simp; omega), gC _ _ _ h]
  rw [List.take_append, List.drop_append, List.take_of_length_le (by omega), List.drop_of_length_le (by omega)]
  rw [show l.length + k - l.length = k by omega, show l.length + k + vs.length - l.length = k + vs.length by omega]
  simp
section
variable {α : Type} {n : Nat} {V : α → List Value → Prop}
theorem bx.set (u : α) (d : Nat) (vs : List Value) (hd : d + vs.length ≤ n) (h1 : one vs) (dflt : α) : ∀ {xs : List α} {rs : List (List Value)} (i : Nat), bx n V xs rs → i < xs.length → (∀ r, V (xs.getD i dflt) r → r.length = n → one r → V u (eO r d vs)) →
    ∃ rs', bx n V (xs.set i u) rs' ∧ eO rs.flatten (i * n + d) vs = rs'.flatten
  | x :: xs, r :: rs, 0, ⟨⟨a, b, c⟩, t⟩, _, hu => by
    refine ⟨eO r d vs :: rs, ⟨⟨by rw [iq]; exact a, ?_, hu r c a b⟩, t⟩, ?_⟩
    · rw [gC _ _ _ (by omega)]
      intro v hv
      simp only [List.mem_append] at hv
      rcases hv with (hv | hv) | hv
      · exact b v (List.mem_of_mem_take hv)
      · exact h1 v hv
      · exact b v (List.mem_of_mem_drop hv)
    · simp only [List.flatten_cons, Nat.zero_mul, Nat.zero_add]
      exact nz vs r _ d (by omega)
  | x :: xs, r :: rs, i + 1, ⟨⟨a, b, c⟩, t⟩, h, hu => by
    obtain ⟨rs', h2, h3⟩ := bx.set u d vs hd h1 dflt i t (by simpa using h) (by simpa using hu)
    refine ⟨r :: rs', ⟨⟨a, b, c⟩, h2⟩, ?_⟩
    simp only [List.flatten_cons]
    have hfl := t.flat
    have hi : i < xs.length := by simpa using h
    have hin : i * n + d + vs.length ≤ rs.flatten.length := by
      rw [hfl]
      have : (i + 1) * n ≤ xs.length * n := Nat.mul_le_mul_right _ hi
      rw [Nat.add_mul] at this
      omega
    rw [← h3, show (i + 1) * n + d = r.length + (i * n + d) by rw [Nat.add_mul, a]; omega]
    exact mC vs r _ _ hin
end
structure nB (n : Nat) (a : Option Addr) (c : Nat) (lo : Int) (a' : Option Addr) (c' : Nat) : Prop where
  addr : a' = (if c = lo.toNat then a else a.map (·.add (lo.toNat * n)))
  cap : c' = c - lo.toNat
theorem jZ {α : Type} {n : Nat} {V : α → List Value → Prop} {F : HA} {a : Option Addr} {l : List α} {c : Nat} {lo hi : Int} (hF : RdV F n V a l) (hcap : l.length ≤ c) (hb : 0 ≤ lo ∧ lo ≤ hi ∧ hi ≤ l.length) :
    ∃ a' c', nB n a c lo a' c' ∧ RdV F n V a' (cut l lo hi) ∧ (cut l lo hi).length ≤ c' ∧ c' ≤ c :=
  ⟨_, _, ⟨rfl, rfl⟩, hF.cut lo.toNat hi.toNat (by omega), by rw [fR hb.2.2]; omega, by omega⟩
section
variable {K : Cx} {R S Y α : Type} {Q : cT R} {E : Env} {H : List HA} {opt : Option R} {ops : Array Oper} {rest : List Oper} {o : Oper} {n : Nat} {V : α → List Value → Prop} {a : Option Addr} {xs : List α} {T : TypeId} {c : Nat}
theorem iF {x : Operand} {t e : Nat} {lo hi : Option Operand} {a' : Option Addr} {c' m : Nat} {l : List α} {vl vh : Option Value} {lo' hi' : Int}
    (ho : o.op = .slice t x lo hi none) (hx : ev E x = some (.slice a m c))
    (hl : lim E lo = some vl) (hh : lim E hi = some vh) (hu : K.P.underlying t = some (.slice e)) (hs : ∀ w, (sizeOf e).run K.P w = .ok n w)
    (h1 : (vh = none ∧ hi' = m) ∨ ∃ k, vh = some (.int k hi')) (h2 : (vl = none ∧ lo' = 0) ∨ ∃ k, vl = some (.int k lo')) (hb : 0 ≤ lo' ∧ lo' ≤ hi' ∧ hi' ≤ l.length) (hcap : l.length ≤ c) (hS : nB n a c lo' a' c') :
    RQ K o E H (.slice a' (cut l lo' hi').length c') := by
  obtain ⟨b1, b2, b3⟩ := hb
  obtain ⟨rfl, rfl⟩ := hS
  obtain ⟨L, rfl⟩ := Int.eq_ofNat_of_zero_le b1
  obtain ⟨M, rfl⟩ := Int.eq_ofNat_of_zero_le (Int.le_trans b1 b2)
  have hlen := fR (l := l) (lo := (L : Int)) (hi := (M : Int)) b3
  simp only [Int.toNat_natCast] at hlen
  have q := pJ (K := K) (H := H) (o := o) (l := L) (h := M) ho hx hl hh hu hs (by rcases h1 with ⟨x, y⟩ | y; exact .inl ⟨x, by omega⟩; exact .inr y) (by rcases h2 with ⟨x, y⟩ | y; exact .inl ⟨x, by omega⟩; exact .inr y) (by omega) (by omega)
  rw [← hlen] at q
  simpa using q
theorem mo {T : TypeId} {n m c c' : Nat} {a a' : Option Addr} {cs : List Value} {lo hi : Nat} (h1 : lo ≤ hi) (h2 : hi * n ≤ cs.length) (h3 : hi ≤ c) (ha : a' = (if c = lo then a else a.map (·.add (lo * n)))) (hc : c' = c - lo) :
    ∀ h, Row T n a m c cs h → Row T n a' (hi - lo) c' ((cs.take (hi * n)).drop (lo * n)) h := by
  intro h x
  rcases x with ⟨x1, x2, x3, x4⟩ | ⟨b, off, pre, junk, fz, hax, ok, hb⟩
  · left
    subst x4
    subst x3
    have : hi = 0 := by omega
    have : lo = 0 := by omega
    subst x1
    refine ⟨?_, by omega, by omega, by simp⟩
    rw [ha]; split <;> rfl
  · right
    subst hax
    have hln : lo * n ≤ hi * n := Nat.mul_le_mul_right _ h1
    have hcn : hi * n ≤ c * n := Nat.mul_le_mul_right _ h3
    have hroom := ok.room
    have hoffs := ok.offs
    have hcap := ok.cap
    by_cases e : c = lo
    · have hh : hi = lo := by omega
      refine ⟨b, off, pre, cs ++ junk, fz, by rw [ha, if_pos e], ⟨hoffs, by omega, by omega, by rw [hc, e]; simp, by rw [hh]; simp, by rw [hh]; simp [List.drop_of_length_le], ?_⟩, ?_⟩
      · rcases ok.fzok with x | x
        · exact .inl x
        · right; rw [hc, e]; simp; omega
      · rw [hb]; congr 1
        have : (cs.take (hi * n)).drop (lo * n) = [] := by rw [List.drop_of_length_le]; rw [List.length_take, hh]; exact Nat.min_le_left _ _
        rw [this]; simp
    · have hadd : (⟨b, off, none⟩ : Addr).add (lo * n) = ⟨b, off + lo * n, none⟩ := oz _ _ _
      refine ⟨b, off + lo * n, pre ++ cs.take (lo * n), cs.drop (hi * n) ++ junk, fz, by rw [ha, if_neg e]; simp [hadd], ⟨?_, by omega, by omega, ?_, ?_, ?_, ?_⟩, ?_⟩
      · rw [List.length_append, List.length_take]; omega
      · rw [hc, Nat.sub_mul, List.length_drop, List.length_take, List.length_append, List.length_drop]; omega
      · rw [Nat.sub_mul, List.length_drop, List.length_take]; omega
      · rw [hc, Nat.sub_mul, List.length_drop, List.length_take]; omega
      · rcases ok.fzok with x | x
        · exact .inl x
        · right; rw [hc, Nat.sub_mul]; omega
      · rw [hb]; congr 1
        have e1 : cs = cs.take (lo * n) ++ ((cs.take (hi * n)).drop (lo * n) ++ cs.drop (hi * n)) := by
          rw [← List.append_assoc]
          have : cs.take (lo * n) ++ (cs.take (hi * n)).drop (lo * n) = cs.take (hi * n) := by
            have := List.take_append_drop (lo * n) (cs.take (hi * n))
            rwa [List.take_take, Nat.min_eq_left hln] at this
          rw [this, List.take_append_drop]
        have e2 : pre ++ cs ++ junk = pre ++ cs.take (lo * n) ++ (cs.take (hi * n)).drop (lo * n) ++ (cs.drop (hi * n) ++ junk) := by
          conv => lhs; rw [e1]
          simp only [List.append_assoc]
        rw [e2]
theorem se {t e sz bytes : Nat} {zs : List Value} (ho : o.op = .buildSlice t 0 [].toArray) (ht : K.P.underlying t = some (.slice e)) (hE : Elt K.P e sz bytes zs) :
    RE K (Y := Nat) o E H (fun b => .slice (some ⟨b, 0, none⟩) ([] : List α).length 0) (fun b => ap e sz V (some ⟨b, 0, none⟩) ([] : List α) 0 :: H) :=
  fu (by rw [ho]; intro c h; cases h) fun a' w he s => by
    obtain ⟨i, z, hi, hz, hsz, hby, hzs⟩ := hE.info
    refine ⟨w.heap.size, { w with heap := w.heap.push (.cells #[] e (0, 0)) }, ?_, (s.new _).ent (Ent.sel' 0 rfl ?_ (Ent.refl _))⟩
    · unfold execOp; simp only [ho]
      simp [Instr.buildSlice, underlying, program, Sem.run, ht, sizeOf, typeInfo, hi, newRow, newObj, Instr.fill]
      refine congrArg (fun x => w.alloc (.cells x e)) ?_
      apply Array.ext <;> simp
    · intro h x
      exact ⟨[], trivial, Row.mk (pre := []) (junk := []) (fz := (0, 0)) ⟨rfl, Nat.le_refl _, by simp [maxLen], by simp, by simp, by simp, Or.inl rfl⟩ h (by simpa [pts] using x)⟩
end
/-! ### Structs within structs -/
section
variable {P : Program} {d : Nat} {xs ys : Array Value} {f : Field} {fs : List Field} {a b : Value} {r s : Bool} {w : World}
end
section
variable {K : Cx} {E : Env} {H : List HA} {o : Oper}
end
end Go.Proofs.YtndjkejhacfpdaaGreatDoor

namespace Go.Proofs.YtndjkejhacfpdaaGreatDoor
set_option linter.unusedVariables false
set_option linter.unusedSimpArgs false
set_option linter.unusedSectionVars false
open Go.RowKit
theorem mw {α : Type} {b : Bool} (h : b = true) (u v : α) : (bif b then u else v) = u := by rw [h]; rfl
theorem oq {α : Type} {b : Bool} (h : b = false) (u v : α) : (bif b then u else v) = v := by rw [h]; rfl
theorem bJ {b : Bool} (h : b = true) : (b == true) = true := by rw [h]; rfl
theorem bK {b : Bool} (h : b = false) : (b == true) = false := by rw [h]; rfl
theorem tV {b want : Bool} (h : (b == want) = true) (v : Value) : v = cv (b == want) v := by rw [h]; rfl
theorem ul {b want : Bool} (h : (b == want) = false) (v : Value) : undef = cv (b == want) v := by rw [h]; rfl
section
variable {K : Cx} {R S Y : Type} {Q : cT R} {E : Env} {H : List HA} {o : Option R}
theorem QOb.yes {ops : Array Oper} {anc : List (List Nat)} {val : Nat → Value} {i j dj : Nat} {want b : Bool} {v : Value} {op : Oper} (Ei : Env) (ho : ops[i]? = some op) (hg : op.guard = some (j, want)) (hj : dD ops j = some dj) (hb : lk Ei dj = some (.bool b)) (hw : (b == want) = true)
    (he : dq ops anc val E i Ei) (h : RQ K op Ei H v) (hv : val i = v) : QOb K ops anc val E H i :=
  .grd Ei ho hg hj hb he (fun _ => h) (by rw [hv]; exact tV hw v)
theorem QOb.no {ops : Array Oper} {anc : List (List Nat)} {val : Nat → Value} {i j dj : Nat} {want b : Bool} {op : Oper} (Ei : Env) (ho : ops[i]? = some op) (hg : op.guard = some (j, want)) (hj : dD ops j = some dj) (hb : lk Ei dj = some (.bool b)) (hw : (b == want) = false)
    (he : dq ops anc val E i Ei) (hv : val i = undef) : QOb K ops anc val E H i :=
  .grd (v := undef) Ei ho hg hj hb he (fun x => by rw [hw] at x; cases x) (by rw [hv]; exact ul hw undef)
theorem dq.v {ops : Array Oper} {anc : List (List Nat)} {val : Nat → Value} {E : Env} {i : Nat} {l : Env} {s : Nat} (p : Nat) (hp : (fm anc i).contains p = true) (hd : dD ops p = some s) (r : dq ops anc val E i l) : dq ops anc val E i ((s, val p) :: l) := .w p hp hd rfl r
theorem qp {ops : Array Oper} {anc : List (List Nat)} {val : Nat → Value} {i : Nat} {op : Oper} {v : Value} {Ei : Env} (ho : ops[i]? = some op) (hg : op.guard = none) (he : dq ops anc val E i Ei) (h : RQ K op Ei H v) (hv : val i = v) : QOb K ops anc val E H i := .plain Ei ho hg he h hv
theorem qy {ops : Array Oper} {anc : List (List Nat)} {val : Nat → Value} {i j dj : Nat} {want b : Bool} {v : Value} {op : Oper} {Ei : Env} (ho : ops[i]? = some op) (hg : op.guard = some (j, want)) (he : dq ops anc val E i Ei) (hj : dD ops j = some dj) (hb : lk Ei dj = some (.bool b)) (hw : (b == want) = true)
    (h : RQ K op Ei H v) (hv : val i = v) : QOb K ops anc val E H i := .yes Ei ho hg hj hb hw he h hv
theorem qn {ops : Array Oper} {anc : List (List Nat)} {val : Nat → Value} {i j dj : Nat} {want b : Bool} {op : Oper} {Ei : Env} (ho : ops[i]? = some op) (hg : op.guard = some (j, want)) (he : dq ops anc val E i Ei) (hj : dD ops j = some dj) (hb : lk Ei dj = some (.bool b)) (hw : (b == want) = false)
    (hv : val i = undef) : QOb K ops anc val E H i := .no Ei ho hg hj hb hw he hv
theorem eo {ops : Array Oper} {anc : List (List Nat)} {Γ Z : Type} {val : Γ → Nat → Value} {heap : Nat → Γ → List HA} {m i : Nat} {pre : List Nat} {γ : Γ} {op : Oper} {v : Z → Value} {H' : Z → List HA} {Ei : Env} (f : Z → Γ) (ho : ops[i]? = some op) (hg : op.guard = none) (he : dq ops anc (val γ) E i Ei)
    (h : RE K (Y := Z) op Ei (heap m γ) v H') (ha : ∀ z, fE pre (val (f z)) (val γ)) (hv : ∀ z, op.dst = none ∨ v z = val (f z) i) (hH : ∀ z, Ent (H' z) (heap (m + 1) (f z))) : EOb K ops anc val E heap m i pre γ := .mk Ei f ho hg he h ha hv hH
theorem ey {ops : Array Oper} {anc : List (List Nat)} {Γ Z : Type} {val : Γ → Nat → Value} {heap : Nat → Γ → List HA} {m i j dj : Nat} {want b : Bool} {pre : List Nat} {γ : Γ} {op : Oper} {v : Z → Value} {H' : Z → List HA} {Ei : Env} (f : Z → Γ) (ho : ops[i]? = some op) (hg : op.guard = some (j, want)) (he : dq ops anc (val γ) E i Ei)
    (hj : dD ops j = some dj) (hb : lk Ei dj = some (.bool b)) (hw : (b == want) = true)
    (h : RE K (Y := Z) op Ei (heap m γ) v H') (ha : ∀ z, fE pre (val (f z)) (val γ)) (hv : ∀ z, op.dst = none ∨ v z = val (f z) i) (hH : ∀ z, Ent (H' z) (heap (m + 1) (f z))) : EOb K ops anc val E heap m i pre γ := .yes Ei f ho hg hj hb hw he h ha hv hH
abbrev rL (n : Nat) : List Nat := List.range n
theorem zA {p : Nat → Prop} : All [] p := trivial
theorem ac {l : List Nat} {p : Nat → Prop} {i : Nat} (h : p i) (r : All l p) : All (i :: l) p := ⟨h, r⟩
end
end Go.Proofs.YtndjkejhacfpdaaGreatDoor

namespace Go.Proofs.YtndjkejhacfpdaaGreatDoor
set_option linter.unusedVariables false
set_option linter.unusedSimpArgs false
open Go.RowKit
section
variable {P : Program}
end
end Go.Proofs.YtndjkejhacfpdaaGreatDoor

namespace Go.Proofs.YtndjkejhacfpdaaGreatDoor
set_option linter.unusedVariables false
set_option linter.unusedSimpArgs false
open Go.RowKit
section
variable {α β : Type} [DecidableEq α] {P : Program} {T : TypeId} {ek : α → Value} {ev : β → Value}
end
section
variable {α β : Type} [DecidableEq α] {T VT : TypeId} {ek : α → Value} {ev : β → Value} {K : Cx} {E : Env} {H : List HA} {o : Oper} {t : TypeId} {b : Nat} {kvs : List (α × β)}
end
end Go.Proofs.YtndjkejhacfpdaaGreatDoor

namespace Go.Proofs.YtndjkejhacfpdaaGreatDoor
set_option linter.unusedVariables false
set_option linter.unusedSimpArgs false
open Go.RowKit
theorem me {H : List HA} {b o k j : Nat} {v : Value} (h : dH H b (o + (k + j)) v) : dH H b (o + k + j) v := by rw [Nat.add_assoc]; exact h
section
variable {K : Cx} {Y : Type} {E : Env} {H : List HA} {o : Oper} {v : Y → Value} {H' : Y → List HA}
theorem RE.ent {H1 : List HA} (e : Ent H H1) (h : RE K o E H1 v H') : RE K o E H v H' := fun a w he hs next Q hn => h a w he (hs.ent e) next Q hn
end
section
variable {α : Type} {T : TypeId} {n c : Nat} {a : Option Addr} {V : α → List Value → Prop} {xs : List α} {H : List HA}
theorem Ent.set' {l : List HA} {A B : HA} (k : Nat) (hk : l[k]? = some A) (h : ∀ x, A x → B x) : Ent l (l.set k B) := by
  have e : l.set k A = l := by
    apply List.ext_getElem?
    intro i
    rw [List.getElem?_set]
    split
    · rename_i hi; subst hi
      have := (List.getElem?_eq_some_iff.1 hk).1
      rw [if_pos this, hk]
    · rfl
  have := Ent.set (l := l) k h
  rwa [e] at this
theorem Ent.cutV {lo hi : Int} {a' : Option Addr} {c' m : Nat} {rs : List (List Value)} (k : Nat) (hk : H[k]? = some (Row T n a m c rs.flatten)) (hl : bx n V xs rs) (hS : nB n a c lo a' c') (hb : 0 ≤ lo ∧ lo ≤ hi ∧ hi ≤ xs.length) (hcap : xs.length ≤ c) :
    Ent H (H.set k (ap T n V a' (cut xs lo hi) c')) :=
  Ent.set' k hk fun p hp => by
    have hfl := hl.flat
    have hhl : hi.toNat ≤ xs.length := by omega
    have h2 : hi.toNat * n ≤ rs.flatten.length := by rw [hfl]; exact Nat.mul_le_mul_right _ hhl
    have := mo (lo := lo.toNat) (hi := hi.toNat) (by omega) h2 (by omega) hS.addr hS.cap p hp
    refine ⟨(rs.take hi.toNat).drop lo.toNat, (hl.take _).drop _, ?_⟩
    rw [fR hb.2.2, (hl.take _).flat_drop, hl.flat_take]
    exact this
theorem Ent.cutB {lo hi : Int} {a' : Option Addr} {c' m : Nat} {l : List UInt8} (k : Nat) (hk : H[k]? = some (Row T 1 a m c (ax l))) (hS : sh a c lo a' c') (hb : 0 ≤ lo ∧ lo ≤ hi ∧ hi ≤ l.length) (hcap : l.length ≤ c) :
    Ent H (H.set k (Row T 1 a' (cut l lo hi).length c' (ax (cut l lo hi)))) :=
  Ent.set' k hk fun p hp => by
    have := mo (lo := lo.toNat) (hi := hi.toNat) (by omega) (by rw [cP]; omega) (by omega) hS.addr hS.cap p hp
    rw [fR hb.2.2]
    unfold cut
    rw [← km, ← jm]
    simpa using this
end
section
variable {K : Cx} {E : Env} {H : List HA} {o : Oper} {α : Type} {n c : Nat} {a : Option Addr} {V : α → List Value → Prop} {xs : List α}
theorem kZ {x y : Operand} {t e bytes : Nat} {zs : List Value} {a2 : Option Addr} {c2 : Nat} {ys : List α} (k : Nat) (ho : o.op = .call { callee := .builtin .append, args := #[x, y], argTypes := #[t, t] })
    (hx : ev E x = some (.slice a xs.length c)) (hy : ev E y = some (.slice a2 ys.length c2)) (ht : K.P.underlying t = some (.slice e)) (hE : Elt K.P e n bytes zs) (hk : H[k]? = some (ap e n V a xs c))
    (hr : fI (H.eraseIdx k) n V a2 ys) (hb : (xs.length + ys.length) * bytes ≤ 140737488355328) :
    RE K (Y := Option Addr × Nat) o E H (fun y => .slice y.1 (xs ++ ys).length y.2) (fun y => H.set k (ap e n V y.1 (xs ++ ys) y.2)) := by
  intro a' w he hs next Q hn
  obtain ⟨rs, hl, s⟩ := kE k hk hs
  have hkl := (List.getElem?_eq_some_iff.1 hk).1
  refine ej (H := H.set k (Row e n a xs.length c rs.flatten)) k ho hx hy ht hE (by simp [hkl]) hl (by rw [List.eraseIdx_set_eq]; exact hr) hb a' w he s next Q fun y w' s' => hn y w' ?_
  simpa only [List.set_set] using s'
theorem lh {xt e : TypeId} (P : Program) (hu : P.underlying xt = some (.pointer e)) (w : World) : (Op.equal xt (.pointer none) (.pointer none)).run P w = .ok true w := by
  rw [show Op.equal xt (.pointer none) (.pointer none) = Op.equalIn (9999 + 1) xt (.pointer none) (.pointer none) from rfl, Op.equalIn]
  simp [underlying, program, Sem.run, hu]
theorem iE {xt yt e : TypeId} {x y : Operand} (ho : o.op = .binOp .eql xt x y yt) (hx : ev E x = some (.pointer none)) (hy : ev E y = some (.pointer none)) (hu : K.P.underlying xt = some (.pointer e)) : RQ K o E H (.bool true) :=
  ck (by rw [ho]; intro c h; cases h) fun a w he _ => by
    unfold execOp; simp only [ho]; rw [he.ev hx, he.ev hy]
    simp [iv, binOp, lh K.P hu]
theorem tY {xt yt e : TypeId} {x y : Operand} (ho : o.op = .binOp .neq xt x y yt) (hx : ev E x = some (.pointer none)) (hy : ev E y = some (.pointer none)) (hu : K.P.underlying xt = some (.pointer e)) : RQ K o E H (.bool false) :=
  ck (by rw [ho]; intro c h; cases h) fun a w he _ => by
    unfold execOp; simp only [ho]; rw [he.ev hx, he.ev hy]
    simp [iv, binOp, lh K.P hu]
end
/-! ### What may be nil -/
def uw (b : Bool) (y : Nat) : Option Addr := match b with
  | true => some ⟨y, 0, none⟩
  | false => none
def lJ (b : Bool) (l : List HA) : HA := match b with
  | true => aP l
  | false => tt
theorem Ent.when_yes {l m az : List HA} {b : Bool} (hb : b = true) (r : Ent l (az ++ m)) : Ent l (lJ b az :: m) := by
  subst hb
  intro h s
  exact (ca az m h).1 (r h s)
theorem Ent.when_no {l m az : List HA} {b : Bool} (hb : b = false) (r : Ent l m) : Ent l (lJ b az :: m) := by
  subst hb
  exact Ent.tt_in r
theorem Ent.when_yo {az : List HA} {b : Bool} (hb : b = true) (m : List HA) : Ent (lJ b az :: m) (az ++ m) := by
  subst hb
  intro h s
  exact (ca az m h).2 s
theorem Ent.when_no_ {az : List HA} {b : Bool} (hb : b = false) (m : List HA) : Ent (lJ b az :: m) m := Ent.drop (Ent.refl m)
theorem Fn.when {P : Program} {W : World} {f : FuncId} {args : List Value} {A : List HA} {F : HA} {R Y : Type} {o : Option R} {val val' : R → Y → Value} {B B' : R → Y → List HA} (h : Fn P W f args A F o val B) (flag : R → Bool) (b : Bool)
    (hv : ∀ r y, flag r = b → val r y = val' r y) (hB : ∀ r y, flag r = b → Ent (B r y) (B' r y)) : Fn P W f args A F (o.filter fun r => flag r == b) val' B' := by
  intro r hr w hs
  obtain ⟨h1, h2⟩ := Option.filter_eq_some_iff.1 hr
  have h3 : flag r = b := by simpa using h2
  refine (h r h1 w hs).mono ?_
  rintro e w' ⟨y, he, s⟩
  exact ⟨y, by rw [he, hv r y h3], s.ent (Ent.app (hB r y h3) (Ent.refl _))⟩
theorem gU {R : Type} {o : Option R} {r : R} {flag : R → Bool} {b : Bool} (h : o = some r) (hb : flag r = b) : (o.filter fun r => flag r == b) = some r := by
  rw [h, Option.filter_some, hb]; simp
/-! ### Short forms -/
section
variable {K : Cx} {R S Y : Type} {Q : cT R} {E : Env} {H : List HA} {opt : Option R} {ops : Array Oper} {rest : List Oper}
theorem vq {d : Nat} {v : Value} {p : Op} {t : TypeId} {ps : String} {af : Array Edge} (hr : RQ K ⟨some d, p, t, ps, af, none⟩ E H v) (hn : Nat.blt d K.n = true) (h : bP K Q ops rest ((d, v) :: E) H opt) : bP K Q ops (⟨some d, p, t, ps, af, none⟩ :: rest) E H opt := ij hr rfl rfl hn h
theorem vm {d : Nat} {v : Value} {x : Operand} {t : TypeId} {ps : String} {af : Array Edge} (hx : ev E x = some v) (hn : Nat.blt d K.n = true) (h : bP K Q ops rest ((d, v) :: E) H opt) : bP K Q ops (⟨some d, .move x, t, ps, af, none⟩ :: rest) E H opt := ij (ba rfl hx) rfl rfl hn h
theorem va {d : Nat} {v : Value} {x : Operand} {t : TypeId} {ps : String} {af : Array Edge} (hx : ev E x = some v) (hn : Nat.blt d K.n = true) (h : bP K Q ops rest ((d, v) :: E) H opt) : bP K Q ops (⟨some d, .assign x, t, ps, af, none⟩ :: rest) E H opt := ij (ci rfl hx) rfl rfl hn h
theorem vn {d : Nat} {x : Operand} {ad : Addr} {t : TypeId} {ps : String} {af : Array Edge} (hx : ev E x = some (.pointer (some ad))) (hn : Nat.blt d K.n = true) (h : bP K Q ops rest ((d, .pointer (some ad)) :: E) H opt) : bP K Q ops (⟨some d, .nilCheck x, t, ps, af, none⟩ :: rest) E H opt := ij (aX rfl hx) rfl rfl hn h
theorem nx {id : Nat} {l : List Oper} {c2 : Code} (h : bP K (iT K c2 Q) l.toArray l E H opt) : bP K (iT K (.seq (.region id l.toArray false) c2) Q) ops [] E H opt := ae (aa (ay (aJ h)))
theorem ny {id : Nat} {l : List Oper} (h : bP K Q l.toArray l E H opt) : bP K (iT K (.region id l.toArray false) Q) ops [] E H opt := ae (aa (aJ h))
theorem sr {id : Nat} {l : List Oper} {c2 : Code} (h : bP K (iT K c2 Q) l.toArray l E H opt) : Sim K Q (.seq (.region id l.toArray false) c2) E H opt := ay (aJ h)
theorem qm {anc : List (List Nat)} {val : Nat → Value} {i : Nat} {d : Option Nat} {x : Operand} {t : TypeId} {ps : String} {af : Array Edge} {Ei : Env} (ho : ops[i]? = some ⟨d, .move x, t, ps, af, none⟩) (he : dq ops anc val E i Ei) (hx : ev Ei x = some (val i)) : QOb K ops anc val E H i := .plain Ei ho rfl he (ba rfl hx) rfl
theorem aq {Γ : Type} {l : List Nat} {p : Γ → Nat → Nat → Prop} {f : Nat → List Nat} {i j : Nat} (hf : f i = [j]) (h : ∀ γ, p γ i j) (r : All l fun i => ∀ γ, All (f i) fun j => p γ i j) : All (i :: l) fun i => ∀ γ, All (f i) fun j => p γ i j := ⟨fun γ => by rw [hf]; exact ⟨h γ, trivial⟩, r⟩
end
end Go.Proofs.YtndjkejhacfpdaaGreatDoor

namespace Go.Proofs.YtndjkejhacfpdaaGreatDoor
set_option linter.unusedVariables false
set_option linter.unusedSimpArgs false
open Go.RowKit
theorem Sat.below {W w w' : World} {H : List HA} (s : Sat W H w) (b : Below w.heap.size w w') : Sat W H w' := by
  refine ⟨b.os.trans s.os, b.tape.trans s.tape, b.output.trans s.output, Nat.le_trans s.size b.size, ?_⟩
  refine dE H tt _ ⟨fun i => if i < w.heap.size then none else w'.heap[i]?, hpw w, ?_, ?_, trivial, s.hp⟩
  · intro i
    by_cases h : i < w.heap.size
    · left; simp [h]
    · right; simp only [hpw]; exact Array.getElem?_eq_none (by omega)
  · funext i
    simp only [hpw, un]
    by_cases h : i < w.heap.size
    · simp [h]; rw [b.block i h]; simp [h]
    · simp [h]
theorem Sat.below_new {W w w' : World} {H : List HA} {g : Nat} {o : Obj} (s : Sat W H w) (b : Below w.heap.size w w') (hg : w.heap.size ≤ g) (ho : w'.heap[g]? = some o) : Sat W (pts g o :: H) w' := by
  refine ⟨b.os.trans s.os, b.tape.trans s.tape, b.output.trans s.output, Nat.le_trans s.size b.size, ?_⟩
  refine ⟨fun i => if i = g then some o else none, fun i => if i = g then none else w'.heap[i]?, ?_, ?_, by simp [pts], ?_⟩
  · intro i
    by_cases h : i = g
    · right; simp [h]
    · left; simp [h]
  · funext i
    simp only [hpw, un]
    by_cases h : i = g
    · subst h; simp [ho]
    · simp [h]
  · refine dE H tt _ ⟨fun i => if i < w.heap.size ∨ i = g then none else w'.heap[i]?, hpw w, ?_, ?_, trivial, s.hp⟩
    · intro i
      by_cases h : i < w.heap.size
      · left; simp [h]
      · right; simp only [hpw]; exact Array.getElem?_eq_none (by omega)
    · funext i
      simp only [hpw, un]
      by_cases h : i < w.heap.size
      · have : i ≠ g := by omega
        simp [h, this]; rw [b.block i h]; simp [h]
      · by_cases h2 : i = g
        · subst h2; simp [h]
        · simp [h, h2]
section
variable {α β : Type}
def dS (kvs : List (List UInt8 × β)) : List (List UInt8) := (kvs.map (·.1)).mergeSort fun x y => decide (x ≤ y)
theorem nr {n : Nat} {V : α → List Value → Prop} {f : α → Value} (h1 : n = 1) (hV : ∀ x, V x [f x]) (ho : ∀ x, (f x).oneCell' = true) : ∀ l : List α, bx n V l (l.map fun x => [f x])
  | [] => trivial
  | x :: l => by
    rw [List.map_cons]
    exact ⟨⟨by simp [h1], by intro v hv; simp at hv; subst hv; exact ho x, hV x⟩, nr h1 hV ho l⟩
theorem ns {f : α → Value} : ∀ l : List α, (l.map fun x => [f x]).flatten = l.map f
  | [] => rfl
  | x :: l => by simp [ns l]
theorem Sat.ownsRow {W w w' : World} {H : List HA} {T : TypeId} {v : Value} {n : Nat} {xs : List Value} (s : Sat W H w) (b : Below w.heap.size w w') (h : w'.ownsRow w.heap.size T 1 v n xs) : ∃ a c, v = .slice a n c ∧ Sat W (Row T 1 a n c xs :: H) w' := by
  obtain ⟨hl, h⟩ := h
  rcases h with ⟨rfl, rfl⟩ | ⟨g, cap, cur, rfl, hg, hb, hn, hc, hs, ht⟩
  · refine ⟨none, 0, rfl, ?_⟩
    have : xs = [] := List.eq_nil_of_length_eq_zero (by simpa using hl)
    subst this
    exact (s.below b).ent (Ent.row_nil (Ent.refl _))
  · refine ⟨some ⟨g, 0, none⟩, cap, rfl, ?_⟩
    rw [Nat.mul_one] at hl hs ht
    refine (s.below_new b hg hb).ent (Ent.sel' 0 rfl (fun h x => ?_) (Ent.refl _))
    refine .inr ⟨g, 0, [], cur.toList.drop n, (0, 0), rfl, ⟨rfl, hn, hc, ?_, by omega, by omega, .inl rfl⟩, ?_⟩
    · rw [Nat.mul_one, hl, List.length_drop, Array.length_toList, hs]; omega
    · rw [x, List.nil_append, ← ht, List.take_append_drop]
open Go.WideElems Go.Maps
def R0 : Value → Option (DataW Unit × List MemPlace) := fun _ => some (.lit (.bool true), [])
def uB (kvs : List (List UInt8 × β)) : DataW Unit := .map ((kvs.map fun p => (Lit.string p.1, (DataW.lit (.bool true) : DataW Unit))).foldr DataW.insert [])
theorem sD {P : Program} {k : TypeId} {ek : α → Value} {ev : β → Value} {kl : α → Lit} : ∀ (kvs : List (α × β)) (es : List MapEntry), cG ek ev es kvs → (∀ p ∈ kvs, keyOf P k (ek p.1) = some (kl p.1)) →
    es.map (rg P k R0) = kvs.map (fun p => (kl p.1, (DataW.lit (.bool true) : DataW Unit))) ∧ (∀ x ∈ es, ∃ y, rd P k R0 x = some y) ∧ es.map (·.key) = kvs.map fun p => ek p.1
  | [], es, h, _ => by
    have : es = [] := by simpa [cG] using h
    subst this; simp
  | p :: l, [], h, _ => by simp [cG] at h
  | p :: l, e :: es, h, hk => by
    simp only [cG, List.map_cons, List.cons.injEq, Prod.mk.injEq] at h
    obtain ⟨⟨h1, h2⟩, h3⟩ := h
    have hr : rd P k R0 e = some (kl p.1, .lit (.bool true)) := by
      unfold rd R0
      rw [h1, hk p (by simp)]; rfl
    obtain ⟨i1, i2, i3⟩ := sD l es h3 fun q hq => hk q (by simp [hq])
    refine ⟨by simp only [List.map_cons, rg_of hr, i1], ?_, by simp [h1, i3]⟩
    intro x hx
    simp only [List.mem_cons] at hx
    rcases hx with rfl | hx
    · exact ⟨_, hr⟩
    · exact i2 x hx
theorem Sat.owns {P : Program} {k : TypeId} {W w : World} {H : List HA} {b : Nat} {ek : α → Value} {ev : β → Value} {kl : α → Lit} {kvs : List (α × β)} [DecidableEq α] {i : Nat} (s : Sat W H w) (hi : H[i]? = some (aj b ek ev kvs)) (hinj : ∀ x y, ek x = ek y → x = y) (hk : ∀ p ∈ kvs, keyOf P k (ek p.1) = some (kl p.1)) (hnd : (kvs.map (·.1)).Nodup) (hsz : kvs.length ≤ maxLen) :
    w.ownsMap P k R0 b kvs.length (.map ((kvs.map fun p => (kl p.1, (DataW.lit (.bool true) : DataW Unit))).foldr DataW.insert [])) := by
  obtain ⟨es, clock, h1, h2, h3, s2⟩ := (s.focus hi).map_open
  have hb := s2.pts_at (i := 0) rfl
  obtain ⟨r1, r2, r3⟩ := sD (P := P) (k := k) kvs es.toList h1 hk
  have hs : es.size = kvs.length := by have := congrArg List.length h1; simpa [cG] using this
  refine ⟨es, clock, hb, ⟨by omega, ⟨h3, h2, ?_⟩, r2⟩, by omega, by rw [r1]⟩
  rw [r3]
  have : (kvs.map fun p => ek p.1) = (kvs.map (·.1)).map ek := by simp
  rw [this]
  exact List.Pairwise.map ek (fun a b hab e => hab (hinj _ _ e)) hnd
theorem pU {l : List (Lit × DataW Unit)} : Maps.size (.map (l.foldr DataW.insert [])) = l.length := by
  show (l.foldr DataW.insert []).length = l.length
  exact (Go.WideShapes.sorted_perm l).length_eq
theorem pe (kvs : List (List UInt8 × β)) : (strKeys (uB kvs)).Perm (kvs.map (·.1)) := by
  have := (Go.WideShapes.sorted_perm (kvs.map fun p => (Lit.string p.1, (DataW.lit (.bool true) : DataW Unit)))).map (fun p => strOf p.1)
  refine this.trans ?_
  rw [List.map_map]
  exact List.Perm.refl _
theorem qC {P : Program} {W : World} {F : HA} {f g k T T2 b c : Nat} {ev : β → Value} {V : List UInt8 → List Value → Prop} {kvs : List (List UInt8 × β)} (hV : ∀ x, V x [str x]) (hkt : P.underlying k = some .string)
    (hC : ∀ (w : World) (D0 : DataW Unit) (nn : Nat), w.ownsMap P k R0 b nn D0 → w.cell? ⟨c, 0, none⟩ = some (.map (some b)) → c < w.heap.size → Maps.size D0 ≤ maxLen → Maps.size D0 * 16 ≤ 140737488355328 →
      CallsIn Fence.wide 5 P f #[.func (.func g) #[] #[.pointer (some ⟨c, 0, none⟩)]] w fun e w' => ∃ (v : Value) (ss : List (List UInt8)), e = .returned v ∧ ss.Perm (strKeys D0) ∧
        w'.ownsRow w.heap.size T 1 v ss.length ((ss.mergeSort (fun x y => decide (x ≤ y))).map encStr) ∧ (v = .slice none 0 0 ↔ ss = []) ∧ Below w.heap.size w w') :
    Fn P W f [.func (.func g) #[] #[.pointer (some ⟨c, 0, none⟩)]] [obj c T2 [.map (some b)], aj b (fun x : List UInt8 => str x) ev kvs] F
      (if (kvs.map (·.1)).Nodup ∧ kvs.length * 16 ≤ 140737488355328 ∧ ∀ p ∈ kvs, p.1.length ≤ 140737488351232 then some (dS kvs) else none)
      (fun r (y : Option Addr × Nat) => .slice y.1 r.length y.2) (fun r y => [ap T 1 V y.1 r y.2, obj c T2 [.map (some b)], aj b (fun x : List UInt8 => str x) ev kvs]) := by
  intro r hr w hs
  split at hr
  · rename_i hh
    obtain ⟨hnd, hsz, hkl⟩ := hh
    cases hr
    have hm : maxLen = 9223372036854775807 := rfl
    have hown := hs.owns (P := P) (k := k) (kl := fun x => Lit.string x) (i := 1) rfl (fun x y e => by simpa [str] using e) (fun p hp => by
      have := hkl p hp
      simp [keyOf, hkt, mapKey, str, ByteArray.size, hm]; omega) hnd (by omega)
    have hc : w.heap[c]? = some (.cells #[.map (some b)] T2 (0, 0)) := hs.pts_at (i := 0) rfl
    have hclt : c < w.heap.size := (Array.getElem?_eq_some_iff.1 hc).1
    refine (callsIn_wide (n := 5)).1 ((hC w _ _ hown (by simp [World.cell?, hc]) hclt (by rw [pU]; simp; omega) (by rw [pU]; simp; omega)).mono ?_)
    rintro e w' ⟨v, ss, rfl, hp, hrow, hnil, hb⟩
    have hss : ss.mergeSort (fun x y => decide (x ≤ y)) = dS kvs := mergeSort_of_perm (hp.trans (pe kvs))
    have hlen : ss.length = (dS kvs).length := by rw [← hss, List.length_mergeSort]
    obtain ⟨a, cap, rfl, s2⟩ := hs.ownsRow hb hrow
    refine ⟨(a, cap), by rw [hlen], s2.ent ?_⟩
    rw [hss, hlen]
    refine Ent.sel' 0 rfl (fun h x => ⟨_, nr (f := str) rfl hV (fun _ => rfl) (dS kvs), ?_⟩) (Ent.refl _)
    rw [ns]; exact x
  · cases hr
end
section
variable {α β : Type} [DecidableEq α]
end
section
variable {K : Cx} {E : Env} {H : List HA} {o : Oper} {α β : Type} [DecidableEq α] {ek : α → Value} {ev : β → Value} {T VT t : TypeId} {b : Nat} {kvs : List (α × β)}
theorem RQ.eq {v u : Value} (h : v = u) (hr : RQ K o E H v) : RQ K o E H u := h ▸ hr
theorem mG {x y z : Operand} (k : Nat) (v : α) (u : β) (ho : o.op = .insert t x y z) (hx : Go.Proofs.YtndjkejhacfpdaaGreatDoor.ev E x = some (.map (some b))) (hy : Go.Proofs.YtndjkejhacfpdaaGreatDoor.ev E y = some (ek v)) (hz : Go.Proofs.YtndjkejhacfpdaaGreatDoor.ev E z = some (ev u)) (hu : K.P.underlying t = some (.map T VT)) (hK : hP K.P T ek) (hk : H[k]? = some (aj b ek ev kvs)) :
    RE K (Y := Unit) o E H (fun _ => undef) (fun _ => H.set k (aj b ek ev (aV kvs v u))) :=
  mn (by rw [ho]; intro c h; cases h) fun a w he s => by
    obtain ⟨es, clock, h1, h2, h3, s2⟩ := (s.focus hk).map_open
    have hb := s2.pts_at (i := 0) rfl
    have hf := hK.find w h1 v
    cases hp : dR kvs v 0 with
    | none =>
      rw [hp] at hf
      refine ⟨(), _, ?_, Sat.unfocus hk ((s2.upd (b := b) (o' := .map (es.push { key := ek v, val := ev u, born := clock }) (clock + 1))).map_close ?_ ?_ ?_)⟩
      · unfold execOp; simp only [ho]; rw [he.ev hx, he.ev hy, he.ev hz]
        simp [Instr.mapUpdate, underlying, program, Sem.run, hu, getObj, hb, hK.chk, hf, setObj]
      · simpa using ku kvs es.toList v u 0 clock h1 hp
      · simp only [Array.toList_push, List.map_append, List.map_cons, List.map_nil]
        refine List.nodup_append.2 ⟨h2, by simp, fun a ha b hb => ?_⟩
        simp only [List.mem_singleton] at hb
        obtain ⟨e, he, rfl⟩ := List.mem_map.1 ha
        have := h3 e he
        omega
      · intro e he
        simp only [Array.toList_push, List.mem_append, List.mem_singleton] at he
        rcases he with he | rfl
        · have := h3 e he; omega
        · simp
    | some p =>
      obtain ⟨j, q⟩ := p
      rw [hp] at hf
      obtain ⟨e0, hj, hkey⟩ := lx kvs es.toList v 0 j q h1 hp
      rw [Nat.sub_zero] at hj
      have hj' : es[j]? = some e0 := by simpa using hj
      have hkts : (Instr.keyThatStays (ek v) (ek v)).run K.P w = .ok (ek v) w := by simp [Instr.keyThatStays, hK.bits]
      refine ⟨(), _, ?_, Sat.unfocus hk ((s2.upd (b := b) (o' := .map (es.modify j fun e => { e with key := ek v, val := ev u }) clock)).map_close ?_ ?_ ?_)⟩
      · unfold execOp; simp only [ho]; rw [he.ev hx, he.ev hy, he.ev hz]
        simp [Instr.mapUpdate, underlying, program, Sem.run, hu, getObj, hb, hK.chk, hf, hj', hkey, hkts, setObj]
      · rw [ft]
        simpa using kt kvs es.toList v u 0 j q h1 hp
      · rw [ft]
        have : (es.toList.modify j fun e => { e with key := ek v, val := ev u }).map (·.born) = es.toList.map (·.born) := by
          apply List.ext_getElem?
          intro i
          simp only [List.getElem?_map, List.getElem?_modify]
          by_cases hi : j = i <;> simp [hi] <;> cases es[i]? <;> simp
        rw [this]; exact h2
      · rw [ft]
        intro e he
        obtain ⟨i, hi⟩ := List.mem_iff_getElem?.1 he
        rw [List.getElem?_modify] at hi
        cases hq : es.toList[i]? with
        | none => rw [hq] at hi; simp at hi
        | some e1 =>
          rw [hq] at hi
          have := h3 e1 (List.mem_of_getElem? hq)
          by_cases hji : j = i
          · simp [hji] at hi; rw [← hi]; exact this
          · simp [hji] at hi; rw [← hi]; exact this
end
end Go.Proofs.YtndjkejhacfpdaaGreatDoor

namespace Go.Proofs.YtndjkejhacfpdaaGreatDoor
set_option linter.unusedVariables false
set_option linter.unusedSimpArgs false
set_option linter.unusedSectionVars false
open Go.RowKit
theorem fK {p : Prop} {A : HA} {h : Hp} : aS (pr p) A h ↔ p ∧ aS tt A h := by
  constructor
  · rintro ⟨a, b, d, e, hp, hb⟩; exact ⟨hp, a, b, d, e, trivial, hb⟩
  · rintro ⟨hp, a, b, d, e, _, hb⟩; exact ⟨a, b, d, e, hp, hb⟩
theorem eV {A A' B : HA} (h : Hp) (ha : ∀ h, A h → A' h) (s : aS A B h) : aS A' B h := bQ h ha (fun _ x => x) s
theorem bH {A B B' : HA} (h : Hp) (hb : ∀ h, B h → B' h) (s : aS A B h) : aS A B' h := bQ h (fun _ x => x) hb s
theorem cX {A B C : HA} {h : Hp} (s : aS A (aS B C) h) : aS B (aS A C) h := by
  rw [← aW, dv A B, aW] at s; exact s
abbrev Kps := List (List UInt8 × Nat)
abbrev ak (p : Nat) : Value := .pointer (some ⟨p, 0, none⟩)
section
variable {α β Z : Type} [DecidableEq α] {ek : α → Value} {fp : Nat → β → Z → List HA}
def kb (fp : Nat → β → Z → List HA) (p : Nat) (v : β) : HA := exs fun y => aP (fp p v y)
def bT (fp : Nat → β → Z → List HA) : List (α × Nat) → List (α × β) → HA
  | [], [] => tt
  | (k, p) :: l, (k', v) :: m => aS (pr (k = k')) (aS (kb fp p v) (bT fp l m))
  | _, _ => pr False
def iG (fp : Nat → β → Z → List HA) (x : α) : List (α × Nat) → List (α × β) → HA
  | [], [] => tt
  | (k, p) :: l, (k', v) :: m => aS (pr (k = k')) (if k = x then bT fp l m else aS (kb fp p v) (iG fp x l m))
  | _, _ => pr False
def cw (kps : List (α × Nat)) (x : α) : Nat := (aR kps x).getD 0
theorem iH {p : Prop} {X : HA} {h : Hp} (s : aS X (pr p) h) : p := by obtain ⟨_, _, _, _, _, hp⟩ := s; exact hp
theorem iN (X : HA) : ∀ (l : List (α × Nat)) (m : List (α × β)) (h : Hp), aS X (bT fp l m) h → bT fp l m h
  | [], [], h, _ => trivial
  | (k, p) :: l, (k', v) :: m, h, s => by
    simp only [bT] at s ⊢
    have s1 := cX s
    refine bH h (fun h s => ?_) s1
    have s2 := cX s
    exact bH h (fun h s => iN X l m h s) s2
  | [], _ :: _, h, s => iH s
  | _ :: _, [], h, s => iH s
theorem gl : ∀ (l : List (α × Nat)) (m : List (α × β)) (h : Hp), bT fp l m h → l.map (·.1) = m.map (·.1)
  | [], [], h, _ => rfl
  | (k, p) :: l, (k', v) :: m, h, s => by
    simp only [bT] at s
    obtain ⟨hk, s⟩ := fK.1 s
    obtain ⟨_, _, _, _, _, _, h2, _, _, _, s⟩ := s
    simp only [List.map_cons]
    rw [hk, gl l m h2 s]
  | [], _ :: _, h, s => s.elim
  | _ :: _, [], h, s => s.elim
theorem fh {γ δ : Type} : ∀ (l : List (α × γ)) (m : List (α × δ)) (x : α), l.map (·.1) = m.map (·.1) → (aR l x).isSome = (aR m x).isSome
  | [], [], x, _ => rfl
  | p :: l, q :: m, x, h => by
    simp only [List.map_cons, List.cons.injEq] at h
    simp only [aR, h.1]
    split
    · rfl
    · exact fh l m x h.2
  | [], _ :: _, x, h => by simp at h
  | _ :: _, [], x, h => by simp at h
theorem sU {kps : List (α × Nat)} {x : α} (h : (aR kps x).isSome = true) : aR kps x = some (cw kps x) := by
  unfold cw
  cases hm : aR kps x with
  | none => rw [hm] at h; cases h
  | some p => rfl
theorem lc (x : α) (v : β) : ∀ (l : List (α × Nat)) (m : List (α × β)) (h : Hp), aR m x = some v → bT fp l m h → aS (kb fp (cw l x) v) (iG fp x l m) h
  | [], [], h, hx, _ => by simp [aR] at hx
  | (k, p) :: l, (k', u) :: m, h, hx, s => by
    simp only [bT] at s
    have hk := (fK.1 s).1
    subst hk
    rw [iG]
    by_cases hkx : k = x
    · rw [if_pos hkx]
      simp only [aR, if_pos hkx, Option.some.injEq] at hx
      have hp : cw ((k, p) :: l) x = p := by simp [cw, aR, hkx]
      rw [hp, ← hx]
      exact cX s
    · rw [if_neg hkx]
      simp only [aR, if_neg hkx] at hx
      have hp : cw ((k, p) :: l) x = cw l x := by simp [cw, aR, hkx]
      rw [hp]
      have s2 := bH h (fun h s => bH h (fun h s => lc x v l m h hx s) s) s
      exact cX (bH h (fun h s => cX s) s2)
  | [], _ :: _, h, _, s => s.elim
  | _ :: _, [], h, _, s => s.elim
theorem ld (x : α) (v : β) : ∀ (l : List (α × Nat)) (m : List (α × β)) (h : Hp), (aR l x).isSome = true → aS (kb fp (cw l x) v) (iG fp x l m) h → bT fp l (aV m x v) h
  | [], m, h, hx, _ => by simp [aR] at hx
  | (k, p) :: l, (k', u) :: m, h, hx, s => by
    simp only [iG] at s
    have s1 := cX s
    have hk := (fK.1 s1).1
    subst hk
    by_cases hkx : k = x
    · have hp : cw ((k, p) :: l) x = p := by simp [cw, aR, hkx]
      rw [hp, if_pos hkx] at s1
      subst hkx
      rw [aV, if_pos rfl, bT]
      exact s1
    · simp only [aR, if_neg hkx] at hx
      have hp : cw ((k, p) :: l) x = cw l x := by simp [cw, aR, hkx]
      rw [hp, if_neg hkx] at s1
      rw [aV, if_neg hkx, bT]
      exact bH h (fun h s => bH h (fun h s => ld x v l m h hx s) (cX s)) s1
  | _ :: _, [], h, _, s => (iH s).elim
theorem lW (x : α) : ∀ (l : List (α × Nat)) (m : List (α × β)) (h : Hp), bT fp l m h → bT fp (fY l x) (fY m x) h
  | [], [], h, _ => trivial
  | (k, p) :: l, (k', u) :: m, h, s => by
    simp only [bT] at s
    have hk := (fK.1 s).1
    subst hk
    by_cases hkx : k = x
    · simp only [fY, if_pos hkx]
      exact iN _ _ _ _ (filesA_absorb_star s)
    · rw [fY, fY, if_neg hkx, if_neg hkx, bT]
      exact bH h (fun h s => bH h (fun h s => lW x l m h s) s) s
  | [], _ :: _, h, s => s.elim
  | _ :: _, [], h, s => s.elim
where
  filesA_absorb_star {X Y C : HA} {h : Hp} (s : aS X (aS Y C) h) : aS (aS X Y) C h := by rw [aW]; exact s
theorem lX (x : α) (p : Nat) (v : β) : ∀ (l : List (α × Nat)) (m : List (α × β)) (h : Hp), aS (kb fp p v) (bT fp l m) h → bT fp (aV l x p) (aV m x v) h
  | [], [], h, s => by
    simp only [aV, bT]
    exact fK.2 ⟨trivial, gw s⟩
  | (k, q) :: l, (k', u) :: m, h, s => by
    simp only [bT] at s
    have s1 := cX s
    have hk := (fK.1 s1).1
    subst hk
    by_cases hkx : k = x
    · rw [aV, aV, if_pos hkx, if_pos hkx, bT]
      refine fK.2 ⟨rfl, bH h (fun h s => ?_) (fK.1 s1).2⟩
      exact bH h (fun h s => iN _ _ _ _ s) s
    · rw [aV, aV, if_neg hkx, if_neg hkx, bT]
      exact bH h (fun h s => bH h (fun h s => lX x p v l m h s) (cX s)) s1
  | [], _ :: _, h, s => (iH s).elim
  | _ :: _, [], h, s => (iH s).elim
def am (M : HA) (fp : Nat → β → Z → List HA) (kps : List (α × Nat)) (kvs : List (α × β)) : HA := aS M (bT fp kps kvs)
def gO (M : HA) (fp : Nat → β → Z → List HA) (kps : List (α × Nat)) (kvs : List (α × β)) (x : α) : HA := aS (pr ((aR kps x).isSome = true)) (aS M (iG fp x kps kvs))
def tJ (M : HA) (fp : Nat → β → Z → List HA) (kps : List (α × Nat)) (kvs : List (α × β)) (x : α) (p : Nat) : HA := aS M (bT fp kps kvs)
end
section
variable {α β Z : Type} [DecidableEq α] {ek : α → Value} {fp : Nat → β → Z → List HA} {M : HA} {kps : List (α × Nat)} {kvs : List (α × β)} {l m : List HA}
theorem Ent.openF {H : List HA} {x : α} {v : β} (k : Nat) (hk : H[k]? = some (am M fp kps kvs)) (hx : aR kvs x = some v) :
    Ent H (exs (fun y => aP (fp (cw kps x) v y)) :: gO M fp kps kvs x :: H.eraseIdx k) := by
  intro h s
  rw [eu H k _ hk] at s
  have s1 : aS (aS M (bT fp kps kvs)) (aP (H.eraseIdx k)) h := s
  have hkeys : (aR kps x).isSome = true := by
    obtain ⟨_, _, _, _, ⟨_, h2, _, _, _, s2⟩, _⟩ := s1
    rw [fh kps kvs x (gl _ _ _ s2), hx]; rfl
  rw [aW] at s1
  have s2 := bH h (fun h s => eV h (fun h s => lc x v kps kvs h hx s) s) s1
  show aS (kb fp (cw kps x) v) (aS (gO M fp kps kvs x) (aP (H.eraseIdx k))) h
  unfold gO
  have s3 : aS (kb fp (cw kps x) v) (aS (aS M (iG fp x kps kvs)) (aP (H.eraseIdx k))) h := by
    rw [aW]
    have s4 := bH h (fun h s => by rw [aW] at s; exact s) s2
    exact cX s4
  refine bH h (fun h s => ?_) s3
  rw [aW]
  exact fK.2 ⟨hkeys, gw s⟩
theorem Ent.foldF {x : α} {v : β} {p : Nat} (y : Z) (hp : p = cw kps x) (r : Ent l (gO M fp kps kvs x :: (fp p v y ++ m))) : Ent l (am M fp kps (aV kvs x v) :: m) := by
  intro h s
  subst hp
  have s1 : aS (gO M fp kps kvs x) (aP (fp (cw kps x) v y ++ m)) h := r h s
  unfold gO at s1
  rw [aW] at s1
  obtain ⟨hx, s2⟩ := fK.1 s1
  have s3 : aS (aS M (iG fp x kps kvs)) (aS (aP (fp (cw kps x) v y)) (aP m)) h := by
    have s4 := stars_absorb_tt s2
    exact bH h (fun h s => (ca _ _ h).1 s) s4
  show aS (aS M (bT fp kps (aV kvs x v))) (aP m) h
  rw [aW] at s3 ⊢
  refine bH h (fun h s => ?_) s3
  have s5 := cX s
  rw [← aW] at s5
  exact eV h (fun h s => ld x v kps kvs h hx (eV h (fun h s => ⟨y, s⟩) s)) s5
where
  stars_absorb_tt {A : HA} {l : List HA} {h : Hp} (s : aS tt (aS A (aP l)) h) : aS A (aP l) h := bH h (fun h s => dE l tt h s) (cX s)
theorem iI {x : α} {v : β} : ∀ {kvs : List (α × β)}, aR kvs x = some v → aV kvs x v = kvs
  | [], h => by simp [aR] at h
  | p :: l, h => by
    rw [aR] at h
    rw [aV]
    by_cases hp : p.1 = x
    · rw [if_pos hp] at h ⊢
      cases h
      rw [← hp]
    · rw [if_neg hp] at h ⊢
      rw [iI h]
theorem Ent.foldF0 {x : α} {v : β} {p : Nat} (y : Z) (hp : p = cw kps x) (hx : aR kvs x = some v) (r : Ent l (gO M fp kps kvs x :: (fp p v y ++ m))) : Ent l (am M fp kps kvs :: m) := by
  have := Ent.foldF (v := v) y hp r
  rwa [iI hx] at this
theorem Ent.foldU {x : α} {v : β} {p : Nat} (y : Z) (r : Ent l (tJ M fp kps kvs x p :: (fp p v y ++ m))) : Ent l (am M fp (aV kps x p) (aV kvs x v) :: m) := by
  intro h s
  have s1 : aS (aS M (bT fp kps kvs)) (aP (fp p v y ++ m)) h := r h s
  show aS (aS M (bT fp (aV kps x p) (aV kvs x v))) (aP m) h
  rw [aW] at s1 ⊢
  refine bH h (fun h s => ?_) s1
  have s2 := bH h (fun h s => (ca _ _ h).1 s) s
  have s3 := cX s2
  rw [← aW] at s3
  exact eV h (fun h s => lX x p v kps kvs h (eV h (fun h s => ⟨y, s⟩) s)) s3
theorem Ent.makeF (r : Ent l (M :: m)) : Ent l (am M fp [] ([] : List (α × β)) :: m) := by
  intro h s
  have s1 : aS M (aP m) h := r h s
  exact eV h (fun h s => gQ s) s1
theorem eU {δ : Type} {o : Option δ} {d : δ} (h : o.isSome = true) : o = some (o.getD d) := by cases o with
  | none => cases h
  | some x => rfl
theorem gW {δ : Type} {o : Option δ} (h : ¬ o.isSome = true) : o = none := by cases o with
  | none => rfl
  | some x => exact absurd rfl h
end
section
variable {K : Cx} {R S Y : Type} {Q : cT R} {E : Env} {H : List HA} {opt : Option R} {ops : Array Oper} {rest : List Oper} {o : Oper} {α β Z : Type} [DecidableEq α] {ek : α → Value} {fp : Nat → β → Z → List HA} {T VT t : TypeId} {M : HA} {kps : List (α × Nat)} {kvs : List (α × β)} {c : Code}
theorem gV {x : α} {v : β} (k : Nat) (hk : H[k]? = some (am M fp kps kvs)) (hx : aR kvs x = some v)
    (h : ∀ y, Sim K Q c E (fp (cw kps x) v y ++ (gO M fp kps kvs x :: H.eraseIdx k)) opt) : Sim K Q c E H opt := by
  refine eD (Ent.openF k hk hx) (sN fun y => eD ?_ (h y))
  intro h s
  exact (ca _ _ h).2 s
end
section
variable {K : Cx} {R S Y : Type} {Q : cT R} {E : Env} {H : List HA} {opt : Option R} {ops : Array Oper} {rest : List Oper} {o : Oper} {α β Z : Type} [DecidableEq α] {ek : α → Value} {fp : Nat → β → Z → List HA} {T VT t : TypeId} {b : Nat} {kps : List (α × Nat)} {kvs : List (α × β)} {c : Code}
theorem oO (k : Nat) (hk : H[k]? = some (am (aj b ek ak kps) fp kps kvs)) : Ent H (aj b ek ak kps :: bT fp kps kvs :: H.eraseIdx k) := by
  intro h s
  rw [eu H k _ hk] at s
  have s1 : aS (aS (aj b ek ak kps) (bT fp kps kvs)) (aP (H.eraseIdx k)) h := s
  rw [aW] at s1
  exact s1
def jI (H : List HA) (b : Nat) (ek : α → Value) (kps : List (α × Nat)) (kvs : List (α × β)) : Prop := ∃ X rst, Ent H (aj b ek ak kps :: X :: rst) ∧ ∀ h, X h → kps.map (·.1) = kvs.map (·.1)
theorem gv (k : Nat) (hk : H[k]? = some (am (aj b ek ak kps) fp kps kvs)) : jI H b ek kps kvs := ⟨_, _, oO k hk, fun h s => gl _ _ h s⟩
theorem jI.keys (t : jI H b ek kps kvs) {W w : World} (s : Sat W H w) : kps.map (·.1) = kvs.map (·.1) := by
  obtain ⟨X, rst, e, hX⟩ := t
  obtain ⟨_, _, _, _, _, ⟨_, _, _, _, hx, _⟩⟩ := (s.ent e).hp
  exact hX _ hx
theorem jk {x y : Operand} (v : α) (tl : jI H b ek kps kvs) (hm : (aR kvs v).isSome = true) (ho : o.op = .lookup t x y false) (hx : Go.Proofs.YtndjkejhacfpdaaGreatDoor.ev E x = some (.map (some b))) (hy : Go.Proofs.YtndjkejhacfpdaaGreatDoor.ev E y = some (ek v)) (hu : K.P.underlying t = some (.map T VT)) (hK : hP K.P T ek) :
    RQ K o E H (.pointer (some ⟨cw kps v, 0, none⟩)) :=
  ck (by rw [ho]; intro c h; cases h) fun a w he s => by
    have hkeys := tl.keys s
    have hp := sU (by rw [fh kps kvs v hkeys]; exact hm)
    obtain ⟨X, rst, e, hX⟩ := tl
    obtain ⟨es, clock, h1, h2, h3, s2⟩ := (s.ent e).map_open
    have hb := s2.pts_at (i := 0) rfl
    have hf := hK.find w h1 v
    have hg := jX kps v 0
    rw [hp] at hg
    unfold execOp; simp only [ho]; rw [he.ev hx, he.ev hy]
    cases hq : dR kps v 0 with
    | none => rw [hq] at hg; simp at hg
    | some q =>
      rw [hq] at hf hg
      simp at hg
      simp [Instr.lookup, underlying, program, Sem.run, hu, getObj, hb, hK.chk, hf, hg]
theorem jl {x y : Operand} (v : α) (tl : jI H b ek kps kvs) (hm : aR kvs v = none) (ho : o.op = .lookup t x y false) (hx : Go.Proofs.YtndjkejhacfpdaaGreatDoor.ev E x = some (.map (some b))) (hy : Go.Proofs.YtndjkejhacfpdaaGreatDoor.ev E y = some (ek v)) (hu : K.P.underlying t = some (.map T VT)) (hK : hP K.P T ek) (hz : ∀ w, (zeroValue VT).run K.P w = .ok (.pointer none) w) :
    RQ K o E H (.pointer none) :=
  ck (by rw [ho]; intro c h; cases h) fun a w he s => by
    have hkeys := tl.keys s
    have hp : aR kps v = none := by
      have := fh kps kvs v hkeys
      rw [hm] at this
      exact gW (by rw [this]; simp)
    obtain ⟨X, rst, e, hX⟩ := tl
    obtain ⟨es, clock, h1, h2, h3, s2⟩ := (s.ent e).map_open
    have hb := s2.pts_at (i := 0) rfl
    have hf := hK.find w h1 v
    have hg := jX kps v 0
    rw [hp] at hg
    unfold execOp; simp only [ho]; rw [he.ev hx, he.ev hy]
    cases hq : dR kps v 0 with
    | none => rw [hq] at hf; simp [Instr.lookup, underlying, program, Sem.run, hu, getObj, hb, hK.chk, hf, hz]
    | some q => rw [hq] at hg; simp at hg
theorem sV {x : Operand} {ts : Array TypeId} (tl : jI H b ek kps kvs) (ho : o.op = .call { callee := .builtin .len, args := #[x], argTypes := ts }) (hx : Go.Proofs.YtndjkejhacfpdaaGreatDoor.ev E x = some (.map (some b))) (ht : ts[0]? = some t) (hu : K.P.underlying t = some (.map T VT)) :
    RQ K o E H (.int .i64 (kvs.length : Int)) :=
  ck (by rw [ho]; intro c h; cases h) fun a w he s => by
    have hkeys := congrArg List.length (tl.keys s)
    simp only [List.length_map] at hkeys
    obtain ⟨X, rst, e, hX⟩ := tl
    obtain ⟨es, clock, h1, h2, h3, s2⟩ := (s.ent e).map_open
    have hb := s2.pts_at (i := 0) rfl
    have hsz : es.size = kvs.length := by have := congrArg List.length h1; simpa [cG, hkeys] using this
    unfold execOp; simp only [ho]
    simp [resolve, invoke, builtin, Builtin.len_, ht, underlying, program, Sem.run, hu, he.ev hx, getObj, hb, goInt, hsz]
theorem qZ {Y : Type} {v : Y → Value} {X : HA} (k : Nat) {M M2 : HA} (hk : H[k]? = some (aS M X)) (h : RE K o E (M :: X :: H.eraseIdx k) v (fun _ : Y => M2 :: X :: H.eraseIdx k)) : RE K o E H v (fun _ => H.set k (aS M2 X)) := by
  have hl : k < H.length := (List.getElem?_eq_some_iff.1 hk).1
  refine kc (RE.ent ?_ h) (fun _ => rfl) fun y => ?_
  · intro h s
    rw [eu H k _ hk] at s
    have s1 : aS (aS M X) (aP (H.eraseIdx k)) h := s
    rw [aW] at s1
    exact s1
  · intro h s
    rw [← fD H k _ hl]
    show aS (aS M2 X) (aP (H.eraseIdx k)) h
    rw [aW]
    exact s
theorem rS {x y z : Operand} (k : Nat) (v : α) (p : Nat) (ho : o.op = .mapUpdate t x y z) (hx : Go.Proofs.YtndjkejhacfpdaaGreatDoor.ev E x = some (.map (some b))) (hy : Go.Proofs.YtndjkejhacfpdaaGreatDoor.ev E y = some (ek v)) (hz : Go.Proofs.YtndjkejhacfpdaaGreatDoor.ev E z = some (ak p)) (hu : K.P.underlying t = some (.map T VT)) (hK : hP K.P T ek) (hk : H[k]? = some (am (aj b ek ak kps) fp kps kvs)) :
    RE K (Y := Unit) o E H (fun _ => undef) (fun _ => H.set k (tJ (aj b ek ak (aV kps v p)) fp kps kvs v p)) :=
  qZ k hk (sO (kvs := kps) (ev := ak) 0 v p ho hx hy hz hu hK rfl)
theorem rQ {x y : Operand} {ts : Array TypeId} (k : Nat) (v : α) (ho : o.op = .call { callee := .builtin .delete, args := #[x, y], argTypes := ts }) (hx : Go.Proofs.YtndjkejhacfpdaaGreatDoor.ev E x = some (.map (some b))) (hy : Go.Proofs.YtndjkejhacfpdaaGreatDoor.ev E y = some (ek v)) (ht : ts[0]? = some t) (hu : K.P.underlying t = some (.map T VT)) (hK : hP K.P T ek) (hk : H[k]? = some (am (aj b ek ak kps) fp kps kvs)) :
    RE K (Y := Unit) o E H (fun _ => .tuple #[]) (fun _ => H.set k (am (aj b ek ak (fY kps v)) fp (fY kps v) (fY kvs v))) :=
  kc (qZ k hk (sP (kvs := kps) (ev := ak) 0 v ho hx hy ht hu hK rfl)) (fun _ => rfl) fun y => Ent.set k fun h s => bH h (fun h s => lW v kps kvs h s) s
theorem ra {t : TypeId} (ho : o.op = .makeMap t none) : RE K (Y := Nat) o E H (fun b => .map (some b)) (fun b => am (aj b ek ak ([] : List (α × Nat))) fp ([] : List (α × Nat)) ([] : List (α × β)) :: H) :=
  kc (oI (ek := ek) (ev := ak) ho) (fun _ => rfl) fun b => Ent.makeF (Ent.refl _)
end
end Go.Proofs.YtndjkejhacfpdaaGreatDoor

namespace Go.Proofs.YtndjkejhacfpdaaGreatDoor
set_option linter.unusedVariables false
set_option linter.unusedSimpArgs false
set_option linter.unusedSectionVars false
open Go.RowKit
section
variable {α β S : Type} [DecidableEq α]
def fF (step : S → α → β → Option (S × β)) : List α → S → List (α × β) → Option (S × List (α × β))
  | [], s, kvs => some (s, kvs)
  | x :: l, s, kvs => (aR kvs x).bind fun v => (step s x v).bind fun z => fF step l z.1 (aV kvs x z.2)
def gH (x : α) : List α → List (List α)
  | [] => [[x]]
  | y :: l => (x :: y :: l) :: (gH x l).map (y :: ·)
def iu : List α → List (List α)
  | [] => [[]]
  | x :: l => (iu l).flatMap (gH x)
theorem lg {x : α} : ∀ {a b : List α}, a ++ x :: b ∈ gH x (a ++ b)
  | [], [] => by simp [gH]
  | [], y :: b => by simp [gH]
  | y :: a, b => by
    simp only [List.cons_append, gH, List.mem_cons, List.mem_map]
    exact .inr ⟨_, lg, rfl⟩
theorem kB {x : α} : ∀ {m l : List α}, l ∈ gH x m → l.Perm (x :: m)
  | [], l, h => by simp [gH] at h; subst h; exact List.Perm.refl _
  | y :: m, l, h => by
    simp only [gH, List.mem_cons, List.mem_map] at h
    rcases h with rfl | ⟨l', h, rfl⟩
    · exact List.Perm.refl _
    · exact (List.Perm.cons y (kB h)).trans (List.Perm.swap x y m)
theorem ni : ∀ {m l : List α}, l.Perm m → l ∈ iu m
  | [], l, h => by rw [h.eq_nil]; simp [iu]
  | x :: m, l, h => by
    obtain ⟨a, b, rfl⟩ := List.append_of_mem (h.mem_iff.2 List.mem_cons_self)
    have h2 : (a ++ b).Perm m := (List.perm_cons x).1 ((List.perm_middle.symm).trans h)
    simp only [iu, List.mem_flatMap]
    exact ⟨a ++ b, ni h2, lg⟩
theorem kg : ∀ {m l : List α}, l ∈ iu m → l.Perm m
  | [], l, h => by simp [iu] at h; subst h; exact List.Perm.refl _
  | x :: m, l, h => by
    simp only [iu, List.mem_flatMap] at h
    obtain ⟨a, h1, h2⟩ := h
    exact (kB h2).trans (List.Perm.cons x (kg h1))
def ia [DecidableEq S] [DecidableEq β] (step : S → α → β → Option (S × β)) (s : S) (kvs : List (α × β)) : Option (S × List (α × β)) :=
  if (kvs.map (·.1)).Nodup ∧ ∀ l ∈ iu (kvs.map (·.1)), fF step l s kvs = fF step (kvs.map (·.1)) s kvs then fF step (kvs.map (·.1)) s kvs else none
def kz [DecidableEq S] [DecidableEq β] (step : S → α → β → Option S) (s : S) (kvs : List (α × β)) : Option S := (ia (fun s x v => (step s x v).map fun s' => (s', v)) s kvs).map (·.1)
theorem mc {v : β} {x : α} : ∀ {kvs : List (α × β)}, (aR kvs x).isSome = true → (aV kvs x v).map (·.1) = kvs.map (·.1)
  | [], h => by simp [aR] at h
  | p :: l, h => by
    rw [aR] at h
    rw [aV]
    by_cases hp : p.1 = x
    · rw [if_pos hp]; simp [hp]
    · rw [if_neg hp] at h ⊢
      rw [List.map_cons, List.map_cons, mc h]
theorem nj {γ : Type} : ∀ {l : List (α × γ)} {p : α × γ}, (l.map (·.1)).Nodup → p ∈ l → aR l p.1 = some p.2
  | [], _, _, h => by cases h
  | q :: l, p, hn, h => by
    rw [List.map_cons, List.nodup_cons] at hn
    rw [aR]
    rcases List.mem_cons.1 h with rfl | h
    · rw [if_pos rfl]
    · rw [if_neg (fun e => hn.1 (by rw [e]; exact List.mem_map.2 ⟨p, h, rfl⟩))]
      exact nj hn.2 h
def itI (b r : Nat) (ek : α → Value) (kps : List (α × Nat)) (todo : List α) : HA := exs fun (es : Array MapEntry) => exs fun (k : Nat × Nat × Array Nat × Nat) =>
  aS (pts b (.map es k.1)) (aS (pts r (.mapIter (some b) k.2.1 k.2.2.1 k.2.2.2)) (pr (cG ek ak es.toList kps ∧ (es.toList.map (·.born)).Nodup ∧ (∀ e ∈ es.toList, e.born < k.2.1) ∧ k.2.1 ≤ k.2.2.2 ∧ k.2.1 ≤ k.1 ∧ (leftOf es k.2.2.1).toList.map (·.key) = todo.map ek)))
def itJ (b r : Nat) (ek : α → Value) (kps : List (α × Nat)) (todo : List α) (x : α) : HA := exs fun (es : Array MapEntry) => exs fun (k : Nat × Nat × Array Nat × MapEntry) =>
  aS (pts b (.map es k.1)) (aS (pts r (.mapIter (some b) k.2.1 (k.2.2.1.push k.2.2.2.born) k.1)) (pr (cG ek ak es.toList kps ∧ (es.toList.map (·.born)).Nodup ∧ (∀ e ∈ es.toList, e.born < k.2.1) ∧ k.2.1 ≤ k.1 ∧ (leftOf es (k.2.2.1.push k.2.2.2.born)).toList.map (·.key) = todo.map ek ∧ k.2.2.2 ∈ es.toList ∧ k.2.2.2.key = ek x ∧ k.2.2.2.val = ak (cw kps x))))
theorem rY {b r : Nat} {ek : α → Value} {kps : List (α × Nat)} {todo : List α} {x : α} (h : Hp) (s : itJ b r ek kps todo x h) : itI b r ek kps todo h := by
  obtain ⟨es, ⟨c, since, seen, e⟩, s⟩ := s
  refine ⟨es, ⟨c, since, seen.push e.born, c⟩, ?_⟩
  exact bH h (fun h s => bH h (fun h ⟨h1, h2, h3, h4, h5, _⟩ => ⟨h1, h2, h3, h4, h4, h5⟩) s) s
theorem rZ {b r : Nat} {ek : α → Value} {kps : List (α × Nat)} {todo : List α} (h : Hp) (s : itI b r ek kps todo h) : aS (aj b ek ak kps) tt h := by
  obtain ⟨es, ⟨c, since, seen, c0⟩, h1, h2, hd, he, hb, h3, h4, hd2, he2, hr, hp⟩ := s
  exact ⟨h1, h2, hd, he, ⟨es, c, hb, hp.1, hp.2.1, fun e h => Nat.lt_of_lt_of_le (hp.2.2.1 e h) hp.2.2.2.2.1⟩, trivial⟩
end
section
variable {K : Cx} {R S Y : Type} {Q : cT R} {E : Env} {H : List HA} {opt : Option R} {ops : Array Oper} {rest : List Oper} {o : Oper} {α β Z : Type} [DecidableEq α] {ek : α → Value} {fp : Nat → β → Z → List HA} {T VT t : TypeId} {b r : Nat} {kps : List (α × Nat)} {kvs : List (α × β)} {c : Code}
theorem Ent.into {A A' X : HA} {l : List HA} (h : ∀ h, A h → aS A' tt h) : Ent (aS A X :: l) (aS A' X :: l) := by
  intro hp s
  have s1 : aS (aS A X) (aP l) hp := s
  rw [aW] at s1
  have s2 := eV hp h s1
  rw [aW] at s2
  show aS (aS A' X) (aP l) hp
  rw [aW]
  refine bH hp (fun h s => ?_) s2
  have s3 := cX s
  exact bH h (fun h s => dE l tt h s) s3
theorem te {todo : List α} {l : List HA} : Ent (am (itI b r ek kps todo) fp kps kvs :: l) (am (aj b ek ak kps) fp kps kvs :: l) := Ent.into fun h s => rZ h s
theorem tf {todo : List α} {x : α} {l : List HA} : Ent (am (itJ b r ek kps todo x) fp kps kvs :: l) (am (itI b r ek kps todo) fp kps kvs :: l) := Ent.into fun h s => gQ (rY h s)
theorem rn {x : Operand} (k : Nat) (ho : o.op = .range t x) (hx : Go.Proofs.YtndjkejhacfpdaaGreatDoor.ev E x = some (.map (some b))) (hu : K.P.underlying t = some (.map T VT)) (hk : H[k]? = some (am (aj b ek ak kps) fp kps kvs)) :
    RE K (Y := Nat) o E H (fun r => .pointer (some ⟨r, 0, none⟩)) (fun r => H.set k (am (itI b r ek kps (kps.map (·.1))) fp kps kvs)) :=
  fu (by rw [ho]; intro c h; cases h) fun a w he s => by
    have hl : k < H.length := (List.getElem?_eq_some_iff.1 hk).1
    have s1 : Sat K.W (aj b ek ak kps :: bT fp kps kvs :: H.eraseIdx k) w := s.ent (oO k hk)
    obtain ⟨es, clock, h1, h2, h3, s2⟩ := s1.map_open
    have hb := s2.pts_at (i := 0) rfl
    refine ⟨w.heap.size, { w with heap := w.heap.push (.mapIter (some b) clock #[] clock) }, ?_, ?_⟩
    · unfold execOp; simp only [ho]; rw [he.ev hx]
      have := run_range_map (P := K.P) w t T VT b es clock hu hb
      rw [show w.alloc (.mapIter (some b) clock #[] clock) = { w with heap := w.heap.push (.mapIter (some b) clock #[] clock) } from rfl] at this
      simp [this]
    · refine (s2.new (.mapIter (some b) clock #[] clock)).ent ?_
      intro h s
      rw [← fD H k _ hl]
      have s3 : aS (pts w.heap.size (.mapIter (some b) clock #[] clock)) (aS (pts b (.map es clock)) (aS (bT fp kps kvs) (aP (H.eraseIdx k)))) h := s
      show aS (aS (itI b w.heap.size ek kps (kps.map (·.1))) (bT fp kps kvs)) (aP (H.eraseIdx k)) h
      rw [aW]
      have s4 := cX s3
      rw [← aW] at s4
      rw [← aW] at s4
      rw [aW] at s4
      refine eV h (fun h s => ⟨es, ⟨clock, clock, #[], clock⟩, bH h (fun h s => ?_) s⟩) s4
      rw [dv]
      refine fK.2 ⟨⟨h1, h2, h3, Nat.le_refl _, Nat.le_refl _, ?_⟩, gw s⟩
      have e1 : (leftOf es #[]).toList = es.toList := by simp [leftOf]
      rw [e1]
      have := congrArg (List.map (·.1)) h1
      simpa [cG, List.map_map, Function.comp_def] using this
theorem rp {es : Array MapEntry} {seen : Array Nat} {e : MapEntry} (hn : (es.toList.map (·.born)).Nodup) {i : Nat} (hi : (leftOf es seen).toList[i]? = some e) : (leftOf es (seen.push e.born)).toList = (leftOf es seen).toList.eraseIdx i := by
  have e1 : (leftOf es (seen.push e.born)).toList = ((leftOf es seen).toList).filter fun x => !(x.born == e.born) := by
    simp only [leftOf, Array.toList_filter, List.filter_filter]
    congr 1
    funext x
    simp only [Array.contains_push, Bool.not_or]
    rw [Bool.and_comm]
  rw [e1]
  have hn2 : ((leftOf es seen).toList.map (·.born)).Nodup := by
    simp only [leftOf, Array.toList_filter]
    exact (List.Sublist.map _ List.filter_sublist).nodup hn
  generalize (leftOf es seen).toList = l at hi hn2
  clear e1 hn
  induction l generalizing i with
  | nil => simp at hi
  | cons a l ih =>
    rw [List.map_cons, List.nodup_cons] at hn2
    cases i with
    | zero =>
      simp at hi
      subst hi
      simp only [List.eraseIdx_zero, List.tail_cons, List.filter_cons, beq_self_eq_true, Bool.not_true, Bool.false_eq_true, if_false]
      rw [List.filter_eq_self]
      intro x hx
      have : x.born ≠ a.born := fun e => hn2.1 (by rw [← e]; exact List.mem_map.2 ⟨x, hx, rfl⟩)
      simp [this]
    | succ i =>
      simp only [List.getElem?_cons_succ] at hi
      have : a.born ≠ e.born := fun e' => hn2.1 (by rw [e']; exact List.mem_map.2 ⟨e, List.mem_of_getElem? hi, rfl⟩)
      rw [List.eraseIdx_cons_succ, List.filter_cons, if_pos (by simp [this]), ih hi hn2.2]
theorem kC {γ δ : Type} (f : γ → δ) : ∀ (l : List γ) (i : Nat), (l.eraseIdx i).map f = (l.map f).eraseIdx i
  | [], _ => by simp
  | a :: l, 0 => by simp
  | a :: l, i + 1 => by simp [kC f l i]
theorem sc {es : Array MapEntry} {seen : Array Nat} {e : MapEntry} (h : e ∈ (leftOf es seen).toList) : e ∈ es.toList := by
  simp only [leftOf, Array.toList_filter, List.mem_filter] at h
  exact h.1
theorem rt {x : Operand} {d : Nat} {todo : List α} (k : Nat) (ho : o.op = .next x false) (hg : o.guard = none) (hd : o.dst = some d) (hdn : Nat.blt d K.n = true) (hx : Go.Proofs.YtndjkejhacfpdaaGreatDoor.ev E x = some (.pointer (some ⟨r, 0, none⟩)))
    (hinj : ∀ x y, ek x = ek y → x = y) (hnd : (kvs.map (·.1)).Nodup) (hk : H[k]? = some (am (itI b r ek kps todo) fp kps kvs))
    (h0 : todo = [] → bP K Q ops rest ((d, .tuple #[.bool false]) :: E) H opt)
    (h1 : ∀ i z, todo[i]? = some z → (aR kvs z).isSome = true → bP K Q ops rest ((d, .tuple #[.bool true, ek z, ak (cw kps z)]) :: E) (H.set k (am (itJ b r ek kps (todo.eraseIdx i) z) fp kps kvs)) opt) : bP K Q ops (o :: rest) E H opt := by
  intro rr hr a w he s
  have hl : k < H.length := (List.getElem?_eq_some_iff.1 hk).1
  have s1 : Sat K.W (itI b r ek kps todo :: bT fp kps kvs :: H.eraseIdx k) w := s.ent (by
    intro h s
    rw [eu H k _ hk] at s
    have s1 : aS (aS (itI b r ek kps todo) (bT fp kps kvs)) (aP (H.eraseIdx k)) h := s
    rw [aW] at s1
    exact s1)
  have hkeys : kps.map (·.1) = kvs.map (·.1) := by
    obtain ⟨_, _, _, _, _, ⟨_, _, _, _, hx, _⟩⟩ := s1.hp
    exact gl _ _ _ hx
  obtain ⟨ha, hb', hdj, hun, ⟨es, ⟨clock, since, seen, c0⟩, hI⟩, hrest⟩ := s1.hp
  have s2 : Sat K.W (pts r (.mapIter (some b) since seen c0) :: pts b (.map es clock) :: pr (cG ek ak es.toList kps ∧ (es.toList.map (·.born)).Nodup ∧ (∀ e ∈ es.toList, e.born < since) ∧ since ≤ c0 ∧ since ≤ clock ∧ (leftOf es seen).toList.map (·.key) = todo.map ek) :: bT fp kps kvs :: H.eraseIdx k) w := by
    refine ⟨s1.os, s1.tape, s1.output, s1.size, ?_⟩
    have s3 : aS (aS (pts b (.map es clock)) (aS (pts r (.mapIter (some b) since seen c0)) (pr _))) (aP (bT fp kps kvs :: H.eraseIdx k)) (hpw w) := ⟨ha, hb', hdj, hun, hI, hrest⟩
    rw [aW, aW] at s3
    exact cX s3
  have hr0 := s2.pts_at (i := 0) rfl
  have hb0 := s2.pts_at (i := 1) rfl
  obtain ⟨_, ⟨p1, p2, p3, p4, p5, p6⟩, _⟩ := s2.at (i := 2) rfl
  have hrun : ∀ v w', (Instr.next (.pointer (some ⟨r, 0, none⟩)) false o.type).run K.P w = .ok v w' → (execOp a.eval o).run K.P w = .ok (.value v) w' := by
    intro v w' h
    unfold execOp; simp only [ho]; rw [he.ev hx]
    simp [h]
  have hnodef : ∀ c, o.op ≠ .defer c := by rw [ho]; intro c h; cases h
  refine wpListIn_plain hg fun K' hK' => ?_
  refine ⟨fun f _ => fv _ _, ?_⟩
  rw [Oper.semAt_eq _ _ _ hnodef]
  rcases run_next_at (P := K.P) w o.type r b since c0 seen es clock hr0 hb0 p3 p4 with ⟨hz, hn⟩ | ⟨e, hem, w1, hal, hn⟩
  · rw [hrun _ _ hn]
    have ht : todo = [] := by
      have : (leftOf es seen).toList = [] := List.eq_nil_of_length_eq_zero (by simpa using hz)
      rw [this] at p6
      simpa using p6.symm
    refine hK' _ _ ?_
    rw [hd]
    exact h0 ht rr hr _ w (he.put _ hdn) s
  · rw [hrun _ _ hn]
    obtain ⟨i, hi⟩ := List.mem_iff_getElem?.1 hem
    have hki : (todo.map ek)[i]? = some e.key := by rw [← p6, List.getElem?_map, hi]; rfl
    rw [List.getElem?_map] at hki
    obtain ⟨z, hz, hze⟩ := Option.map_eq_some_iff.1 hki
    have hmem := sc hem
    have hpair : (e.key, e.val) ∈ kps.map fun p => (ek p.1, ak p.2) := by
      rw [← (show es.toList.map (fun e => (e.key, e.val)) = _ from p1)]
      exact List.mem_map.2 ⟨e, hmem, rfl⟩
    obtain ⟨p, hp, hpe⟩ := List.mem_map.1 hpair
    simp only [Prod.mk.injEq] at hpe
    have hpz : p.1 = z := hinj _ _ (by rw [hpe.1, hze])
    have hmg : aR kps z = some p.2 := by rw [← hpz]; exact nj (by rw [hkeys]; exact hnd) hp
    have hval : e.val = ak (cw kps z) := by rw [← hpe.2]; simp [cw, hmg]
    have hsm : (aR kvs z).isSome = true := by rw [← fh kps kvs z hkeys, hmg]; rfl
    refine hK' _ _ ?_
    rw [hd]
    have hr1 : Sat K.W (pts r (.mapIter (some b) since seen c0) :: pts b (.map es clock) :: pr (cG ek ak es.toList kps ∧ (es.toList.map (·.born)).Nodup ∧ (∀ e ∈ es.toList, e.born < since) ∧ since ≤ c0 ∧ since ≤ clock ∧ (leftOf es seen).toList.map (·.key) = todo.map ek) :: bT fp kps kvs :: H.eraseIdx k) w1 := by
      rcases hal with rfl | rfl
      · exact s2
      · exact s2.drew _
    have s5 := hr1.upd (o' := .mapIter (some b) since (seen.push e.born) clock)
    have := h1 i z hz hsm rr hr (a.put (some d) (.tuple #[.bool true, e.key, e.val])) (Go.ChangeMaps.setBlock w1 r (.mapIter (some b) since (seen.push e.born) clock)) (by rw [hze.symm, hval]; exact he.put _ hdn) (s5.ent ?_)
    · exact this
    · intro h s
      rw [← fD H k _ hl]
      show aS (aS (itJ b r ek kps (todo.eraseIdx i) z) (bT fp kps kvs)) (aP (H.eraseIdx k)) h
      rw [aW]
      have s6 : aS (pts r (.mapIter (some b) since (seen.push e.born) clock)) (aS (pts b (.map es clock)) (aS (pr _) (aS (bT fp kps kvs) (aP (H.eraseIdx k))))) h := s
      have s7 := cX s6
      have s8 : aS (pts b (.map es clock)) (aS (pts r (.mapIter (some b) since (seen.push e.born) clock)) (aS (pr (cG ek ak es.toList kps ∧ (es.toList.map (·.born)).Nodup ∧ (∀ x ∈ es.toList, x.born < since) ∧ since ≤ clock ∧ (leftOf es (seen.push e.born)).toList.map (·.key) = (todo.eraseIdx i).map ek ∧ e ∈ es.toList ∧ e.key = ek z ∧ e.val = ak (cw kps z))) (aS (bT fp kps kvs) (aP (H.eraseIdx k))))) h :=
        bH h (fun h s => bH h (fun h s => eV h (fun h q => ⟨p1, p2, p3, p5, by
          rw [rp p2 hi, kC, p6, kC], hmem, hze.symm, hval⟩) s) s) s7
      rw [← aW (pts r _), ← aW (pts b _)] at s8
      exact eV h (fun h s => ⟨es, ⟨clock, since, seen, e⟩, s⟩) s8
theorem tg {x : Operand} {todo : List α} {z : α} {H' : List HA} {X : HA} (ho : o.op = .entry x) (hx : Go.Proofs.YtndjkejhacfpdaaGreatDoor.ev E x = some (.pointer (some ⟨r, 0, none⟩))) (e : Ent H (itJ b r ek kps todo z :: X :: H')) :
    RQ K o E H (.tuple #[ek z, ak (cw kps z)]) :=
  ck (by rw [ho]; intro c h; cases h) fun a w he s => by
    have s1 := s.ent e
    obtain ⟨ha, hb', hdj, hun, ⟨es, ⟨clock, since, seen, e⟩, hI⟩, hrest⟩ := s1.hp
    have s2 : Sat K.W (pts r (.mapIter (some b) since (seen.push e.born) clock) :: pts b (.map es clock) :: pr (cG ek ak es.toList kps ∧ (es.toList.map (·.born)).Nodup ∧ (∀ e ∈ es.toList, e.born < since) ∧ since ≤ clock ∧ (leftOf es (seen.push e.born)).toList.map (·.key) = todo.map ek ∧ e ∈ es.toList ∧ e.key = ek z ∧ e.val = ak (cw kps z)) :: X :: H') w := by
      refine ⟨s1.os, s1.tape, s1.output, s1.size, ?_⟩
      have s3 : aS (aS (pts b (.map es clock)) (aS (pts r (.mapIter (some b) since (seen.push e.born) clock)) (pr _))) (aP (X :: H')) (hpw w) := ⟨ha, hb', hdj, hun, hI, hrest⟩
      rw [aW, aW] at s3
      exact cX s3
    have hr0 := s2.pts_at (i := 0) rfl
    have hb0 := s2.pts_at (i := 1) rfl
    obtain ⟨_, ⟨p1, p2, p3, p4, p5, p6, p7, p8⟩, _⟩ := s2.at (i := 2) rfl
    unfold execOp; simp only [ho]; rw [he.ev hx]
    simp [run_entry_at (P := K.P) w r b since seen es clock e hr0 hb0 p6 p2, p7, p8]
theorem um {todo : List α} {z : α} (k : Nat) (hk : H[k]? = some (am (itJ b r ek kps todo z) fp kps kvs)) : Ent H (itJ b r ek kps todo z :: bT fp kps kvs :: H.eraseIdx k) := by
  intro h s
  rw [eu H k _ hk] at s
  have s1 : aS (aS (itJ b r ek kps todo z) (bT fp kps kvs)) (aP (H.eraseIdx k)) h := s
  rw [aW] at s1
  exact s1
theorem md {γ : Type} : ∀ (l : List γ) (i : Nat) (x : γ), l[i]? = some x → (x :: l.eraseIdx i).Perm l
  | [], i, x, h => by simp at h
  | a :: l, 0, x, h => by simp at h; subst h; exact List.Perm.refl _
  | a :: l, i + 1, x, h => by
    rw [List.eraseIdx_cons_succ]
    exact (List.Perm.swap a x _).trans (List.Perm.cons a (md l i x (by simpa using h)))
theorem sd {o' : Option R} (e : ∀ r, opt = some r → o' = some r) (h : bP K Q ops rest E H o') : bP K Q ops rest E H opt := fun r hr a w he hs => h r (e r hr) a w he hs
def gI {β S R : Type} {α : Type} [DecidableEq α] [DecidableEq S] [DecidableEq β] (step : S → α → β → Option (S × β)) (o2 : S × List (α × β) → Option R) (k : Nat) (z : S × List (α × β) × List α) : Option R :=
  if z.2.2.length < k ∧ (z.2.1.map (·.1)).Nodup ∧ ∀ l ∈ iu z.2.2, fF step l z.1 z.2.1 = fF step z.2.2 z.1 z.2.1 then (fF step z.2.2 z.1 z.2.1).bind o2 else none
theorem qw [DecidableEq S] [DecidableEq β] {step : S → α → β → Option (S × β)} {o2 : S × List (α × β) → Option R} {k : Nat} {s : S} {todo : List α} {i : Nat} {x : α} {v : β} {rr : R} (hi : todo[i]? = some x) (hv : aR kvs x = some v)
    (h : gI step o2 (k + 1) (s, kvs, todo) = some rr) : ∃ z, step s x v = some z ∧ gI step o2 k (z.1, aV kvs x z.2, todo.eraseIdx i) = some rr := by
  unfold gI at h
  split at h
  · rename_i hc
    obtain ⟨h1, h2, h3'⟩ := hc
    simp only at h1 h2 h3' h
    have h3 := fun l hl => h3' l (ni hl)
    have hil := (List.getElem?_eq_some_iff.1 hi).1
    have hperm : ∀ l, l.Perm (todo.eraseIdx i) → (x :: l).Perm todo := fun l hl => by
      have e1 : todo[i]'hil = x := (List.getElem?_eq_some_iff.1 hi).2
      have e2 : (x :: todo.eraseIdx i).Perm todo := by
        rw [← e1]
        exact md _ _ _ (by rw [e1]; exact hi)
      exact (List.Perm.cons x hl).trans e2
    rw [← h3 _ (hperm _ (List.Perm.refl _))] at h
    rw [fF, hv, Option.bind_some] at h
    cases hs : step s x v with
    | none => rw [hs] at h; cases h
    | some z =>
      refine ⟨z, rfl, ?_⟩
      rw [hs, Option.bind_some] at h
      unfold gI
      have hle : (todo.eraseIdx i).length < k := by rw [List.length_eraseIdx_of_lt hil]; omega
      have hn : ((aV kvs x z.2).map (·.1)).Nodup := by rw [mc (by rw [hv]; rfl)]; exact h2
      have hall : ∀ l, l.Perm (todo.eraseIdx i) → fF step l z.1 (aV kvs x z.2) = fF step (todo.eraseIdx i) z.1 (aV kvs x z.2) := fun l hl => by
        have e1 := h3 _ (hperm l hl)
        have e2 := h3 _ (hperm _ (List.Perm.refl _))
        rw [fF, hv, Option.bind_some, hs, Option.bind_some] at e1 e2
        rw [e1, ← e2]
      rw [if_pos ⟨hle, hn, fun l hl => hall l (kg hl)⟩]
      exact h
  · cases h
theorem qx [DecidableEq S] [DecidableEq β] {step : S → α → β → Option (S × β)} {o2 : S × List (α × β) → Option R} {k : Nat} {s : S} {rr : R} (h : gI step o2 k (s, kvs, []) = some rr) : o2 (s, kvs) = some rr := by
  unfold gI at h
  split at h
  · simpa [fF] using h
  · cases h
theorem pq [DecidableEq S] [DecidableEq β] {step : S → α → β → Option (S × β)} {o2 : S × List (α × β) → Option R} {k : Nat} {s : S} {todo : List α} {rr : R} (h : gI step o2 k (s, kvs, todo) = some rr) : (kvs.map (·.1)).Nodup := by
  unfold gI at h
  split at h
  · rename_i hc; exact hc.2.1
  · cases h
theorem pt [DecidableEq S] [DecidableEq β] {step : S → α → β → Option (S × β)} {o2 : S × List (α × β) → Option R} {s : S} : (ia step s kvs).bind o2 = gI step o2 (kvs.length + 1) (s, kvs, kvs.map (·.1)) := by
  unfold ia gI
  simp only [List.length_map]
  by_cases hc : (kvs.map (·.1)).Nodup ∧ ∀ l ∈ iu (kvs.map (·.1)), fF step l s kvs = fF step (kvs.map (·.1)) s kvs
  · rw [if_pos hc, if_pos ⟨by omega, hc⟩]
  · rw [if_neg hc, if_neg (fun h => hc h.2)]; rfl
theorem qz [DecidableEq S] [DecidableEq β] {tI tN tO eid bid id1 : Nat} {body : Code} {ty1 ty2 : TypeId} {ps1 ps2 : String} {af1 af2 : Array Edge} {o2 : S × List (α × β) → Option R} (step : S → α → β → Option (S × β)) (Es : S → Y → Env) (Hs : S → Y → List HA) (s0 : S) (y0 : Y)
    (hinj : ∀ x y, ek x = ek y → x = y) (hEs : ∀ s y, lk (Es s y) tI = some (.pointer (some ⟨r, 0, none⟩))) (hn1 : Nat.blt tN K.n = true) (hn2 : Nat.blt tO K.n = true) (hS : ∀ s y v1 v2, Sub (Es s y) ((tO, v1) :: (tN, v2) :: Es s y))
    (hE : Sub (Es s0 y0) E) (hH : Ent H (am (itI b r ek kps (kps.map (·.1))) fp kps kvs :: Hs s0 y0))
    (hB : ∀ kvs todo s y x v, aR kvs x = some v → Sim K (gX K (fun (z : S × β) (y : Y) => Es z.1 y) (fun z y => am (itJ b r ek kps todo x) fp kps (aV kvs x z.2) :: Hs z.1 y)) (.block bid body) ((tO, .bool true) :: (tN, .tuple #[.bool true, ek x, ak (cw kps x)]) :: Es s y) (am (itJ b r ek kps todo x) fp kps kvs :: Hs s y) (step s x v))
    (hN : ∀ kvs s y, Nrm K Q (Es s y) (am (aj b ek ak kps) fp kps kvs :: Hs s y) (o2 (s, kvs))) :
    Sim K (jE eid Q) (.loop (.seq (.region id1 [⟨some tN, .next (.tmp tI) false, ty1, ps1, af1, none⟩, ⟨some tO, .extract (.tmp tN) 0, ty2, ps2, af2, none⟩].toArray false) (.seq (.cond (.tmp tO) .skip (.exit eid)) (.block bid body)))) E H ((ia step s0 kvs).bind o2) := by
  have hkeys : ∀ w, Sat K.W H w → kps.map (·.1) = kvs.map (·.1) := fun w s => by
    obtain ⟨_, _, _, _, ⟨_, _, _, _, _, hx⟩, _⟩ := (s.ent hH).hp
    exact gl _ _ _ hx
  intro rr hr a w he hs
  have hk := hkeys w hs
  rw [pt] at hr
  rw [hk] at hH
  refine (cC (S := S × List (α × β) × List α) Y (fun k z => gI step o2 k z) (fun z y => Es z.1 y) (fun z y => am (itI b r ek kps z.2.2) fp kps z.2.1 :: Hs z.1 y) (fun z => by unfold gI; rw [if_neg (by omega)]) ?_ (kvs.length + 1) (s0, kvs, kvs.map (·.1)) y0 hE hH) rr hr a w he hs
  rintro k ⟨s, kvs, todo⟩ y
  refine ay (aJ ?_)
  by_cases hnd : (kvs.map (·.1)).Nodup
  · refine rt (todo := todo) (kvs := kvs) 0 rfl rfl rfl hn1 (hEs s y) hinj hnd rfl (fun ht => ?_) (fun i x hi hx => ?_)
    · subst ht
      refine ij (bu (vs := #[.bool false]) (v := .bool false) (i := 0) rfl (by simp [Go.Proofs.YtndjkejhacfpdaaGreatDoor.ev, lk]) rfl) rfl rfl hn2 (ae (aa (ay (fx (by simp [Go.Proofs.YtndjkejhacfpdaaGreatDoor.ev, lk]) (cN ?_)))))
      refine ct (cD (cu ?_))
      intro rr hr a w he hs
      have hh := hN kvs s y rr (qx hr) a w (he.sub ?_) (hs.ent te)
      · exact hh
      · exact hS s y _ _
    · obtain ⟨v, hv⟩ := Option.isSome_iff_exists.1 hx
      refine sd (o' := (step s x v).bind fun z => gI step o2 k (z.1, aV kvs x z.2, todo.eraseIdx i)) (fun rr hr => ?_) ?_
      · obtain ⟨z, h1, h2⟩ := qw hi hv hr
        rw [h1]; exact h2
      · refine ij (bu (vs := #[.bool true, ek x, ak (cw kps x)]) (v := .bool true) (i := 0) rfl (by simp [Go.Proofs.YtndjkejhacfpdaaGreatDoor.ev, lk]) rfl) rfl rfl hn2 (ae (aa (ay (eM (by simp [Go.Proofs.YtndjkejhacfpdaaGreatDoor.ev, lk]) (aC (aa ?_))))))
        intro rr hr a w he hs
        obtain ⟨z, h1, h2⟩ := Option.bind_eq_some_iff.1 hr
        refine wpIn_mono (hB kvs (todo.eraseIdx i) s y x v hv z h1 a w he hs) ?_
        intro e a' w' hq
        cases e with
        | normal => obtain ⟨y', x1, x2⟩ := hq; exact ⟨(z.1, aV kvs x z.2, todo.eraseIdx i), y', h2, x1, x2.ent tf⟩
        | _ => exact hq.elim
  · exact fun rr hr => absurd (pq hr) hnd
theorem nk {step : S → α → β → Option S} : ∀ (l : List α) (s : S) (kvs : List (α × β)) (z : S × List (α × β)), fF (fun s x v => (step s x v).map fun s' => (s', v)) l s kvs = some z → z.2 = kvs
  | [], s, kvs, z, h => by simp [fF] at h; rw [← h]
  | x :: l, s, kvs, z, h => by
    rw [fF] at h
    obtain ⟨v, hv, h⟩ := Option.bind_eq_some_iff.1 h
    obtain ⟨u, hu, h⟩ := Option.bind_eq_some_iff.1 h
    obtain ⟨s', _, rfl⟩ := Option.map_eq_some_iff.1 hu
    rw [iI hv] at h
    exact nk l _ _ _ h
theorem pu [DecidableEq S] [DecidableEq β] {step : S → α → β → Option S} {s : S} {z : S × List (α × β)} (h : ia (fun s x v => (step s x v).map fun s' => (s', v)) s kvs = some z) : z.2 = kvs := by
  unfold ia at h
  split at h
  · exact nk _ _ _ _ h
  · cases h
theorem Ent.sameF {M : HA} {x : α} {v : β} {l m : List HA} (hx : aR kvs x = some v) (r : Ent l (am M fp kps kvs :: m)) : Ent l (am M fp kps (aV kvs x v) :: m) := by rw [iI hx]; exact r
theorem qA [DecidableEq S] [DecidableEq β] {tI tN tO eid bid id1 : Nat} {body : Code} {ty1 ty2 : TypeId} {ps1 ps2 : String} {af1 af2 : Array Edge} {o2 : S → Option R} (step : S → α → β → Option S) (Es : S → Y → Env) (Hs : S → Y → List HA) (s0 : S) (y0 : Y)
    (hinj : ∀ x y, ek x = ek y → x = y) (hEs : ∀ s y, lk (Es s y) tI = some (.pointer (some ⟨r, 0, none⟩))) (hn1 : Nat.blt tN K.n = true) (hn2 : Nat.blt tO K.n = true) (hS : ∀ s y v1 v2, Sub (Es s y) ((tO, v1) :: (tN, v2) :: Es s y))
    (hE : Sub (Es s0 y0) E) (hH : Ent H (am (itI b r ek kps (kps.map (·.1))) fp kps kvs :: Hs s0 y0))
    (hB : ∀ kvs todo s y x v, aR kvs x = some v → Sim K (gX K (fun (z : S) (y : Y) => Es z y) (fun z y => am (itJ b r ek kps todo x) fp kps kvs :: Hs z y)) (.block bid body) ((tO, .bool true) :: (tN, .tuple #[.bool true, ek x, ak (cw kps x)]) :: Es s y) (am (itJ b r ek kps todo x) fp kps kvs :: Hs s y) (step s x v))
    (hN : ∀ s y, Nrm K Q (Es s y) (am (aj b ek ak kps) fp kps kvs :: Hs s y) (o2 s)) :
    Sim K (jE eid Q) (.loop (.seq (.region id1 [⟨some tN, .next (.tmp tI) false, ty1, ps1, af1, none⟩, ⟨some tO, .extract (.tmp tN) 0, ty2, ps2, af2, none⟩].toArray false) (.seq (.cond (.tmp tO) .skip (.exit eid)) (.block bid body)))) E H ((kz step s0 kvs).bind o2) := by
  have e : (kz step s0 kvs).bind o2 = (ia (fun s x v => (step s x v).map fun s' => (s', v)) s0 kvs).bind fun z => if z.2 = kvs then o2 z.1 else none := by
    unfold kz
    cases h : ia (fun s x v => (step s x v).map fun s' => (s', v)) s0 kvs with
    | none => rfl
    | some z => simp [pu h]
  rw [e]
  refine qz (o2 := fun z => if z.2 = kvs then o2 z.1 else none) _ Es Hs s0 y0 hinj hEs hn1 hn2 hS hE hH (fun kvs todo s y x v hv => ?_) (fun kvs' s y => ?_)
  · intro z hz a w he hs
    obtain ⟨s', h1, rfl⟩ := Option.map_eq_some_iff.1 hz
    refine wpIn_mono (hB kvs todo s y x v hv s' h1 a w he hs) ?_
    intro e a' w' hq
    cases e with
    | normal => obtain ⟨y', x1, x2⟩ := hq; exact ⟨y', x1, x2.ent (Ent.sameF hv (Ent.refl _))⟩
    | _ => exact hq.elim
  · by_cases hk : kvs' = kvs
    · subst hk; simpa using hN s y
    · simp only [hk, if_false]; exact rI
end
theorem pv {P : Program} {W : World} {F O : HA} {f b : Nat} {args : List Value} {β Z Y : Type} {ek : List UInt8 → Value} {fp : Nat → β → Z → List HA} {kps : List (List UInt8 × Nat)} {kvs : List (List UInt8 × β)} {val : List (List UInt8) → Y → Value} {B : List (List UInt8) → Y → HA}
    (h : ∀ F, Fn P W f args [O, aj b ek ak kps] F (if (kps.map (·.1)).Nodup ∧ kps.length * 16 ≤ 140737488355328 ∧ ∀ p ∈ kps, p.1.length ≤ 140737488351232 then some (dS kps) else none) val (fun r y => [B r y, O, aj b ek ak kps])) :
    Fn P W f args [O, am (aj b ek ak kps) fp kps kvs] F (if (kvs.map (·.1)).Nodup ∧ kvs.length * 16 ≤ 140737488355328 ∧ ∀ p ∈ kvs, p.1.length ≤ 140737488351232 then some (dS kvs) else none) val (fun r y => [B r y, O, am (aj b ek ak kps) fp kps kvs]) := by
  intro r hr w hs
  have hs1 : Sat W (am (aj b ek ak kps) fp kps kvs :: [O, F]) w := hs.ent (Ent.sel 1 rfl (Ent.sel 0 rfl (Ent.sel 0 rfl (Ent.nil _))))
  have hkeys : kps.map (·.1) = kvs.map (·.1) := by
    obtain ⟨_, _, _, _, ⟨_, _, _, _, _, hx⟩, _⟩ := hs1.hp
    exact gl _ _ _ hx
  have hlen : kps.length = kvs.length := by simpa using congrArg List.length hkeys
  have hks : dS kps = dS kvs := by unfold dS; rw [hkeys]
  split at hr
  · rename_i hh
    cases hr
    have hh2 : (kps.map (·.1)).Nodup ∧ kps.length * 16 ≤ 140737488355328 ∧ ∀ p ∈ kps, p.1.length ≤ 140737488351232 := by
      refine ⟨by rw [hkeys]; exact hh.1, by rw [hlen]; exact hh.2.1, fun p hp => ?_⟩
      have : p.1 ∈ kvs.map (·.1) := by rw [← hkeys]; exact List.mem_map.2 ⟨p, hp, rfl⟩
      obtain ⟨q, hq, e⟩ := List.mem_map.1 this
      rw [← e]; exact hh.2.2 q hq
    have := h (aS (bT fp kps kvs) F) (dS kvs) (by rw [if_pos hh2, hks]) w (hs1.ent ?_)
    · refine this.mono ?_
      rintro e w' ⟨y, rfl, s⟩
      refine ⟨y, rfl, s.ent ?_⟩
      intro h s
      have s1 : aS (B (dS kvs) y) (aS O (aS (aj b ek ak kps) (aS (aS (bT fp kps kvs) F) tt))) h := s
      refine bH h (fun h s => bH h (fun h s => ?_) s) s1
      show aS (aS (aj b ek ak kps) (bT fp kps kvs)) (aS F tt) h
      rw [aW] at s
      rw [aW]
      exact s
    · intro h s
      have s1 : aS (aS (aj b ek ak kps) (bT fp kps kvs)) (aS O (aS F tt)) h := s
      show aS O (aS (aj b ek ak kps) (aS (aS (bT fp kps kvs) F) tt)) h
      rw [aW] at s1
      have s2 := bH h (fun h s => cX s) s1
      have s3 := cX s2
      refine bH h (fun h s => bH h (fun h s => ?_) s) s3
      rw [aW]
      exact s
  · cases hr
section
variable {K : Cx} {E : Env} {H : List HA} {o : Oper} {α : Type} {n : Nat} {V : α → List Value → Prop} {xs : List α}
end
theorem ap.empty {α : Type} {T n c : Nat} {V V' : α → List Value → Prop} {a : Option Addr} {p : Hp} (h : ap T n V a ([] : List α) c p) : ap T n V' a ([] : List α) c p := by
  obtain ⟨rs, hl, hr⟩ := h
  cases rs with
  | nil => exact ⟨[], trivial, hr⟩
  | cons r rs => exact hl.elim
end Go.Proofs.YtndjkejhacfpdaaGreatDoor

namespace Go.Proofs.YtndjkejhacfpdaaGreatDoor
set_option linter.unusedVariables false
set_option linter.unusedSimpArgs false
open Go.RowKit
def rK (T : TypeId) (F : HA) (a : Option Addr) (c : Nat) : Prop := ∀ h, F h → c = 0 ∨ ∃ b off, a = some ⟨b, off, none⟩ ∧ ∃ (l : List Value) (fz : Nat × Nat), h b = some (.cells l.toArray T fz) ∧ off + c ≤ l.length ∧ (fz.1 = fz.2 ∨ off + c ≤ fz.1)
theorem rK.row {T : TypeId} {a : Option Addr} {n c : Nat} {cs : List Value} : rK T (Row T 1 a n c cs) a c := by
  rintro h (⟨rfl, rfl, rfl, rfl⟩ | ⟨b, off, pre, junk, fz, rfl, ok, hb⟩)
  · exact .inl rfl
  · have h1 := ok.room; have h2 := ok.offs; have h3 := ok.fzok
    refine .inr ⟨b, off, rfl, _, fz, hb, ?_, ?_⟩
    · simp only [List.length_append]; omega
    · rcases h3 with h | h
      · exact .inl h
      · right; omega
structure RdW (T : TypeId) (F : HA) (a : Option Addr) (c : Nat) (cs : List Value) : Prop where
  rd : Rd F a cs
  cap : rK T F a c
theorem RdW.row {T : TypeId} {a : Option Addr} {n c : Nat} {cs : List Value} (h : Rd (Row T 1 a n c cs) a cs) : RdW T (Row T 1 a n c cs) a c cs := ⟨h, .row⟩
theorem RdW.none {T : TypeId} {F : HA} : RdW T F none 0 [] := ⟨.inl rfl, fun _ _ => .inl rfl⟩
def UpC (G F : HA) : Prop := ∀ h, F h → ∃ g, G g ∧ ∀ b o, g b = some o → h b = some o
theorem UpC.refl (F : HA) : UpC F F := fun h x => ⟨h, x, fun _ _ e => e⟩
theorem UpC.trans {A B C : HA} (u : UpC A B) (v : UpC B C) : UpC A C := fun h x => by
  obtain ⟨g, hg, e⟩ := v h x
  obtain ⟨f, hf, e'⟩ := u g hg
  exact ⟨f, hf, fun b o y => e b o (e' b o y)⟩
theorem UpC.lend {F : HA} {l : List HA} (k : Nat) (hk : l[k]? = some F) : UpC F (aP l) := fun h x => ik l k F hk h x
theorem UpC.up {G F : HA} (u : UpC G F) : Up G F := fun a cs r => by
  rcases r with h | ⟨b, off, ha, hc⟩
  · exact .inl h
  · refine .inr ⟨b, off, ha, fun h x => ?_⟩
    obtain ⟨g, hg, e⟩ := u h x
    obtain ⟨l, T, fz, h1, h2⟩ := hc g hg
    exact ⟨l, T, fz, e _ _ h1, h2⟩
theorem RdW.up {T : TypeId} {G F : HA} {a : Option Addr} {c : Nat} {cs : List Value} (r : RdW T G a c cs) (u : UpC G F) : RdW T F a c cs :=
  ⟨u.up _ _ r.rd, fun h x => by
    obtain ⟨g, hg, e⟩ := u h x
    rcases r.cap g hg with h0 | ⟨b, off, ha, l, fz, h1, h2⟩
    · exact .inl h0
    · exact .inr ⟨b, off, ha, l, fz, e _ _ h1, h2⟩⟩
/-! ### What may be written -/
def jB (h : Hp) (b : Nat) (o : Obj) : Hp := fun i => if i = b then some o else h i
def Shp (z : HA) : HA := fun h' => ∃ h, z h ∧ ∀ b (l : List Value) T fz, h b = some (.cells l.toArray T fz) → ∃ l' : List Value, h' b = some (.cells l'.toArray T fz) ∧ l'.length = l.length
theorem Shp.of {z : HA} (h : Hp) (x : z h) : Shp z h := ⟨h, x, fun _ l _ _ e => ⟨l, e, rfl⟩⟩
def Wrt (T : TypeId) (J : HA) (a : Option Addr) (c : Nat) : Prop := ∀ h, J h → c = 0 ∨ ∃ b off, a = some ⟨b, off, none⟩ ∧ ∃ (l : List Value) (fz : Nat × Nat), h b = some (.cells l.toArray T fz) ∧ off + c ≤ l.length ∧ (fz.1 = fz.2 ∨ off + c ≤ fz.1) ∧
  ∀ l' : List Value, l'.length = l.length → J (jB h b (.cells l'.toArray T fz))
def UpW (J J' : HA) : Prop := ∀ T a c, Wrt T J a c → Wrt T J' a c
theorem UpW.refl (J : HA) : UpW J J := fun _ _ _ h => h
theorem UpW.trans {A B C : HA} (u : UpW A B) (v : UpW B C) : UpW A C := fun T a c h => v T a c (u T a c h)
theorem Wrt.up {T : TypeId} {J J' : HA} {a : Option Addr} {c : Nat} (h : Wrt T J a c) (u : UpW J J') : Wrt T J' a c := u T a c h
theorem UpW.star {A J : HA} : UpW J (aS A J) := by
  rintro T a c r h ⟨x, y, d, rfl, hx, hy⟩
  rcases r y hy with h0 | ⟨b, off, ha, l, fz, h1, h2, h3, h4⟩
  · exact .inl h0
  · refine .inr ⟨b, off, ha, l, fz, lQ d h1, h2, h3, fun m hm => ⟨x, jB y b (.cells m.toArray T fz), ?_, ?_, hx, h4 m hm⟩⟩
    · intro i
      by_cases hi : i = b
      · subst hi
        rcases d i with e | e
        · exact .inl e
        · rw [h1] at e; cases e
      · simpa [jB, hi] using d i
    · funext i
      by_cases hi : i = b
      · subst hi
        rcases d i with e | e
        · simp [jB, un, e]
        · rw [h1] at e; cases e
      · simp [jB, un, hi]
def Blk (T : TypeId) (b s : Nat) : HA := fun h => ∃ l : List Value, h b = some (.cells l.toArray T (0, 0)) ∧ l.length = s
theorem Wrt.blk {T : TypeId} {b s c : Nat} {J : HA} (hc : c ≤ s) : Wrt T (aS (Blk T b s) J) (some ⟨b, 0, none⟩) c := by
  rintro h ⟨x, y, d, rfl, ⟨l, hx, hl⟩, hy⟩
  refine .inr ⟨b, 0, rfl, l, (0, 0), jF hx, by omega, .inl rfl, fun m hm => ⟨jB x b (.cells m.toArray T (0, 0)), y, ?_, ?_, ⟨m, by simp [jB], by omega⟩, hy⟩⟩
  · intro i
    by_cases hi : i = b
    · subst hi
      rcases d i with e | e
      · rw [hx] at e; cases e
      · exact .inr e
    · simpa [jB, hi] using d i
  · funext i
    by_cases hi : i = b
    · subst hi; simp [jB, un]
    · simp [jB, un, hi]
section
variable {K : Cx} {R S Y : Type} {Q : cT R} {E : Env} {H : List HA} {opt : Option R} {ops : Array Oper} {rest : List Oper} {o : Oper}
end
end Go.Proofs.YtndjkejhacfpdaaGreatDoor

namespace Go.Proofs.YtndjkejhacfpdaaGreatDoor
set_option linter.unusedVariables false
set_option linter.unusedSimpArgs false
open Go.RowKit
theorem kj {n : Int} {b : UInt8} {cs : List Value} {bs : List UInt8} (h : (b.toNat : Int) = n) (t : cs = ax bs) : Value.int .u8 n :: cs = ax (b :: bs) := by
  subst h; subst t; rfl
theorem tj : ([] : List Value) = ax [] := rfl
section
variable {K : Cx} {R S Y : Type} {Q : cT R} {E : Env} {H : List HA} {opt : Option R} {ops : Array Oper} {rest : List Oper} {o : Oper}
theorem rA {x : Operand} {t : TypeId} {lo hi : Option Operand} {s : List UInt8} {vl vh : Option Value} {lo' hi' : Int} (ho : o.op = .slice t x lo hi none) (hx : ev E x = some (str s))
    (hl : lim E lo = some vl) (hh : lim E hi = some vh) (hu : K.P.underlying t = some .string)
    (h1 : (vh = none ∧ hi' = (s.length : Int)) ∨ ∃ k, vh = some (.int k hi')) (h2 : (vl = none ∧ lo' = 0) ∨ ∃ k, vl = some (.int k lo')) (hb : 0 ≤ lo' ∧ lo' ≤ hi' ∧ hi' ≤ (s.length : Int)) :
    RQ K o E H (str (cut s lo' hi')) := by
  obtain ⟨a, rfl⟩ := Int.eq_ofNat_of_zero_le hb.1
  obtain ⟨b, rfl⟩ := Int.eq_ofNat_of_zero_le (Int.le_trans hb.1 hb.2.1)
  have q := rR (K := K) (E := E) (H := H) (o := o) (s := s) (l := a) (h := b) ho hx hl hh hu (by rcases h1 with ⟨x, y⟩ | y; exact .inl ⟨x, by omega⟩; exact .inr y) (by rcases h2 with ⟨x, y⟩ | y; exact .inl ⟨x, by omega⟩; exact .inr y) (by omega) (by omega)
  simpa [cut] using q
end
/-! ### Functions of the library -/
theorem ub {P : Program} {W : World} {F : HA} {f : FuncId} {args : List Value} {R Y : Type} {p : Prop} [Decidable p] {r : R} {val : R → Y → Value} {A : List HA} {B : R → Y → List HA} (h : p → Fn P W f args A F (some r) val B) :
    Fn P W f args A F (if p then some r else none) val B := fun r' hr w hs => by
  split at hr
  · rename_i hp; exact h hp r' hr w hs
  · cases hr
/-! ### What the library's variables hold -/
def iC (F : HA) (w : World) : Prop := ∃ a, F a ∧ ∀ j o, a j = some o → w.heap[j]? = some o
structure Glb (P : Program) (F : HA) : Prop where
  pow : ∀ w, iC F w → Lib.TabIs P w "internal/strconv.uint64pow10" .u64 Lib.pow10Tab
  syn : (P.globalNamed "strconv.ErrSyntax").isSome = true → ∀ w, iC F w → ∃ t p, w.var? P "strconv.ErrSyntax" = some #[.iface t p]
  rng : (P.globalNamed "strconv.ErrRange").isSome = true → ∀ w, iC F w → ∃ t p, w.var? P "strconv.ErrRange" = some #[.iface t p]
theorem iC.lend {F : HA} {l : List HA} {w : World} (k : Nat) (hk : l[k]? = some F) (h : iC (aP l) w) : iC F w := by
  obtain ⟨a, ha, e⟩ := h
  obtain ⟨b, hb, e'⟩ := ik l k F hk a ha
  exact ⟨b, hb, fun j o x => e j o (e' j o x)⟩
theorem Glb.lend {P : Program} {F : HA} {l : List HA} (h : Glb P F) (k : Nat) (hk : l[k]? = some F) : Glb P (aP l) :=
  ⟨fun w x => h.pow w (x.lend k hk), fun e w x => h.syn e w (x.lend k hk), fun e w x => h.rng e w (x.lend k hk)⟩
theorem Sat.holds {W w : World} {l : List HA} {F : HA} (s : Sat W (l ++ [F]) w) : iC F w := s.at (i := l.length) (by simp)
theorem qB (w : World) (k : Nat) (os : Array Obj) : Below w.heap.size w (Sort.grow (w.drewN k) os) := by
  refine ⟨rfl, rfl, rfl, by simp [Sort.grow, World.drewN], fun j hj => ?_⟩
  show (w.heap ++ os)[j]? = _
  rw [Array.getElem?_append_left hj]
theorem tk {P : Program} {W : World} {F : HA} {f : FuncId} {args : List Value} {n : Int} (hg : Glb P F)
    (hC : ∀ w, Lib.TabIs P w "internal/strconv.uint64pow10" .u64 Lib.pow10Tab → Calls P f args.toArray w fun e w' => e = .returned (.string ⟨(Lib.itoa n).toArray⟩) ∧ ∃ k os, w' = Sort.grow (w.drewN k) os) :
    Fn P W f args [] F (some (Lib.itoa n)) (fun (r : List UInt8) (_ : Unit) => str r) (fun _ _ => []) := fun r' hr w hs => by
  cases hr
  exact (hC w (hg.pow w hs.holds)).mono fun e w' ⟨h1, k, os, h2⟩ => ⟨(), h1, by subst h2; exact hs.below (qB w k os)⟩
def sk (ok : Bool) (T : TypeId) (y : Nat) : Value := match ok with
  | true => .nilIface
  | false => .iface T (.pointer (some ⟨y, 0, none⟩))
section
variable {K : Cx} {E : Env} {H : List HA} {o : Oper}
theorem ti {xt yt T : TypeId} {x : Operand} {ok : Bool} {y : Nat} {ms : _} (ho : o.op = .binOp .eql xt x (.const .nilIface) yt) (hx : ev E x = some (sk ok T y)) (hu : K.P.underlying xt = some (.interface ms)) : RQ K o E H (.bool ok) :=
  ck (by rw [ho]; intro c h; cases h) fun a w he _ => by
    unfold execOp; simp only [ho]; rw [he.ev hx, he.ev (x := .const .nilIface) rfl]
    cases ok with
    | true =>
      have e : (Op.equal xt .nilIface .nilIface).run K.P w = .ok true w := by
        rw [show Op.equal xt .nilIface .nilIface = Op.equalIn (9999 + 1) xt .nilIface .nilIface from rfl, Op.equalIn]
        simp [underlying, program, Sem.run, hu]
      simp [sk, eqGuard, binOp, e]
    | false =>
      have e : (Op.equal xt (.iface T (.pointer (some ⟨y, 0, none⟩))) .nilIface).run K.P w = .ok false w := by
        rw [show Op.equal xt (.iface T (.pointer (some ⟨y, 0, none⟩))) .nilIface = Op.equalIn (9999 + 1) xt (.iface T (.pointer (some ⟨y, 0, none⟩))) .nilIface from rfl, Op.equalIn]
        simp [underlying, program, Sem.run, hu]
      simp [sk, eqGuard, binOp, e]
end
end Go.Proofs.YtndjkejhacfpdaaGreatDoor

namespace Go.Proofs.YtndjkejhacfpdaaGreatDoor
set_option linter.unusedVariables false
set_option linter.unusedSimpArgs false
open Go.RowKit
theorem Ent.perm {l m : List HA} (p : l.Perm m) : Ent l m := by
  induction p with
  | nil => exact Ent.refl _
  | cons a _ ih => exact Ent.cons ih
  | swap a b l => exact Ent.sel 1 rfl (Ent.refl _)
  | trans _ _ ih1 ih2 => exact ih1.trans ih2
def iO (γ : Nat → Nat) (i z : Nat) : Nat → Nat := fun j => if Nat.beq j i then z else γ j
section
variable {K : Cx} {R S Y : Type} {Q : cT R} {E : Env} {H : List HA} {o : Option R}
def tX (K : Cx) (ops : Array Oper) (anc : List (List Nat)) (val : (Nat → Nat) → Nat → Value) (add : (Nat → Nat) → Nat → List HA) (E : Env) (H X : List HA) (i : Nat) (pre : List Nat) (γ : Nat → Nat) : Prop :=
  ∃ op, ops[i]? = some op ∧ ∃ Ei, dq ops anc (val γ) E i Ei ∧ GOk ops op Ei ∧
    (∀ z, fE pre (val (iO γ i z)) (val γ) ∧ All pre fun q => add (iO γ i z) q = add γ q) ∧
    RE K (Y := Nat) op Ei (H ++ X) (fun z => val (iO γ i z) i) (fun z => H ++ (add (iO γ i z) i ++ X))
theorem tX.mk {ops : Array Oper} {anc : List (List Nat)} {Z : Type} {val : (Nat → Nat) → Nat → Value} {add : (Nat → Nat) → Nat → List HA} {X : List HA} {i : Nat} {pre : List Nat} {γ : Nat → Nat} {op : Oper} {v : Z → Value} {H' : Z → List HA} (Ei : Env) (f : Z → Nat) (ho : ops[i]? = some op) (hg : op.guard = none) (he : dq ops anc (val γ) E i Ei)
    (ha : ∀ z, fE pre (val (iO γ i z)) (val γ)) (hb : ∀ z, All pre fun q => add (iO γ i z) q = add γ q)
    (h : RE K (Y := Z) op Ei (H ++ X) v H') (hv : ∀ z, op.dst = none ∨ v z = val (iO γ i (f z)) i) (hH : ∀ z, Ent (H' z) (H ++ (add (iO γ i (f z)) i ++ X))) : tX K ops anc val add E H X i pre γ :=
  ⟨op, ho, Ei, he, .inl hg, fun z => ⟨ha z, hb z⟩, fun a w hh hs next Q hn => h a w hh hs next Q fun z w' s => by
    have := hn (f z) w' (s.ent (hH z))
    rcases hv z with e | e
    · rw [e] at this ⊢; exact this
    · rw [e]; exact this⟩
end
/-! ### Functions in cells -/
section
variable {K : Cx} {E : Env} {H : List HA} {o : Oper}
end
end Go.Proofs.YtndjkejhacfpdaaGreatDoor

namespace Go.Proofs.YtndjkejhacfpdaaGreatDoor
open Go.RowKit Go.Maps Go.Sort Go.Shelf
set_option linter.unusedVariables false
def jv : Go.Shelf.Ren := ⟨fun | 6 => 69 | 8 => 96 | 9 => 97 | 11 => 116 | 13 => 118 | 12 => 117 | 23 => 137 | 24 => 138 | 14 => 128 | 15 => 129 | 16 => 130 | 17 => 131 | 18 => 132 | 19 => 133 | 20 => 134 | 21 => 135 | 22 => 136 | 25 => 144 | 26 => 145 | 27 => 146 | 28 => 147 | 29 => 148 | 30 => 149 | 31 => 152 | n => n, fun | 26 => 9 | 28 => 119 | 24 => 60 | 0 => 0 | 3 => 3 | 37 => 169 | 48 => 149 | 50 => 174 | 4 => 4 | 40 => 190 | 39 => 189 | 45 => 26 | 5 => 5 | 9 => 9 | 51 => 202 | 55 => 206 | 57 => 208 | 58 => 70 | 33 => 106 | n => n, fun | n => n⟩
theorem pp : Go.Proofs.SlLaysZ.n6 Tryz.prog jv := {
  mixed := by kernel_rfl
  f6 := ⟨Tryz.f69.name, by decide, Tryz.func69.trans (congrArg some (by kernel_rfl))⟩
  f8 := ⟨Tryz.f96.name, by decide, Tryz.func96.trans (congrArg some (by kernel_rfl))⟩
  f11 := ⟨Tryz.f116.name, by decide, Tryz.func116.trans (congrArg some (by kernel_rfl))⟩
  t0 := Tryz.underlying0
  a0 := Tryz.isAgg0
  z0 := Tryz.sizeOf0
  v0 := Tryz.zeroValue0
  t24 := Tryz.underlying60
  a24 := Tryz.isAgg60
  z24 := Tryz.sizeOf60
  v24 := Tryz.zeroValue60
  t26 := Tryz.underlying9
  a26 := Tryz.isAgg9
  z26 := Tryz.sizeOf9
  v26 := Tryz.zeroValue9
  t28 := Tryz.underlying119
  a28 := Tryz.isAgg119
  z28 := Tryz.sizeOf119
  v28 := Tryz.zeroValue119
  i26 := by kernel_rfl }
def kA : Go.Shelf.Ren := ⟨fun | 10 => 98 | n => n, fun | 33 => 106 | 23 => 95 | 0 => 0 | 4 => 4 | 26 => 9 | 3 => 107 | n => n, fun | n => n⟩
theorem rX : Go.Proofs.SlLaysZ.n10 Tryz.prog kA := {
  mixed := by kernel_rfl
  f10 := ⟨Tryz.f98.name, by decide, Tryz.func98.trans (congrArg some (by kernel_rfl))⟩
  t0 := Tryz.underlying0
  a0 := Tryz.isAgg0
  z0 := Tryz.sizeOf0
  v0 := Tryz.zeroValue0
  t4 := Tryz.underlying4
  a4 := Tryz.isAgg4
  z4 := Tryz.sizeOf4
  v4 := Tryz.zeroValue4
  t23 := Tryz.underlying95
  a23 := Tryz.isAgg95
  z23 := Tryz.sizeOf95
  v23 := Tryz.zeroValue95
  t26 := Tryz.underlying9
  a26 := Tryz.isAgg9
  z26 := Tryz.sizeOf9
  v26 := Tryz.zeroValue9
  t33 := Tryz.underlying106
  a33 := Tryz.isAgg106
  z33 := Tryz.sizeOf106
  v33 := Tryz.zeroValue106 }
def oX : Go.Shelf.Ren := ⟨fun | 6 => 97 | 8 => 118 | 9 => 117 | 19 => 137 | 20 => 138 | 21 => 128 | 22 => 129 | 23 => 130 | 24 => 131 | 25 => 132 | 26 => 133 | 27 => 134 | 28 => 135 | 29 => 136 | 36 => 144 | 31 => 145 | 32 => 146 | 37 => 147 | 38 => 148 | 39 => 149 | 41 => 152 | n => n, fun | 27 => 60 | 29 => 9 | 3 => 3 | 32 => 169 | 26 => 60 | 0 => 0 | 44 => 149 | 46 => 174 | 4 => 4 | 36 => 190 | 35 => 189 | 41 => 26 | 5 => 5 | 9 => 9 | 53 => 202 | 57 => 206 | 63 => 208 | 64 => 70 | n => n, fun | n => n⟩
theorem oY : Go.Proofs.SlLaysM.n6 Tryz.prog oX := {
  mixed := by kernel_rfl
  f6 := ⟨Tryz.f97.name, by decide, Tryz.func97.trans (congrArg some (by kernel_rfl))⟩
  f8 := Tryz.func118.trans (congrArg some (by kernel_rfl))
  f9 := ⟨Tryz.f117.name, by decide, Tryz.func117.trans (congrArg some (by kernel_rfl))⟩
  f19 := Tryz.func137.trans (congrArg some (by kernel_rfl))
  f20 := Tryz.func138.trans (congrArg some (by kernel_rfl))
  f21 := ⟨Tryz.f128.name, by decide, Tryz.func128.trans (congrArg some (by kernel_rfl))⟩
  f22 := ⟨Tryz.f129.name, by decide, Tryz.func129.trans (congrArg some (by kernel_rfl))⟩
  f23 := ⟨Tryz.f130.name, by decide, Tryz.func130.trans (congrArg some (by kernel_rfl))⟩
  f24 := ⟨Tryz.f131.name, by decide, Tryz.func131.trans (congrArg some (by kernel_rfl))⟩
  f25 := ⟨Tryz.f132.name, by decide, Tryz.func132.trans (congrArg some (by kernel_rfl))⟩
  f26 := ⟨Tryz.f133.name, by decide, Tryz.func133.trans (congrArg some (by kernel_rfl))⟩
  f27 := ⟨Tryz.f134.name, by decide, Tryz.func134.trans (congrArg some (by kernel_rfl))⟩
  f28 := ⟨Tryz.f135.name, by decide, Tryz.func135.trans (congrArg some (by kernel_rfl))⟩
  f29 := ⟨Tryz.f136.name, by decide, Tryz.func136.trans (congrArg some (by kernel_rfl))⟩
  f31 := Tryz.func145.trans (congrArg some (by kernel_rfl))
  f32 := Tryz.func146.trans (congrArg some (by kernel_rfl))
  f36 := ⟨Tryz.f144.name, by decide, Tryz.func144.trans (congrArg some (by kernel_rfl))⟩
  f37 := ⟨Tryz.f147.name, by decide, Tryz.func147.trans (congrArg some (by kernel_rfl))⟩
  f38 := ⟨Tryz.f148.name, by decide, Tryz.func148.trans (congrArg some (by kernel_rfl))⟩
  f39 := ⟨Tryz.f149.name, by decide, Tryz.func149.trans (congrArg some (by kernel_rfl))⟩
  f41 := ⟨Tryz.f152.name, by decide, Tryz.func152.trans (congrArg some (by kernel_rfl))⟩
  t0 := Tryz.underlying0
  a0 := Tryz.isAgg0
  z0 := Tryz.sizeOf0
  v0 := Tryz.zeroValue0
  t3 := Tryz.underlying3
  a3 := Tryz.isAgg3
  z3 := Tryz.sizeOf3
  v3 := Tryz.zeroValue3
  t4 := Tryz.underlying4
  a4 := Tryz.isAgg4
  z4 := Tryz.sizeOf4
  v4 := Tryz.zeroValue4
  t5 := Tryz.underlying5
  a5 := Tryz.isAgg5
  z5 := Tryz.sizeOf5
  v5 := Tryz.zeroValue5
  t9 := Tryz.underlying9
  a9 := Tryz.isAgg9
  z9 := Tryz.sizeOf9
  v9 := Tryz.zeroValue9
  t26 := Tryz.underlying60
  a26 := Tryz.isAgg60
  z26 := Tryz.sizeOf60
  v26 := Tryz.zeroValue60
  t27 := Tryz.underlying60
  a27 := Tryz.isAgg60
  z27 := Tryz.sizeOf60
  v27 := Tryz.zeroValue60
  t29 := Tryz.underlying9
  a29 := Tryz.isAgg9
  z29 := Tryz.sizeOf9
  v29 := Tryz.zeroValue9
  t32 := Tryz.underlying169
  a32 := Tryz.isAgg169
  z32 := Tryz.sizeOf169
  v32 := Tryz.zeroValue169
  t35 := Tryz.underlying189
  a35 := Tryz.isAgg189
  z35 := Tryz.sizeOf189
  v35 := Tryz.zeroValue189
  t36 := Tryz.underlying190
  a36 := Tryz.isAgg190
  z36 := Tryz.sizeOf190
  v36 := Tryz.zeroValue190
  t41 := Tryz.underlying26
  a41 := Tryz.isAgg26
  z41 := Tryz.sizeOf26
  v41 := Tryz.zeroValue26
  t44 := Tryz.underlying149
  a44 := Tryz.isAgg149
  z44 := Tryz.sizeOf149
  v44 := Tryz.zeroValue149
  t46 := Tryz.underlying174
  a46 := Tryz.isAgg174
  z46 := Tryz.sizeOf174
  v46 := Tryz.zeroValue174
  t53 := Tryz.underlying202
  a53 := Tryz.isAgg202
  z53 := Tryz.sizeOf202
  v53 := Tryz.zeroValue202
  t57 := Tryz.underlying206
  a57 := Tryz.isAgg206
  z57 := Tryz.sizeOf206
  v57 := Tryz.zeroValue206
  t63 := Tryz.underlying208
  a63 := Tryz.isAgg208
  z63 := Tryz.sizeOf208
  v63 := Tryz.zeroValue208
  t64 := Tryz.underlying70
  a64 := Tryz.isAgg70
  z64 := Tryz.sizeOf70
  v64 := Tryz.zeroValue70 }
def qv : Go.Shelf.Ren := ⟨fun | 171 => 39 | 243 => 72 | 246 => 99 | 283 => 119 | 284 => 120 | 285 => 121 | 286 => 122 | 129 => 138 | 317 => 139 | 318 => 140 | 319 => 141 | 320 => 142 | 337 => 150 | 338 => 151 | n => n, fun | 3 => 3 | 9 => 9 | 2 => 2 | 4 => 4 | 171 => 173 | 0 => 0 | 53 => 174 | 37 => 33 | 5 => 5 | 173 => 177 | 212 => 198 | 51 => 149 | 20 => 20 | 213 => 199 | 46 => 169 | 232 => 210 | 233 => 211 | n => n, fun | 17 => 0 | 18 => 1 | 19 => 2 | n => n⟩
theorem tW : Go.Proofs.LaysM.n171 Tryz.prog qv := {
  mixed := by kernel_rfl
  f129 := Tryz.func138.trans (congrArg some (by kernel_rfl))
  f171 := Tryz.func39.trans (congrArg some (by kernel_rfl))
  f243 := Tryz.func72.trans (congrArg some (by kernel_rfl))
  f246 := Tryz.func99.trans (congrArg some (by kernel_rfl))
  f283 := Tryz.func119.trans (congrArg some (by kernel_rfl))
  f284 := Tryz.func120.trans (congrArg some (by kernel_rfl))
  f285 := Tryz.func121.trans (congrArg some (by kernel_rfl))
  f286 := Tryz.func122.trans (congrArg some (by kernel_rfl))
  f317 := Tryz.func139.trans (congrArg some (by kernel_rfl))
  f318 := Tryz.func140.trans (congrArg some (by kernel_rfl))
  f319 := Tryz.func141.trans (congrArg some (by kernel_rfl))
  f320 := Tryz.func142.trans (congrArg some (by kernel_rfl))
  f337 := Tryz.func150.trans (congrArg some (by kernel_rfl))
  f338 := Tryz.func151.trans (congrArg some (by kernel_rfl))
  t0 := Tryz.underlying0
  a0 := Tryz.isAgg0
  z0 := Tryz.sizeOf0
  v0 := Tryz.zeroValue0
  t2 := Tryz.underlying2
  a2 := Tryz.isAgg2
  z2 := Tryz.sizeOf2
  v2 := Tryz.zeroValue2
  t3 := Tryz.underlying3
  a3 := Tryz.isAgg3
  z3 := Tryz.sizeOf3
  v3 := Tryz.zeroValue3
  t4 := Tryz.underlying4
  a4 := Tryz.isAgg4
  z4 := Tryz.sizeOf4
  v4 := Tryz.zeroValue4
  t5 := Tryz.underlying5
  a5 := Tryz.isAgg5
  z5 := Tryz.sizeOf5
  v5 := Tryz.zeroValue5
  t9 := Tryz.underlying9
  a9 := Tryz.isAgg9
  z9 := Tryz.sizeOf9
  v9 := Tryz.zeroValue9
  t20 := Tryz.underlying20
  a20 := Tryz.isAgg20
  z20 := Tryz.sizeOf20
  v20 := Tryz.zeroValue20
  t37 := Tryz.underlying33
  a37 := Tryz.isAgg33
  z37 := Tryz.sizeOf33
  v37 := Tryz.zeroValue33
  t46 := Tryz.underlying169
  a46 := Tryz.isAgg169
  z46 := Tryz.sizeOf169
  v46 := Tryz.zeroValue169
  t51 := Tryz.underlying149
  a51 := Tryz.isAgg149
  z51 := Tryz.sizeOf149
  v51 := Tryz.zeroValue149
  t53 := Tryz.underlying174
  a53 := Tryz.isAgg174
  z53 := Tryz.sizeOf174
  v53 := Tryz.zeroValue174
  t171 := Tryz.underlying173
  a171 := Tryz.isAgg173
  z171 := Tryz.sizeOf173
  v171 := Tryz.zeroValue173
  t173 := Tryz.underlying177
  a173 := Tryz.isAgg177
  z173 := Tryz.sizeOf177
  v173 := Tryz.zeroValue177
  t212 := Tryz.underlying198
  a212 := Tryz.isAgg198
  z212 := Tryz.sizeOf198
  v212 := Tryz.zeroValue198
  t213 := Tryz.underlying199
  a213 := Tryz.isAgg199
  z213 := Tryz.sizeOf199
  t232 := Tryz.underlying210
  a232 := Tryz.isAgg210
  z232 := Tryz.sizeOf210
  v232 := Tryz.zeroValue210
  t233 := Tryz.underlying211
  a233 := Tryz.isAgg211
  z233 := Tryz.sizeOf211
  v233 := Tryz.zeroValue211
  g17 := by kernel_rfl
  g18 := by kernel_rfl
  g19 := by kernel_rfl
  i0 := by kernel_rfl
  i2 := by kernel_rfl
  i3 := by kernel_rfl
  i4 := by kernel_rfl
  i5 := by kernel_rfl
  i9 := by kernel_rfl
  i20 := by kernel_rfl
  i37 := by kernel_rfl
  i46 := by kernel_rfl
  i51 := by kernel_rfl
  i53 := by kernel_rfl
  i171 := by kernel_rfl
  i173 := by kernel_rfl
  i212 := by kernel_rfl
  i232 := by kernel_rfl
  i233 := by kernel_rfl
  m17 := by kernel_rfl
  m18 := by kernel_rfl
  m19 := by kernel_rfl }
theorem oZ (m : Nat) : AnyZ.SortsIn Tryz.prog jv Fence.wide m :=
  ⟨fun blk off cap ss W hH hblk hsz => callsIn_wide.2 (AnyM.slices_Sort_string oY blk off cap ss W hH hblk hsz),
   fun p cap W => callsIn_wide.2 (AnyM.slices_Sort_string_none oY p cap W)⟩
set_option maxHeartbeats 1000000 in
theorem mb (w : World) (D0 : DataW Unit) (nn b c : Nat) (hown : w.ownsMap Tryz.prog 9 R0 b nn D0) (hcell : w.cell? ⟨c, 0, none⟩ = some (.map (some b))) (hlt : c < w.heap.size) (hmax : Maps.size D0 ≤ maxLen) (hbytes : Maps.size D0 * 16 ≤ 140737488355328) :
    CallsIn Fence.wide 5 Tryz.prog 69 #[.func (.func 98) #[] #[.pointer (some ⟨c, 0, none⟩)]] w fun e w' => ∃ (v : Value) (ss : List (List UInt8)), e = .returned v ∧ ss.Perm (strKeys D0) ∧
      w'.ownsRow w.heap.size 9 1 v ss.length ((ss.mergeSort (fun x y => decide (x ≤ y))).map encStr) ∧ (v = .slice none 0 0 ↔ ss = []) ∧ Below w.heap.size w w' := by
  have hseq : SeqGives Fence.wide 2 Tryz.prog 98 #[.pointer (some ⟨c, 0, none⟩)] encStr (fun ss => ss.Perm (strKeys D0)) (Maps.size D0) w :=
    AnyZ.keys_gives (ρ := kA) { rX with } Fence.wide _ trivial rfl (by omega) c b nn D0 _ hlt hcell hown
  exact AnyZ.sorted_in pp Fence.wide 5 trivial trivial trivial trivial O (by omega) (oZ _) (enters_of Tryz.func97 (by kernel_rfl) O) 98 #[.pointer (some ⟨c, 0, none⟩)] trivial (enters_of Tryz.func98 (by kernel_rfl) O) _ _ hmax hbytes _ hseq
end Go.Proofs.YtndjkejhacfpdaaGreatDoor

namespace Go.Proofs.YtndjkejhacfpdaaGreatDoor
open Go.RowKit
set_option linter.unusedVariables false
set_option linter.unusedSimpArgs false
section
variable {K : Cx} {E : Env} {H : List HA} {o : Oper} {α : Type} {V : α → List Value → Prop} {a : Option Addr} {xs : List α} {T : TypeId} {c : Nat}
end
/-! ### Effects that only add, told by lists: what each value and each part hangs on is said beside it -/
theorem All.of {l : List Nat} {p : Nat → Prop} (h : ∀ i, i ∈ l → p i) : All l p := by
  induction l with
  | nil => trivial
  | cons a l ih => exact ⟨h a (List.mem_cons_self ..), ih fun i hi => h i (List.mem_cons_of_mem _ hi)⟩
theorem fE.of {l : List Nat} {f g : Nat → Value} (h : ∀ i, i ∈ l → f i = g i) : fE l f g := by
  induction l with
  | nil => trivial
  | cons a l ih => exact ⟨h a (List.mem_cons_self ..), ih fun i hi => h i (List.mem_cons_of_mem _ hi)⟩
def tR (vl : List ((Nat → Nat) → Value)) (γ : Nat → Nat) (i : Nat) : Value := vl.getD i (fun _ => undef) γ
def tS (al : List ((Nat → Nat) → List HA)) (γ : Nat → Nat) (i : Nat) : List HA := al.getD i (fun _ => []) γ
def qt : List ((Nat → Nat) → Value) → List ((Nat → Nat) → List HA) → List (List Nat) → Prop
  | v :: vs, a :: zs, d :: ds => (∀ γ γ' : Nat → Nat, (∀ j, j ∈ d → γ j = γ' j) → v γ = v γ' ∧ a γ = a γ') ∧ qt vs zs ds
  | [], [], [] => True
  | _, _, _ => False
theorem qt.at : ∀ {vl : List ((Nat → Nat) → Value)} {al : List ((Nat → Nat) → List HA)} {dl : List (List Nat)}, qt vl al dl → ∀ (i : Nat) (γ γ' : Nat → Nat), (∀ j, j ∈ dl.getD i [] → γ j = γ' j) → tR vl γ i = tR vl γ' i ∧ tS al γ i = tS al γ' i
  | v :: vs, a :: zs, d :: ds, h, 0, γ, γ', e => h.1 γ γ' e
  | v :: vs, a :: zs, d :: ds, h, i + 1, γ, γ', e => h.2.at i γ γ' e
  | [], [], [], _, i, γ, γ', e => ⟨rfl, rfl⟩
section
variable {K : Cx} {R S Y : Type} {Q : cT R} {E : Env} {H : List HA} {o : Option R}
def tT (K : Cx) (ops : Array Oper) (anc : List (List Nat)) (val : (Nat → Nat) → Nat → Value) (add : (Nat → Nat) → Nat → List HA) (E : Env) (H X : List HA) (i : Nat) (γ : Nat → Nat) : Prop :=
  ∃ op, ops[i]? = some op ∧ ∃ Ei, dq ops anc (val γ) E i Ei ∧ GOk ops op Ei ∧
    RE K (Y := Nat) op Ei (H ++ X) (fun z => val (iO γ i z) i) (fun z => H ++ (add (iO γ i z) i ++ X))
theorem tT.mk {ops : Array Oper} {anc : List (List Nat)} {Z : Type} {val : (Nat → Nat) → Nat → Value} {add : (Nat → Nat) → Nat → List HA} {X : List HA} {i : Nat} {γ : Nat → Nat} {op : Oper} {v : Z → Value} {H' : Z → List HA} (Ei : Env) (f : Z → Nat) (ho : ops[i]? = some op) (hg : op.guard = none) (he : dq ops anc (val γ) E i Ei)
    (h : RE K (Y := Z) op Ei (H ++ X) v H') (hv : ∀ z, v z = val (iO γ i (f z)) i) (hH : ∀ z, Ent (H' z) (H ++ (add (iO γ i (f z)) i ++ X))) : tT K ops anc val add E H X i γ :=
  ⟨op, ho, Ei, he, .inl hg, fun a w hh hs next Q hn => h a w hh hs next Q fun z w' s => by
    have := hn (f z) w' (s.ent (hH z))
    rw [hv z]; exact this⟩
theorem Ent.left {a b : List HA} : Ent (a ++ b) a := by
  induction a with
  | nil => exact Ent.nil _
  | cons x a ih => exact Ent.cons ih
theorem Ent.pick {l m : List HA} (idx : List Nat) (n : Nat) (hn : (idx.all fun i => (idx.count i == 1) && Nat.blt i n) = true) (hl : l.length = n) (hm : idx.map (fun i => l.getD i tt) = m) : Ent l m := by
  have h1 : ∀ i, i ∈ idx → idx.count i = 1 ∧ i < l.length := fun i hi => by
    have := List.all_eq_true.1 hn i hi
    rw [← hl] at this
    simpa [Nat.blt_eq] using this
  have hnd : idx.Nodup := List.nodup_iff_count.2 fun i => by
    by_cases hi : i ∈ idx
    · exact Nat.le_of_eq (h1 i hi).1
    · rw [List.count_eq_zero.2 hi]; omega
  have p : (List.range l.length).Perm (idx ++ (List.range l.length).filter fun i => !idx.contains i) := by
    refine (List.perm_ext_iff_of_nodup List.nodup_range (List.nodup_append.2 ⟨hnd, List.nodup_range.filter _, fun x hx y hy e => ?_⟩)).2 fun i => ?_
    · subst e
      have := (List.mem_filter.1 hy).2
      rw [List.contains_iff_mem.2 hx] at this
      cases this
    · rw [List.mem_append, List.mem_filter, List.mem_range]
      constructor
      · intro h
        by_cases hi : i ∈ idx
        · exact .inl hi
        · exact .inr ⟨h, by simpa using hi⟩
      · rintro (h | h)
        · exact (h1 i h).2
        · exact h.1
  have e : (List.range l.length).map (fun i => l.getD i tt) = l := by
    apply List.ext_getElem?
    intro i
    by_cases hi : i < l.length
    · simp [List.getElem?_map, List.getElem?_range hi, hi]
    · rw [List.getElem?_eq_none (by simp; omega), List.getElem?_eq_none (by omega)]
  have p2 := p.map fun i => l.getD i tt
  rw [e, List.map_append, hm] at p2
  exact (Ent.perm p2).trans Ent.left
end
end Go.Proofs.YtndjkejhacfpdaaGreatDoor

namespace Go.Proofs.YtndjkejhacfpdaaGreatDoor
open Go.RowKit
set_option linter.unusedVariables false
set_option linter.unusedSimpArgs false
section
variable {K : Cx} {E : Env} {H : List HA} {op : Oper}
end
end Go.Proofs.YtndjkejhacfpdaaGreatDoor

namespace Go.Proofs.YtndjkejhacfpdaaGreatDoor
open Go.RowKit Go.Shelf
set_option linter.unusedVariables false
set_option linter.unusedSimpArgs false
theorem sJ {F : HA} {l : List UInt8} (h : Rd F none (ax l)) : l = [] := by
  rcases h with h | ⟨b, off, h, _⟩
  · cases l with
    | nil => rfl
    | cons c t => cases h
  · cases h
theorem rW {α : Type} {F : HA} {n : Nat} {V : α → List Value → Prop} {xs : List α} (hn : Nat.blt 0 n = true) (h : RdV F n V none xs) : xs = [] := by
  obtain ⟨rs, h1, h2⟩ := h
  rcases h2 with h2 | ⟨b, off, h2, _⟩
  · cases xs with
    | nil => rfl
    | cons x xs =>
      cases rs with
      | nil => exact h1.elim
      | cons r rs =>
        have hr := h1.1.1
        rw [List.flatten_cons] at h2
        have h3 := congrArg List.length h2
        rw [List.length_append, hr] at h3
        have : 0 < n := by simpa [Nat.blt_eq] using hn
        simp at h3
        omega
  · cases h2
section
variable {K : Cx} {E : Env} {H : List HA} {o : Oper}
theorem om {xt yt e : TypeId} {x : Operand} {n c : Nat} (ho : o.op = .binOp .eql xt x (.const (.slice none 0 0)) yt) (hx : ev E x = some (.slice none n c)) (hu : K.P.underlying xt = some (.slice e)) : RQ K o E H (.bool true) :=
  ck (by rw [ho]; intro c h; cases h) fun a w he _ => by
    unfold execOp; simp only [ho]; rw [he.ev hx, he.ev (x := .const (.slice none 0 0)) rfl]
    have e : (Op.equal xt (.slice none n c) (.slice none 0 0)).run K.P w = .ok true w := by
      rw [show Op.equal xt (.slice none n c) (.slice none 0 0) = Op.equalIn (9999 + 1) xt (.slice none n c) (.slice none 0 0) from rfl, Op.equalIn]
      simp [underlying, program, Sem.run, hu]
    simp [eqGuard, binOp, e]
theorem oo {xt yt e : TypeId} {x : Operand} {p : Addr} {n c : Nat} (ho : o.op = .binOp .eql xt x (.const (.slice none 0 0)) yt) (hx : ev E x = some (.slice (some p) n c)) (hu : K.P.underlying xt = some (.slice e)) : RQ K o E H (.bool false) :=
  ck (by rw [ho]; intro c h; cases h) fun a w he _ => by
    unfold execOp; simp only [ho]; rw [he.ev hx, he.ev (x := .const (.slice none 0 0)) rfl]
    have e : (Op.equal xt (.slice (some p) n c) (.slice none 0 0)).run K.P w = .ok false w := by
      rw [show Op.equal xt (.slice (some p) n c) (.slice none 0 0) = Op.equalIn (9999 + 1) xt (.slice (some p) n c) (.slice none 0 0) from rfl, Op.equalIn]
      simp [underlying, program, Sem.run, hu]
    simp [eqGuard, binOp, e]
end
end Go.Proofs.YtndjkejhacfpdaaGreatDoor

namespace Go.Proofs.YtndjkejhacfpdaaGreatDoor
open Go.RowKit
set_option linter.unusedVariables false
set_option linter.unusedSimpArgs false
def dfD (g : FuncId) (cap : List Value) : Deferred := { target := .fn (.func g) cap.toArray, args := #[] }
section
variable {K : Cx} {R S Y : Type} {Q : cT R} {E : Env} {H : List HA} {opt : Option R} {ops : Array Oper} {rest : List Oper} {o : Oper}
theorem jN {c : Call} {x : Operand} {cap : List Value} {g : FuncId} (ho : o.op = .defer c) (hcal : c.callee = .value x) (hca : c.args = #[]) (hx : ev E x = some (.func (.func g) #[] cap.toArray))
    (hro : K.ro = none) (hg : o.guard = none) (hd : o.dst = none) (h : bP ⟨K.P, K.W, K.ro, K.n, dfD g cap :: K.ds⟩ Q ops rest E H opt) : bP K Q ops (o :: rest) E H opt := by
  intro r hr' a w he hs
  refine wpListIn_plain hg fun K' hK' => ?_
  refine ⟨fun f _ => fv _ _, ?_⟩
  have e1 : (o.semAt (fen K.ro).round a.eval).run K.P w = .ok (.defer (dfD g cap)) w := by
    rw [qR, hro, Oper.semAt_none]
    unfold execOp; simp only [ho]
    simp [resolve, hcal, hca, he.ev hx, Deferred.ofValue, dfD]
  rw [e1]
  show K' ({ a with defers := dfD g cap :: a.defers }.put o.dst undef) w
  rw [hd]
  refine hK' _ _ (h r hr' _ w ⟨he.size, ?_, he.get⟩ hs)
  show dfD g cap :: a.defers = dfD g cap :: K.ds
  rw [he.defers]
end
def kp (P : Program) (g : FuncId) (cap : List Value) : Prop := ∀ (W w : World) (H : List HA), Sat W H w → CallsDIn Fence.wide 0 P g cap.toArray .returning w fun e u' w' => (∃ v, e = .returned v) ∧ u' = .returning ∧ Sat W H w'
def pZ (K : Cx) {R Y : Type} (fn : Func) (val : R → Y → Value) (B : R → Y → List HA) : cT R := fun r e a w =>
  bodyPostDIn Fence.wide 0 K.P fn (fun e w' => ∃ y, e = .returned (val r y) ∧ Sat K.W (B r y) w') e a w
section
variable {K : Cx} {R S Y : Type} {Q : cT R} {E : Env} {H : List HA} {o : Option R}
theorem kq {P : Program} {W : World} {f : FuncId} {args : List Value} {A : List HA} {F : HA} {o : Option R} {val : R → Y → Value} {B : R → Y → List HA}
    {fn : Func} {c : Code} (n : Nat) (hf : P.funcs[f]? = some fn) (hb : fn.body = some c) (hn : fn.ntmps = n) (hl : Nat.ble args.length n = true)
    (h : Sim ⟨P, W, none, n, []⟩ (pZ ⟨P, W, none, n, []⟩ fn val fun r y => B r y ++ [F]) c (jO 0 args) (A ++ [F]) o) : Fn P W f args A F o val B := by
  intro r hr w hs
  refine (callsIn_wide (n := 0)).1 (callsIn_of_wp_defers hf hb trivial ?_ rfl)
  have := h r hr _ w (jP args n (by simpa [Nat.ble_eq] using hl)) hs
  rw [hn]
  exact this
theorem uf {fn : Func} {val : R → Y → Value} {B : R → Y → List HA} {r : R} {vs : List Value} (y : Y) (hd : K.ds = []) (hres : ir K.P E H fn.results.toList vs) (hv : tup vs = val r y) (hH : Ent H (B r y)) :
    ∀ r', some r = some r' → ∀ a w, Has K.n K.ds E a → Sat K.W H w → LeavesIn Fence.wide 0 K.P fn a.tmps (fun e w' => ∃ y, e = .returned (val r' y) ∧ Sat K.W (B r' y) w') a.defers .returning w := by
  intro r' hr a w he hs
  cases hr
  rw [he.defers, hd]
  exact ⟨_, jz he hs hres, y, by rw [hv], hs.ent hH⟩
theorem ug {fn : Func} {val : R → Y → Value} {B : R → Y → List HA} {r : R} {vs : List Value} (g : FuncId) (cap : List Value) (hq : kp K.P g cap) (hf : ∀ args w, (callFunc g args).run K.P w = .ok (.enter g args) w)
    (y : Y) (hd : K.ds = [dfD g cap]) (hres : ir K.P E H fn.results.toList vs) (hv : tup vs = val r y) (hH : Ent H (B r y)) :
    ∀ r', some r = some r' → ∀ a w, Has K.n K.ds E a → Sat K.W H w → LeavesIn Fence.wide 0 K.P fn a.tmps (fun e w' => ∃ y, e = .returned (val r' y) ∧ Sat K.W (B r' y) w') a.defers .returning w := by
  intro r' hr a w he hs
  cases hr
  rw [he.defers, hd]
  refine leavesIn_cons (F := Fence.wide) (n := 0) (f := g) (args := cap.toArray) (by simp) (fun h => by cases h) ?_ (fun _ _ => trivial) ?_
  · simp [invoke, hf]
  · refine (hq K.W w H hs).mono ?_
    rintro e u' w' ⟨⟨v, rfl⟩, rfl, s⟩
    exact ⟨_, jz he s hres, y, by rw [hv], s.ent hH⟩
theorem rD {fn : Func} {val : R → Y → Value} {B : R → Y → List HA} {r : R} {vs : List Value} (y : Y) (hd : K.ds = []) (hres : ir K.P E H fn.results.toList vs) (hv : tup vs = val r y) (hH : Ent H (B r y)) :
    Rtn K (pZ K fn val B) E H (some r) := fun r' hr a w he hs => uf y hd hres hv hH r' hr a w he hs
theorem jQ {fn : Func} {val : R → Y → Value} {B : R → Y → List HA} {r : R} {vs : List Value} (g : FuncId) (cap : List Value) (hq : kp K.P g cap) (hf : ∀ args w, (callFunc g args).run K.P w = .ok (.enter g args) w)
    (y : Y) (hd : K.ds = [dfD g cap]) (hres : ir K.P E H fn.results.toList vs) (hv : tup vs = val r y) (hH : Ent H (B r y)) :
    Rtn K (pZ K fn val B) E H (some r) := fun r' hr a w he hs => ug g cap hq hf y hd hres hv hH r' hr a w he hs
end
theorem mt {P : Program} {f : FuncId} {fn : Func} {id : Nat} {o0 : Oper} {l : List Oper} {rest : Code} {args : Array Value} {w : World} {R : Ending → World → Prop}
    (hf : P.funcs[f]? = some fn) (hb : fn.body = some (.seq (.region id (o0 :: l).toArray false) rest)) (h0 : ∀ ev : Operand → Value, ∀ w, (o0.semAt none ev).run P w = .ok .recover w) (hg : o0.guard = none)
    (h : wpListIn Fence.wide 0 P (o0 :: l).toArray (Exit.then (rest.wpIn Fence.wide 0 P (bodyPost P fn R)) (bodyPost P fn R)) l (({ tmps := args ++ Array.replicate (fn.ntmps - args.size) undef, defers := [] } : Act).put o0.dst .nilIface) w) :
    CallsDIn Fence.wide 0 P f args .returning w fun e u' w' => u' = .returning ∧ R e w' := by
  refine ⟨trivial, fun c₀ cs hu hr => ?_⟩
  let b : Frame := { (default : Frame) with fn := f, kind := .deferred, roundOf := none }
  have henter : Frame.enter P f args .deferred =
      b.atR { tmps := args ++ Array.replicate (fn.ntmps - args.size) undef, defers := [] } [.code (.seq (.region id (o0 :: l).toArray false) rest)] := by
    simp [Frame.enter, Frame.atR, hf, hb, b]
  have hc : ({ c₀ with mode := .returning } : Frame) = c₀ := by rw [← hu]
  obtain ⟨a0, ha0⟩ : ∃ a0 : Act, ({ tmps := args ++ Array.replicate (fn.ntmps - args.size) undef, defers := [] } : Act) = a0 := ⟨_, rfl⟩
  rw [ha0] at henter h
  have hF : Fence.wide.fn b.fn := trivial
  have hroom : Fence.wide.room ((c₀ :: cs).length + 1 + 0) := room_wide _
  have ho : (o0 :: l).toArray[0]? = some o0 := rfl
  have hw : Region.wanted o0 (yielded (o0 :: l).toArray a0.tmps) = true := by simp only [Region.wanted, hg]
  have s1 : StepsIn (Machine.fenced P Fence.wide) P (lone (Frame.enter P f args .deferred) (c₀ :: cs) w) (lone (b.atR (a0.put o0.dst .nilIface) (.inRegion (o0 :: l).toArray (List.range' 1 l.length) :: .code rest :: [])) (c₀ :: cs) w) := by
    rw [henter]
    refine .head (fenced_calm hF hroom rfl) stepR_seq (.head (fenced_calm hF hroom rfl) stepR_region ?_)
    have e2 : List.range (o0 :: l).toArray.size = 0 :: List.range' 1 l.length := by
      rw [List.range_eq_range']
      simp [List.range'_succ]
    rw [e2]
    refine .one (fenced_oper hF hroom ho (fun _ _ => trivial)) (step_lone_go ?_)
    have hg' := stepGR_op (P := P) (b := b) (a := a0) (k := .code rest :: []) (cs := c₀ :: cs) (w := w) (rest := List.range' 1 l.length) ho hw
    rw [hg']
    have hfin : (b.atR a0 (.inRegion (o0 :: l).toArray (0 :: List.range' 1 l.length) :: .code rest :: [])).finish .nilIface = b.atR (a0.put o0.dst .nilIface) (.inRegion (o0 :: l).toArray (List.range' 1 l.length) :: .code rest :: []) := by
      rw [Frame.finish_atR, ho]; rfl
    rw [← hfin]
    have hk : (b.atR a0 (.inRegion (o0 :: l).toArray (0 :: List.range' 1 l.length) :: .code rest :: [])).kind = .deferred := rfl
    have htr := tryRecover_deferred hk (c₀ :: cs)
    have hrec : recoverD (c₀ :: cs) = none := by simp [recoverD, hu]
    have hr0 := h0 a0.eval w
    rw [hrec] at htr
    simp only [Frame.atR] at htr ⊢
    simp [stepG.apply, b, hr0, htr]
    done
  rw [← wpOpsIn_eq_wpListIn l 1 (fun j => by simp [Nat.add_comm 1 j])] at h
  obtain ⟨e, a', w', hq, harr⟩ := wp_opsIn _ _ _ h b (.code rest :: []) (c₀ :: cs) rfl hF hroom
  have fin : ∀ (e : Exit) (a' : Act) (w' : World), bodyPost P fn R e a' w' → ArrivesIn (Machine.fenced P Fence.wide) P (lone (Frame.enter P f args .deferred) (c₀ :: cs) w) b [] (c₀ :: cs) e a' w' →
      ∃ e u' w' fr, (u' = FrameMode.returning ∧ R e w') ∧ ComesIn (Machine.fenced P Fence.wide) P (lone (Frame.enter P f args .deferred) (c₀ :: cs) w) (lone fr ({ c₀ with mode := u' } :: cs) w') e ∧ fr.kind = .deferred ∧ fr.fn = f ∧ fr.going P w' e := by
    intro e a' w' hq harr
    cases e with
    | normal =>
      obtain ⟨hd, v, hr', hR⟩ := hq
      exact ⟨.returned v, .returning, w', _, ⟨rfl, hR⟩, (by rw [hc]; exact StepsIn.trans harr (.one (fenced_calm (fr := b.atR a' []) hF hr rfl) (stepR_end rfl))), rfl, rfl, rfl, hd, fn, hf, hr'⟩
    | ret =>
      obtain ⟨hd, v, hr', hR⟩ := hq
      obtain ⟨todo, hs⟩ := harr.1 rfl
      exact ⟨.returned v, .returning, w', _, ⟨rfl, hR⟩, (by rw [hc]; exact hs), rfl, rfl, rfl, hd, fn, hf, hr'⟩
    | panic chain =>
      obtain ⟨hd, hR⟩ := hq
      obtain ⟨todo, hs⟩ := harr
      exact ⟨.panicked chain, .returning, w', _, ⟨rfl, hR⟩, (by rw [hc]; exact hs), rfl, rfl, rfl, hd, fn, hf⟩
    | exit id => exact hq.elim
    | goto l => exact hq.elim
    | outgrown => exact ⟨.outgrown, .returning, w', b, ⟨rfl, hq⟩, harr.resolve_left (by simp [b]), rfl, rfl, trivial⟩
  cases e with
  | normal =>
    obtain ⟨e₂, a₂, w₂, hq₂, harr₂⟩ := hq b [] (c₀ :: cs) rfl hF hroom
    exact fin _ _ _ hq₂ (.of_steps (StepsIn.trans s1 harr) harr₂)
  | exit id => exact hq.elim
  | goto l => exact hq.elim
  | ret => exact fin .ret a' w' hq (.of_steps s1 (.pass (x := .code rest) rfl (fun _ _ => .inl (by simp)) harr))
  | panic ch => exact fin (.panic ch) a' w' hq (.of_steps s1 (.pass (x := .code rest) rfl (fun _ _ => .inl (by simp)) harr))
  | outgrown => exact fin .outgrown a' w' hq (.of_steps s1 (.pass (x := .code rest) rfl (fun _ _ => .inl (by simp)) harr))
theorem mQ {P : Program} {g : FuncId} {fn : Func} {id d : Nat} {o0 : Oper} {l : List Oper} {rest : Code} {cap : List Value} (n : Nat)
    (hf : P.funcs[g]? = some fn) (hb : fn.body = some (.seq (.region id (o0 :: l).toArray false) rest)) (hn : fn.ntmps = n) (hl : Nat.ble cap.length n = true)
    (h0 : ∀ ev : Operand → Value, ∀ w, (o0.semAt none ev).run P w = .ok .recover w) (hg : o0.guard = none) (hd : o0.dst = some d) (hdn : Nat.blt d n = true) (o : Option Unit) (ho : o = some ())
    (h : ∀ (W : World) (F : HA), bP ⟨P, W, none, n, []⟩ (iT ⟨P, W, none, n, []⟩ rest (oi ⟨P, W, none, n, []⟩ fn (fun (_ : Unit) (_ : Unit) => Value.tuple #[]) fun _ _ => [F])) (o0 :: l).toArray l ((d, .nilIface) :: jO 0 cap) [F] o) : kp P g cap := by
  intro W w H hs
  refine (mt (args := cap.toArray) (R := fun e w' => ∃ y : Unit, e = .returned (.tuple #[]) ∧ Sat W [aP H] w') hf hb h0 hg ?_).mono ?_
  · have h1 := jP cap n (by simpa [Nat.ble_eq] using hl)
    have h2 := h1.put (d := d) .nilIface hdn
    rw [hn, hd]
    exact h W (aP H) () ho _ w h2 (hs.ent (by simpa using Ent.fold [] H))
  · rintro e u' w' ⟨rfl, _, rfl, s⟩
    exact ⟨⟨_, rfl⟩, rfl, s.ent (by simpa using Ent.unfold [] H)⟩
end Go.Proofs.YtndjkejhacfpdaaGreatDoor

namespace Go.Proofs.YtndjkejhacfpdaaGreatDoor
open Go.RowKit Go.Sort
set_option linter.unusedVariables false
set_option linter.unusedSimpArgs false
section
variable {K : Cx} {E : Env} {H : List HA} {o : Oper}
end
end Go.Proofs.YtndjkejhacfpdaaGreatDoor

namespace Go.Proofs.YtndjkejhacfpdaaGreatDoor
set_option linter.unusedVariables false
set_option linter.unusedSimpArgs false
set_option linter.unusedSectionVars false
open Go.RowKit
def ll (P : Program) (W : World) (l : Nat) (rec : Loop) {α γ S Y : Type} (enc : α → γ → List Value) (own : α → γ → HA) (step : S → α → Option S) (Inv : S → Y → List HA) : Prop :=
  ∀ s x g s' y (Fr : HA) w, step s x = some s' → Sat W (pts l (.loop rec) :: ((Inv s y ++ [own x g]) ++ [Fr])) w →
    RoundIn Fence.wide 0 P l rec.fn (jc rec.params.toList (enc x g) rec.tmps) rec.assign rec.body w fun e w' => e = .returned (.bool true) ∧ ∃ y', Sat W (pts l (.loop rec) :: (Inv s' y' ++ [Fr])) w'
def jJ (P : Program) (W : World) (l : Nat) {α γ S Y : Type} (enc : α → γ → List Value) (own : α → γ → HA) (step : S → α → Option S) (A : S → Y → HA) : Prop :=
  ∀ s x g s' y (Fr : HA) w, step s x = some s' → Sat W [A s y, own x g, Fr] w → ∃ f tmps assign body, (Instr.yield l (enc x g).toArray).run P w = .ok (.round l f tmps assign body) w ∧
    RoundIn Fence.wide 0 P l f tmps assign body w fun e w' => e = .returned (.bool true) ∧ ∃ y', Sat W [A s' y', Fr] w'
theorem pi {P : Program} {W : World} {l : Nat} {rec : Loop} {α γ S Y : Type} {enc : α → γ → List Value} {own : α → γ → HA} {step : S → α → Option S} {Inv : S → Y → List HA} (hR : ll P W l rec enc own step Inv) (hp : ∀ x g, (enc x g).length = rec.params.size) :
    jJ P W l enc own step (itA l rec Inv) := by
  intro s x g s' y Fr w hs hsat
  have s2 : Sat W (pts l (.loop rec) :: ((Inv s y ++ [own x g]) ++ [Fr])) w := by
    rw [List.append_assoc]
    exact hsat.ent (jK _ _)
  refine ⟨_, _, _, _, by rw [run_yield (s2.pts_at (i := 0) rfl) (by simpa using hp x g), mJ], ?_⟩
  refine RoundIn.mono (hR s x g s' y Fr w hs s2) ?_
  rintro e w' ⟨h1, y', s3⟩
  exact ⟨h1, y', s3.ent (qH (pts l (.loop rec) :: Inv s' y') Fr)⟩
section
variable {K : Cx} {R S Y α γ : Type} {Q : cT R} {E : Env} {H : List HA} {o : Option R}
theorem pj {W : World} {P : Program} {n : Nat} {l : Nat} {rec : Loop} {ps : List Nat} {enc : α → γ → List Value} {own : α → γ → HA} {step : S → α → Option S} {Inv : S → Y → List HA} (Eb : S → α → γ → Y → Env) {a : Act} {ds : List Deferred}
    (he : Has n ds E a) (h1 : rec.tmps = a.tmps) (h2 : rec.params = ps.toArray) (h3 : rec.state = .ready) (h4 : rec.pending = none) (hps : ∀ p ∈ ps, p < n) (hen : ∀ x g, ps.length = (enc x g).length)
    (hA : ∀ s x g y Fr, Sim ⟨P, W, some l, n, []⟩ (gX ⟨P, W, some l, n, []⟩ (fun (_ : Unit) (_ : Unit) => Eb s x g y) (fun _ _ => (Inv s y ++ [own x g]) ++ [Fr])) rec.assign (kn ps (enc x g) E) ((Inv s y ++ [own x g]) ++ [Fr]) (some ()))
    (hB : ∀ s x g y Fr, Sim ⟨P, W, some l, n, []⟩ (gX ⟨P, W, some l, n, []⟩ (fun (_ : S) (_ : Y) => []) (fun s y => Inv s y ++ [Fr])) rec.body (Eb s x g y) ((Inv s y ++ [own x g]) ++ [Fr]) (step s x)) :
    ll P W l rec enc own step Inv := by
  intro s x g s' y Fr w hst hs
  refine roundIn_of_wpIn trivial ?_
  have h0 : Has n [] E { tmps := rec.tmps, defers := [] } := ⟨by rw [h1]; exact he.size, rfl, fun i v h => by rw [h1]; exact he.get i v h⟩
  have hin := nN ps (enc x g) hps (hen x g) h0
  have e2 : rec.params.toList = ps := by rw [h2]
  rw [e2]
  refine wpIn_mono (hA s x g y (aP [pts l (.loop rec), Fr]) () rfl _ w hin (hs.ent (jL _ _ _))) ?_
  intro e a1 w1 hq
  cases e with
  | normal =>
    obtain ⟨_, x1, x2⟩ := hq
    have x3 := x2.ent (iR _ _ _)
    have hl := x3.pts_at (i := 0) rfl
    refine ⟨_, run_beginRound hl h3, ?_⟩
    have x4 : Sat W (pts l (.loop { rec with state := .busy }) :: ((Inv s y ++ [own x g]) ++ [Fr])) (w1.putObj l (.loop { rec with state := .busy })) := x3.upd
    refine wpIn_mono (hB s x g y _ s' hst a1 _ x1 (x4.ent (jL _ _ _))) ?_
    intro e a2 w2 hq
    cases e with
    | normal =>
      obtain ⟨y', _, z2⟩ := hq
      have z3 := z2.ent (iR _ _ _)
      have hl2 := z3.pts_at (i := 0) rfl
      refine ⟨_, _, run_endRound none hl2, rfl, y', ?_⟩
      have z4 : Sat W (pts l (.loop rec) :: (Inv s' y' ++ [Fr])) (w2.putObj l (.loop rec)) := z3.upd
      have er : ({ ({ rec with state := .busy } : Loop) with state := if (none : Option Code).isNone then .ready else .done, pending := none } : Loop) = rec := by
        cases rec
        simp at h3 h4 ⊢
        exact ⟨h3.symm, h4.symm⟩
      have er2 : w2.putObj l (.loop rec) = w2.putObj l (.loop ({ ({ rec with state := .busy } : Loop) with state := if (none : Option Code).isNone then .ready else .done, pending := none } : Loop)) := by rw [er]
      rw [er2] at z4
      exact z4
    | _ => exact hq.elim
  | _ => exact hq.elim
theorem pX {R' Y' : Type} {g : Operand} {ps : List Nat} {assign body : Code} {f : FuncId} {cap : List Value} {Cap rst : List HA} {CapB : R' → Y' → List HA} {enc : α → γ → List Value} {own : α → γ → HA} {o2 : R' → Option R} {oN : Option R'} {val : R' → Y' → Value}
    {step : S → α → Option S} (Inv : S → Y → List HA) (s0 : S) (y0 : Y) (Eb : S → α → γ → Y → Env) (gs : R' → S) (gy : R' → Y' → Y) (hro : K.ro = none) (hg : ev E g = some (.func (.func f) #[] cap.toArray))
    (hf : ∀ args w, (callFunc f args).run K.P w = .ok (.enter f args) w)
    (it : ∀ l (A : S → Y → HA), jJ K.P K.W l enc own step A → ∀ X, Fn K.P K.W f (.func (.yield l) #[] #[] :: cap) (A s0 y0 :: Cap) (aP (X :: rst)) oN val (fun r y => A (gs r) (gy r y) :: CapB r y))
    (hps0 : ps.all (fun p => Nat.blt p K.n) = true) (hen : ∀ x g, ps.length = (enc x g).length)
    (hH : Ent H (Inv s0 y0 ++ (Cap ++ rst)))
    (hA : ∀ l s x g y Fr, Sim ⟨K.P, K.W, some l, K.n, []⟩ (gX ⟨K.P, K.W, some l, K.n, []⟩ (fun (_ : Unit) (_ : Unit) => Eb s x g y) (fun _ _ => (Inv s y ++ [own x g]) ++ [Fr])) assign (kn ps (enc x g) E) ((Inv s y ++ [own x g]) ++ [Fr]) (some ()))
    (hB : ∀ l s x g y Fr, Sim ⟨K.P, K.W, some l, K.n, []⟩ (gX ⟨K.P, K.W, some l, K.n, []⟩ (fun (_ : S) (_ : Y) => []) (fun s y => Inv s y ++ [Fr])) body (Eb s x g y) ((Inv s y ++ [own x g]) ++ [Fr]) (step s x))
    (h : ∀ D r y, Nrm { K with ds := mkD D :: K.ds } Q E (gD D :: (Inv (gs r) (gy r y) ++ (CapB r y ++ rst))) (o2 r)) :
    Sim K Q (.rangeFunc g ps.toArray assign body) E H (oN.bind o2) := by
  intro r hr a w he hs
  have hps : ∀ p ∈ ps, p < K.n := fun p hp => by simpa [Nat.blt_eq] using List.all_eq_true.1 hps0 p hp
  cases hfo : oN with
  | none => rw [hfo] at hr; cases hr
  | some rN =>
  rw [hfo] at hr
  rw [hro]
  refine wpIn_rangeFunc fun fn _ => ?_
  have hs1 := hs.new (.deferred (some []))
  have hs2 := hs1.new (.loop { state := .ready, pending := none, fn := fn, tmps := a.tmps, params := ps.toArray, assign := assign, body := body, defers := w.heap.size })
  have hz : ({ w with heap := w.heap.push (.deferred (some [])) } : World).heap.size = w.heap.size + 1 := by simp
  rw [hz] at hs2
  let rec0 : Loop := { state := .ready, pending := none, fn, tmps := a.tmps, params := ps.toArray, assign, body, defers := w.heap.size }
  let w2 : World := (w.alloc (.deferred (some []))).alloc (.loop rec0)
  refine ⟨w.heap.size + 1, [mkD w.heap.size], w2, { target := .fn (.func f) cap.toArray, args := #[.func (.yield (w.heap.size + 1)) #[] #[]] }, w2, f, (Value.func (.yield (w.heap.size + 1)) #[] #[] :: cap).toArray, w2, run_enterLoop_outer fn a.tmps ps.toArray assign body, ?_, ?_⟩
  · have e1 : a.eval (.const (.func (.yield (w.heap.size + 1)) #[] #[])) = .func (.yield (w.heap.size + 1)) #[] #[] := rfl
    simp [resolve, he.ev hg, Deferred.ofValue, e1]
  · refine ⟨fun f' _ => trivial, ?_, (by intro h; cases h), ?_⟩
    · simp [invoke, hf]
    refine callsIn_wide.2 ?_
    have hR : ll K.P K.W (w.heap.size + 1) rec0 enc own step Inv :=
      pj (ps := ps) Eb he rfl rfl rfl rfl hps hen (hA _) (hB _)
    have hY := pi hR (fun x g => by simpa [rec0] using (hen x g).symm)
    have hs3 : Sat K.W ((itA (w.heap.size + 1) rec0 Inv s0 y0 :: Cap) ++ [aP (pts w.heap.size (.deferred (some [])) :: rst)]) w2 := by
      refine hs2.ent ?_
      intro h x
      have x1 : aS (pts (w.heap.size + 1) (.loop rec0)) (aS (pts w.heap.size (.deferred (some []))) (aS (aP (Inv s0 y0)) (aP (Cap ++ rst)))) h :=
        bQ h (fun _ x => x) (fun h x => bQ h (fun _ x => x) (fun h x => (ca _ _ h).1 (hH h x)) x) x
      have x2 : aS (aS (pts (w.heap.size + 1) (.loop rec0)) (aP (Inv s0 y0))) (aS (pts w.heap.size (.deferred (some []))) (aP (Cap ++ rst))) h := by
        rw [← aW (pts w.heap.size _), dv (pts w.heap.size _), aW, ← aW] at x1
        exact x1
      refine bQ h (fun _ x => x) (fun h x => ?_) x2
      have x3 : aS (pts w.heap.size (.deferred (some []))) (aS (aP Cap) (aP rst)) h := bQ h (fun _ x => x) (fun h x => (ca _ _ h).1 x) x
      rw [← aW, dv (pts _ _), aW] at x3
      exact (ca _ _ h).2 (bQ h (fun _ x => x) (fun h x => gQ x) x3)
    have hc := it _ _ hY (pts w.heap.size (.deferred (some []))) rN hfo _ hs3
    refine hc.mono ?_
    rintro e w' ⟨y, rfl, s4⟩
    have s5 : Sat K.W (pts (w.heap.size + 1) (.loop rec0) :: (Inv (gs rN) (gy rN y) ++ (CapB rN y ++ [aP (pts w.heap.size (.deferred (some [])) :: rst)]))) w' := s4.ent (jK _ _)
    have hl := s5.pts_at (i := 0) rfl
    refine ⟨none, _, run_endLoop hl (by simp [rec0]), ?_⟩
    have s6 := s5.upd (o' := .loop { rec0 with state := .exhausted })
    have s7 : Sat K.W (gD w.heap.size :: (Inv (gs rN) (gy rN y) ++ (CapB rN y ++ rst))) _ := s6.ent (Ent.drop (by
      intro h x
      rw [← List.append_assoc] at x
      have x2 := (ca _ _ h).1 x
      have x3 : aS (aP (Inv (gs rN) (gy rN y) ++ CapB rN y)) (aS (pts w.heap.size (.deferred (some []))) (aP rst)) h := bQ h (fun _ x => x) (fun h (x : aS (aP _) tt h) => by
        rw [dv] at x
        exact dE _ tt h x) x2
      rw [← aW, dv _ (pts _ _), aW] at x3
      refine bQ h (fun _ x => x) (fun h x => ?_) x3
      rw [← List.append_assoc]
      exact (ca _ _ h).2 x))
    exact h w.heap.size rN y r hr _ _ ⟨he.size, by simp [he.defers, mkD], he.get⟩ s7
theorem qI {op : Oper} {c : Call} {x : Operand} {xs : List Operand} {l : Nat} {enc : α → γ → List Value} {own : α → γ → HA} {step : S → α → Option S} {A : S → Y → HA} {s s' : S} {y : Y} (v : α) (g : γ) (rst : List HA)
    (ho : op.op = .call c) (hcal : c.callee = .value x) (hca : c.args = xs.toArray) (hx : ev E x = some (.func (.yield l) #[] #[])) (hxs : evs xs E = some (enc v g)) (hro : K.ro = none)
    (hY : jJ K.P K.W l enc own step A) (hH : Ent H (A s y :: own v g :: rst)) (hs : step s v = some s') :
    RE K (Y := Y) op E H (fun _ => .bool true) (fun y => A s' y :: rst) := by
  intro a w he hsat next Q hnx
  refine ⟨fun f _ => fv _ _, ?_⟩
  rw [Oper.semAt_eq _ _ _ (by rw [ho]; intro c h; cases h)]
  have hs2 : Sat K.W ([A s y, own v g] ++ [aP rst]) w := hsat.ent (fun h x => Ent.fold [A s y, own v g] rst h (hH h x))
  obtain ⟨f, tmps, assign, body, hrun, hround⟩ := hY s v g s' y _ w hs hs2
  have hr : (execOp a.eval op).run K.P w = .ok (.round l f tmps assign body) w := by
    unfold execOp; simp only [ho]
    have hargs : c.args.map a.eval = (enc v g).toArray := by rw [hca, ← gR he xs _ hxs]; simp
    simp [resolve, hcal, hargs, he.ev hx, Deferred.ofValue, invoke, callFunc, hrun]
  rw [hr]
  refine ⟨jp _, ?_⟩
  rw [hro]
  refine RoundIn.mono hround ?_
  rintro e w' ⟨rfl, y', s3⟩
  exact hnx y' w' (s3.ent fun h x => Ent.unfold [A s' y'] rst h x)
end
theorem pz {α : Type} {T : TypeId} {n : Nat} {V : α → List Value → Prop} {a : Option Addr} {c : Nat} {xs : List α} {lo hi : Int} {a' : Option Addr} {c' m : Nat} {rs : List (List Value)} (hl : bx n V xs rs) (hS : nB n a c lo a' c') (hb : 0 ≤ lo ∧ lo ≤ hi ∧ hi ≤ xs.length) (hcap : xs.length ≤ c) {p : Hp} (h : Row T n a m c rs.flatten p) : ap T n V a' (cut xs lo hi) c' p := by
  have hfl := hl.flat
  have hhl : hi.toNat ≤ xs.length := by omega
  have h2 : hi.toNat * n ≤ rs.flatten.length := by rw [hfl]; exact Nat.mul_le_mul_right _ hhl
  have := mo (lo := lo.toNat) (hi := hi.toNat) (by omega) h2 (by omega) hS.addr hS.cap p h
  refine ⟨(rs.take hi.toNat).drop lo.toNat, (hl.take _).drop _, ?_⟩
  rw [fR hb.2.2, (hl.take _).flat_drop, hl.flat_take]
  exact this
end Go.Proofs.YtndjkejhacfpdaaGreatDoor
