/- Small things: a part of a row's element; a row that is cut where an operation needs it. Conditions: as each says. -/
import Derived.Test.YtdaedoklkmdhcaaSl19
namespace Go.Proofs.Ytdaedoklkmdhcaa
set_option linter.unusedVariables false
set_option linter.unusedSimpArgs false
open Go.RowKit
theorem get_drop {α : Type} {l : List α} (k : Nat) {j : Nat} {v : α} (h : (l.drop k)[j]? = some v) : l[k + j]? = some v := by rwa [List.getElem?_drop] at h
theorem cellAt_off {H : List HA} {b o k j : Nat} {v : Value} (h : CellAt H b (o + (k + j)) v) : CellAt H b (o + k + j) v := by rw [Nat.add_assoc]; exact h
theorem ent_eq {l m : List HA} (h : l = m) : Ent l m := by rw [h]; exact Ent.refl _
section
variable {K : Cx} {Y : Type} {E : Env} {H : List HA} {o : Oper} {v : Y → Value} {H' : Y → List HA}
/-- What an operation finds may be seen otherwise first. -/
theorem RE.ent {H1 : List HA} (e : Ent H H1) (h : RE K o E H1 v H') : RE K o E H v H' := fun a w he hs next Q hn => h a w he (hs.ent e) next Q hn
end
section
variable {α : Type} {T : TypeId} {n c : Nat} {a : Option Addr} {V : α → List Value → Prop} {xs : List α} {H : List HA}
theorem Ent.set' {l : List HA} {A B : HA} (k : Nat) (hk : l[k]? = some A) (h : ∀ x, A x → B x) : Ent l (l.set k B) := by
  have e : l.set k A = l := by
    apply List.ext_getElem?
    intro i
    rw [List.getElem?_set]
    split
    · rename_i hi; subst hi
      have := (List.getElem?_eq_some_iff.1 hk).1
      rw [if_pos this, hk]
    · rfl
  have := Ent.set (l := l) k h
  rwa [e] at this
theorem Ent.cutV {lo hi : Int} {a' : Option Addr} {c' m : Nat} {rs : List (List Value)} (k : Nat) (hk : H[k]? = some (Row T n a m c rs.flatten)) (hl : ListV n V xs rs) (hS : SlToV n a c lo a' c') (hb : 0 ≤ lo ∧ lo ≤ hi ∧ hi ≤ xs.length) (hcap : xs.length ≤ c) :
    Ent H (H.set k (RowV T n V a' (cut xs lo hi) c')) :=
  Ent.set' k hk fun p hp => by
    have hfl := hl.flat
    have hhl : hi.toNat ≤ xs.length := by omega
    have h2 : hi.toNat * n ≤ rs.flatten.length := by rw [hfl]; exact Nat.mul_le_mul_right _ hhl
    have := row_cut (lo := lo.toNat) (hi := hi.toNat) (by omega) h2 (by omega) hS.addr hS.cap p hp
    refine ⟨(rs.take hi.toNat).drop lo.toNat, (hl.take _).drop _, ?_⟩
    rw [cut_length hb.2.2, (hl.take _).flat_drop, hl.flat_take]
    exact this
theorem Ent.cutB {lo hi : Int} {a' : Option Addr} {c' m : Nat} {l : List UInt8} (k : Nat) (hk : H[k]? = some (Row T 1 a m c (encB l))) (hS : SlTo a c lo a' c') (hb : 0 ≤ lo ∧ lo ≤ hi ∧ hi ≤ l.length) (hcap : l.length ≤ c) :
    Ent H (H.set k (Row T 1 a' (cut l lo hi).length c' (encB (cut l lo hi)))) :=
  Ent.set' k hk fun p hp => by
    have := row_cut (lo := lo.toNat) (hi := hi.toNat) (by omega) (by rw [encB_length]; omega) (by omega) hS.addr hS.cap p hp
    rw [cut_length hb.2.2]
    unfold cut
    rw [← encB_drop, ← encB_take]
    simpa using this
end
section
variable {K : Cx} {E : Env} {H : List HA} {o : Oper} {α : Type} {n c : Nat} {a : Option Addr} {V : α → List Value → Prop} {xs : List α}
/-- An append onto a list that isn't open. -/
theorem re_appendVc {x y : Operand} {t e bytes : Nat} {zs : List Value} {a2 : Option Addr} {c2 : Nat} {ys : List α} (k : Nat) (ho : o.op = .call { callee := .builtin .append, args := #[x, y], argTypes := #[t, t] })
    (hx : ev E x = some (.slice a xs.length c)) (hy : ev E y = some (.slice a2 ys.length c2)) (ht : K.P.underlying t = some (.slice e)) (hE : Elt K.P e n bytes zs) (hk : H[k]? = some (RowV e n V a xs c))
    (hr : RdsV (H.eraseIdx k) n V a2 ys) (hb : (xs.length + ys.length) * bytes ≤ 140737488355328) :
    RE K (Y := Option Addr × Nat) o E H (fun y => .slice y.1 (xs ++ ys).length y.2) (fun y => H.set k (RowV e n V y.1 (xs ++ ys) y.2)) := by
  intro a' w he hs next Q hn
  obtain ⟨rs, hl, s⟩ := sat_openV k hk hs
  have hkl := (List.getElem?_eq_some_iff.1 hk).1
  refine re_appendV (H := H.set k (Row e n a xs.length c rs.flatten)) k ho hx hy ht hE (by simp [hkl]) hl (by rw [List.eraseIdx_set_eq]; exact hr) hb a' w he s next Q fun y w' s' => hn y w' ?_
  simpa only [List.set_set] using s'
/-- A list that isn't open, opened for one operation. -/
theorem RE.openV {Y : Type} {v : Y → Value} {H' : Y → List HA} {H1 : List (List Value) → Y → List HA} {T : TypeId} (k : Nat) (hk : H[k]? = some (RowV T n V a xs c)) (h : ∀ rs, ListV n V xs rs → RE K o E (H.set k (Row T n a xs.length c rs.flatten)) v (H1 rs)) (he : ∀ rs, ListV n V xs rs → ∀ y, Ent (H1 rs y) (H' y)) : RE K o E H v H' := by
  intro a' w ha hs next Q hn
  obtain ⟨rs, hl, s⟩ := sat_openV k hk hs
  exact h rs hl a' w ha s next Q fun y w' s' => hn y w' (s'.ent (he rs hl y))
/-- The text of a rune. -/
def runeS (n : Int) : List UInt8 := (Utf8.encode n).data.toList
theorem q_rune {k : IntKind} {m : Int} {x : Operand} {s d : TypeId} {k' : IntKind} (ho : o.op = .convert s d x) (hx : ev E x = some (.int k m)) (hu : K.P.underlying s = some (.int k')) (hd : K.P.underlying d = some .string) : RQ K o E H (str (runeS m)) :=
  rq_same (by rw [ho]; intro c h; cases h) fun a w he _ => by
    unfold execOp; simp only [ho]; rw [he.ev hx]
    simp [convert, underlying, program, Sem.run, hu, hd, Conv.intToString, str, runeS]
end
end Go.Proofs.Ytdaedoklkmdhcaa
