/- Maps as lists of pairs; lists of keys in order. Conditions: none. -/
import Derived.Test.YtkkbgcocpkipjaaSl24
namespace Go.Proofs.Ytkkbgcocpkipjaa
set_option linter.unusedVariables false
set_option linter.unusedSimpArgs false
set_option linter.unusedSectionVars false
open Go.RowKit
section
variable {α β : Type} [DecidableEq α]
theorem mget_mput : ∀ (l : List (α × β)) (x : α) (y : β) (z : α), mget (mput l x y) z = if x = z then some y else mget l z
  | [], x, y, z => by simp [mput, mget]
  | p :: l, x, y, z => by
    by_cases h : p.1 = x
    · by_cases hz : x = z <;> simp [mput, mget, h, hz]
    · by_cases hz : p.1 = z
      · have hxz : x ≠ z := fun e => h (hz.trans e.symm)
        subst hz
        simp [mput, mget, h, hxz]
      · simp [mput, mget, h, hz, mget_mput l x y z]
theorem mput_keys : ∀ (l : List (α × β)) (x : α) (y : β), (mput l x y).map (·.1) = if x ∈ l.map (·.1) then l.map (·.1) else l.map (·.1) ++ [x]
  | [], x, y => by simp [mput]
  | p :: l, x, y => by
    by_cases h : p.1 = x
    · simp [mput, h]
    · have ih := mput_keys l x y
      have h' : ¬ x = p.1 := fun e => h e.symm
      by_cases hm : x ∈ l.map (·.1)
      · rw [if_pos hm] at ih; rw [if_pos (by simp only [List.map_cons]; exact List.mem_cons_of_mem _ hm)]; simp [mput, h, ih]
      · rw [if_neg hm] at ih; rw [if_neg (by rw [List.map_cons, List.mem_cons]; rintro (e | e); exact h' e; exact hm e)]; simp [mput, h, ih]
theorem mput_nodup {l : List (α × β)} {x : α} {y : β} (h : (l.map (·.1)).Nodup) : ((mput l x y).map (·.1)).Nodup := by
  rw [mput_keys]
  split
  · exact h
  · rename_i hx
    exact List.nodup_append.2 ⟨h, by simp, fun a ha b hb => by simp at hb; subst hb; exact fun e => hx (e ▸ ha)⟩
theorem mem_mput_keys {l : List (α × β)} {x z : α} {y : β} : z ∈ (mput l x y).map (·.1) ↔ z = x ∨ z ∈ l.map (·.1) := by
  rw [mput_keys]
  split
  · rename_i hx
    constructor
    · exact .inr
    · rintro (rfl | h)
      · exact hx
      · exact h
  · rw [List.mem_append, List.mem_singleton]; exact Or.comm
theorem mput_length {l : List (α × β)} {x : α} {y : β} : (mput l x y).length ≤ l.length + 1 := by
  have := congrArg List.length (mput_keys l x y)
  rw [List.length_map] at this
  split at this <;> simp at this <;> omega
theorem mem_mput : ∀ (l : List (α × β)) (x : α) (y : β) (e : α × β), e ∈ mput l x y → e = (x, y) ∨ e ∈ l
  | [], x, y, e, h => by simp [mput] at h; exact .inl h
  | p :: l, x, y, e, h => by
    by_cases hp : p.1 = x
    · simp only [mput, if_pos hp, List.mem_cons] at h
      rcases h with h | h
      · exact .inl h
      · exact .inr (List.mem_cons_of_mem _ h)
    · simp only [mput, if_neg hp, List.mem_cons] at h
      rcases h with h | h
      · exact .inr (h ▸ List.mem_cons_self)
      · rcases mem_mput l x y e h with h | h
        · exact .inl h
        · exact .inr (List.mem_cons_of_mem _ h)
theorem mput_len_in : ∀ (l : List (α × β)) (x : α) (y : β), (mput l x y).length = if (mget l x).isSome then l.length else l.length + 1
  | [], x, y => by simp [mput, mget]
  | p :: l, x, y => by
    by_cases h : p.1 = x
    · simp [mput, mget, h]
    · simp only [mput, mget, if_neg h, List.length_cons, mput_len_in l x y]; split <;> rfl
theorem mdel_sub : ∀ (l : List (α × β)) (x : α), (mdel l x).Sublist l
  | [], x => by simp [mdel]
  | p :: l, x => by
    by_cases h : p.1 = x
    · simp only [mdel, if_pos h]; exact List.sublist_cons_self _ _
    · simp only [mdel, if_neg h]; exact (mdel_sub l x).cons_cons p
theorem mget_mem : ∀ (l : List (α × β)) (x : α) (y : β), mget l x = some y → (x, y) ∈ l
  | [], x, y, h => by simp [mget] at h
  | p :: l, x, y, h => by
    by_cases hp : p.1 = x
    · simp only [mget, if_pos hp, Option.some.injEq] at h; subst hp; subst h; exact List.mem_cons_self
    · simp only [mget, if_neg hp] at h; exact List.mem_cons_of_mem _ (mget_mem l x y h)
theorem mget_key : ∀ (l : List (α × β)) (x : α), x ∈ l.map (·.1) ↔ (mget l x).isSome = true
  | [], x => by simp [mget]
  | p :: l, x => by
    by_cases hp : p.1 = x
    · simp [mget, hp]
    · have h' : ¬ x = p.1 := fun e => hp e.symm
      rw [List.map_cons, List.mem_cons, mget_key l x]; simp [mget, hp, h']
theorem mget_of_mem : ∀ (l : List (α × β)) (x : α) (y : β), (l.map (·.1)).Nodup → (x, y) ∈ l → mget l x = some y
  | [], x, y, _, h => by simp at h
  | p :: l, x, y, hn, h => by
    rw [List.map_cons, List.nodup_cons] at hn
    rcases List.mem_cons.1 h with h | h
    · subst h; simp [mget]
    · have : p.1 ≠ x := fun e => hn.1 (e ▸ List.mem_map_of_mem (f := (·.1)) h)
      simp only [mget, if_neg this]; exact mget_of_mem l x y hn.2 h
theorem mget_mdel : ∀ (l : List (α × β)) (x z : α), (l.map (·.1)).Nodup → mget (mdel l x) z = if x = z then none else mget l z
  | [], x, z, _ => by simp [mdel, mget]
  | p :: l, x, z, hn => by
    rw [List.map_cons, List.nodup_cons] at hn
    by_cases h : p.1 = x
    · simp only [mdel, if_pos h]
      by_cases hz : x = z
      · rw [if_pos hz]
        cases hm : mget l z with
        | none => rfl
        | some y => exact absurd (by rw [h, hz]; exact (mget_key l z).2 (by rw [hm]; rfl)) hn.1
      · have : ¬ p.1 = z := fun e => hz (h.symm.trans e)
        rw [if_neg hz]; simp only [mget, if_neg this]
    · simp only [mdel, if_neg h]
      by_cases hp : p.1 = z
      · have : ¬ x = z := fun e => h (hp.trans e.symm)
        rw [if_neg this]; simp only [mget, if_pos hp]
      · simp only [mget, if_neg hp]; exact mget_mdel l x z hn.2
theorem mdel_len : ∀ (l : List (α × β)) (x : α), (mget l x).isSome = true → (mdel l x).length + 1 = l.length
  | [], x, h => by simp [mget] at h
  | p :: l, x, h => by
    by_cases hp : p.1 = x
    · simp [mdel, hp]
    · simp only [mget, if_neg hp] at h
      simp only [mdel, if_neg hp, List.length_cons, mdel_len l x h]
theorem mget_perm {l m : List (α × β)} (hl : (l.map (·.1)).Nodup) (hm : (m.map (·.1)).Nodup) (h : ∀ x, mget l x = mget m x) : (l.map (·.1)).Perm (m.map (·.1)) := by
  refine (List.perm_ext_iff_of_nodup hl hm).2 fun x => ?_
  rw [mget_key, mget_key, h]
end
theorem keysS_sorted {β : Type} (kvs : List (List UInt8 × β)) : (keysS kvs).Pairwise (· ≤ ·) := by
  have := List.pairwise_mergeSort (le := fun x y : List UInt8 => decide (x ≤ y)) (fun a b c h1 h2 => by simp only [decide_eq_true_eq] at *; exact List.le_trans h1 h2) (fun a b => by simp only [Bool.or_eq_true, decide_eq_true_eq]; exact List.le_total a b) (kvs.map (·.1))
  exact this.imp fun h => of_decide_eq_true h
theorem keysS_perm {β : Type} (kvs : List (List UInt8 × β)) : (keysS kvs).Perm (kvs.map (·.1)) := List.mergeSort_perm _ _
theorem keysS_strict {β : Type} {kvs : List (List UInt8 × β)} (h : (kvs.map (·.1)).Nodup) : (keysS kvs).Pairwise (· < ·) := by
  have h1 := keysS_sorted kvs
  have h2 : (keysS kvs).Nodup := (keysS_perm kvs).nodup_iff.2 h
  refine (h1.and h2).imp fun {a b} ⟨x, y⟩ => ?_
  rcases List.le_iff_lt_or_eq.1 x with h | h
  · exact h
  · exact absurd h y
theorem strict_eq : ∀ {l m : List (List UInt8)}, l.Pairwise (· < ·) → m.Pairwise (· < ·) → (∀ x, x ∈ l ↔ x ∈ m) → l = m
  | [], [], _, _, _ => rfl
  | [], b :: m, _, _, h => absurd ((h b).2 (by simp)) (by simp)
  | a :: l, [], _, _, h => absurd ((h a).1 (by simp)) (by simp)
  | a :: l, b :: m, hl, hm, h => by
    have hl' := List.pairwise_cons.1 hl
    have hm' := List.pairwise_cons.1 hm
    have hab : a = b := by
      have h1 := (h a).1 (by simp)
      have h2 := (h b).2 (by simp)
      simp only [List.mem_cons] at h1 h2
      rcases h1 with h1 | h1
      · exact h1
      · rcases h2 with h2 | h2
        · exact h2.symm
        · exact absurd (hl'.1 b h2) (List.lt_asymm (hm'.1 a h1))
    subst hab
    refine congrArg _ (strict_eq hl'.2 hm'.2 fun x => ?_)
    have hx := h x
    simp only [List.mem_cons] at hx
    constructor
    · intro hx'
      rcases hx.1 (.inr hx') with e | e
      · subst e; exact absurd (hl'.1 x hx') (List.lt_irrefl _)
      · exact e
    · intro hx'
      rcases hx.2 (.inr hx') with e | e
      · subst e; exact absurd (hm'.1 x hx') (List.lt_irrefl _)
      · exact e
end Go.Proofs.Ytkkbgcocpkipjaa
