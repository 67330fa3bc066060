/- Kv: maps as lists of pairs, what a command does, its invariant. Conditions: as each says. -/
import Derived.Test.YtdaedoklkmdhcaaPlKvW
namespace Go.Proofs.Ytdaedoklkmdhcaa
set_option linter.unusedVariables false
set_option linter.unusedSimpArgs false
open Go.RowKit
section
variable {α β : Type} [DecidableEq α]
theorem mget_mput : ∀ (l : List (α × β)) (x : α) (y : β) (z : α), mget (mput l x y) z = if x = z then some y else mget l z
  | [], x, y, z => by simp [mput, mget]
  | p :: l, x, y, z => by
    by_cases h : p.1 = x
    · by_cases hz : x = z <;> simp [mput, mget, h, hz]
    · by_cases hz : p.1 = z
      · have hxz : x ≠ z := fun e => h (hz.trans e.symm)
        subst hz
        simp [mput, mget, h, hxz]
      · simp [mput, mget, h, hz, mget_mput l x y z]
theorem mput_keys : ∀ (l : List (α × β)) (x : α) (y : β), (mput l x y).map (·.1) = if x ∈ l.map (·.1) then l.map (·.1) else l.map (·.1) ++ [x]
  | [], x, y => by simp [mput]
  | p :: l, x, y => by
    by_cases h : p.1 = x
    · simp [mput, h]
    · have ih := mput_keys l x y
      have h' : ¬ x = p.1 := fun e => h e.symm
      by_cases hm : x ∈ l.map (·.1)
      · rw [if_pos hm] at ih; rw [if_pos (by simp only [List.map_cons]; exact List.mem_cons_of_mem _ hm)]; simp [mput, h, ih]
      · rw [if_neg hm] at ih; rw [if_neg (by rw [List.map_cons, List.mem_cons]; rintro (e | e); exact h' e; exact hm e)]; simp [mput, h, ih]
theorem mput_nodup {l : List (α × β)} {x : α} {y : β} (h : (l.map (·.1)).Nodup) : ((mput l x y).map (·.1)).Nodup := by
  rw [mput_keys]
  split
  · exact h
  · rename_i hx
    exact List.nodup_append.2 ⟨h, by simp, fun a ha b hb => by simp at hb; subst hb; exact fun e => hx (e ▸ ha)⟩
theorem mem_mput_keys {l : List (α × β)} {x z : α} {y : β} : z ∈ (mput l x y).map (·.1) ↔ z = x ∨ z ∈ l.map (·.1) := by
  rw [mput_keys]
  split
  · rename_i hx
    constructor
    · exact .inr
    · rintro (rfl | h)
      · exact hx
      · exact h
  · rw [List.mem_append, List.mem_singleton]; exact Or.comm
theorem mput_length {l : List (α × β)} {x : α} {y : β} : (mput l x y).length ≤ l.length + 1 := by
  have := congrArg List.length (mput_keys l x y)
  rw [List.length_map] at this
  split at this <;> simp at this <;> omega
theorem mem_mput : ∀ (l : List (α × β)) (x : α) (y : β) (e : α × β), e ∈ mput l x y → e = (x, y) ∨ e ∈ l
  | [], x, y, e, h => by simp [mput] at h; exact .inl h
  | p :: l, x, y, e, h => by
    by_cases hp : p.1 = x
    · simp only [mput, if_pos hp, List.mem_cons] at h
      rcases h with h | h
      · exact .inl h
      · exact .inr (List.mem_cons_of_mem _ h)
    · simp only [mput, if_neg hp, List.mem_cons] at h
      rcases h with h | h
      · exact .inr (h ▸ List.mem_cons_self)
      · rcases mem_mput l x y e h with h | h
        · exact .inl h
        · exact .inr (List.mem_cons_of_mem _ h)
theorem mput_len_in : ∀ (l : List (α × β)) (x : α) (y : β), (mput l x y).length = if (mget l x).isSome then l.length else l.length + 1
  | [], x, y => by simp [mput, mget]
  | p :: l, x, y => by
    by_cases h : p.1 = x
    · simp [mput, mget, h]
    · simp only [mput, mget, if_neg h, List.length_cons, mput_len_in l x y]; split <;> rfl
theorem mdel_sub : ∀ (l : List (α × β)) (x : α), (mdel l x).Sublist l
  | [], x => by simp [mdel]
  | p :: l, x => by
    by_cases h : p.1 = x
    · simp only [mdel, if_pos h]; exact List.sublist_cons_self _ _
    · simp only [mdel, if_neg h]; exact (mdel_sub l x).cons_cons p
theorem mget_mem : ∀ (l : List (α × β)) (x : α) (y : β), mget l x = some y → (x, y) ∈ l
  | [], x, y, h => by simp [mget] at h
  | p :: l, x, y, h => by
    by_cases hp : p.1 = x
    · simp only [mget, if_pos hp, Option.some.injEq] at h; subst hp; subst h; exact List.mem_cons_self
    · simp only [mget, if_neg hp] at h; exact List.mem_cons_of_mem _ (mget_mem l x y h)
theorem mget_key : ∀ (l : List (α × β)) (x : α), x ∈ l.map (·.1) ↔ (mget l x).isSome = true
  | [], x => by simp [mget]
  | p :: l, x => by
    by_cases hp : p.1 = x
    · simp [mget, hp]
    · have h' : ¬ x = p.1 := fun e => hp e.symm
      rw [List.map_cons, List.mem_cons, mget_key l x]; simp [mget, hp, h']
theorem mget_of_mem : ∀ (l : List (α × β)) (x : α) (y : β), (l.map (·.1)).Nodup → (x, y) ∈ l → mget l x = some y
  | [], x, y, _, h => by simp at h
  | p :: l, x, y, hn, h => by
    rw [List.map_cons, List.nodup_cons] at hn
    rcases List.mem_cons.1 h with h | h
    · subst h; simp [mget]
    · have : p.1 ≠ x := fun e => hn.1 (e ▸ List.mem_map_of_mem (f := (·.1)) h)
      simp only [mget, if_neg this]; exact mget_of_mem l x y hn.2 h
theorem mget_mdel : ∀ (l : List (α × β)) (x z : α), (l.map (·.1)).Nodup → mget (mdel l x) z = if x = z then none else mget l z
  | [], x, z, _ => by simp [mdel, mget]
  | p :: l, x, z, hn => by
    rw [List.map_cons, List.nodup_cons] at hn
    by_cases h : p.1 = x
    · simp only [mdel, if_pos h]
      by_cases hz : x = z
      · rw [if_pos hz]
        cases hm : mget l z with
        | none => rfl
        | some y => exact absurd (by rw [h, hz]; exact (mget_key l z).2 (by rw [hm]; rfl)) hn.1
      · have : ¬ p.1 = z := fun e => hz (h.symm.trans e)
        rw [if_neg hz]; simp only [mget, if_neg this]
    · simp only [mdel, if_neg h]
      by_cases hp : p.1 = z
      · have : ¬ x = z := fun e => h (hp.trans e.symm)
        rw [if_neg this]; simp only [mget, if_pos hp]
      · simp only [mget, if_neg hp]; exact mget_mdel l x z hn.2
theorem mdel_len : ∀ (l : List (α × β)) (x : α), (mget l x).isSome = true → (mdel l x).length + 1 = l.length
  | [], x, h => by simp [mget] at h
  | p :: l, x, h => by
    by_cases hp : p.1 = x
    · simp [mdel, hp]
    · simp only [mget, if_neg hp] at h
      simp only [mdel, if_neg hp, List.length_cons, mdel_len l x h]
theorem mget_perm {l m : List (α × β)} (hl : (l.map (·.1)).Nodup) (hm : (m.map (·.1)).Nodup) (h : ∀ x, mget l x = mget m x) : (l.map (·.1)).Perm (m.map (·.1)) := by
  refine (List.perm_ext_iff_of_nodup hl hm).2 fun x => ?_
  rw [mget_key, mget_key, h]
end
theorem keysS_sorted {β : Type} (kvs : List (List UInt8 × β)) : (keysS kvs).Pairwise (· ≤ ·) := by
  have := List.pairwise_mergeSort (le := fun x y : List UInt8 => decide (x ≤ y)) (fun a b c h1 h2 => by simp only [decide_eq_true_eq] at *; exact List.le_trans h1 h2) (fun a b => by simp only [Bool.or_eq_true, decide_eq_true_eq]; exact List.le_total a b) (kvs.map (·.1))
  exact this.imp fun h => of_decide_eq_true h
theorem keysS_perm {β : Type} (kvs : List (List UInt8 × β)) : (keysS kvs).Perm (kvs.map (·.1)) := List.mergeSort_perm _ _
theorem keysS_strict {β : Type} {kvs : List (List UInt8 × β)} (h : (kvs.map (·.1)).Nodup) : (keysS kvs).Pairwise (· < ·) := by
  have h1 := keysS_sorted kvs
  have h2 : (keysS kvs).Nodup := (keysS_perm kvs).nodup_iff.2 h
  refine (h1.and h2).imp fun {a b} ⟨x, y⟩ => ?_
  rcases List.le_iff_lt_or_eq.1 x with h | h
  · exact h
  · exact absurd h y
theorem strict_eq : ∀ {l m : List (List UInt8)}, l.Pairwise (· < ·) → m.Pairwise (· < ·) → (∀ x, x ∈ l ↔ x ∈ m) → l = m
  | [], [], _, _, _ => rfl
  | [], b :: m, _, _, h => absurd ((h b).2 (by simp)) (by simp)
  | a :: l, [], _, _, h => absurd ((h a).1 (by simp)) (by simp)
  | a :: l, b :: m, hl, hm, h => by
    have hl' := List.pairwise_cons.1 hl
    have hm' := List.pairwise_cons.1 hm
    have hab : a = b := by
      have h1 := (h a).1 (by simp)
      have h2 := (h b).2 (by simp)
      simp only [List.mem_cons] at h1 h2
      rcases h1 with h1 | h1
      · exact h1
      · rcases h2 with h2 | h2
        · exact h2.symm
        · exact absurd (hl'.1 b h2) (List.lt_asymm (hm'.1 a h1))
    subst hab
    refine congrArg _ (strict_eq hl'.2 hm'.2 fun x => ?_)
    have hx := h x
    simp only [List.mem_cons] at hx
    constructor
    · intro hx'
      rcases hx.1 (.inr hx') with e | e
      · subst e; exact absurd (hl'.1 x hx') (List.lt_irrefl _)
      · exact e
    · intro hx'
      rcases hx.2 (.inr hx') with e | e
      · subst e; exact absurd (hm'.1 x hx') (List.lt_irrefl _)
      · exact e
theorem keysI_sorted {β : Type} (kvs : List (Int × β)) : (keysI kvs).Pairwise (· ≤ ·) := by
  have := List.pairwise_mergeSort (le := fun x y : Int => decide (x ≤ y)) (fun a b c h1 h2 => by simp only [decide_eq_true_eq] at *; omega) (fun a b => by simp only [Bool.or_eq_true, decide_eq_true_eq]; omega) (kvs.map (·.1))
  exact this.imp fun h => of_decide_eq_true h
theorem keysI_perm {β : Type} (kvs : List (Int × β)) : (keysI kvs).Perm (kvs.map (·.1)) := List.mergeSort_perm _ _
theorem keysI_strict {β : Type} {kvs : List (Int × β)} (h : (kvs.map (·.1)).Nodup) : (keysI kvs).Pairwise (· < ·) := by
  have h1 := keysI_sorted kvs
  have h2 : (keysI kvs).Nodup := (keysI_perm kvs).nodup_iff.2 h
  exact (h1.and h2).imp fun {a b} ⟨x, y⟩ => by omega
abbrev PP := List (List UInt8 × List UInt8)
abbrev Sess := Int × Int × Int × List UInt8
abbrev SS := List (Int × Sess)
abbrev Cmd := Int × Int × Int × List UInt8 × List UInt8 × List UInt8
abbrev dCm : Cmd := ((0 : Int), (0 : Int), (0 : Int), ([] : List UInt8), ([] : List UInt8), ([] : List UInt8))

def rg (x l : Int) : Prop := l ≤ x ∧ x ≤ 4611686018427387904
theorem rg_ok {x l : Int} (h : rg x l) (hl : 0 ≤ l) : okN x := ⟨Int.le_trans hl h.1, h.2⟩
instance (x l : Int) : Decidable (rg x l) := by unfold rg; infer_instance
theorem cwithin (x l : Int) : codec_within.f x l = some (decide (rg x l)) := by
  have : (decide (l ≤ x) && decide (x ≤ 4611686018427387904)) = decide (rg x l) := by rw [Bool.eq_iff_iff, Bool.and_eq_true, decide_eq_true_iff, decide_eq_true_iff, decide_eq_true_iff]; rfl
  unfold codec_within.f; rw [this]
def chkC (o c s : Int) (k v w : List UInt8) : Int := if o ≠ 2 ∧ o ≠ 3 ∧ o ≠ 4 then 6 else if ¬ (rg c 1 ∧ rg s 1) then 1 else if 64 < (k.length : Int) ∨ 1024 < (v.length : Int) ∨ 1024 < (w.length : Int) then 3 else if k = [] ∨ (o = 3 ∧ v ≠ []) ∨ (o ≠ 4 ∧ w ≠ []) then 4 else 0
theorem cC (o c s : Int) (k v w : List UInt8) : codec_Commands_Check.f o c s k v w = some (chkC o c s k v w) := by
  unfold codec_Commands_Check.f chkC
  simp only [cwithin, Option.bind_some]
  by_cases h1 : rg c 1 <;> by_cases h2 : rg s 1 <;> by_cases h3 : k = [] <;> by_cases h4 : v = [] <;> by_cases h5 : w = [] <;> simp [h1, h2, h3, h4, h5] <;> (repeat' split) <;> simp_all <;> omega
theorem chkC_ok {o c s : Int} {k v w : List UInt8} (h : chkC o c s k v w = 0) : (o = 2 ∨ o = 3 ∨ o = 4) ∧ rg c 1 ∧ rg s 1 ∧ (k.length : Int) ≤ 64 ∧ (v.length : Int) ≤ 1024 ∧ (w.length : Int) ≤ 1024 := by
  unfold chkC at h
  split at h
  · omega
  · split at h
    · omega
    · split at h
      · omega
      · rename_i h1 h2 h3
        have h2 := Classical.not_not.1 h2
        exact ⟨by omega, h2.1, h2.2, by omega, by omega, by omega⟩
def opV (p : PP) (o : Int) (k v w : List UInt8) : Int × List UInt8 × PP :=
  match mget p k with
  | none => if o = 2 then (if 128 ≤ p.length then (5, [], p) else (1, [], mput p k v)) else (2, [], p)
  | some u => if o = 2 then (1, [], mput p k v) else if o = 3 then (1, [], mdel p k) else if u = w then (1, [], mput p k v) else (3, u, p)
def runV (p : PP) (s : SS) (o c q : Int) (k v w : List UInt8) : Int × List UInt8 × Int × PP × SS :=
  ((opV p o k v w).1, (opV p o k v w).2.1, 0, (opV p o k v w).2.2, mput s c (c, q, (opV p o k v w).1, (opV p o k v w).2.1))
def doV (p : PP) (s : SS) (o c q : Int) (k v w : List UInt8) : Int × List UInt8 × Int × PP × SS :=
  if chkC o c q k v w = 0 then
    match mget s c with
    | some x => if q = x.2.1 then (x.2.2.1, x.2.2.2, 0, p, s) else if q < x.2.1 then (4, [], 0, p, s) else runV p s o c q k v w
    | none => if 32 ≤ s.length then (5, [], 0, p, s) else runV p s o c q k v w
  else (0, [], chkC o c q k v w, p, s)
theorem Do_eq (p : PP) (s : SS) (o c q : Int) (k v w : List UInt8) : kv_Store_Do.f p s o c q k v w = some (doV p s o c q k v w) := by
  unfold kv_Store_Do.f doV
  rw [cC, Option.bind_some]
  by_cases h : chkC o c q k v w = 0
  · rw [if_pos h, if_pos h]
    have ho := (chkC_ok h).1
    have e : (if o = (2 : Int) then ((kv_operations.f).bind fun _ => ((kv_operations_1.f p s o c q k v w).bind fun r => (some (r.1, r.2.1, r.2.2.1, r.2.2.2)))) else (if o = (3 : Int) then ((kv_operations.f).bind fun _ => ((kv_operations_2.f p s o c q k v w).bind fun r => (some (r.1, r.2.1, r.2.2.1, r.2.2.2)))) else (if o = (4 : Int) then ((kv_operations.f).bind fun _ => ((kv_operations_3.f p s o c q k v w).bind fun r => (some (r.1, r.2.1, r.2.2.1, r.2.2.2)))) else (none)))) = some ((opV p o k v w).1, (opV p o k v w).2.1, (opV p o k v w).2.2, s) := by
      unfold opV kv_operations.f kv_operations_1.f kv_operations_2.f kv_operations_3.f
      rcases ho with ho | ho | ho <;> subst ho <;> cases hm : mget p k <;> simp <;> (repeat' split) <;> simp_all <;> omega
    rw [e, Option.bind_some]
    have er : some ((opV p o k v w).1, (opV p o k v w).2.1, (0 : Int), (opV p o k v w).2.2, mput s c (c, q, (opV p o k v w).1, (opV p o k v w).2.1)) = some (runV p s o c q k v w) := rfl
    rw [er]
    cases hm : mget s c with
    | none =>
      simp only [Option.isSome_none, Bool.false_and, Bool.not_false, Bool.true_and, Bool.false_eq_true, if_false, decide_eq_true_eq]
      by_cases hs : 32 ≤ s.length
      · rw [if_pos (by omega), if_pos hs]
      · rw [if_neg (by omega), if_neg hs]
    | some x =>
      simp only [Option.isSome_some, Bool.true_and, Bool.not_true, Bool.false_and, Bool.false_eq_true, if_false, decide_eq_true_eq, Option.getD_some]
      by_cases h1 : q = x.2.1
      · rw [if_pos h1, if_pos h1]
      · rw [if_neg h1, if_neg h1]
        by_cases h2 : q < x.2.1
        · rw [if_pos h2, if_pos h2]
        · rw [if_neg h2, if_neg h2]
  · rw [if_neg h, if_neg h]
structure Inv (p : PP) (s : SS) : Prop where
  pk : (p.map (·.1)).Nodup
  pl : p.length ≤ 128
  pe : ∀ e ∈ p, e.1 ≠ [] ∧ e.1.length ≤ 64 ∧ e.2.length ≤ 1024
  sk : (s.map (·.1)).Nodup
  sl : s.length ≤ 32
  se : ∀ e ∈ s, e.2.1 = e.1 ∧ rg e.1 1 ∧ rg e.2.2.1 1 ∧ (e.2.2.2.1 = 1 ∨ e.2.2.2.1 = 2 ∨ e.2.2.2.1 = 3 ∨ e.2.2.2.1 = 5) ∧ e.2.2.2.2.length ≤ 1024
theorem inv0 : Inv [] [] := ⟨by simp, by simp, by simp, by simp, by simp, by simp⟩
theorem chkC_key {o c q : Int} {k v w : List UInt8} (h : chkC o c q k v w = 0) : k ≠ [] := by
  intro e; subst e; unfold chkC at h; simp at h; (repeat' split at h) <;> omega
theorem opV_spec {p : PP} {s : SS} (h : Inv p s) (o c q : Int) (k v w : List UInt8) (hc : chkC o c q k v w = 0) :
    ((opV p o k v w).2.2.map (·.1)).Nodup ∧ (opV p o k v w).2.2.length ≤ 128 ∧ (∀ e ∈ (opV p o k v w).2.2, e.1 ≠ [] ∧ e.1.length ≤ 64 ∧ e.2.length ≤ 1024) ∧
    ((opV p o k v w).1 = 1 ∨ (opV p o k v w).1 = 2 ∨ (opV p o k v w).1 = 3 ∨ (opV p o k v w).1 = 5) ∧ (opV p o k v w).2.1.length ≤ 1024 ∧ ((opV p o k v w).1 ≠ 3 → (opV p o k v w).2.1 = []) := by
  obtain ⟨-, -, -, hk, hv, -⟩ := chkC_ok hc
  have hk0 := chkC_key hc
  have hput : (∀ e ∈ mput p k v, e.1 ≠ [] ∧ e.1.length ≤ 64 ∧ e.2.length ≤ 1024) := by
    intro e he
    rcases mem_mput p k v e he with he | he
    · subst he; exact ⟨hk0, by show k.length ≤ 64; omega, by show v.length ≤ 1024; omega⟩
    · exact h.pe e he
  unfold opV
  cases hm : mget p k with
  | none =>
    simp only
    split
    · split
      · exact ⟨h.pk, h.pl, h.pe, by simp, by simp, by simp⟩
      · refine ⟨mput_nodup h.pk, ?_, hput, by simp, by simp, by simp⟩
        have := mput_length (l := p) (x := k) (y := v)
        show (mput p k v).length ≤ 128
        omega
    · exact ⟨h.pk, h.pl, h.pe, by simp, by simp, by simp⟩
  | some u =>
    have hu := h.pe _ (mget_mem p k u hm)
    have hl : (mput p k v).length ≤ 128 := by rw [mput_len_in, hm]; exact h.pl
    simp only
    split
    · exact ⟨mput_nodup h.pk, hl, hput, by simp, by simp, by simp⟩
    · split
      · refine ⟨h.pk.sublist ((mdel_sub p k).map _), Nat.le_trans (mdel_sub p k).length_le h.pl, fun e he => h.pe e ((mdel_sub p k).subset he), by simp, by simp, by simp⟩
      · split
        · exact ⟨mput_nodup h.pk, hl, hput, by simp, by simp, by simp⟩
        · exact ⟨h.pk, h.pl, h.pe, by simp, hu.2.2, by simp⟩
theorem runV_inv {p : PP} {s : SS} (h : Inv p s) {o c q : Int} {k v w : List UInt8} (hc : chkC o c q k v w = 0) (hs : (mget s c).isSome = true ∨ s.length < 32) :
    Inv (runV p s o c q k v w).2.2.2.1 (runV p s o c q k v w).2.2.2.2 := by
  obtain ⟨h1, h2, h3, h4, h5, -⟩ := opV_spec h o c q k v w hc
  obtain ⟨-, hc1, hq1, -, -, -⟩ := chkC_ok hc
  refine ⟨h1, h2, h3, mput_nodup h.sk, ?_, ?_⟩
  · show (mput s c _).length ≤ 32
    rw [mput_len_in]
    have := h.sl
    split
    · exact this
    · rcases hs with hs | hs
      · contradiction
      · omega
  · intro e he
    rcases mem_mput s c _ e he with he | he
    · subst he; exact ⟨rfl, hc1, hq1, h4, h5⟩
    · exact h.se e he
theorem Do_inv {p : PP} {s : SS} (h : Inv p s) (o c q : Int) (k v w : List UInt8) : Inv (doV p s o c q k v w).2.2.2.1 (doV p s o c q k v w).2.2.2.2 := by
  unfold doV
  split
  · rename_i hc
    cases hm : mget s c with
    | none =>
      simp only
      split
      · exact h
      · exact runV_inv h hc (.inr (by omega))
    | some x =>
      simp only
      split
      · exact h
      · split
        · exact h
        · exact runV_inv h hc (.inl (by rw [hm]; rfl))
  · exact h
end Go.Proofs.Ytdaedoklkmdhcaa
