/- Lists in order as maps. Conditions: as each says. -/
import Derived.Test.YtkkbgcocpkipjaaPlMap
import Derived.Test.YtkkbgcocpkipjaaPl1
namespace Go.Proofs.Ytkkbgcocpkipjaa
set_option linter.unusedVariables false
set_option linter.unusedSimpArgs false
set_option linter.unusedSectionVars false
open Go.RowKit
class Ord3 (κ : Type) [LT κ] : Prop where
  irr : ∀ a : κ, ¬ a < a
  trans : ∀ a b c : κ, a < b → b < c → a < c
  tri : ∀ a b : κ, ¬ a < b → a ≠ b → b < a
instance : Ord3 Int := ⟨fun a => Int.lt_irrefl a, fun a b c h1 h2 => Int.lt_trans h1 h2, fun a b h1 h2 => by omega⟩
instance : Ord3 (List UInt8) := ⟨fun a => List.lt_irrefl a, fun a b c h1 h2 => List.lt_trans h1 h2, fun a b h1 h2 => by
  rcases List.le_total a b with h | h
  · rcases List.le_iff_lt_or_eq.1 h with h | h
    · exact absurd h h1
    · exact absurd h h2
  · rcases List.le_iff_lt_or_eq.1 h with h | h
    · exact h
    · exact absurd h.symm h2⟩
section
variable {κ β : Type} [DecidableEq κ] [LT κ] [DecidableRel (α := κ) (· < ·)] [Ord3 κ]
def srt (M : List (κ × β)) : Prop := (M.map (·.1)).Pairwise (· < ·)
theorem srt_cons {p : κ × β} {l : List (κ × β)} : srt (p :: l) ↔ (∀ q ∈ l, p.1 < q.1) ∧ srt l := by
  unfold srt
  rw [List.map_cons, List.pairwise_cons]
  constructor
  · exact fun h => ⟨fun q hq => h.1 _ (List.mem_map_of_mem hq), h.2⟩
  · refine fun h => ⟨fun x hx => ?_, h.2⟩
    obtain ⟨q, hq, rfl⟩ := List.mem_map.1 hx
    exact h.1 q hq
theorem srt_nodup {M : List (κ × β)} (h : srt M) : (M.map (·.1)).Nodup :=
  List.Pairwise.imp (R := fun a b => a < b) (fun {a b} hab (e : a = b) => Ord3.irr b (by rw [e] at hab; exact hab)) h
def low : List (κ × β) → κ → Nat
  | [], _ => 0
  | p :: l, k => if p.1 < k then low l k + 1 else 0
theorem low_le : ∀ (M : List (κ × β)) (k : κ), low M k ≤ M.length
  | [], k => Nat.le_refl _
  | p :: l, k => by
    unfold low; split
    · have := low_le l k; simp; omega
    · simp
theorem low_lt : ∀ (M : List (κ × β)) (k : κ) (i : Nat) (p : κ × β), i < low M k → M[i]? = some p → p.1 < k
  | [], k, i, p, h, _ => by simp [low] at h
  | q :: l, k, i, p, h, e => by
    unfold low at h; split at h
    · cases i with
      | zero => simp at e; subst e; assumption
      | succ i => exact low_lt l k i p (by omega) (by simpa using e)
    · omega
theorem low_at : ∀ (M : List (κ × β)) (k : κ) (p : κ × β), M[low M k]? = some p → ¬ p.1 < k
  | [], k, p, h => by simp at h
  | q :: l, k, p, h => by
    unfold low at h; split at h
    · exact low_at l k p (by simpa using h)
    · simp at h; subst h; assumption
theorem low_get : ∀ (M : List (κ × β)) (k : κ), srt M → mget M k = (M[low M k]?).bind fun p => if p.1 = k then some p.2 else none
  | [], k, _ => by simp [mget, low]
  | q :: l, k, h => by
    rw [srt_cons] at h
    unfold low
    by_cases hq : q.1 < k
    · have hne : q.1 ≠ k := fun e => Ord3.irr k (by rw [e] at hq; exact hq)
      rw [if_pos hq]; simp only [mget, if_neg hne, List.getElem?_cons_succ]; exact low_get l k h.2
    · rw [if_neg hq]
      by_cases he : q.1 = k
      · simp [mget, he]
      · simp only [mget, if_neg he, List.getElem?_cons_zero, Option.bind_some]
        have hk := Ord3.tri _ _ hq he
        cases hm : mget l k with
        | none => rfl
        | some y =>
          have := h.1 _ (mget_mem l k y hm)
          exact absurd (Ord3.trans _ _ _ hk this) (Ord3.irr k)
def insM : List (κ × β) → κ → β → List (κ × β)
  | [], k, v => [(k, v)]
  | p :: l, k, v => if p.1 < k then p :: insM l k v else (k, v) :: p :: l
theorem insM_eq : ∀ (M : List (κ × β)) (k : κ) (v : β), insM M k v = M.take (low M k) ++ (k, v) :: M.drop (low M k)
  | [], k, v => by simp [insM, low]
  | p :: l, k, v => by
    unfold insM low; split
    · rw [insM_eq l k v]; simp
    · simp
theorem mem_insM {M : List (κ × β)} {k : κ} {v : β} {q : κ × β} (h : q ∈ insM M k v) : q = (k, v) ∨ q ∈ M := by
  rw [insM_eq] at h
  rcases List.mem_append.1 h with h | h
  · exact .inr (List.mem_of_mem_take h)
  · rcases List.mem_cons.1 h with h | h
    · exact .inl h
    · exact .inr (List.mem_of_mem_drop h)
theorem mget_insM : ∀ (M : List (κ × β)) (k : κ) (v : β) (z : κ), mget (insM M k v) z = if k = z then some v else mget M z
  | [], k, v, z => by simp [insM, mget]
  | p :: l, k, v, z => by
    unfold insM
    split
    · rename_i hp
      simp only [mget]
      by_cases hz : p.1 = z
      · have hne : ¬ k = z := fun e => Ord3.irr z (by rw [hz, e] at hp; exact hp)
        rw [if_pos hz, if_neg hne, if_pos hz]
      · rw [if_neg hz, mget_insM l k v z, if_neg hz]
    · simp only [mget]
theorem srt_insM : ∀ (M : List (κ × β)) (k : κ) (v : β), srt M → mget M k = none → srt (insM M k v)
  | [], k, v, _, _ => by simp [insM, srt]
  | p :: l, k, v, h, hm => by
    have h' := srt_cons.1 h
    have hne : p.1 ≠ k := fun e => by simp [mget, e] at hm
    simp only [mget, if_neg hne] at hm
    unfold insM
    split
    · rename_i hp
      refine srt_cons.2 ⟨fun q hq => ?_, srt_insM l k v h'.2 hm⟩
      rcases mem_insM hq with e | e
      · subst e; exact hp
      · exact h'.1 q e
    · rename_i hp
      have hk := Ord3.tri _ _ hp hne
      refine srt_cons.2 ⟨fun q hq => ?_, h⟩
      rcases List.mem_cons.1 hq with e | e
      · subst e; exact hk
      · exact Ord3.trans _ _ _ hk (h'.1 q e)
theorem mdel_eq : ∀ (M : List (κ × β)) (k : κ) (u : β), M[low M k]? = some (k, u) → mdel M k = M.take (low M k) ++ M.drop (low M k + 1)
  | [], k, u, h => by simp at h
  | p :: l, k, u, h => by
    unfold low at h ⊢
    split at h
    · rename_i hp
      have hne : p.1 ≠ k := fun e => Ord3.irr k (by rw [e] at hp; exact hp)
      simp only [mdel, if_neg hne, if_pos hp]
      rw [mdel_eq l k u (by simpa using h)]; simp
    · rename_i hp
      rw [if_neg hp]
      simp at h
      subst h
      simp [mdel]
theorem mput_eq : ∀ (M : List (κ × β)) (k : κ) (u v : β), M[low M k]? = some (k, u) → mput M k v = M.set (low M k) (k, v)
  | [], k, u, v, h => by simp at h
  | p :: l, k, u, v, h => by
    unfold low at h ⊢
    split at h
    · rename_i hp
      have hne : p.1 ≠ k := fun e => Ord3.irr k (by rw [e] at hp; exact hp)
      simp only [mput, if_neg hne, if_pos hp]
      rw [mput_eq l k u v (by simpa using h)]; simp
    · rename_i hp
      rw [if_neg hp]
      simp at h
      subst h
      simp [mput]
theorem low_some {M : List (κ × β)} {k : κ} {u : β} (h : srt M) (hm : mget M k = some u) : M[low M k]? = some (k, u) := by
  rw [low_get M k h] at hm
  cases hp : M[low M k]? with
  | none => rw [hp] at hm; simp at hm
  | some p =>
    rw [hp, Option.bind_some] at hm
    split at hm
    · rename_i e; injection hm with hm; rw [← e, ← hm]
    · cases hm
theorem low_none {M : List (κ × β)} {k : κ} (h : srt M) (hm : mget M k = none) (p : κ × β) (hp : M[low M k]? = some p) : p.1 ≠ k := by
  rw [low_get M k h, hp, Option.bind_some] at hm
  split at hm
  · cases hm
  · assumption
theorem srt_mdel {M : List (κ × β)} (h : srt M) (k : κ) : srt (mdel M k) := List.Pairwise.sublist ((mdel_sub M k).map _) h
theorem srt_mput {M : List (κ × β)} (h : srt M) {k : κ} {v : β} (hm : (mget M k).isSome = true) : srt (mput M k v) := by
  unfold srt at *
  rw [mput_keys, if_pos ((mget_key M k).2 hm)]; exact h
theorem srt_eq : ∀ {M N : List (κ × β)}, srt M → srt N → (∀ k, mget M k = mget N k) → M = N
  | [], [], _, _, _ => rfl
  | [], q :: N, _, _, h => by have := h q.1; simp [mget] at this
  | p :: M, [], _, _, h => by have := h p.1; simp [mget] at this
  | p :: M, q :: N, hM, hN, h => by
    have hM' := srt_cons.1 hM
    have hN' := srt_cons.1 hN
    have hpq : p.1 = q.1 := by
      apply Classical.byContradiction; intro hne
      have h1 : mget (q :: N) p.1 = some p.2 := by rw [← h]; simp [mget]
      have h2 : mget (p :: M) q.1 = some q.2 := by rw [h]; simp [mget]
      simp only [mget, if_neg (Ne.symm hne)] at h1
      simp only [mget, if_neg hne] at h2
      exact Ord3.irr _ (Ord3.trans _ _ _ (hM'.1 _ (mget_mem M q.1 q.2 h2)) (hN'.1 _ (mget_mem N p.1 p.2 h1)))
    have hv : p.2 = q.2 := by have := h p.1; simpa [mget, hpq] using this
    have : p = q := Prod.ext hpq hv
    subst this
    refine congrArg _ (srt_eq hM'.2 hN'.2 fun k => ?_)
    by_cases hk : p.1 = k
    · have a : mget M k = none := by
        cases hm : mget M k with
        | none => rfl
        | some y => have := hM'.1 _ (mget_mem M k y hm); rw [hk] at this; exact absurd this (Ord3.irr k)
      have b : mget N k = none := by
        cases hm : mget N k with
        | none => rfl
        | some y => have := hN'.1 _ (mget_mem N k y hm); rw [hk] at this; exact absurd this (Ord3.irr k)
      rw [a, b]
    · have := h k; simpa only [mget, if_neg hk] using this
end
theorem mget_map_keys {κ β : Type} [DecidableEq κ] (f : κ → Option β) (d : β) : ∀ (ks : List κ) (z : κ), (∀ k ∈ ks, (f k).isSome = true) → mget (ks.map fun k => (k, (f k).getD d)) z = if z ∈ ks then f z else none
  | [], z, _ => by simp [mget]
  | k :: ks, z, h => by
    simp only [List.map_cons, mget]
    by_cases hk : k = z
    · subst hk
      obtain ⟨y, hy⟩ := Option.isSome_iff_exists.1 (h k (by simp))
      simp [hy]
    · have hz : ¬ z = k := fun e => hk e.symm
      rw [if_neg hk, mget_map_keys f d ks z fun x hx => h x (List.mem_cons_of_mem _ hx)]
      simp [hz]
theorem bytesLess_iff : ∀ (l m : List UInt8), Op.bytesLess l m = decide (l < m)
  | [], [] => by simp [Op.bytesLess]
  | [], b :: m => by simp [Op.bytesLess]
  | a :: l, [] => by simp [Op.bytesLess]
  | a :: l, b :: m => by
    simp only [Op.bytesLess]
    rw [Bool.eq_iff_iff, decide_eq_true_eq, List.cons_lt_cons_iff]
    simp [bytesLess_iff l m]
theorem cut_take {α : Type} (l : List α) (n : Nat) : cut l (0 : Int) (n : Int) = l.take n := by simp [cut]
theorem cut_drop {α : Type} (l : List α) (n : Nat) (m : Nat) (hm : m = l.length) : cut l (n : Int) (m : Int) = l.drop n := by
  subst hm
  unfold cut
  rw [List.take_of_length_le (by simp <;> omega)]
  simp
theorem getD_of {α : Type} {l : List α} {i : Nat} {x : α} (h : l[i]? = some x) (d : α) : l.getD i d = x := by rw [List.getD_eq_getElem?_getD, h]; rfl
theorem lt_of_get {α : Type} {l : List α} {i : Nat} {x : α} (h : l[i]? = some x) : i < l.length := (List.getElem?_eq_some_iff.1 h).1
theorem get_of_lt {α : Type} {l : List α} {i : Nat} (h : i < l.length) (d : α) : l[i]? = some (l.getD i d) := by rw [List.getD_eq_getElem?_getD, List.getElem?_eq_getElem h]; rfl
end Go.Proofs.Ytkkbgcocpkipjaa
