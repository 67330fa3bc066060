/- Kv: what the program's Restore tells. Conditions: as each says. -/
import Derived.Test.YtdaedoklkmdhcaaGreatPlKv3
import Derived.Test.YtdaedoklkmdhcaaGreatPlKvR
namespace Go.Proofs.YtdaedoklkmdhcaaGreat
set_option linter.unusedVariables false
set_option linter.unusedSimpArgs false
open Go.RowKit
theorem mput_new {α β : Type} [DecidableEq α] : ∀ (l : List (α × β)) (x : α) (y : β), mget l x = none → mput l x y = l ++ [(x, y)]
  | [], x, y, _ => rfl
  | p :: l, x, y, h => by
    by_cases hp : p.1 = x
    · simp [mget, hp] at h
    · simp only [mget, if_neg hp] at h
      simp only [mput, if_neg hp, mput_new l x y h, List.cons_append]
theorem blt_iff : ∀ (l m : List UInt8), Op.bytesLess l m = decide (l < m)
  | [], [] => by simp [Op.bytesLess]
  | [], b :: m => by simp [Op.bytesLess]
  | a :: l, [] => by simp [Op.bytesLess]
  | a :: l, b :: m => by
    simp only [Op.bytesLess]
    rw [Bool.eq_iff_iff, decide_eq_true_eq, List.cons_lt_cons_iff]
    simp [blt_iff l m]
def isV {α : Type} (x : α) (m : Bool) (p p' : Nat) (e' er : Int) : α × Bool × Int × Int × Int :=
  if e' = 0 then (x, m, (p' : Int), 0, if m then 0 else er) else (x, false, (p : Int), e', e')
theorem Done_eq (b : List UInt8) (p e : Int) (he : e ≠ 0) : wire_Reader_Done.f b p e = some e := by
  unfold wire_Reader_Done.f
  rw [if_neg he, Option.bind_some, if_neg (by simp)]
theorem is_int {k : Nat} (hk : 12 ≤ k) {b : List UInt8} (hb : b.length < 2 ^ 47) {p : Nat} (hp : p ≤ b.length) (may : Int → Option Bool) (m : Int → Bool) (hm : ∀ x, may x = some (m x)) (er : Int) (her : er ≠ 0) :
    ((wire_Reader_At.f b (p : Int) 0).bind fun s1v => ((wire_Reader_Int.f k b (p : Int) 0).bind fun s4v => ((wire_Reader_At.f b s4v.2.1 s4v.2.2).bind fun s7v => (if s7v = s1v then ((wire_Reader_Done.f b s4v.2.1 s4v.2.2).bind fun s12v => (some (s4v.1, decide (s12v = (0 : Int)), s4v.2.1, s4v.2.2, s12v))) else ((may s4v.1).bind fun s16v => (if (!s16v) = true then (some (s4v.1, decide (er = (0 : Int)), s4v.2.1, s4v.2.2, er)) else (some (s4v.1, decide ((0 : Int) = (0 : Int)), s4v.2.1, s4v.2.2, 0)))))))) = some (isV (rNum b p 0).1 (m (rNum b p 0).1) p (rPos b p 0) (rNum b p 0).2.2 er) := by
  unfold wire_Reader_At.f isV
  rw [Option.bind_some, rInt_eq hk (by omega) p 0 hp, Option.bind_some]
  by_cases h : (rNum b p 0).2.2 = 0
  · obtain ⟨n, j, hd, h1, h2, h3⟩ := rNum_ok h
    have hr : rPos b p 0 = p + j := by unfold rPos; rw [hd]; rfl
    rw [hr, hd]
    simp only [Option.bind_some, if_true]
    rw [if_neg (by omega), hm, Option.bind_some]
    cases m (n : Int) <;> simp [her]
  · obtain ⟨h1, h2⟩ := rNum_bad h
    have hr : rPos b p 0 = p := by unfold rPos; rw [h2]; rfl
    rw [hr]
    simp only [Option.bind_some, if_true, if_neg h]
    rw [Done_eq _ _ _ h, Option.bind_some, decide_eq_false h]
theorem rBytes_bad {b : List UInt8} {p : Nat} {e m : Int} (h : ¬ (rBytes b p e m).2.2 = 0) : (rBytes b p e m).1 = [] ∧ (rBytes b p e m).2.1 = p := by
  unfold rBytes at h ⊢
  simp only at h ⊢
  split
  · rename_i h1
    rw [if_pos h1] at h
    split
    · exact ⟨rfl, rfl⟩
    · rename_i h2
      rw [if_neg h2] at h
      split
      · exact ⟨rfl, rfl⟩
      · rename_i h3
        rw [if_neg h3] at h; exact absurd rfl h
  · exact ⟨rfl, rfl⟩
theorem rBytes_ok {b : List UInt8} {p : Nat} {m : Int} (h : (rBytes b p 0 m).2.2 = 0) : p < (rBytes b p 0 m).2.1 ∧ ((rBytes b p 0 m).1.length : Int) ≤ max m 0 := by
  unfold rBytes at h ⊢
  simp only at h ⊢
  by_cases h1 : (rNum b p 0).2.2 = 0
  · rw [if_pos h1] at h ⊢
    obtain ⟨n, j, hd, a1, a2, a3⟩ := rNum_ok h1
    have hr : rPos b p 0 = p + j := by unfold rPos; rw [hd]; rfl
    rw [hr, hd] at h ⊢
    simp only at h ⊢
    by_cases h2 : max m 0 < (n : Int)
    · rw [if_pos h2] at h; simp at h
    · rw [if_neg h2] at h ⊢
      by_cases h3 : (b.length : Int) - ((p + j : Nat) : Int) < (n : Int)
      · rw [if_pos h3] at h; simp at h
      · rw [if_neg h3]
        simp only [Int.toNat_natCast, List.length_take, List.length_drop]
        omega
  · rw [if_neg h1] at h; exact absurd h h1
theorem is_text {k : Nat} (hk : 12 ≤ k) {b : List UInt8} (hb : b.length < 2 ^ 47) {p : Nat} (hp : p ≤ b.length) (most : Int) (rd : Option (List UInt8 × Int × Int)) (hrd : rd = (wire_Reader_Text.f k b (p : Int) 0 most).bind fun s => some (s.1, s.2.1, s.2.2)) (may : List UInt8 → Option Bool) (m : List UInt8 → Bool) (hm : ∀ x, may x = some (m x)) (er : Int) (her : er ≠ 0 ∨ ∀ x, m x = true) :
    ((wire_Reader_At.f b (p : Int) 0).bind fun s1v => (rd.bind fun s4v => ((wire_Reader_At.f b s4v.2.1 s4v.2.2).bind fun s7v => (if s7v = s1v then ((wire_Reader_Done.f b s4v.2.1 s4v.2.2).bind fun s12v => (some (s4v.1, decide (s12v = (0 : Int)), s4v.2.1, s4v.2.2, s12v))) else ((may s4v.1).bind fun s16v => (if (!s16v) = true then (some (s4v.1, decide (er = (0 : Int)), s4v.2.1, s4v.2.2, er)) else (some (s4v.1, decide ((0 : Int) = (0 : Int)), s4v.2.1, s4v.2.2, 0)))))))) = some (isV (rBytes b p 0 most).1 (m (rBytes b p 0 most).1) p (rBytes b p 0 most).2.1 (rBytes b p 0 most).2.2 er) := by
  subst hrd
  unfold wire_Reader_At.f isV
  rw [Option.bind_some, rText_eq hk hb p 0 most hp, Option.bind_some, Option.bind_some]
  by_cases h : (rBytes b p 0 most).2.2 = 0
  · have hlt := (rBytes_ok h).1
    rw [h]
    simp only [Option.bind_some, if_true]
    rw [if_neg (by omega), hm, Option.bind_some]
    rcases her with her | her
    · cases m (rBytes b p 0 most).1 <;> simp [her]
    · rw [her]; simp
  · obtain ⟨h1, h2⟩ := rBytes_bad h
    rw [h2]
    simp only [Option.bind_some, if_true, if_neg h]
    rw [Done_eq _ _ _ h, Option.bind_some, decide_eq_false h]
/-! ### The pairs -/
def prP (b : List UInt8) : Nat → Nat → List UInt8 → PP → Nat × Int × PP
  | 0, p, a, acc => (p, 0, acc)
  | n + 1, p, a, acc =>
    if (rBytes b p 0 64).2.2 = 0 then
      if a < (rBytes b p 0 64).1 then
        if (rBytes b (rBytes b p 0 64).2.1 0 1024).2.2 = 0 then prP b n (rBytes b (rBytes b p 0 64).2.1 0 1024).2.1 (rBytes b p 0 64).1 (acc ++ [((rBytes b p 0 64).1, (rBytes b (rBytes b p 0 64).2.1 0 1024).1)])
        else (0, (rBytes b (rBytes b p 0 64).2.1 0 1024).2.2, [])
      else (0, 4, [])
    else (0, (rBytes b p 0 64).2.2, [])
theorem gt_iff (x a : List UInt8) : (!(Op.bytesLess x a || decide (x = a))) = decide (a < x) := by
  rw [blt_iff, Bool.eq_iff_iff]
  simp only [Bool.not_eq_true', Bool.or_eq_false_iff, decide_eq_false_iff_not, decide_eq_true_eq]
  constructor
  · rintro ⟨h1, h2⟩; exact Ord3.tri _ _ h1 h2
  · intro h
    exact ⟨fun h1 => Ord3.irr _ (Ord3.trans _ _ _ h h1), fun e => Ord3.irr a (by rw [e] at h; exact h)⟩
theorem mget_none_lt {κ β : Type} [DecidableEq κ] [LT κ] [Ord3 κ] : ∀ (acc : List (κ × β)) (a k : κ), (∀ e ∈ acc, e.1 = a ∨ e.1 < a) → a < k → mget acc k = none
  | [], a, k, _, _ => rfl
  | p :: l, a, k, h, hk => by
    have hne : p.1 ≠ k := by
      intro e
      rcases h p (by simp) with h1 | h1
      · rw [e] at h1; rw [h1] at hk; exact Ord3.irr _ hk
      · rw [e] at h1; exact Ord3.irr _ (Ord3.trans _ _ _ hk h1)
    simp only [mget, if_neg hne]
    exact mget_none_lt l a k (fun e he => h e (List.mem_cons_of_mem _ he)) hk
theorem acc_le {κ β : Type} [LT κ] [Ord3 κ] {acc : List (κ × β)} {a k : κ} {v : β} (h : ∀ e ∈ acc, e.1 = a ∨ e.1 < a) (hk : a < k) : ∀ e ∈ acc ++ [(k, v)], e.1 = k ∨ e.1 < k := by
  intro e he
  rcases List.mem_append.1 he with he | he
  · rcases h e he with h1 | h1
    · exact .inr (h1 ▸ hk)
    · exact .inr (Ord3.trans _ _ _ h1 hk)
  · simp at he; subst he; exact .inl rfl
end Go.Proofs.YtdaedoklkmdhcaaGreat
