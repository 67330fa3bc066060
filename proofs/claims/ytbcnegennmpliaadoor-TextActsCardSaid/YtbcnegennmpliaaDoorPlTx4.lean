/- Numbers as words: the program's and the document's. Conditions: as each says. -/
import Derived.Test.YtbcnegennmpliaaDoorPlTx3
import Derived.Lib.ItoaMem
namespace Go.Proofs.YtbcnegennmpliaaDoor
set_option linter.unusedVariables false
set_option linter.unusedSimpArgs false
open Go.RowKit
def dg (c : UInt8) : Prop := 48 ≤ c.toNat ∧ c.toNat ≤ 57
def fold10 (a : Nat) (l : List UInt8) : Nat := l.foldl (fun a c => a * 10 + (c.toNat - 48)) a
theorem fold10_cons (a : Nat) (c : UInt8) (l : List UInt8) : fold10 a (c :: l) = fold10 (a * 10 + (c.toNat - 48)) l := by simp only [fold10, List.foldl_cons]
theorem fold10_snoc (a : Nat) (c : UInt8) (l : List UInt8) : fold10 a (l ++ [c]) = fold10 a l * 10 + (c.toNat - 48) := by simp [fold10, List.foldl_append]
theorem fold10_ge : ∀ (l : List UInt8) (a : Nat), a ≤ fold10 a l
  | [], a => Nat.le_refl _
  | c :: l, a => by
    have := fold10_ge l (a * 10 + (c.toNat - 48))
    rw [fold10_cons]; omega
theorem u8_of {n : Nat} (h : n < 256) : (UInt8.ofNat n).toNat = n := by simp; omega
theorem dec_spec (u : Nat) : (∀ c, c ∈ Lib.decDigits u → dg c) ∧ fold10 0 (Lib.decDigits u) = u ∧ Lib.decDigits u ≠ [] ∧ (1 ≤ u → ∀ c t, Lib.decDigits u = c :: t → c.toNat ≠ 48) := by
  induction u using Nat.strongRecOn with
  | _ u ih =>
    by_cases h : u < 10
    · rw [Lib.decDigits, dif_pos h]
      have e : (UInt8.ofNat (48 + u)).toNat = 48 + u := u8_of (by omega)
      refine ⟨fun c hc => ?_, ?_, by simp, fun h1 c t e1 => ?_⟩
      · rw [List.mem_singleton.1 hc, dg, e]; omega
      · simp only [fold10, List.foldl_cons, List.foldl_nil]; rw [e]; omega
      · rw [← (List.cons.inj e1).1, e]; omega
    · rw [Lib.decDigits, dif_neg h]
      obtain ⟨h1, h2, h3, h4⟩ := ih (u / 10) (by omega)
      have e : (UInt8.ofNat (48 + u % 10)).toNat = 48 + u % 10 := u8_of (by omega)
      refine ⟨fun c hc => ?_, ?_, by simp, fun _ c t e1 => ?_⟩
      · rcases List.mem_append.1 hc with hc | hc
        · exact h1 c hc
        · rw [List.mem_singleton.1 hc, dg, e]; omega
      · rw [fold10_snoc, h2, e]; omega
      · cases hd : Lib.decDigits (u / 10) with
        | nil => exact absurd hd h3
        | cons d r =>
          rw [hd, List.cons_append] at e1
          rw [← (List.cons.inj e1).1]
          exact h4 (by omega) d r hd
theorem fold10_pos {c : UInt8} {t : List UInt8} (hc : dg c) (h : c.toNat ≠ 48) : 1 ≤ fold10 0 (c :: t) := by
  have := fold10_ge t (0 * 10 + (c.toNat - 48))
  have := hc.1
  rw [fold10_cons]; omega
theorem dec_of (l : List UInt8) : ∀ (n : Nat), l.length = n → l ≠ [] → (∀ c, c ∈ l → dg c) → (∀ c t, l = c :: t → c.toNat = 48 → t = []) → Lib.decDigits (fold10 0 l) = l := by
  intro n
  induction n generalizing l with
  | zero => intro hl hne; exact absurd (List.length_eq_zero_iff.1 hl) hne
  | succ n ih =>
    intro hl hne hd h0
    obtain ⟨p, c, rfl⟩ : ∃ p c, l = p ++ [c] := ⟨l.dropLast, l.getLast hne, (List.dropLast_concat_getLast hne).symm⟩
    have hc := hd c (by simp)
    have hc' := UInt8.toNat_lt c
    rw [fold10_snoc]
    cases p with
    | nil =>
      simp only [fold10, List.foldl_nil, List.nil_append]
      have e1 : 0 * 10 + (c.toNat - 48) = c.toNat - 48 := by omega
      rw [e1, Lib.decDigits, dif_pos (by have := hc.2; omega)]
      congr 1
      have := hc.1
      rw [show 48 + (c.toNat - 48) = c.toNat by omega]; simp
    | cons d t =>
      have hdd := hd d (by simp)
      have hn48 : d.toNat ≠ 48 := fun e => by
        have := h0 d (t ++ [c]) (by simp) e
        simp at this
      have hpos := fold10_pos (t := t) hdd hn48
      have hr := ih (d :: t) (by simp at hl ⊢; omega) (by simp) (fun x hx => hd x (List.mem_append_left _ hx)) (fun x s e hx => by cases e; exact absurd hx hn48)
      have := hc.1
      have := hc.2
      rw [Lib.decDigits, dif_neg (by omega), show (fold10 0 (d :: t) * 10 + (c.toNat - 48)) / 10 = fold10 0 (d :: t) by omega, hr, show (fold10 0 (d :: t) * 10 + (c.toNat - 48)) % 10 = c.toNat - 48 by omega, show 48 + (c.toNat - 48) = c.toNat by omega]
      simp
theorem dec_len : ∀ (k u : Nat), u < 10 ^ (k + 1) → (Lib.decDigits u).length ≤ k + 1
  | 0, u, h => by rw [Lib.decDigits, dif_pos (by simpa using h)]; simp
  | k + 1, u, h => by
    rw [Lib.decDigits]
    split
    · simp
    · have := dec_len k (u / 10) (by rw [Nat.pow_succ] at h; omega)
      simp; omega
def canon (x : List UInt8) (n : Int) : Prop := x = Lib.itoa n ∧ -4611686018427387904 ≤ n ∧ n ≤ 4611686018427387904
theorem itoa_pos {n : Int} (h : 0 ≤ n) : Lib.itoa n = Lib.decDigits n.toNat := by unfold Lib.itoa; rw [if_neg (by omega)]
theorem itoa_neg' {n : Int} (h : n < 0) : Lib.itoa n = 45 :: Lib.decDigits n.natAbs := by unfold Lib.itoa; rw [if_pos h]
theorem dec_head {u : Nat} {c : UInt8} {t : List UInt8} (h : Lib.decDigits u = c :: t) : dg c := (dec_spec u).1 c (by rw [h]; simp)
theorem itoa_inj {m n : Int} (h : Lib.itoa m = Lib.itoa n) : m = n := by
  by_cases hm : m < 0 <;> by_cases hn : n < 0
  · rw [itoa_neg' hm, itoa_neg' hn] at h
    have e := (List.cons.inj h).2
    have := (dec_spec m.natAbs).2.1
    rw [e, (dec_spec n.natAbs).2.1] at this
    omega
  · rw [itoa_neg' hm, itoa_pos (by omega)] at h
    have := dec_head h.symm
    simp [dg] at this
  · rw [itoa_neg' hn, itoa_pos (by omega)] at h
    have := dec_head h
    simp [dg] at this
  · rw [itoa_pos (by omega), itoa_pos (by omega)] at h
    have := (dec_spec m.toNat).2.1
    rw [h, (dec_spec n.toNat).2.1] at this
    omega
theorem canon_inj {x : List UInt8} {m n : Int} (h : canon x m) (k : canon x n) : m = n := itoa_inj (h.1.symm.trans k.1)
theorem parseM_ok : ∀ (l : List UInt8) (a : Nat), (∀ c, c ∈ l → dg c) → fold10 a l ≤ 4611686018427387904 → Lib.parseUintM (2 ^ 64 - 1) a l = .ok (fold10 a l)
  | [], a, _, _ => rfl
  | c :: l, a, hd, hf => by
    have hc := hd c (by simp)
    rw [fold10_cons] at hf ⊢
    have := fold10_ge l (a * 10 + (c.toNat - 48))
    rw [Lib.parseUintM, if_pos (show 48 ≤ c.toNat ∧ c.toNat ≤ 57 from hc), if_neg (by omega), if_neg (by omega)]
    exact parseM_ok l _ (fun x hx => hd x (List.mem_cons_of_mem _ hx)) hf
theorem parse_itoa {n : Int} (h0 : -4611686018427387904 ≤ n) (h1 : n ≤ 4611686018427387904) : parseV (Lib.itoa n) = (n, true) := by
  have key : Lib.parseIntB 64 (Lib.itoa n) = .ok n := by
    by_cases hn : n < 0
    · rw [itoa_neg' hn]
      obtain ⟨s1, s2, s3, s4⟩ := dec_spec n.natAbs
      unfold Lib.parseIntB
      simp only []
      rw [if_pos (by right; decide), Lib.parseUintB, if_neg s3, parseM_ok _ _ s1 (by rw [s2]; omega), s2]
      simp only []
      rw [if_neg (by simp), if_neg (by simp; omega), if_pos (by decide)]
      congr 1; omega
    · rw [itoa_pos (by omega)]
      obtain ⟨s1, s2, s3, s4⟩ := dec_spec n.toNat
      cases hd : Lib.decDigits n.toNat with
      | nil => exact absurd hd s3
      | cons c t =>
        have hc := dec_head hd
        unfold Lib.parseIntB
        simp only []
        have e1 : ¬ (c.toNat = 43 ∨ c.toNat = 45) := by have := hc.1; omega
        have e2 : ¬ (c.toNat = 45) := by have := hc.1; omega
        rw [if_neg e1, Lib.parseUintB, if_neg (by simp), ← hd, parseM_ok _ _ s1 (by rw [s2]; omega), s2]
        simp only []
        rw [if_neg (by simp; omega), if_neg (fun h => e2 h.1), if_neg e2]
        congr 1; omega
  unfold parseV
  rw [key]
theorem dg_mem {c : UInt8} (h : dg c) : ([48, 49, 50, 51, 52, 53, 54, 55, 56, 57] : List UInt8).contains c = true := by
  have := u8_all (p := fun c => !(decide (48 ≤ c.toNat) && decide (c.toNat ≤ 57)) || ([48, 49, 50, 51, 52, 53, 54, 55, 56, 57] : List UInt8).contains c) (by decide +kernel) c
  simp only [decide_eq_true h.1, decide_eq_true h.2, Bool.and_self, Bool.not_true, Bool.false_or] at this
  exact this
theorem trim_digits {l : List UInt8} (h : ∀ c, c ∈ l → dg c) : Lib.trimS l [48, 49, 50, 51, 52, 53, 54, 55, 56, 57] = [] := by
  have e : Lib.trimRightS l [48, 49, 50, 51, 52, 53, 54, 55, 56, 57] = l.take 0 := Lib.trimRightS_take l _ 0 (by omega) (fun j b _ hb => dg_mem (h b (List.mem_of_getElem? hb))) (fun b hb => absurd hb (by omega))
  unfold Lib.trimS
  rw [e, List.take_zero]
  rfl
theorem trimP_itoa (n : Int) : ∀ c, c ∈ Lib.trimPrefix (Lib.itoa n) [45] → dg c := by
  intro c hc
  by_cases hn : n < 0
  · rw [itoa_neg' hn] at hc
    unfold Lib.trimPrefix at hc
    rw [pre1] at hc
    simp at hc
    exact (dec_spec _).1 c hc
  · rw [itoa_pos (by omega)] at hc
    obtain ⟨s1, s2, s3, s4⟩ := dec_spec n.toNat
    unfold Lib.trimPrefix at hc
    split at hc
    · exact s1 c (List.mem_of_mem_drop hc)
    · exact s1 c hc
theorem number_f {x : List UInt8} (hx : x.length ≤ 2 ^ 40) : ∃ n ok, text_number.f x = some (n, ok) ∧ (ok = true ↔ ∃ m, canon x m) ∧ (ok = true → canon x n) := by
  have ht : (Lib.trimPrefix x [45]).length ≤ x.length := by unfold Lib.trimPrefix; split <;> simp
  have hdig : ∀ b ∈ ([48, 49, 50, 51, 52, 53, 54, 55, 56, 57] : List UInt8), b.toNat < 128 := by decide
  unfold text_number.f
  rw [strings_TrimPrefix.f, Option.bind_some, strconv_ParseInt.f, if_pos ⟨rfl, rfl, by omega⟩, Option.bind_some]
  obtain ⟨v, hv⟩ : ∃ v, parseV x = v := ⟨_, rfl⟩
  rw [hv]
  by_cases hb : ((v.2 && (decide ((-4611686018427387904) ≤ v.1))) && (decide (v.1 ≤ (4611686018427387904 : Int)))) = true
  · have hb' := hb
    simp only [Bool.and_eq_true, decide_eq_true_eq] at hb'
    rw [if_pos hb, strings_Trim.f, if_pos ⟨by omega, by simp, hdig⟩, Option.bind_some, Option.bind_some]
    by_cases htr : Lib.trimS (Lib.trimPrefix x [45]) [48, 49, 50, 51, 52, 53, 54, 55, 56, 57] = []
    · rw [if_pos (by simpa using htr), strconv_FormatInt.f, if_pos ⟨rfl, by omega, by omega⟩, Option.bind_some, Option.bind_some]
      refine ⟨_, _, rfl, ⟨fun h => ⟨v.1, ?_⟩, fun ⟨m, hm⟩ => ?_⟩, fun h => ?_⟩
      · exact ⟨(of_decide_eq_true h).symm, hb'.1.2, hb'.2⟩
      · have := parse_itoa hm.2.1 hm.2.2
        rw [← hm.1, hv] at this
        rw [decide_eq_true_eq, this]
        exact hm.1.symm
      · exact ⟨(of_decide_eq_true h).symm, hb'.1.2, hb'.2⟩
    · rw [if_neg (by simpa using htr), Option.bind_some]
      refine ⟨_, _, rfl, ⟨fun h => (by cases h), fun ⟨m, hm⟩ => ?_⟩, fun h => (by cases h)⟩
      exact absurd (by rw [hm.1]; exact trim_digits (trimP_itoa m)) htr
  · rw [if_neg hb, Option.bind_some, if_neg Bool.false_ne_true, Option.bind_some]
    refine ⟨_, _, rfl, ⟨fun h => (by cases h), fun ⟨m, hm⟩ => ?_⟩, fun h => (by cases h)⟩
    refine absurd ?_ hb
    have := parse_itoa hm.2.1 hm.2.2
    rw [← hm.1, hv] at this
    rw [this]
    simp [hm.2.1, hm.2.2]
/-! ### The document's -/
def numLoop : Nat → List UInt8 → Option Nat
  | z, [] => some z
  | z, c :: s => if c.toNat < 48 ∨ 57 < c.toNat ∨ 461168601842738790 < z then none else numLoop (z * 10 + (c.toNat - 48)) s
theorem numLoop_ok : ∀ (s : List UInt8) (z : Nat), (∀ c, c ∈ s → dg c) → fold10 z s ≤ 4611686018427387904 → numLoop z s = some (fold10 z s)
  | [], z, _, _ => rfl
  | c :: s, z, hd, hf => by
    have hc := hd c (by simp)
    rw [fold10_cons] at hf ⊢
    have := fold10_ge s (z * 10 + (c.toNat - 48))
    have := hc.1
    have := hc.2
    rw [numLoop, if_neg (by omega)]
    exact numLoop_ok s _ (fun x hx => hd x (List.mem_cons_of_mem _ hx)) hf
theorem numLoop_back : ∀ (s : List UInt8) (z n : Nat), numLoop z s = some n → (∀ c, c ∈ s → dg c) ∧ n = fold10 z s
  | [], z, n, h => by cases h; exact ⟨fun c hc => (by cases hc), rfl⟩
  | c :: s, z, n, h => by
    rw [numLoop] at h
    split at h
    · cases h
    · rename_i hn
      obtain ⟨h1, h2⟩ := numLoop_back s _ n h
      refine ⟨fun x hx => ?_, h2⟩
      rcases List.mem_cons.1 hx with rfl | hx
      · constructor <;> omega
      · exact h1 x hx
theorem number_l0 {t : List UInt8} (ht : t.length ≤ 2 ^ 40) : ∀ (k z i : Nat), t.length - i < k → i ≤ t.length → z ≤ 4611686018427387909 → synodref17_number.l0 t k (z : Int) (i : Int) = some (match numLoop z (t.drop i) with | some n => .inl (n : Int) | none => .inr (0, false))
  | 0, z, i, h, _, _ => by omega
  | k + 1, z, i, hk, hi, hz => by
    rw [synodref17_number.l0]
    by_cases hlt : i < t.length
    · rw [if_pos (by omega), if_pos (by omega), wi1 (by omega), getD_cons_of hlt]
      simp only [Int.toNat_natCast]
      obtain ⟨c, hc⟩ : ∃ c, t.getD i 0 = c := ⟨_, rfl⟩
      simp only [hc]
      have hcl := UInt8.toNat_lt c
      rw [numLoop]
      by_cases h1 : c.toNat < 48
      · rw [if_pos (show (c.toNat : Int) < 48 by omega), Option.bind_some, if_pos (by simp), if_pos (by omega)]
      · rw [if_neg (show ¬ (c.toNat : Int) < 48 by omega), if_pos (by omega), Option.bind_some]
        by_cases h2 : 57 < c.toNat ∨ 461168601842738790 < z
        · rw [if_pos (by simp; omega), if_pos (by omega)]
        · rw [if_neg (by simp; omega), if_pos (by omega), if_neg (show ¬ (c.toNat < 48 ∨ 57 < c.toNat ∨ 461168601842738790 < z) by omega), w8 (by omega) (by omega), w64 (n := (c.toNat : Int) - 48) (by omega) (by omega), w64 (n := 10 * (z : Int)) (by omega) (by omega), w64 (by omega) (by omega)]
          rw [show 10 * (z : Int) + ((c.toNat : Int) - 48) = ((z * 10 + (c.toNat - 48) : Nat) : Int) by omega]
          exact number_l0 ht k _ (i + 1) (by omega) (by omega) (by omega)
    · rw [if_neg (by omega), List.drop_of_length_le (by omega)]
      rfl
end Go.Proofs.YtbcnegennmpliaaDoor
