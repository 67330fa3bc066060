/- The row of the law WalSplits, out of its pure law and the printed walk. Conditions: none. -/
import Derived.Test.YtndjkejhacfpdaaGreatDoorM9
import Derived.Lib.LaidTab
import Derived.Deep.DeepHandedRow
import Derived.Lay
import Derived.MakeChecks
import Derived.Test.YtndjkejhacfpdaaGreatDoorCards
import Derived.Test.YtndjkejhacfpdaaGreatDoorTie
namespace Go.Proofs.YtndjkejhacfpdaaGreatDoor
set_option linter.unusedVariables false
set_option linter.unusedSimpArgs false
open Go.RowKit
abbrev dzH : HeT := (0, 0, 0, [], 0)
abbrev St := Int × Int × Int × Int × Int × List HeT
structure fS (s : St) : Prop where
  t : okN s.1
  v : okN s.2.1
  c : okN s.2.2.1
  b : okN s.2.2.2.1
  bt : okN s.2.2.2.2.1
  idx : ∀ i, i < s.2.2.2.2.2.length → (s.2.2.2.2.2.getD i dzH).2.1 = s.2.2.2.1 + ((i + 1 : Nat) : Int)
  chk : ∀ e, e ∈ s.2.2.2.2.2 → fG e.1 e.2.1 e.2.2.1 e.2.2.2.1 = 0
theorem nO : fS (0, 0, 0, 0, 0, []) := ⟨⟨by decide, by decide⟩, ⟨by decide, by decide⟩, ⟨by decide, by decide⟩, ⟨by decide, by decide⟩, ⟨by decide, by decide⟩, fun i h => by simp at h, fun e h => by cases h⟩
def dB (s : St) : Int × Int := if 0 < s.2.2.2.2.2.length then ((s.2.2.2.2.2.getD (s.2.2.2.2.2.length - 1) dzH).2.1, (s.2.2.2.2.2.getD (s.2.2.2.2.2.length - 1) dzH).1) else (s.2.2.2.1, s.2.2.2.2.1)
theorem jq {s : St} (h : fS s) : (dB s).1 = s.2.2.2.1 + (s.2.2.2.2.2.length : Int) := by
  unfold dB
  split
  · rw [h.idx _ (by omega)]; omega
  · simp; omega
theorem nP {l : List HeT} {i : Nat} (h : i < l.length) : l.getD i dzH ∈ l := by rw [gE h]; exact List.getElem_mem _
theorem lG {s : St} (h : fS s) : s.2.2.2.1 + (s.2.2.2.2.2.length : Int) ≤ 4611686018427387904 := by
  by_cases hl : 0 < s.2.2.2.2.2.length
  · have h1 := h.idx (s.2.2.2.2.2.length - 1) (by omega)
    have h2 := (gi (h.chk _ (nP (i := s.2.2.2.2.2.length - 1) (by omega)))).2.1
    have h3 := h2.2
    rw [h1] at h3
    omega
  · have := h.b.2; omega
theorem qJ (fs : FSt) (la : List UInt8) (a : Int) (d : Bool) (most : Int) (sg : List Int) (sz : Int) (s : St) (br : Bool) (hl : s.2.2.2.2.2.length < 2 ^ 40) : cA.f fs la a d most sg sz s.1 s.2.1 s.2.2.1 s.2.2.2.1 s.2.2.2.2.1 s.2.2.2.2.2 br = some (dB s) := by
  unfold cA.f dB
  by_cases h0 : 0 < s.2.2.2.2.2.length
  · have e : (s.2.2.2.2.2.length : Int) - 1 = ((s.2.2.2.2.2.length - 1 : Nat) : Int) := by omega
    rw [if_pos (by omega), if_pos h0, e, w64 (by omega) (by omega), if_pos (by omega), Int.toNat_natCast]
  · rw [if_neg (by omega), if_neg h0]
def lm (s : St) (i m : Int) : Bool :=
  if i = s.2.2.2.1 then decide (m = s.2.2.2.2.1) else if s.2.2.2.1 < i ∧ i - s.2.2.2.1 ≤ (s.2.2.2.2.2.length : Int) then decide ((s.2.2.2.2.2.getD (i - s.2.2.2.1 - 1).toNat dzH).1 = m) else false
theorem pY (fs : FSt) (la : List UInt8) (a : Int) (d : Bool) (most : Int) (sg : List Int) (sz : Int) {s : St} (h : fS s) (br : Bool) {i : Int} (hi : okN i) (m : Int) : cJ.f fs la a d most sg sz s.1 s.2.1 s.2.2.1 s.2.2.2.1 s.2.2.2.2.1 s.2.2.2.2.2 br i m = some (lm s i m) := by
  have hb := h.b
  unfold okN at hb hi
  unfold cJ.f lm
  by_cases e : i = s.2.2.2.1
  · rw [if_pos e, if_pos e]
  · rw [if_neg e, if_neg e, w64 (n := i - s.2.2.2.1) (by omega) (by omega)]
    by_cases h2 : s.2.2.2.1 < i ∧ i - s.2.2.2.1 ≤ (s.2.2.2.2.2.length : Int)
    · rw [if_pos (by simpa using h2), if_pos h2, w64 (by omega) (by omega), if_pos (by omega)]; rfl
    · rw [if_neg (by simpa using h2), if_neg h2]; rfl
def dZ (s : St) (r : dF) (sg : Int) : St :=
  if r.1 = 1 then (r.2.2.1, r.2.2.2.1, r.2.2.2.2.1, s.2.2.2.1, s.2.2.2.2.1, s.2.2.2.2.2)
  else if r.1 = 2 then
    (if s.2.2.2.1 + (s.2.2.2.2.2.length : Int) + 1 < r.2.2.2.2.2.2.2.2.1 then s
    else if r.2.2.2.2.2.2.2.2.1 ≤ s.2.2.2.1 then (s.1, s.2.1, s.2.2.1, r.2.2.2.2.2.2.2.2.1 - 1, 0, [(r.2.2.2.2.2.2.2.1, r.2.2.2.2.2.2.2.2.1, r.2.2.2.2.2.2.2.2.2.1, r.2.2.2.2.2.2.2.2.2.2, sg)])
    else (s.1, s.2.1, s.2.2.1, s.2.2.2.1, s.2.2.2.2.1, s.2.2.2.2.2.take (r.2.2.2.2.2.2.2.2.1 - s.2.2.2.1 - 1).toNat ++ [(r.2.2.2.2.2.2.2.1, r.2.2.2.2.2.2.2.2.1, r.2.2.2.2.2.2.2.2.2.1, r.2.2.2.2.2.2.2.2.2.2, sg)]))
  else if lm s r.2.2.2.2.2.1 r.2.2.2.2.2.2.1 = true then s else (s.1, s.2.1, s.2.2.1, r.2.2.2.2.2.1, r.2.2.2.2.2.2.1, [])
theorem tv (l : List HeT) (n : Nat) : cut l (0 : Int) (n : Int) = l.take n := by unfold cut; simp
theorem tw (fs : FSt) (la : List UInt8) (a : Int) (d : Bool) (most : Int) (sgs : List Int) (sz : Int) {s : St} (h : fS s) (hl : s.2.2.2.2.2.length < 2 ^ 30) {r : dF} (hr : OkR r) (h0 : r.1 ≠ 0) (sg : Int) :
    ∃ b, dy.f fs la a d most sgs sz s.1 s.2.1 s.2.2.1 s.2.2.2.1 s.2.2.2.2.1 s.2.2.2.2.2 false r.1 r.2.1 r.2.2.1 r.2.2.2.1 r.2.2.2.2.1 r.2.2.2.2.2.1 r.2.2.2.2.2.2.1 r.2.2.2.2.2.2.2.1 r.2.2.2.2.2.2.2.2.1 r.2.2.2.2.2.2.2.2.2.1 r.2.2.2.2.2.2.2.2.2.2 sg =
      some (b, most, sgs, sz, (dZ s r sg).1, (dZ s r sg).2.1, (dZ s r sg).2.2.1, (dZ s r sg).2.2.2.1, (dZ s r sg).2.2.2.2.1, (dZ s r sg).2.2.2.2.2, false) := by
  have hk := hr.kd
  have hb := h.b
  unfold okN at hb
  unfold dy.f dZ
  by_cases h1 : r.1 = 1
  · rw [if_pos h1, if_pos h1]; exact ⟨true, rfl⟩
  rw [if_neg h1, if_neg h1]
  by_cases h2 : r.1 = 2
  · rw [if_pos h2, if_pos h2, show cQ.f = some () from rfl, Option.bind_some]
    unfold eI.f
    have hx := (gi (hr.e h2)).2.1
    have hx1 := hx.1
    have hx2 := hx.2
    have htop := lG h
    rw [w64 (n := s.2.2.2.1 + (s.2.2.2.2.2.length : Int)) (by omega) (by omega), w64 (n := s.2.2.2.1 + (s.2.2.2.2.2.length : Int) + 1) (by omega) (by omega)]
    by_cases g1 : s.2.2.2.1 + (s.2.2.2.2.2.length : Int) + 1 < r.2.2.2.2.2.2.2.2.1
    · rw [if_pos g1, if_pos g1]; exact ⟨false, rfl⟩
    · rw [if_neg g1, if_neg g1]
      by_cases g2 : r.2.2.2.2.2.2.2.2.1 ≤ s.2.2.2.1
      · rw [if_pos g2, if_pos g2, w64 (n := r.2.2.2.2.2.2.2.2.1 - 1) (by omega) (by omega)]
        simp only [Option.bind_some]
        rw [show r.2.2.2.2.2.2.2.2.1 - (r.2.2.2.2.2.2.2.2.1 - 1) = 1 by omega, show IntKind.i64.wrap (1 : Int) = 1 from by decide, show IntKind.i64.wrap ((1 : Int) - 1) = 0 from by decide, if_pos ⟨by omega, by omega, by simp⟩]
        have ec : cut ([] : List HeT) (0 : Int) (0 : Int) = [] := rfl
        rw [ec, if_pos (by simp)]
        exact ⟨true, rfl⟩
      · rw [if_neg g2, if_neg g2]
        simp only [Option.bind_some]
        have e1 : IntKind.i64.wrap (IntKind.i64.wrap (r.2.2.2.2.2.2.2.2.1 - s.2.2.2.1) - 1) = (((r.2.2.2.2.2.2.2.2.1 - s.2.2.2.1 - 1).toNat : Nat) : Int) := by
          rw [w64 (n := r.2.2.2.2.2.2.2.2.1 - s.2.2.2.1) (by omega) (by omega), w64 (by omega) (by omega)]
          omega
        rw [e1, if_pos ⟨by omega, by omega, by omega⟩, tv, if_pos (by simp only [List.length_take, List.length_cons, List.length_nil]; omega)]
        exact ⟨true, rfl⟩
  rw [if_neg h2, if_neg h2, if_pos (by omega), show cQ.f = some () from rfl, Option.bind_some]
  unfold eJ.f
  rw [pY fs la a d most sgs sz h false hr.i, Option.bind_some]
  cases hh : lm s r.2.2.2.2.2.1 r.2.2.2.2.2.2.1 with
  | true => exact ⟨true, rfl⟩
  | false => exact ⟨true, rfl⟩
theorem qK (l : List HeT) {i n : Nat} (h : i < n) : (l.take n).getD i dzH = l.getD i dzH := by
  simp only [List.getD_eq_getElem?_getD, List.getElem?_take, if_pos h]
theorem ko {s : St} (h : fS s) {r : dF} (hr : OkR r) (h0 : r.1 ≠ 0) (sg : Int) : fS (dZ s r sg) := by
  have hk := hr.kd
  have hb := h.b
  unfold okN at hb
  unfold dZ
  by_cases h1 : r.1 = 1
  · rw [if_pos h1]; exact ⟨hr.t, hr.v, hr.c, h.b, h.bt, h.idx, h.chk⟩
  rw [if_neg h1]
  by_cases h2 : r.1 = 2
  · rw [if_pos h2]
    have hE := hr.e h2
    have hx := (gi hE).2.1
    have hx1 := hx.1
    have hx2 := hx.2
    by_cases g1 : s.2.2.2.1 + (s.2.2.2.2.2.length : Int) + 1 < r.2.2.2.2.2.2.2.2.1
    · rw [if_pos g1]; exact h
    · rw [if_neg g1]
      by_cases g2 : r.2.2.2.2.2.2.2.2.1 ≤ s.2.2.2.1
      · rw [if_pos g2]
        refine ⟨h.t, h.v, h.c, ⟨by show 0 ≤ r.2.2.2.2.2.2.2.2.1 - 1; omega, by show r.2.2.2.2.2.2.2.2.1 - 1 ≤ _; omega⟩, ⟨Int.le_refl 0, by show (0 : Int) ≤ _; omega⟩, fun i hi => ?_, fun e he => ?_⟩
        · have : i = 0 := by simp at hi; omega
          subst this
          show r.2.2.2.2.2.2.2.2.1 = r.2.2.2.2.2.2.2.2.1 - 1 + ((0 + 1 : Nat) : Int)
          omega
        · rw [List.mem_singleton.1 he]; exact hE
      · rw [if_neg g2]
        have hlen : (s.2.2.2.2.2.take (r.2.2.2.2.2.2.2.2.1 - s.2.2.2.1 - 1).toNat).length = (r.2.2.2.2.2.2.2.2.1 - s.2.2.2.1 - 1).toNat := by rw [List.length_take]; omega
        refine ⟨h.t, h.v, h.c, h.b, h.bt, fun i hi => ?_, fun e he => ?_⟩
        · simp only [List.length_append, hlen, List.length_cons, List.length_nil] at hi
          by_cases hlt : i < (r.2.2.2.2.2.2.2.2.1 - s.2.2.2.1 - 1).toNat
          · have e1 : (s.2.2.2.2.2.take (r.2.2.2.2.2.2.2.2.1 - s.2.2.2.1 - 1).toNat ++ [(r.2.2.2.2.2.2.2.1, r.2.2.2.2.2.2.2.2.1, r.2.2.2.2.2.2.2.2.2.1, r.2.2.2.2.2.2.2.2.2.2, sg)]).getD i dzH = s.2.2.2.2.2.getD i dzH := by
              rw [List.getD_eq_getElem?_getD, List.getElem?_append_left (by omega), ← List.getD_eq_getElem?_getD, qK _ hlt]
            simp only [e1]
            exact h.idx i (by omega)
          · have ei : i = (r.2.2.2.2.2.2.2.2.1 - s.2.2.2.1 - 1).toNat := by omega
            have e1 : (s.2.2.2.2.2.take (r.2.2.2.2.2.2.2.2.1 - s.2.2.2.1 - 1).toNat ++ [(r.2.2.2.2.2.2.2.1, r.2.2.2.2.2.2.2.2.1, r.2.2.2.2.2.2.2.2.2.1, r.2.2.2.2.2.2.2.2.2.2, sg)]).getD i dzH = (r.2.2.2.2.2.2.2.1, r.2.2.2.2.2.2.2.2.1, r.2.2.2.2.2.2.2.2.2.1, r.2.2.2.2.2.2.2.2.2.2, sg) := by
              rw [List.getD_eq_getElem?_getD, List.getElem?_append_right (by omega), hlen, ei, Nat.sub_self]; rfl
            simp only [e1]
            omega
        · rcases List.mem_append.1 he with he | he
          · exact h.chk e (List.mem_of_mem_take he)
          · rw [List.mem_singleton.1 he]; exact hE
  rw [if_neg h2]
  split
  · exact h
  · exact ⟨h.t, h.v, h.c, hr.i, hr.m, fun i hi => by simp at hi, fun e he => by cases he⟩
theorem nQ (s : St) (r : dF) (sg : Int) : (dZ s r sg).2.2.2.2.2.length ≤ s.2.2.2.2.2.length + 1 := by
  unfold dZ
  split
  · exact Nat.le_succ _
  split
  · split
    · exact Nat.le_succ _
    split
    · simp
    · simp only [List.length_append, List.length_take, List.length_cons, List.length_nil]; omega
  split
  · exact Nat.le_succ _
  · simp
/-! ### Which batches may be -/
def jd (t v c : Int) : Int := if ¬ (rg t 0 ∧ rg c 0) ∨ v < 0 ∨ 7 < v then 1 else if v ≠ 0 ∧ t = 0 then 4 else 0
theorem uu (t v c : Int) : cR.f t v c = some (jd t v c) := by
  unfold cR.f jd
  rw [mp, Option.bind_some]
  by_cases h1 : rg t 0
  · rw [decide_eq_true h1]
    simp only [Bool.not_true, Bool.false_eq_true, if_false, mp, Option.bind_some]
    by_cases h2 : rg c 0
    · rw [decide_eq_true h2]
      simp only [Bool.not_true, Bool.false_or]
      by_cases h3 : v < 0 ∨ 7 < v
      · rw [if_pos (by simpa using h3), if_pos (c := ¬ (rg t 0 ∧ rg c 0) ∨ v < 0 ∨ 7 < v) (.inr h3)]
      · rw [if_neg (c := ¬ (rg t 0 ∧ rg c 0) ∨ v < 0 ∨ 7 < v) (fun x => x.elim (fun y => y ⟨h1, h2⟩) h3), if_neg (by simpa using h3)]
        by_cases h5 : v ≠ 0 ∧ t = 0
        · rw [if_pos (c := v ≠ 0 ∧ t = 0) h5, if_pos (by simpa using h5)]
        · rw [if_neg (c := v ≠ 0 ∧ t = 0) h5, if_neg (by simpa using h5)]
    · rw [decide_eq_false h2]
      simp only [Bool.not_false, Bool.true_or, if_true]
      rw [if_pos (.inl fun x => h2 x.2)]
  · rw [decide_eq_false h1]
    simp only [Bool.not_false, if_true, Option.bind_some, Bool.true_or]
    rw [if_pos (.inl fun x => h1 x.1)]
theorem nR {t v c : Int} (h : jd t v c = 0) : okN t ∧ okN v ∧ okN c := by
  unfold jd at h
  split at h
  · omega
  · rename_i g
    have g1 : rg t 0 ∧ rg c 0 := Decidable.not_not.1 fun x => g (.inl x)
    have g2 : 0 ≤ v ∧ v ≤ 7 := by constructor <;> (apply Int.not_lt.1; intro x; exact g (.inr (by omega)))
    exact ⟨nC g1.1 (by decide), ⟨by omega, by omega⟩, nC g1.2 (by decide)⟩
abbrev BaT := Bool × Int × Int × Int × Int × Int × List EnT
def cF : List EnT → Int
  | [] => 0
  | e :: r => if fG e.1 e.2.1 e.2.2.1 e.2.2.2 = 0 then cF r else fG e.1 e.2.1 e.2.2.1 e.2.2.2
def iJ : Int → List EnT → Int
  | _, [] => 0
  | l, e :: r => if l + 1 < e.2.1 then 13 else iJ e.2.1 r
def fT (s : St) (b : BaT) : Bool := !decide (b.2.2.2.2.1 = 0) && !lm s b.2.2.2.2.1 b.2.2.2.2.2.1
def iK (b : BaT) : Prop := ((b.2.2.2.2.1 < 0 ∨ 4611686018427387904 < b.2.2.2.2.1) ∨ (b.2.2.2.2.2.1 < 0 ∨ 4611686018427387904 < b.2.2.2.2.2.1)) ∨ ¬ (b.2.2.2.2.1 = 0 ↔ b.2.2.2.2.2.1 = 0)
instance (b : BaT) : Decidable (iK b) := by unfold iK; exact inferInstance
def dM (s : St) (b : BaT) : Int :=
  if b.1 = true ∧ jd b.2.1 b.2.2.1 b.2.2.2.1 ≠ 0 then jd b.2.1 b.2.2.1 b.2.2.2.1
  else if iK b then 1
  else if cF b.2.2.2.2.2.2 ≠ 0 then cF b.2.2.2.2.2.2
  else iJ (if fT s b = true then b.2.2.2.2.1 else (dB s).1) b.2.2.2.2.2.2
theorem nS (l : List EnT) (hl : l.length < 2 ^ 40) : ∀ (k i : Nat), l.length - i < k → i ≤ l.length → bA.l0 l k (i : Int) = some (if cF (l.drop i) = 0 then .inl () else .inr (cF (l.drop i)))
  | 0, i, h, _ => by omega
  | k + 1, i, h, hi => by
    rw [bA.l0]
    by_cases hlt : i < l.length
    · rw [if_pos (by omega), if_pos (by omega), cE, Option.bind_some, ws1 (by omega), nS l hl k (i + 1) (by omega) (by omega), gS l aL hlt]
      simp only [cF, Int.toNat_natCast]
      by_cases hc : fG (l.getD i aL).1 (l.getD i aL).2.1 (l.getD i aL).2.2.1 (l.getD i aL).2.2.2 = 0
      · simp only [hc, if_true]
      · simp only [hc, if_false]
    · rw [if_neg (by omega), List.drop_of_length_le (by omega)]; rfl
theorem nT (l : List EnT) (hl : l.length < 2 ^ 40) (hc : cF l = 0) : ∀ (k i : Nat) (z last : Int), l.length - i < k → i ≤ l.length → (0 ≤ last ∧ last ≤ 4611686018427387904) → cF (l.drop i) = 0 →
    bA.l1 l k z last (i : Int) = some (if iJ last (l.drop i) = 0 then .inl () else .inr (iJ last (l.drop i)))
  | 0, i, z, last, h, _, _, _ => by omega
  | k + 1, i, z, last, h, hi, hla, hf => by
    rw [bA.l1]
    by_cases hlt : i < l.length
    · rw [gS l aL hlt] at hf ⊢
      simp only [cF] at hf
      split at hf
      · rename_i hce
        have hx := (gi hce).2.1
        have hx1 := hx.1
        have hx2 := hx.2
        rw [if_pos (by omega), if_pos (by omega), ws1 (by omega), w64 (n := last + 1) (by omega) (by omega)]
        simp only [iJ, Int.toNat_natCast]
        by_cases hg : last + 1 < (l.getD i aL).2.1
        · simp only [if_pos hg]; rfl
        · simp only [if_neg hg]
          exact nT l hl hc k (i + 1) _ _ (by omega) (by omega) ⟨by omega, hx2⟩ hf
      · rename_i hce
        exact absurd hf hce
    · rw [if_neg (by omega), List.drop_of_length_le (by omega)]; rfl
theorem sH (fs : FSt) (la : List UInt8) (a : Int) (d : Bool) (most : Int) (sg : List Int) (sz : Int) {s : St} (h : fS s) (br : Bool) (hl : s.2.2.2.2.2.length < 2 ^ 40) (b : BaT) (hb : b.2.2.2.2.2.2.length < 2 ^ 40) {k : Nat} (hk : b.2.2.2.2.2.2.length < k) :
    bA.f k fs la a d most sg sz s.1 s.2.1 s.2.2.1 s.2.2.2.1 s.2.2.2.2.1 s.2.2.2.2.2 br b.1 b.2.1 b.2.2.1 b.2.2.2.1 b.2.2.2.2.1 b.2.2.2.2.2.1 b.2.2.2.2.2.2 = some (dM s b) := by
  have c0 := nS b.2.2.2.2.2.2 hb k 0 (by omega) (by omega)
  rw [List.drop_zero, show ((0 : Nat) : Int) = (0 : Int) from rfl] at c0
  have hbd : ((((((decide (b.2.2.2.2.1 < (0 : Int))) || (decide ((4611686018427387904 : Int) < b.2.2.2.2.1))) || (decide (b.2.2.2.2.2.1 < (0 : Int)))) || (decide ((4611686018427387904 : Int) < b.2.2.2.2.2.1))) || (!((decide (b.2.2.2.2.1 = (0 : Int))) == (decide (b.2.2.2.2.2.1 = (0 : Int)))))) = true) ↔ iK b := by
    unfold iK
    by_cases x1 : b.2.2.2.2.1 = 0 <;> by_cases x2 : b.2.2.2.2.2.1 = 0 <;> simp [x1, x2] <;> omega
  unfold bA.f dM
  have h1 : (if b.1 = true then ((cR.f b.2.1 b.2.2.1 b.2.2.2.1).bind fun s6v => (if s6v = (0 : Int) then (some (.inl ())) else (some (.inr s6v)))) else (some (.inl ())) : Option (Unit ⊕ Int)) = some (if b.1 = true ∧ jd b.2.1 b.2.2.1 b.2.2.2.1 ≠ 0 then .inr (jd b.2.1 b.2.2.1 b.2.2.2.1) else .inl ()) := by
    rw [uu]
    by_cases x : b.1 = true
    · rw [if_pos x, Option.bind_some]
      by_cases y : jd b.2.1 b.2.2.1 b.2.2.2.1 = 0
      · rw [if_pos y, if_neg (fun z => z.2 y)]
      · rw [if_neg y, if_pos ⟨x, y⟩]
    · rw [if_neg x, if_neg (fun z => x z.1)]
  rw [h1]
  by_cases g1 : b.1 = true ∧ jd b.2.1 b.2.2.1 b.2.2.2.1 ≠ 0
  · rw [if_pos g1, if_pos g1]; rfl
  · rw [if_neg g1, if_neg g1]
    simp only [orR]
    by_cases g2 : iK b
    · rw [if_pos (hbd.2 g2), if_pos g2]
    · rw [if_neg (fun x => g2 (hbd.1 x)), if_neg g2, c0]
      have hi : okN b.2.2.2.2.1 := by
        unfold iK at g2
        exact ⟨by omega, by omega⟩
      by_cases g3 : cF b.2.2.2.2.2.2 = 0
      · rw [if_pos g3, if_neg (c := cF b.2.2.2.2.2.2 ≠ 0) (fun x => x g3)]
        simp only [orR]
        rw [qJ fs la a d most sg sz s br hl, Option.bind_some]
        have hm : (((if ((!decide (b.2.2.2.2.1 = (0 : Int))) == true) = true then (cJ.f fs la a d most sg sz s.1 s.2.1 s.2.2.1 s.2.2.2.1 s.2.2.2.2.1 s.2.2.2.2.2 br b.2.2.2.2.1 b.2.2.2.2.2.1) else some false).bind fun s44v => (if ((!decide (b.2.2.2.2.1 = (0 : Int))) && (!s44v)) = true then (some (b.2.2.2.2.1, b.2.2.2.2.1)) else (some (s.2.2.2.1, (dB s).1)))) : Option (Int × Int)) = some (if fT s b = true then (b.2.2.2.2.1, b.2.2.2.2.1) else (s.2.2.2.1, (dB s).1)) := by
          rw [pY fs la a d most sg sz h br hi]
          unfold fT
          by_cases x : b.2.2.2.2.1 = 0
          · simp [x]
          · cases lm s b.2.2.2.2.1 b.2.2.2.2.2.1 <;> simp [x]
        rw [hm, Option.bind_some]
        have hla : ∀ p : Int × Int, p = (if fT s b = true then (b.2.2.2.2.1, b.2.2.2.2.1) else (s.2.2.2.1, (dB s).1)) → p.2 = (if fT s b = true then b.2.2.2.2.1 else (dB s).1) ∧ 0 ≤ p.2 ∧ p.2 ≤ 4611686018427387904 := fun p hp => by
          have h3 := jq h
          have h4 := lG h
          have h5 := h.b
          unfold okN at h5 hi
          rw [hp]
          split
          · exact ⟨rfl, hi.1, hi.2⟩
          · exact ⟨rfl, by show 0 ≤ (dB s).1; omega, by show (dB s).1 ≤ _; omega⟩
        obtain ⟨p, hp⟩ : ∃ p, p = (if fT s b = true then (b.2.2.2.2.1, b.2.2.2.2.1) else (s.2.2.2.1, (dB s).1)) := ⟨_, rfl⟩
        obtain ⟨p1, p2, p3⟩ := hla p hp
        have c1 := nT b.2.2.2.2.2.2 hb g3 k 0 p.1 p.2 (by omega) (by omega) ⟨p2, p3⟩ (by rw [List.drop_zero]; exact g3)
        rw [List.drop_zero, show ((0 : Nat) : Int) = (0 : Int) from rfl] at c1
        rw [← hp, c1, ← p1]
        by_cases hz : iJ p.2 b.2.2.2.2.2.2 = 0
        · simp only [hz, if_true]
        · simp only [hz, if_false]
      · rw [if_neg g3, if_pos (c := cF b.2.2.2.2.2.2 ≠ 0) g3]
end Go.Proofs.YtndjkejhacfpdaaGreatDoor

namespace Go.Proofs.YtndjkejhacfpdaaGreatDoor
set_option linter.unusedVariables false
set_option linter.unusedSimpArgs false
open Go.RowKit
/-! ### The records of a batch -/
def dd (e : EnT) : dF := (2, 0, 0, 0, 0, 0, 0, e.1, e.2.1, e.2.2.1, e.2.2.2)
def fk (s : St) (b : BaT) : List dF :=
  (if b.1 = true ∧ (b.2.1 ≠ s.1 ∨ b.2.2.1 ≠ s.2.1) then [(1, 0, b.2.1, b.2.2.1, s.2.2.1, 0, 0, 0, 0, 0, [])] else []) ++ (if fT s b = true then [(3, 0, 0, 0, 0, b.2.2.2.2.1, b.2.2.2.2.2.1, 0, 0, 0, [])] else []) ++
    b.2.2.2.2.2.2.map dd ++ (if b.1 = true ∧ b.2.2.2.1 ≠ s.2.2.1 then [(1, 0, b.2.1, b.2.2.1, b.2.2.2.1, 0, 0, 0, 0, 0, [])] else [])
theorem pa {x : List UInt8} (h : x.length < 2 ^ 40) : bX.f x = some x := by
  unfold bX.f
  rw [if_pos (by simp; omega)]
  simp
theorem ml (l : List EnT) (hl : l.length < 2 ^ 30) (hd : ∀ e, e ∈ l → e.2.2.2.length < 2 ^ 40) : ∀ (k i : Nat) (acc : List dF), l.length - i < k → i ≤ l.length → acc.length ≤ i + 10 → bZ.l0 l k acc (i : Int) = some (acc ++ (l.drop i).map dd)
  | 0, i, acc, h, _, _ => by omega
  | k + 1, i, acc, h, hi, ha => by
    rw [bZ.l0]
    by_cases hlt : i < l.length
    · have hm : l.getD i aL ∈ l := by rw [gE hlt]; exact List.getElem_mem _
      rw [if_pos (by omega), if_pos (by omega), Int.toNat_natCast, pa (hd _ hm), Option.bind_some, if_pos (by simp only [List.length_cons, List.length_nil]; omega), ws1 (by omega), ml l hl hd k (i + 1) _ (by omega) (by omega) (by simp; omega), gS l aL hlt]
      simp [dd]
    · rw [if_neg (by omega), List.drop_of_length_le (by omega)]; simp
theorem qU (fs : FSt) (la : List UInt8) (a : Int) (d : Bool) (most : Int) (sg : List Int) (sz : Int) {s : St} (h : fS s) (br : Bool) (b : BaT) (hi : okN b.2.2.2.2.1) (hl : b.2.2.2.2.2.2.length < 2 ^ 30) (hd : ∀ e, e ∈ b.2.2.2.2.2.2 → e.2.2.2.length < 2 ^ 40) {k : Nat} (hk : b.2.2.2.2.2.2.length < k) :
    bZ.f k fs la a d most sg sz s.1 s.2.1 s.2.2.1 s.2.2.2.1 s.2.2.2.2.1 s.2.2.2.2.2 br b.1 b.2.1 b.2.2.1 b.2.2.2.1 b.2.2.2.2.1 b.2.2.2.2.2.1 b.2.2.2.2.2.2 = some (fk s b) := by
  unfold bZ.f fk
  have h1 : ((if b.1 = true then (some ((!decide (b.2.1 = s.1)) || (!decide (b.2.2.1 = s.2.1)))) else (some false)).bind fun s5v => (if s5v = true then (if ([((1 : Int), (0 : Int), b.2.1, b.2.2.1, s.2.2.1, (0 : Int), (0 : Int), (0 : Int), (0 : Int), (0 : Int), ([] : List UInt8))] : List dF).length * 104 ≤ 140737488355328 then (some ([((1 : Int), (0 : Int), b.2.1, b.2.2.1, s.2.2.1, (0 : Int), (0 : Int), (0 : Int), (0 : Int), (0 : Int), ([] : List UInt8))] : List dF)) else none) else (some ([] : List dF)))) = some (if b.1 = true ∧ (b.2.1 ≠ s.1 ∨ b.2.2.1 ≠ s.2.1) then [(1, 0, b.2.1, b.2.2.1, s.2.2.1, 0, 0, 0, 0, 0, [])] else []) := by
    rw [if_pos (c := ([((1 : Int), (0 : Int), b.2.1, b.2.2.1, s.2.2.1, (0 : Int), (0 : Int), (0 : Int), (0 : Int), (0 : Int), ([] : List UInt8))] : List dF).length * 104 ≤ 140737488355328) (by simp)]
    cases hb : b.1 with
    | false => simp
    | true => by_cases x : b.2.1 = s.1 <;> by_cases y : b.2.2.1 = s.2.1 <;> simp [x, y]
  rw [h1, Option.bind_some]
  obtain ⟨r1, e1⟩ : ∃ r : List dF, (if b.1 = true ∧ (b.2.1 ≠ s.1 ∨ b.2.2.1 ≠ s.2.1) then [(1, 0, b.2.1, b.2.2.1, s.2.2.1, 0, 0, 0, 0, 0, [])] else []) = r := ⟨_, rfl⟩
  have l1 : r1.length ≤ 1 := by rw [← e1]; split <;> simp
  rw [e1]
  have h2 : ((if ((!decide (b.2.2.2.2.1 = (0 : Int))) == true) = true then (cJ.f fs la a d most sg sz s.1 s.2.1 s.2.2.1 s.2.2.2.1 s.2.2.2.2.1 s.2.2.2.2.2 br b.2.2.2.2.1 b.2.2.2.2.2.1) else some false).bind fun s28v => (if ((!decide (b.2.2.2.2.1 = (0 : Int))) && (!s28v)) = true then (if (r1.length + ([((3 : Int), (0 : Int), (0 : Int), (0 : Int), (0 : Int), b.2.2.2.2.1, b.2.2.2.2.2.1, (0 : Int), (0 : Int), (0 : Int), ([] : List UInt8))] : List dF).length) * 104 ≤ 140737488355328 then (some (r1 ++ ([((3 : Int), (0 : Int), (0 : Int), (0 : Int), (0 : Int), b.2.2.2.2.1, b.2.2.2.2.2.1, (0 : Int), (0 : Int), (0 : Int), ([] : List UInt8))] : List dF))) else none) else (some r1))) = some (r1 ++ (if fT s b = true then [(3, 0, 0, 0, 0, b.2.2.2.2.1, b.2.2.2.2.2.1, 0, 0, 0, [])] else [])) := by
    rw [if_pos (c := (r1.length + ([((3 : Int), (0 : Int), (0 : Int), (0 : Int), (0 : Int), b.2.2.2.2.1, b.2.2.2.2.2.1, (0 : Int), (0 : Int), (0 : Int), ([] : List UInt8))] : List dF).length) * 104 ≤ 140737488355328) (by simp only [List.length_cons, List.length_nil]; omega), pY fs la a d most sg sz h br hi]
    unfold fT
    by_cases x : b.2.2.2.2.1 = 0
    · simp [x]
    · cases lm s b.2.2.2.2.1 b.2.2.2.2.2.1 <;> simp [x]
  rw [h2, Option.bind_some]
  obtain ⟨r2, e2⟩ : ∃ r : List dF, (if fT s b = true then [(3, 0, 0, 0, 0, b.2.2.2.2.1, b.2.2.2.2.2.1, 0, 0, 0, [])] else []) = r := ⟨_, rfl⟩
  have l2 : r2.length ≤ 1 := by rw [← e2]; split <;> simp
  rw [e2]
  have h3 := ml b.2.2.2.2.2.2 hl hd k 0 (r1 ++ r2) (by omega) (by omega) (by simp; omega)
  rw [List.drop_zero, show ((0 : Nat) : Int) = (0 : Int) from rfl] at h3
  rw [h3, Option.bind_some]
  have hln : (r1 ++ r2 ++ b.2.2.2.2.2.2.map dd).length < 2 ^ 31 := by simp; omega
  have hc : ((b.1 && (!decide (b.2.2.2.1 = s.2.2.1))) = true) ↔ (b.1 = true ∧ b.2.2.2.1 ≠ s.2.2.1) := by simp
  by_cases x : b.1 = true ∧ b.2.2.2.1 ≠ s.2.2.1
  · rw [if_pos (hc.2 x), if_pos x, if_pos (by simp only [List.length_cons, List.length_nil]; omega)]
    rfl
  · rw [if_neg (fun y => x (hc.1 y)), if_neg x, List.append_nil]
    rfl
theorem kI : ∀ {l : List EnT}, cF l = 0 → ∀ e, e ∈ l → fG e.1 e.2.1 e.2.2.1 e.2.2.2 = 0
  | [], _, e, he => by cases he
  | x :: l, h, e, he => by
    rw [cF] at h
    split at h
    · rename_i hx
      rcases List.mem_cons.1 he with rfl | he
      · exact hx
      · exact kI h e he
    · rename_i hx
      exact absurd h hx
theorem fo : okN 0 := ⟨by decide, by decide⟩
theorem oj {s : St} {b : BaT} (h : dM s b = 0) : (b.1 = true → jd b.2.1 b.2.2.1 b.2.2.2.1 = 0) ∧ ¬ iK b ∧ cF b.2.2.2.2.2.2 = 0 ∧ iJ (if fT s b = true then b.2.2.2.2.1 else (dB s).1) b.2.2.2.2.2.2 = 0 := by
  unfold dM at h
  split at h
  · rename_i g; exact absurd h g.2
  rename_i g
  split at h
  · omega
  rename_i g2
  split at h
  · rename_i g3; exact absurd h g3
  rename_i g3
  exact ⟨fun x => Decidable.not_not.1 fun y => g ⟨x, y⟩, g2, Decidable.not_not.1 g3, h⟩
theorem pD {b : BaT} (h : ¬ iK b) : okN b.2.2.2.2.1 ∧ okN b.2.2.2.2.2.1 := by
  unfold iK at h
  exact ⟨⟨by omega, by omega⟩, ⟨by omega, by omega⟩⟩
theorem pC {s : St} (hs : fS s) {b : BaT} (h : dM s b = 0) : ∀ r, r ∈ fk s b → OkR r ∧ r.1 ≠ 0 := by
  obtain ⟨h1, h2, h3, _⟩ := oj h
  have hb := pD h2
  intro r hr
  unfold fk at hr
  rcases List.mem_append.1 hr with hr | hr
  · rcases List.mem_append.1 hr with hr | hr
    · rcases List.mem_append.1 hr with hr | hr
      · split at hr
        · rename_i g
          have hk := nR (h1 g.1)
          rw [List.mem_singleton.1 hr]
          exact ⟨⟨⟨by simp [dd], by simp [dd]⟩, fo, hk.1, hk.2.1, hs.c, fo, fo, fun e => absurd e (by simp)⟩, by simp⟩
        · cases hr
      · split at hr
        · rw [List.mem_singleton.1 hr]
          exact ⟨⟨⟨by simp [dd], by simp [dd]⟩, fo, fo, fo, fo, hb.1, hb.2, fun e => absurd e (by simp)⟩, by simp⟩
        · cases hr
    · obtain ⟨e, he, rfl⟩ := List.mem_map.1 hr
      exact ⟨⟨⟨by simp [dd], by simp [dd]⟩, fo, fo, fo, fo, fo, fo, fun _ => kI h3 e he⟩, by simp [dd]⟩
  · split at hr
    · rename_i g
      have hk := nR (h1 g.1)
      rw [List.mem_singleton.1 hr]
      exact ⟨⟨⟨by simp [dd], by simp [dd]⟩, fo, hk.1, hk.2.1, hk.2.2, fo, fo, fun e => absurd e (by simp)⟩, by simp⟩
    · cases hr
/-! ### Their bytes -/
def ep : List dF → List UInt8
  | [] => []
  | r :: l => frB (eR r) ++ ep l
def dP (l : List dF) : Nat := (l.map fun r => r.2.2.2.2.2.2.2.2.2.2.length + 128).sum
theorem jA : ∀ l : List dF, (ep l).length ≤ dP l
  | [] => by simp [ep, dP]
  | r :: l => by
    have ih := jA l
    have h1 := kh r
    have h2 := mE (eR r)
    simp only [ep, dP, List.map_cons, List.sum_cons, List.length_append] at ih ⊢
    omega
theorem mS (l : List dF) (hl : l.length < 2 ^ 40) (hz : dP l < 2 ^ 40) (ho : ∀ r, r ∈ l → OkR r) : ∀ (k i : Nat) (acc : List UInt8), l.length - i + 10000 < k → i ≤ l.length → acc.length + dP (l.drop i) < 2 ^ 41 → bm.l0 l k acc (i : Int) = some (acc ++ ep (l.drop i))
  | 0, i, acc, h, _, _ => by omega
  | k + 1, i, acc, h, hi, ha => by
    rw [bm.l0]
    by_cases hlt : i < l.length
    · have hm : l.getD i aI ∈ l := by rw [gE hlt]; exact List.getElem_mem _
      have hdr := gS l aI hlt
      have h1 := kh (l.getD i aI)
      have h2 := mE (eR (l.getD i aI))
      have hz2 : dP (l.drop i) = (l.getD i aI).2.2.2.2.2.2.2.2.2.2.length + 128 + dP (l.drop (i + 1)) := by rw [hdr]; simp [dP]
      rw [if_pos (by omega), if_pos (by omega), Int.toNat_natCast, pQ (ho _ hm) (by omega), Option.bind_some, if_pos (by omega), ws1 (by omega), mS l hl hz ho k (i + 1) _ (by omega) (by omega) (by rw [List.length_append]; omega), hdr, ep, List.append_assoc]
    · rw [if_neg (by omega), List.drop_of_length_le (by omega), ep, List.append_nil]
/-! ### A segment that is begun -/
theorem mI (l : List UInt8) : ¬ (fM l 0 false).1 = true := Bool.false_ne_true
theorem gZ {fs : FSt} {x : List UInt8} {v : List UInt8 × Int} (h : aR fs x = some v) : cq fs x = v := by unfold cq; rw [h]; rfl
theorem ph {fs : FSt} {l x : List UInt8} (hn : nmB x = true) (hm : aR fs x = none) (hl : fs.length < 256) : ja fs l 0 false x = (0, aV fs x ([], 0), l, 0, false) := by
  unfold ja
  rw [if_neg Bool.false_ne_true, if_neg (by rw [hn]; decide), if_neg (by rw [hm]; decide), if_neg (by omega), if_neg (mI _)]
  rfl
theorem lv {fs : FSt} {l x b : List UInt8} {v : List UInt8 × Int} (hm : aR fs x = some v) (hs : szF fs + b.length ≤ 16777216) : jb fs l 0 false x b = (0, aV fs x (v.1 ++ b, v.2), x, 0, false) := by
  unfold jb
  rw [gZ hm, if_pos (by rw [hm]; rfl), if_neg Bool.false_ne_true, if_neg (by omega), if_neg (mI _)]
  rfl
theorem lH {fs : FSt} {l x : List UInt8} {v : List UInt8 × Int} (hm : aR fs x = some v) : kV fs l 0 false x = (0, aV fs x (v.1, (v.1.length : Int)), l, 0, false) := by
  unfold kV
  rw [gZ hm, if_pos (by rw [hm]; rfl), if_neg Bool.false_ne_true, if_neg (mI _)]
  rfl
theorem nt (n : Nat) : nmB (bo n) = true := by
  have hd : ∀ c, dg c → ky c = false := fun c hc => by
    have := uc (p := fun c => !(decide (48 ≤ c.toNat) && decide (c.toNat ≤ 57)) || !ky c) (by decide +kernel) c
    simp only [decide_eq_true hc.1, decide_eq_true hc.2, Bool.and_self, Bool.not_true, Bool.false_or, Bool.not_eq_true'] at this
    exact this
  unfold nmB
  rw [Bool.and_eq_true, List.all_eq_true]
  constructor
  · intro c hc
    rcases List.mem_append.1 hc with hc | hc
    · have : (oP.all fun c => !ky c) = true := by decide +kernel
      exact List.all_eq_true.1 this c hc
    · rw [hd c (oS 8 n c hc)]; rfl
  · rw [jt]; rfl
def eK (n : Nat) (s : St) : dF := (0, (n : Int), s.1, s.2.1, s.2.2.1, (dB s).1, (dB s).2, 0, 0, 0, [])
theorem nv {s : St} (h : fS s) : okN (dB s).1 ∧ okN (dB s).2 := by
  have h1 := jq h
  have h2 := lG h
  have h3 := h.b
  unfold okN at h3 ⊢
  refine ⟨by omega, ?_⟩
  unfold dB
  split
  · have := (gi (h.chk _ (nP (i := s.2.2.2.2.2.length - 1) (by omega)))).1
    have a := this.1
    have b := this.2
    simp only
    omega
  · exact h.bt
theorem so {n : Nat} (hn : n ≤ 99999999) {s : St} (h : fS s) : OkR (eK n s) := ⟨⟨by simp [eK], by simp [eK]⟩, ⟨by show 0 ≤ (n : Int); omega, by show (n : Int) ≤ _; omega⟩, h.t, h.v, h.c, (nv h).1, (nv h).2, fun e => absurd e (by simp [eK])⟩
def gY (fs : FSt) (n : Nat) (b : List UInt8) : FSt := aV (aV (aV fs (bo n) ([], 0)) (bo n) ([] ++ b, 0)) (bo n) ([] ++ b, ((([] ++ b : List UInt8)).length : Int))
theorem jR (fs : FSt) (n : Nat) (b x : List UInt8) : aR (gY fs n b) x = if x = bo n then some (b, (b.length : Int)) else aR fs x := by
  unfold gY
  rw [eH, eH, eH]
  by_cases h : x = bo n
  · rw [if_pos h.symm, if_pos h]; rfl
  · rw [if_neg (fun e => h e.symm), if_neg (fun e => h e.symm), if_neg (fun e => h e.symm), if_neg h]
theorem kP {n k : Nat} (h0 : 1 ≤ n) (h1 : n ≤ 99999999) (hk : 10 ≤ k) : cr.f k (n : Int) = some (bo n) := by
  unfold cr.f
  rw [sW h0 h1 hk, Option.bind_some]
  simp only []
  rw [iU, Option.bind_some]
theorem kO {fs : FSt} (hi : fH 256 fs) (hl : fs.length < 256) (hz : szF fs + 200 ≤ 16777216) {la : List UInt8} {most : Int} {sg : List Int} (hsg : sg.length < 2 ^ 40) {sz : Int} {s : St} (hs : fS s) (hes : s.2.2.2.2.2.length < 2 ^ 30) {n : Nat} (h0 : 1 ≤ n) (h1 : n ≤ 99999999) (hm : aR fs (bo n) = none) {k : Nat} (hk : 20000 ≤ k) :
    de.f k fs la 0 false most sg sz s.1 s.2.1 s.2.2.1 s.2.2.2.1 s.2.2.2.2.1 s.2.2.2.2.2 false (n : Int) = some (gY fs n (frB (eR (eK n s))), bo n, 0, false, most, sg ++ [(n : Int)], ((frB (eR (eK n s))).length : Int), s.1, s.2.1, s.2.2.1, s.2.2.2.1, s.2.2.2.2.1, s.2.2.2.2.2, false) ∧
      fH 256 (gY fs n (frB (eR (eK n s)))) ∧ (gY fs n (frB (eR (eK n s)))).length = fs.length + 1 ∧ szF (gY fs n (frB (eR (eK n s)))) ≤ szF fs + (frB (eR (eK n s))).length ∧ (frB (eR (eK n s))).length ≤ 128 := by
  have hr := so h1 hs
  have hb1 := kh (eK n s)
  have hb2 := mE (eR (eK n s))
  have hb0 : (eK n s).2.2.2.2.2.2.2.2.2.2.length = 0 := rfl
  have hfr := pQ hr (k := k) (by omega)
  obtain ⟨b, eb⟩ : ∃ b, frB (eR (eK n s)) = b := ⟨_, rfl⟩
  rw [eb] at hfr hb2 ⊢
  have i1 := qs hi la 0 false (bo n)
  rw [ph (nt n) hm hl] at i1
  have m1 : aR (aV fs (bo n) ([], 0)) (bo n) = some ([], 0) := by rw [eH, if_pos rfl]
  have z1 := eY (bo n) (([], 0) : List UInt8 × Int) fs
  rw [ri (by rw [hm]; rfl)] at z1
  have l1 := gk fs (bo n) (([], 0) : List UInt8 × Int)
  rw [hm] at l1
  simp only [Option.isSome_none, Bool.false_eq_true, if_false, List.length_nil, Nat.add_zero] at l1 z1
  have i2 := lI i1 la 0 false (bo n) b
  have ha := lv (l := la) (b := b) m1 (by omega)
  simp only at i2
  rw [ha] at i2
  have m2 : aR (aV (aV fs (bo n) ([], 0)) (bo n) ([] ++ b, 0)) (bo n) = some ([] ++ b, 0) := by rw [eH, if_pos rfl]
  have z2 := eY (bo n) (([] ++ b, 0) : List UInt8 × Int) (aV fs (bo n) ([], 0))
  rw [gZ m1] at z2
  have l2 := gk (aV fs (bo n) ([], 0)) (bo n) (([] ++ b, 0) : List UInt8 × Int)
  rw [m1] at l2
  simp only [Option.isSome_some, if_true, List.length_nil, Nat.add_zero] at l2 z2
  have i3 := lu i2 (bo n) 0 false (bo n)
  have hsy := lH (l := bo n) m2
  simp only at i3
  rw [hsy] at i3
  have z3 := eY (bo n) (([] ++ b, ((([] ++ b : List UInt8)).length : Int)) : List UInt8 × Int) (aV (aV fs (bo n) ([], 0)) (bo n) ([] ++ b, 0))
  rw [gZ m2] at z3
  have l3 := gk (aV (aV fs (bo n) ([], 0)) (bo n) ([] ++ b, 0)) (bo n) (([] ++ b, ((([] ++ b : List UInt8)).length : Int)) : List UInt8 × Int)
  rw [m2] at l3
  simp only [Option.isSome_some, if_true] at l3
  refine ⟨?_, i3, ?_, ?_, by omega⟩
  · unfold de.f
    rw [kP h0 h1 (by omega), Option.bind_some, rm _ _ _ _ _ (by rw [jt]; omega) (by rw [jt]; omega), ph (nt n) hm hl, Option.bind_some]
    simp only []
    rw [iU, Option.bind_some]
    unfold ew.f
    rw [qJ _ _ _ _ _ _ _ s _ (by omega), Option.bind_some]
    have hfr' : dn.f k (0 : Int) (n : Int) s.1 s.2.1 s.2.2.1 (dB s).1 (dB s).2 (0 : Int) (0 : Int) (0 : Int) ([] : List UInt8) = some b := hfr
    rw [hfr', Option.bind_some, kP h0 h1 (by omega), Option.bind_some, mT i1 _ _ _ _ _ (by omega), ha, Option.bind_some]
    simp only []
    rw [iU, Option.bind_some, Option.bind_some, pE, hsy, Option.bind_some]
    simp only []
    rw [iU, Option.bind_some, if_pos (by simp only [List.length_cons, List.length_nil]; omega), Option.bind_some]
    rfl
  · unfold gY; omega
  · unfold gY; simp only [List.nil_append] at z2 z3 ⊢; omega
end Go.Proofs.YtndjkejhacfpdaaGreatDoor

namespace Go.Proofs.YtndjkejhacfpdaaGreatDoor
set_option linter.unusedVariables false
set_option linter.unusedSimpArgs false
open Go.RowKit
def ez (s0 m : Nat) : List Int := (List.range' s0 (m + 1)).map fun n : Nat => (n : Int)
theorem ii (s0 m : Nat) : (ez s0 m).length = m + 1 := by simp [ez]
theorem rE {s0 m i : Nat} (h : i ≤ m) : (ez s0 m).getD i 0 = ((s0 + i : Nat) : Int) := by
  unfold ez
  rw [List.getD_eq_getElem?_getD, List.getElem?_map, List.getElem?_range' (by omega)]
  simp
theorem qS (s0 m : Nat) : ez s0 m ++ [((s0 + m + 1 : Nat) : Int)] = ez s0 (m + 1) := by
  unfold ez
  rw [List.range'_1_concat (n := m + 1), List.map_append]
  simp [Nat.add_assoc]
theorem kr (s0 m : Nat) (h : m < 2 ^ 40) : (ez s0 m).getD (IntKind.i64.wrap (((ez s0 m).length : Int) - 1)).toNat 0 = ((s0 + m : Nat) : Int) := by
  have e : ((ez s0 m).length : Int) - 1 = (m : Int) := by rw [ii]; omega
  rw [e, w64 (by omega) (by omega), Int.toNat_natCast, rE (Nat.le_refl _)]
structure Wl where
  fs : FSt
  la : List UInt8
  most : Int
  s0 : Nat
  m : Nat
  size : Nat
  st : St
def Wl.last (w : Wl) : Nat := w.s0 + w.m
abbrev WT := FSt × List UInt8 × Int × Bool × Int × List Int × Int × Int × Int × Int × Int × Int × List HeT × Bool
def Wl.tp (w : Wl) : WT := (w.fs, w.la, 0, false, w.most, ez w.s0 w.m, (w.size : Int), w.st.1, w.st.2.1, w.st.2.2.1, w.st.2.2.2.1, w.st.2.2.2.2.1, w.st.2.2.2.2.2, false)
structure WOk (T N Z L : Nat) (w : Wl) : Prop where
  inv : fH 256 w.fs
  num : w.fs.length ≤ N
  siz : szF w.fs ≤ Z
  s1 : 1 ≤ w.s0
  top : w.s0 + w.m ≤ T
  has : ∀ n, w.s0 ≤ n → n ≤ w.s0 + w.m → (aR w.fs (bo n)).isSome = true
  non : ∀ n, w.s0 + w.m < n → n ≤ 99999999 → aR w.fs (bo n) = none
  st : fS w.st
  len : w.st.2.2.2.2.2.length ≤ L
  sz : w.size ≤ Z
theorem iy {m n : Nat} (hm : m ≤ 99999999) (hn : n ≤ 99999999) (h : bo m = bo n) : m = n := by rw [← lr hm, h, lr hn]
def gm (s : St) (rs : List dF) (sg : Int) : St := rs.foldl (fun s r => dZ s r sg) s
theorem ls {sg : Int} : ∀ {rs : List dF} {s : St}, fS s → (∀ r, r ∈ rs → OkR r ∧ r.1 ≠ 0) → fS (gm s rs sg)
  | [], s, h, _ => h
  | r :: rs, s, h, hr => ls (rs := rs) (ko h (hr r (by simp)).1 (hr r (by simp)).2 sg) fun x hx => hr x (by simp [hx])
theorem mR {sg : Int} : ∀ (rs : List dF) (s : St), (gm s rs sg).2.2.2.2.2.length ≤ s.2.2.2.2.2.length + rs.length
  | [], s => Nat.le_refl _
  | r :: rs, s => by
    have h1 := mR rs (dZ s r sg) (sg := sg)
    have h2 := nQ s r sg
    show (gm (dZ s r sg) rs sg).2.2.2.2.2.length ≤ _
    rw [List.length_cons]
    omega
theorem pA (p : WT) (q : FSt × List UInt8 × Int × Bool) (rs : List dF) (hn : rs.length < 2 ^ 29) (hr : ∀ r, r ∈ rs → OkR r ∧ r.1 ≠ 0) {sg : Int} (hsg : p.2.2.2.2.2.1.getD (IntKind.i64.wrap ((p.2.2.2.2.2.1.length : Int) - 1)).toNat 0 = sg) (most : Int) (sgs : List Int) (sz : Int) : ∀ (k i : Nat) (s : St), rs.length - i < k → i ≤ rs.length → fS s → s.2.2.2.2.2.length + (rs.length - i) < 2 ^ 30 →
    bm.l1 p rs q k (i : Int) most sgs sz s.1 s.2.1 s.2.2.1 s.2.2.2.1 s.2.2.2.2.1 s.2.2.2.2.2 false = some (q.1, q.2.1, q.2.2.1, q.2.2.2, most, sgs, sz, (gm s (rs.drop i) sg).1, (gm s (rs.drop i) sg).2.1, (gm s (rs.drop i) sg).2.2.1, (gm s (rs.drop i) sg).2.2.2.1, (gm s (rs.drop i) sg).2.2.2.2.1, (gm s (rs.drop i) sg).2.2.2.2.2, false)
  | 0, i, s, h, _, _, _ => by omega
  | k + 1, i, s, h, hi, hs, hl => by
    rw [bm.l1]
    by_cases hlt : i < rs.length
    · have hm : rs.getD i aI ∈ rs := by rw [gE hlt]; exact List.getElem_mem _
      have hb := hr _ hm
      obtain ⟨c, hc⟩ := tw q.1 q.2.1 q.2.2.1 q.2.2.2 most sgs sz hs (by omega) hb.1 hb.2 sg
      have h2 := nQ s (rs.getD i aI) sg
      rw [if_pos (by omega), if_pos (by omega), Int.toNat_natCast, hsg, hc, Option.bind_some, ws1 (by omega)]
      simp only []
      rw [pA p q rs hn hr hsg most sgs sz k (i + 1) (dZ s (rs.getD i aI) sg) (by omega) (by omega) (ko hs hb.1 hb.2 sg) (by omega), gS rs aI hlt]
      rfl
    · rw [if_neg (by omega), List.drop_of_length_le (by omega)]
      rfl
def gF (w : Wl) : Wl :=
  if w.most ≤ (w.size : Int) then { w with fs := gY (aV w.fs (bo w.last) ((cq w.fs (bo w.last)).1, ((cq w.fs (bo w.last)).1.length : Int))) (w.last + 1) (frB (eR (eK (w.last + 1) w.st))), la := bo (w.last + 1), m := w.m + 1, size := (frB (eR (eK (w.last + 1) w.st))).length }
  else w
def je (w : Wl) (rs : List dF) : Wl :=
  { w with fs := if 0 < rs.length then aV w.fs (bo w.last) ((cq w.fs (bo w.last)).1 ++ ep rs, (cq w.fs (bo w.last)).2) else w.fs, la := if 0 < rs.length then bo w.last else w.la, size := w.size + (ep rs).length, st := gm w.st rs (w.last : Int) }
def ig (w : Wl) (b : BaT) : Wl := je (gF w) (fk (gF w).st b)
theorem kN {fs : FSt} {x : List UInt8} (h : (aR fs x).isSome = true) : aR fs x = some (cq fs x) := by
  obtain ⟨v, hv⟩ := Option.isSome_iff_exists.1 h
  rw [hv, gZ hv]
theorem kK (w : Wl) : (gF w).st = w.st := by unfold gF; split <;> rfl
theorem pB {T N Z L : Nat} {w : Wl} (h : WOk T N Z L w) (hT : T < 99999999) (hN : N < 256) (hZ : Z + 200 ≤ 16777216) (hL : L < 2 ^ 30) : WOk (T + 1) (N + 1) (Z + 128) L (gF w) := by
  have hln := h.num
  have hsz := h.siz
  have htp := h.top
  have hs := kN (h.has w.last (by unfold Wl.last; omega) (Nat.le_refl _))
  unfold gF
  by_cases hc : w.most ≤ (w.size : Int)
  · rw [if_pos hc]
    have i1 := lu h.inv w.la 0 false (bo w.last)
    rw [lH hs] at i1
    have z1 := eY (bo w.last) ((cq w.fs (bo w.last)).1, ((cq w.fs (bo w.last)).1.length : Int)) w.fs
    have l1 := gj (v := ((cq w.fs (bo w.last)).1, ((cq w.fs (bo w.last)).1.length : Int))) (h.has w.last (by unfold Wl.last; omega) (Nat.le_refl _))
    have hg : ∀ n, w.s0 + w.m < n → n ≤ 99999999 → aR (aV w.fs (bo w.last) ((cq w.fs (bo w.last)).1, ((cq w.fs (bo w.last)).1.length : Int))) (bo n) = none := fun n h1 h2 => by
      rw [eH, if_neg (fun e => by have := iy (by unfold Wl.last; omega) h2 e; unfold Wl.last at this; omega), h.non n h1 h2]
    simp only at i1 z1
    obtain ⟨_, b2, b3, b4, b5⟩ := kO (la := w.la) (most := w.most) (sg := []) (sz := 0) (k := 20000) i1 (by omega) (by omega) (by simp) h.st (by have := h.len; have := lG h.st; have := h.st.b; omega) (n := w.last + 1) (by omega) (by unfold Wl.last; omega) (hg _ (by unfold Wl.last; omega) (by unfold Wl.last; omega)) (Nat.le_refl _)
    refine ⟨b2, by simp only; omega, by simp only; omega, h.s1, by simp only; omega, fun n h1 h2 => ?_, fun n h1 h2 => ?_, h.st, h.len, by simp only; omega⟩
    · simp only at h1 h2 ⊢
      rw [jR]
      split
      · rfl
      · rw [eH]
        split
        · rfl
        · rename_i g1 g2
          refine h.has n h1 ?_
          by_cases e : n = w.last + 1
          · exact absurd (congrArg bo e) g1
          · unfold Wl.last at e; omega
    · simp only at h1 h2 ⊢
      rw [jR, if_neg (fun e => by have := iy h2 (by unfold Wl.last; omega) e; unfold Wl.last at this; omega), hg n (by omega) h2]
  · rw [if_neg hc]
    exact ⟨h.inv, by omega, by omega, h.s1, by omega, h.has, h.non, h.st, h.len, by have := h.sz; omega⟩
theorem tA {T N Z L : Nat} {w : Wl} (h : WOk T N Z L w) (hT : T ≤ 99999999) {rs : List dF} (hr : ∀ r, r ∈ rs → OkR r ∧ r.1 ≠ 0) (hZ : Z + dP rs ≤ 16777216) : WOk T N (Z + dP rs) (L + rs.length) (je w rs) := by
  have hs := kN (h.has w.last (by unfold Wl.last; omega) (Nat.le_refl _))
  have hfl := jA rs
  have hsz := h.siz
  have hss := h.sz
  have hfo := mR (sg := (w.last : Int)) rs w.st
  have hln := h.len
  unfold je
  by_cases hc : 0 < rs.length
  · simp only [if_pos hc]
    have i1 := lI h.inv w.la 0 false (bo w.last) (ep rs)
    rw [lv hs (by omega)] at i1
    have z1 := eY (bo w.last) ((cq w.fs (bo w.last)).1 ++ ep rs, (cq w.fs (bo w.last)).2) w.fs
    have l1 := gj (v := ((cq w.fs (bo w.last)).1 ++ ep rs, (cq w.fs (bo w.last)).2)) (h.has w.last (by unfold Wl.last; omega) (Nat.le_refl _))
    simp only [List.length_append] at z1
    have hnum := h.num
    refine ⟨i1, by simp only; omega, by simp only; omega, h.s1, h.top, fun n h1 h2 => ?_, fun n h1 h2 => ?_, ls h.st hr, by simp only; omega, by simp only; omega⟩
    · simp only at h1 h2 ⊢
      rw [eH]
      split
      · rfl
      · exact h.has n h1 h2
    · simp only at h1 h2 ⊢
      have htp := h.top
      rw [eH, if_neg (fun e => by have := iy (by unfold Wl.last; omega) h2 e; unfold Wl.last at this; omega)]
      exact h.non n h1 h2
  · simp only [if_neg hc]
    exact ⟨h.inv, h.num, by simp only; omega, h.s1, h.top, h.has, h.non, ls h.st hr, by simp only; omega, by simp only; omega⟩
theorem qT {T N Z L : Nat} {w : Wl} (h : WOk T N Z L w) (hT : T < 99999990) (hN : N < 256) {b : BaT} (hc : dM w.st b = 0) (hZ : Z + 200 + dP (fk w.st b) ≤ 16777216) (hL : L + (fk w.st b).length < 2 ^ 29) (hb : b.2.2.2.2.2.2.length < 2 ^ 28) (hd : ∀ e, e ∈ b.2.2.2.2.2.2 → e.2.2.2.length < 2 ^ 40) (hm : w.m < 2 ^ 30) {k : Nat} (hk : 30000 + b.2.2.2.2.2.2.length + (fk w.st b).length ≤ k) :
    bm.f k w.tp.1 w.tp.2.1 w.tp.2.2.1 w.tp.2.2.2.1 w.tp.2.2.2.2.1 w.tp.2.2.2.2.2.1 w.tp.2.2.2.2.2.2.1 w.tp.2.2.2.2.2.2.2.1 w.tp.2.2.2.2.2.2.2.2.1 w.tp.2.2.2.2.2.2.2.2.2.1 w.tp.2.2.2.2.2.2.2.2.2.2.1 w.tp.2.2.2.2.2.2.2.2.2.2.2.1 w.tp.2.2.2.2.2.2.2.2.2.2.2.2.1 w.tp.2.2.2.2.2.2.2.2.2.2.2.2.2 b.1 b.2.1 b.2.2.1 b.2.2.2.1 b.2.2.2.2.1 b.2.2.2.2.2.1 b.2.2.2.2.2.2 = some (ig w b).tp := by
  have hln := h.num
  have hsz := h.siz
  have htp := h.top
  have hs := kN (h.has w.last (by unfold Wl.last; omega) (Nat.le_refl _))
  have hro := pB h (by omega) hN (by omega) (by omega)
  have hrec := pC h.st hc
  have hbi := (pD (oj hc).2.1).1
  have hlen := h.len
  -- the segment
  have e1 : ((if w.most ≤ (w.size : Int) then (if 0 ≤ IntKind.i64.wrap (((ez w.s0 w.m).length : Int) - 1) ∧ IntKind.i64.wrap (((ez w.s0 w.m).length : Int) - 1) < ((ez w.s0 w.m).length : Int) then ((cr.f k ((ez w.s0 w.m).getD (IntKind.i64.wrap (((ez w.s0 w.m).length : Int) - 1)).toNat (0 : Int))).bind fun s19v => ((cK.f w.fs w.la 0 false s19v).bind fun s22v => ((bw.f s22v.1).bind fun s25v => ((de.f k s22v.2.1 s22v.2.2.1 s22v.2.2.2.1 s22v.2.2.2.2 w.most (ez w.s0 w.m) (w.size : Int) w.st.1 w.st.2.1 w.st.2.2.1 w.st.2.2.2.1 w.st.2.2.2.2.1 w.st.2.2.2.2.2 false (IntKind.i64.wrap (((ez w.s0 w.m).getD (IntKind.i64.wrap (((ez w.s0 w.m).length : Int) - 1)).toNat (0 : Int)) + 1))).bind fun s29v => (some (s29v.1, s29v.2.1, s29v.2.2.1, s29v.2.2.2.1, s29v.2.2.2.2.1, s29v.2.2.2.2.2.1, s29v.2.2.2.2.2.2.1, s29v.2.2.2.2.2.2.2.1, s29v.2.2.2.2.2.2.2.2.1, s29v.2.2.2.2.2.2.2.2.2.1, s29v.2.2.2.2.2.2.2.2.2.2.1, s29v.2.2.2.2.2.2.2.2.2.2.2.1, s29v.2.2.2.2.2.2.2.2.2.2.2.2.1, s29v.2.2.2.2.2.2.2.2.2.2.2.2.2)))))) else none) else (some (w.fs, w.la, 0, false, w.most, ez w.s0 w.m, (w.size : Int), w.st.1, w.st.2.1, w.st.2.2.1, w.st.2.2.2.1, w.st.2.2.2.2.1, w.st.2.2.2.2.2, false))) : Option WT) = some (gF w).tp := by
    unfold gF
    by_cases hcm : w.most ≤ (w.size : Int)
    · have i1 := lu h.inv w.la 0 false (bo w.last)
      rw [lH hs] at i1
      have z1 := eY (bo w.last) ((cq w.fs (bo w.last)).1, ((cq w.fs (bo w.last)).1.length : Int)) w.fs
      have l1 := gj (v := ((cq w.fs (bo w.last)).1, ((cq w.fs (bo w.last)).1.length : Int))) (h.has w.last (by unfold Wl.last; omega) (Nat.le_refl _))
      simp only at i1 z1
      obtain ⟨b1, _⟩ := kO (la := w.la) (most := w.most) (sg := ez w.s0 w.m) (sz := (w.size : Int)) (k := k) i1 (by omega) (by omega) (by rw [ii]; omega) h.st (by omega) (n := w.last + 1) (by omega) (by unfold Wl.last; omega) (by
        rw [eH, if_neg (fun e => by have := iy (by unfold Wl.last; omega) (by unfold Wl.last; omega) e; omega)]
        exact h.non _ (by unfold Wl.last; omega) (by unfold Wl.last; omega)) (by omega)
      have hw1 : IntKind.i64.wrap (((ez w.s0 w.m).length : Int) - 1) = (w.m : Int) := by rw [ii, w64 (by omega) (by omega)]; omega
      rw [if_pos hcm, if_pos hcm, kr _ _ (by omega), hw1, if_pos (by rw [ii]; omega), show ((w.s0 + w.m : Nat) : Int) = (w.last : Int) from rfl, kP (by have := h.s1; unfold Wl.last; omega) (by unfold Wl.last; omega) (by omega), Option.bind_some, pE, lH hs, Option.bind_some]
      simp only []
      rw [iU, Option.bind_some, ws1 (by unfold Wl.last; omega), b1, Option.bind_some]
      unfold Wl.tp
      simp only []
      rw [show (w.last + 1 : Nat) = w.s0 + w.m + 1 from rfl, qS]
    · rw [if_neg hcm, if_neg hcm]; rfl
  unfold bm.f
  show Option.bind (if w.most ≤ (w.size : Int) then _ else _) _ = _
  rw [show Wl.tp w = (w.fs, w.la, 0, false, w.most, ez w.s0 w.m, (w.size : Int), w.st.1, w.st.2.1, w.st.2.2.1, w.st.2.2.2.1, w.st.2.2.2.2.1, w.st.2.2.2.2.2, false) from rfl]
  simp only []
  rw [e1, Option.bind_some]
  have hst := kK w
  unfold ig
  rw [hst]
  obtain ⟨v, ev⟩ : ∃ v, gF w = v := ⟨_, rfl⟩
  rw [ev] at hro hst ⊢
  have hvm : v.m ≤ w.m + 1 := by rw [← ev]; unfold gF; split <;> simp
  have hvt := hro.top
  have hvs := hro.siz
  have hvz := hro.sz
  have hs2 := kN (hro.has v.last (by unfold Wl.last; omega) (Nat.le_refl _))
  have hw1 : IntKind.i64.wrap (((ez v.s0 v.m).length : Int) - 1) = (v.m : Int) := by rw [ii, w64 (by omega) (by omega)]; omega
  have hrf := qU v.fs v.la 0 false v.most (ez v.s0 v.m) (v.size : Int) hro.st false b hbi (by omega) hd (k := k) (by omega)
  rw [hst] at hrf
  have hfl := jA (fk w.st b)
  unfold Wl.tp
  simp only []
  rw [hst, hrf, hw1, if_pos (by rw [ii]; omega), Option.bind_some]
  obtain ⟨rs, er⟩ : ∃ rs, fk w.st b = rs := ⟨_, rfl⟩
  rw [er] at hrec hZ hL hk hfl ⊢
  have hl0 := mS rs (by omega) (by omega) (fun r hr => (hrec r hr).1) k 0 [] (by omega) (by omega) (by simp; omega)
  rw [List.drop_zero, List.nil_append, show ((0 : Nat) : Int) = (0 : Int) from rfl] at hl0
  rw [hl0, Option.bind_some]
  have hsl := kr v.s0 v.m (by omega)
  rw [hw1] at hsl
  rw [hsl, show ((v.s0 + v.m : Nat) : Int) = (v.last : Int) from rfl, kP (by have := hro.s1; unfold Wl.last; omega) (by unfold Wl.last; omega) (by omega), Option.bind_some, mT hro.inv _ _ _ _ _ (by omega), lv hs2 (by omega), Option.bind_some]
  simp only []
  rw [iU, Option.bind_some]
  have hq : ((if (0 : Int) < (rs.length : Int) then (some (aV v.fs (bo v.last) ((cq v.fs (bo v.last)).1 ++ ep rs, (cq v.fs (bo v.last)).2), bo v.last, 0, false)) else (some (v.fs, v.la, 0, false))) : Option (FSt × List UInt8 × Int × Bool)) = some ((je v rs).fs, (je v rs).la, 0, false) := by
    unfold je
    by_cases hp : 0 < rs.length
    · simp only [if_pos hp, if_pos (show (0 : Int) < (rs.length : Int) by omega)]
    · simp only [if_neg hp, if_neg (show ¬ (0 : Int) < (rs.length : Int) by omega)]
  rw [hq, Option.bind_some]
  have hl1 := pA (v.fs, v.la, 0, false, v.most, ez v.s0 v.m, (v.size : Int), w.st.1, w.st.2.1, w.st.2.2.1, w.st.2.2.2.1, w.st.2.2.2.2.1, w.st.2.2.2.2.2, false) ((je v rs).fs, (je v rs).la, 0, false) rs (by omega) hrec (sg := (v.last : Int)) (by simp only []; exact kr v.s0 v.m (by omega)) v.most (ez v.s0 v.m) (((v.size + (ep rs).length : Nat)) : Int) k 0 w.st (by omega) (by omega) h.st (by omega)
  rw [List.drop_zero, show ((0 : Nat) : Int) = (0 : Int) from rfl] at hl1
  rw [show IntKind.i64.wrap ((v.size : Int) + ((ep rs).length : Int)) = ((v.size + (ep rs).length : Nat) : Int) by rw [w64 (by omega) (by omega)]; omega, hl1]
  unfold je
  rw [hst]
def dt (w : Wl) (b : BaT) : Wl := if dM w.st b = 0 then ig w b else w
theorem nY {T N Z L : Nat} {w : Wl} (h : WOk T N Z L w) (hT : T < 99999990) (hN : N < 256) {b : BaT} (hZ : Z + 200 + dP (fk w.st b) ≤ 16777216) (hL : L + (fk w.st b).length < 2 ^ 29) (hb : b.2.2.2.2.2.2.length < 2 ^ 28) (hd : ∀ e, e ∈ b.2.2.2.2.2.2 → e.2.2.2.length < 2 ^ 40) (hm : w.m < 2 ^ 30) {k : Nat} (hk : 30000 + b.2.2.2.2.2.2.length + (fk w.st b).length ≤ k) :
    ce.f k w.tp.1 w.tp.2.1 w.tp.2.2.1 w.tp.2.2.2.1 w.tp.2.2.2.2.1 w.tp.2.2.2.2.2.1 w.tp.2.2.2.2.2.2.1 w.tp.2.2.2.2.2.2.2.1 w.tp.2.2.2.2.2.2.2.2.1 w.tp.2.2.2.2.2.2.2.2.2.1 w.tp.2.2.2.2.2.2.2.2.2.2.1 w.tp.2.2.2.2.2.2.2.2.2.2.2.1 w.tp.2.2.2.2.2.2.2.2.2.2.2.2.1 w.tp.2.2.2.2.2.2.2.2.2.2.2.2.2 b.1 b.2.1 b.2.2.1 b.2.2.2.1 b.2.2.2.2.1 b.2.2.2.2.2.1 b.2.2.2.2.2.2 = some (dM w.st b, (dt w b).tp) := by
  have hlen := h.len
  have hck := sH w.fs w.la 0 false w.most (ez w.s0 w.m) (w.size : Int) h.st false (by omega) b (by omega) (k := k) (by omega)
  unfold ce.f dt
  rw [if_neg (show ¬ w.tp.2.2.2.2.2.2.2.2.2.2.2.2.2 = true from Bool.false_ne_true)]
  have hck' : bA.f k w.tp.1 w.tp.2.1 w.tp.2.2.1 w.tp.2.2.2.1 w.tp.2.2.2.2.1 w.tp.2.2.2.2.2.1 w.tp.2.2.2.2.2.2.1 w.tp.2.2.2.2.2.2.2.1 w.tp.2.2.2.2.2.2.2.2.1 w.tp.2.2.2.2.2.2.2.2.2.1 w.tp.2.2.2.2.2.2.2.2.2.2.1 w.tp.2.2.2.2.2.2.2.2.2.2.2.1 w.tp.2.2.2.2.2.2.2.2.2.2.2.2.1 w.tp.2.2.2.2.2.2.2.2.2.2.2.2.2 b.1 b.2.1 b.2.2.1 b.2.2.2.1 b.2.2.2.2.1 b.2.2.2.2.2.1 b.2.2.2.2.2.2 = some (dM w.st b) := hck
  rw [hck', Option.bind_some]
  by_cases hc : dM w.st b = 0
  · rw [if_pos hc, if_pos hc]
    unfold cB.f
    rw [qT h hT hN hc hZ hL hb hd hm hk, Option.bind_some, Option.bind_some, hc]
  · rw [if_neg hc, if_neg hc]
end Go.Proofs.YtndjkejhacfpdaaGreatDoor

namespace Go.Proofs.YtndjkejhacfpdaaGreatDoor
set_option linter.unusedVariables false
set_option linter.unusedSimpArgs false
open Go.RowKit
def st0 : St := (0, 0, 0, 0, 0, [])
def eQ (fs : FSt) (most : Int) : Wl := { fs := gY fs 1 (frB (eR (eK 1 st0))), la := bo 1, most := most, s0 := 1, m := 0, size := (frB (eR (eK 1 st0))).length, st := st0 }
theorem lD (fs : FSt) (h : ∀ x, x ∈ dS fs → jy x = 0) {n : Nat} (h1 : 1 ≤ n) (h2 : n ≤ 99999999) : aR fs (bo n) = none := by
  cases hv : aR fs (bo n) with
  | none => rfl
  | some v =>
    have h3 : bo n ∈ dS fs := (lR fs).mem_iff.2 ((lz fs _).2 (by rw [hv]; rfl))
    have := h _ h3
    rw [lr h2] at this
    omega
theorem pR {s : List (List UInt8)} (hs : ∀ x, x ∈ s → x.length ≤ 2 ^ 40 ∧ jy x = 0) (hl : s.length < 2 ^ 40) : ∀ (k i : Nat), s.length - i + 10 < k → i ≤ s.length → bC.l0 s k (i : Int) [] = some []
  | 0, i, h, _ => by omega
  | k + 1, i, h, hi => by
    rw [bC.l0]
    by_cases hlt : i < s.length
    · have hm : s.getD i [] ∈ s := by rw [gE hlt]; exact List.getElem_mem hlt
      have hx := hs _ hm
      rw [if_pos (by omega), if_pos (by omega), Int.toNat_natCast, tK hx.1 (by omega), Option.bind_some, hx.2]
      simp only [Nat.lt_irrefl, decide_false, Bool.false_eq_true, if_false]
      rw [ws1 (by omega)]
      exact pR hs hl k (i + 1) (by omega) (by omega)
    · rw [if_neg (by omega)]
theorem oh {fs : FSt} {N Z : Nat} (hi : fH 256 fs) (hl : fs.length ≤ N) (hN : N < 256) (hz : szF fs ≤ Z) (hZ : Z + 200 ≤ 16777216) (hk : ∀ x, x ∈ dS fs → jy x = 0) (most : Int) : WOk 1 (N + 1) (Z + 128) 0 (eQ fs most) := by
  obtain ⟨_, b2, b3, b4, b5⟩ := kO (la := []) (most := 0) (sg := []) (sz := 0) (k := 20000) hi (by omega) (by omega) (by simp) (s := st0) nO (by simp [st0]) (n := 1) (by omega) (by omega) (lD fs hk (by omega) (by omega)) (Nat.le_refl _)
  refine ⟨b2, by show (gY fs 1 _).length ≤ _; omega, by show szF (gY fs 1 _) ≤ _; omega, Nat.le_refl _, Nat.le_refl _, fun n h1 h2 => ?_, fun n h1 h2 => ?_, nO, Nat.le_refl _, by show (frB (eR (eK 1 st0))).length ≤ _; omega⟩
  · have : n = 1 := by simp only [eQ] at h1 h2; omega
    subst this
    show (aR (gY fs 1 _) (bo 1)).isSome = true
    rw [jR, if_pos rfl]; rfl
  · simp only [eQ] at h1
    show aR (gY fs 1 _) (bo n) = none
    rw [jR, if_neg (fun e => by have := iy h2 (by omega) e; omega), lD fs hk (by omega) h2]
theorem qP {fs : FSt} {N Z : Nat} (hi : fH 256 fs) (hl : fs.length ≤ N) (hN : N < 256) (hz : szF fs ≤ Z) (hZ : Z + 200 ≤ 16777216) (hk : ∀ x, x ∈ dS fs → jy x = 0) (hn : ∀ x, x ∈ dS fs → x.length ≤ 2 ^ 40) (la : List UInt8) {most : Int} (h1 : 64 ≤ most) (h2 : most ≤ 1048576) {k : Nat} (hkk : 30000 ≤ k) :
    bC.f k fs la 0 false most = some (true, (eQ fs most).tp.2.2.2.2.1, (eQ fs most).tp.2.2.2.2.2.1, (eQ fs most).tp.2.2.2.2.2.2.1, (eQ fs most).tp.2.2.2.2.2.2.2.1, (eQ fs most).tp.2.2.2.2.2.2.2.2.1, (eQ fs most).tp.2.2.2.2.2.2.2.2.2.1, (eQ fs most).tp.2.2.2.2.2.2.2.2.2.2.1, (eQ fs most).tp.2.2.2.2.2.2.2.2.2.2.2.1, (eQ fs most).tp.2.2.2.2.2.2.2.2.2.2.2.2.1, (eQ fs most).tp.2.2.2.2.2.2.2.2.2.2.2.2.2, false, 0, (eQ fs most).tp.1, (eQ fs most).tp.2.1, (eQ fs most).tp.2.2.1, (eQ fs most).tp.2.2.2.1) := by
  have hks := rj fs
  obtain ⟨b1, _⟩ := kO (la := la) (most := most) (sg := []) (sz := 0) (k := k) hi (by omega) (by omega) (by simp) (s := st0) nO (by simp [st0]) (n := 1) (by omega) (by omega) (lD fs hk (by omega) (by omega)) (by omega)
  have ol := pR (s := dS fs) (fun x hx => ⟨hn x hx, hk x hx⟩) (by omega) k 0 (by omega) (by omega)
  rw [show ((0 : Nat) : Int) = (0 : Int) from rfl] at ol
  unfold bC.f
  rw [if_neg (by simp; omega), sZ hi (by decide), Option.bind_some, ol, Option.bind_some]
  rw [if_pos (show ((([] : List Int).length : Nat) : Int) = 0 from rfl)]
  have b1' : de.f k fs la 0 false most ([] : List Int) (0 : Int) (0 : Int) (0 : Int) (0 : Int) (0 : Int) (0 : Int) ([] : List HeT) false (1 : Int) = _ := b1
  rw [b1', Option.bind_some]
  rfl
/-! ### What it tells -/
def lq (h : HeT) : EnT := (h.1, h.2.1, h.2.2.1, h.2.2.2.1)
theorem pS (l : List HeT) (hl : l.length < 2 ^ 30) (hd : ∀ e, e ∈ l → e.2.2.2.1.length < 2 ^ 40) : ∀ (k i : Nat) (acc : List EnT), l.length - i < k → i ≤ l.length → acc.length ≤ i → cm.l0 l k (i : Int) acc = some (acc ++ (l.drop i).map lq)
  | 0, i, acc, h, _, _ => by omega
  | k + 1, i, acc, h, hi, ha => by
    rw [cm.l0]
    by_cases hlt : i < l.length
    · have hm : l.getD i aB ∈ l := by rw [gE hlt]; exact List.getElem_mem _
      rw [if_pos (by omega), if_pos (by omega), Int.toNat_natCast, pa (hd _ hm), Option.bind_some, if_pos (by simp only [List.length_cons, List.length_nil]; omega), ws1 (by omega), pS l hl hd k (i + 1) _ (by omega) (by omega) (by simp; omega), gS l aB hlt]
      simp [lq]
    · rw [if_neg (by omega), List.drop_of_length_le (by omega)]; simp
theorem sf {s : St} (h : fS s) : ∀ e, e ∈ s.2.2.2.2.2 → e.2.2.2.1.length < 2 ^ 40 := fun e he => by
  have := (gi (h.chk e he)).2.2.2.1
  omega
theorem qQ {T N Z L : Nat} {w : Wl} (h : WOk T N Z L w) (hL : L < 2 ^ 30) {k : Nat} (hk : L < k) :
    dL.f k w.tp.1 w.tp.2.1 w.tp.2.2.1 w.tp.2.2.2.1 w.tp.2.2.2.2.1 w.tp.2.2.2.2.2.1 w.tp.2.2.2.2.2.2.1 w.tp.2.2.2.2.2.2.2.1 w.tp.2.2.2.2.2.2.2.2.1 w.tp.2.2.2.2.2.2.2.2.2.1 w.tp.2.2.2.2.2.2.2.2.2.2.1 w.tp.2.2.2.2.2.2.2.2.2.2.2.1 w.tp.2.2.2.2.2.2.2.2.2.2.2.2.1 w.tp.2.2.2.2.2.2.2.2.2.2.2.2.2 = some (w.st.1, w.st.2.1, w.st.2.2.1, w.st.2.2.2.1, w.st.2.2.2.2.1, w.st.2.2.2.2.2.map lq) := by
  have hl := h.len
  unfold dL.f cm.f
  have v := pS w.st.2.2.2.2.2 (by omega) (sf h.st) k 0 [] (by omega) (by omega) (by simp)
  rw [List.drop_zero, List.nil_append, show ((0 : Nat) : Int) = (0 : Int) from rfl] at v
  rw [show w.tp.2.2.2.2.2.2.2.2.2.2.2.2.1 = w.st.2.2.2.2.2 from rfl, v, Option.bind_some, Option.bind_some]
  rfl
theorem nl (x : List EnT) (hl : x.length < 2 ^ 40) {M : Nat} (hd : ∀ e, e ∈ x → e.2.2.2.length < M) (hM : M < 2 ^ 40) : ∀ (k i : Nat), x.length - i + M < k → i ≤ x.length → bM.l0 x x k (i : Int) = some (.inl ())
  | 0, i, h, _ => by omega
  | k + 1, i, h, hi => by
    rw [bM.l0]
    by_cases hlt : i < x.length
    · have hm : x.getD i aL ∈ x := by rw [gE hlt]; exact List.getElem_mem _
      have hx := hd _ hm
      rw [if_pos (by omega), if_pos (by omega), if_pos (by omega), Int.toNat_natCast]
      unfold dY.f
      rw [oW (by omega) (by omega), Option.bind_some, Option.bind_some, ws1 (by omega)]
      simp only [decide_true, Bool.and_self, Bool.not_true, Bool.false_eq_true, if_false]
      exact nl x hl hd hM k (i + 1) (by omega) (by omega)
    · rw [if_neg (by omega)]
theorem rC (x : List EnT) (hl : x.length < 2 ^ 40) {M : Nat} (hd : ∀ e, e ∈ x → e.2.2.2.length < M) (hM : M < 2 ^ 40) {k : Nat} (hk : x.length + M < k) : bM.f k x x = some true := by
  have h := nl x hl hd hM k 0 (by omega) (by omega)
  rw [show ((0 : Nat) : Int) = (0 : Int) from rfl] at h
  unfold bM.f
  rw [if_pos rfl, h]
  rfl
/-! ### What a batch adds to -/
def fl (l : List EnT) : Nat := (l.map fun e => e.2.2.2.length).sum
theorem iS (e : EnT) (l : List EnT) : fl (e :: l) = e.2.2.2.length + fl l := by simp [fl]
theorem np : ∀ l : List EnT, dP (l.map dd) = fl l + 128 * l.length
  | [] => by simp [dP, fl]
  | e :: l => by
    have ih := np l
    have : (dd e).2.2.2.2.2.2.2.2.2.2 = e.2.2.2 := rfl
    simp only [dP, List.map_cons, List.sum_cons, this] at ih ⊢
    rw [iS, List.length_cons]
    omega
theorem kD (a b : List dF) : dP (a ++ b) = dP a + dP b := by simp [dP]
theorem nX (s : St) (b : BaT) : dP (fk s b) ≤ fl b.2.2.2.2.2.2 + 128 * b.2.2.2.2.2.2.length + 384 ∧ (fk s b).length ≤ b.2.2.2.2.2.2.length + 3 := by
  unfold fk
  constructor
  · rw [kD, kD, kD, np]
    have h1 : dP (if b.1 = true ∧ (b.2.1 ≠ s.1 ∨ b.2.2.1 ≠ s.2.1) then [(1, 0, b.2.1, b.2.2.1, s.2.2.1, 0, 0, 0, 0, 0, [])] else []) ≤ 128 := by split <;> simp [dP]
    have h2 : dP (if fT s b = true then [(3, 0, 0, 0, 0, b.2.2.2.2.1, b.2.2.2.2.2.1, 0, 0, 0, [])] else []) ≤ 128 := by split <;> simp [dP]
    have h3 : dP (if b.1 = true ∧ b.2.2.2.1 ≠ s.2.2.1 then [(1, 0, b.2.1, b.2.2.1, b.2.2.2.1, 0, 0, 0, 0, 0, [])] else []) ≤ 128 := by split <;> simp [dP]
    omega
  · simp only [List.length_append, List.length_map]
    have h1 : (if b.1 = true ∧ (b.2.1 ≠ s.1 ∨ b.2.2.1 ≠ s.2.1) then [((1, 0, b.2.1, b.2.2.1, s.2.2.1, 0, 0, 0, 0, 0, []) : dF)] else []).length ≤ 1 := by split <;> simp
    have h2 : (if fT s b = true then [((3, 0, 0, 0, 0, b.2.2.2.2.1, b.2.2.2.2.2.1, 0, 0, 0, []) : dF)] else []).length ≤ 1 := by split <;> simp
    have h3 : (if b.1 = true ∧ b.2.2.2.1 ≠ s.2.2.1 then [((1, 0, b.2.1, b.2.2.1, b.2.2.2.1, 0, 0, 0, 0, 0, []) : dF)] else []).length ≤ 1 := by split <;> simp
    omega
theorem jf {T N Z L T' N' Z' L' : Nat} {w : Wl} (h : WOk T N Z L w) (h1 : T ≤ T') (h2 : N ≤ N') (h3 : Z ≤ Z') (h4 : L ≤ L') : WOk T' N' Z' L' w :=
  ⟨h.inv, Nat.le_trans h.num h2, Nat.le_trans h.siz h3, h.s1, Nat.le_trans h.top h1, h.has, h.non, h.st, Nat.le_trans h.len h4, Nat.le_trans h.sz h3⟩
theorem qO {T N Z L : Nat} {w : Wl} (h : WOk T N Z L w) (hT : T < 99999990) (hN : N < 256) {b : BaT} (hZ : Z + 600 + fl b.2.2.2.2.2.2 + 128 * b.2.2.2.2.2.2.length ≤ 16777216) (hL : L < 2 ^ 30) : WOk (T + 1) (N + 1) (Z + 512 + fl b.2.2.2.2.2.2 + 128 * b.2.2.2.2.2.2.length) (L + b.2.2.2.2.2.2.length + 3) (dt w b) := by
  have hr := nX w.st b
  unfold dt
  split
  · rename_i hc
    have h1 := pB h (by omega) hN (by omega) hL
    have hrec := pC h.st hc
    unfold ig
    rw [kK]
    exact jf (tA h1 (by omega) hrec (by omega)) (Nat.le_refl _) (Nat.le_refl _) (by omega) (by omega)
  · exact jf h (by omega) (by omega) (by omega) (by omega)
end Go.Proofs.YtndjkejhacfpdaaGreatDoor

namespace Go.Proofs.YtndjkejhacfpdaaGreatDoor
set_option linter.unusedVariables false
set_option linter.unusedSimpArgs false
open Go.RowKit
theorem qL (m : Nat) : eh.f (m + 100) = some true := by kernel_rfl
def bat (l : List EnT) : BaT := (false, 0, 0, 0, 0, 0, l)
theorem tx (l : List EnT) : ¬ iK (bat l) := by unfold iK bat; simp
theorem nU (s : St) (l : List EnT) : fT s (bat l) = false := by unfold fT bat; simp
theorem nV (s : St) (l : List EnT) : fk s (bat l) = l.map dd := by
  unfold fk
  rw [nU]
  simp [bat]
theorem mK (s : St) (l : List EnT) : dM s (bat l) = if cF l ≠ 0 then cF l else iJ (dB s).1 l := by
  unfold dM
  rw [if_neg (fun x => Bool.false_ne_true x.1), if_neg (tx l), nU]
  rfl
def fU (s : St) : Int × Int × Int × Int × Int × List EnT := (s.1, s.2.1, s.2.2.1, s.2.2.2.1, s.2.2.2.2.1, s.2.2.2.2.2.map lq)
theorem mL {s u : St} (h : fU s = fU u) (e : EnT) (a b : Int) : fU (dZ s (dd e) a) = fU (dZ u (dd e) b) := by
  unfold fU at h
  simp only [Prod.mk.injEq] at h
  obtain ⟨h1, h2, h3, h4, h5, h6⟩ := h
  have hlen : s.2.2.2.2.2.length = u.2.2.2.2.2.length := by have := congrArg List.length h6; simpa using this
  unfold dZ
  rw [if_neg (show ¬ (dd e).1 = 1 by simp [dd]), if_neg (show ¬ (dd e).1 = 1 by simp [dd]), if_pos (show (dd e).1 = 2 from rfl), if_pos (show (dd e).1 = 2 from rfl), h4, hlen]
  split
  · unfold fU; simp [h1, h2, h3, h4, h5, h6]
  split
  · unfold fU; simp [h1, h2, h3, lq]
  · unfold fU; simp only [List.map_append, List.map_take, h1, h2, h3, h4, h5, h6, List.map_cons, List.map_nil, lq]
theorem mM {a b : Int} : ∀ (l : List EnT) {s u : St}, fU s = fU u → fU (gm s (l.map dd) a) = fU (gm u (l.map dd) b)
  | [], s, u, h => h
  | e :: l, s, u, h => mM l (mL h e a b)
theorem qM {s : St} (h : fS s) {e : EnT} (hc : fG e.1 e.2.1 e.2.2.1 e.2.2.2 = 0) (hb : s.2.2.2.1 < e.2.1) (hg : ¬ (dB s).1 + 1 < e.2.1) (sg : Int) : (dB (dZ s (dd e) sg)).1 = e.2.1 ∧ (dZ s (dd e) sg).2.2.2.1 = s.2.2.2.1 := by
  have hl := jq h
  have hok : OkR (dd e) := ⟨⟨by simp [dd], by simp [dd]⟩, fo, fo, fo, fo, fo, fo, fun _ => hc⟩
  have h2 := jq (ko h hok (by simp [dd]) sg)
  have e1 : dZ s (dd e) sg = (s.1, s.2.1, s.2.2.1, s.2.2.2.1, s.2.2.2.2.1, s.2.2.2.2.2.take (e.2.1 - s.2.2.2.1 - 1).toNat ++ [(e.1, e.2.1, e.2.2.1, e.2.2.2, sg)]) := by
    unfold dZ
    rw [if_neg (show ¬ (dd e).1 = 1 by simp [dd]), if_pos (show (dd e).1 = 2 from rfl), if_neg (show ¬ s.2.2.2.1 + (s.2.2.2.2.2.length : Int) + 1 < (dd e).2.2.2.2.2.2.2.2.1 from by rw [show (dd e).2.2.2.2.2.2.2.2.1 = e.2.1 from rfl]; omega), if_neg (show ¬ (dd e).2.2.2.2.2.2.2.2.1 ≤ s.2.2.2.1 from by rw [show (dd e).2.2.2.2.2.2.2.2.1 = e.2.1 from rfl]; omega)]
    rfl
  rw [h2, e1]
  simp only [List.length_append, List.length_take, List.length_cons, List.length_nil]
  exact ⟨by omega, trivial⟩
def gM : Int → List EnT → Int
  | _, [] => 0
  | a, e :: l => if fG e.1 e.2.1 e.2.2.1 e.2.2.2 ≠ 0 then fG e.1 e.2.1 e.2.2.1 e.2.2.2 else if a + 1 < e.2.1 then 13 else gM e.2.1 l
theorem mq : ∀ (l : List EnT) (a : Int), cF l = 0 → gM a l = iJ a l
  | [], a, _ => rfl
  | e :: l, a, h => by
    rw [cF] at h
    split at h
    · rename_i hc
      rw [gM, iJ, if_neg (fun x => x hc), mq l _ h]
    · rename_i hc; exact absurd h hc
theorem nW : ∀ (l : List EnT) (a : Int), cF l ≠ 0 → gM a l = 13 ∨ gM a l = cF l
  | [], a, h => absurd rfl h
  | e :: l, a, h => by
    rw [gM, cF]
    rw [cF] at h
    by_cases hc : fG e.1 e.2.1 e.2.2.1 e.2.2.2 = 0
    · rw [if_pos hc] at h ⊢
      rw [if_neg (fun x => x hc)]
      split
      · exact .inl rfl
      · exact nW l _ h
    · rw [if_neg hc, if_pos hc]
      exact .inr rfl
theorem tz (w : Wl) (e : EnT) (hc : dM w.st (bat [e]) = 0) : (dt w (bat [e])).st = dZ w.st (dd e) ((gF w).last : Int) := by
  unfold dt
  rw [if_pos hc]
  unfold ig je
  rw [kK, nV]
  rfl
theorem qN (s : St) (e : EnT) : dM s (bat [e]) = if fG e.1 e.2.1 e.2.2.1 e.2.2.2 ≠ 0 then fG e.1 e.2.1 e.2.2.1 e.2.2.2 else if (dB s).1 + 1 < e.2.1 then 13 else 0 := by
  rw [mK]
  simp only [cF, iJ]
  by_cases hc : fG e.1 e.2.1 e.2.2.1 e.2.2.2 = 0 <;> simp [hc]
theorem mN (l : List EnT) (hl : l.length ≤ 200) (hd : ∀ e, e ∈ l → e.2.2.2.length < 2 ^ 40) : ∀ (k i T N Z L : Nat) (w : Wl) (u : St), l.length - i + 40000 < k → i ≤ l.length → WOk T N Z L w → w.st.2.2.2.1 = 0 → fU w.st = fU u →
    T + (l.length - i) < 90000000 → N + (l.length - i) < 256 → Z + 640 * (l.length - i) + fl (l.drop i) + 700 ≤ 16777216 → L + 4 * (l.length - i) < 2 ^ 28 →
    ∃ v : Wl, bj.l1 l k 0 (i : Int) w.tp.2.2.2.2.1 w.tp.2.2.2.2.2.1 w.tp.2.2.2.2.2.2.1 w.tp.2.2.2.2.2.2.2.1 w.tp.2.2.2.2.2.2.2.2.1 w.tp.2.2.2.2.2.2.2.2.2.1 w.tp.2.2.2.2.2.2.2.2.2.2.1 w.tp.2.2.2.2.2.2.2.2.2.2.2.1 w.tp.2.2.2.2.2.2.2.2.2.2.2.2.1 w.tp.2.2.2.2.2.2.2.2.2.2.2.2.2 w.tp.1 w.tp.2.1 w.tp.2.2.1 w.tp.2.2.2.1 =
        some (gM (dB w.st).1 (l.drop i), v.tp.2.2.2.2.1, v.tp.2.2.2.2.2.1, v.tp.2.2.2.2.2.2.1, v.tp.2.2.2.2.2.2.2.1, v.tp.2.2.2.2.2.2.2.2.1, v.tp.2.2.2.2.2.2.2.2.2.1, v.tp.2.2.2.2.2.2.2.2.2.2.1, v.tp.2.2.2.2.2.2.2.2.2.2.2.1, v.tp.2.2.2.2.2.2.2.2.2.2.2.2.1, v.tp.2.2.2.2.2.2.2.2.2.2.2.2.2, v.tp.1, v.tp.2.1, v.tp.2.2.1, v.tp.2.2.2.1) ∧
      WOk 100000000 256 16777216 (2 ^ 29) v ∧ (gM (dB w.st).1 (l.drop i) = 0 → fU v.st = fU (gm u ((l.drop i).map dd) 1))
  | 0, i, T, N, Z, L, w, u, h, _, _, _, _, _, _, _, _ => by omega
  | k + 1, i, T, N, Z, L, w, u, hk, hi, hw, hb, hs, hT, hN, hZ, hL => by
    rw [bj.l1]
    by_cases hlt : i < l.length
    · have hm : l.getD i aL ∈ l := by rw [gE hlt]; exact List.getElem_mem _
      have hdr := gS l aL hlt
      have hbd : fl (l.drop i) = (l.getD i aL).2.2.2.length + fl (l.drop (i + 1)) := by rw [hdr, iS]
      have hde := hd _ hm
      obtain ⟨e, ee⟩ : ∃ e, l.getD i aL = e := ⟨_, rfl⟩
      rw [ee] at hbd hde hdr
      have hz := nX w.st (bat [e])
      have hbe : fl (bat [e]).2.2.2.2.2.2 = e.2.2.2.length := by simp [bat, fl]
      have hle : (bat [e]).2.2.2.2.2.2.length = 1 := rfl
      have hln : l.length - i = (l.length - (i + 1)) + 1 := by omega
      have hwm : w.m < 2 ^ 30 := by have := hw.top; omega
      have ha := nY hw (by omega) (by omega) (b := bat [e]) (by omega) (by omega) (by omega) (fun x hx => by
        have : x = e := by simpa [bat] using hx
        rw [this]; exact hde) hwm (k := k) (by omega)
      have hao := qO hw (by omega) (by omega) (b := bat [e]) (by omega) (by omega)
      rw [if_pos (by simp; omega), if_pos (by omega), ws1 (by omega)]
      simp only [Int.toNat_natCast, ee]
      have ha' : ce.f k w.tp.1 w.tp.2.1 w.tp.2.2.1 w.tp.2.2.2.1 w.tp.2.2.2.2.1 w.tp.2.2.2.2.2.1 w.tp.2.2.2.2.2.2.1 w.tp.2.2.2.2.2.2.2.1 w.tp.2.2.2.2.2.2.2.2.1 w.tp.2.2.2.2.2.2.2.2.2.1 w.tp.2.2.2.2.2.2.2.2.2.2.1 w.tp.2.2.2.2.2.2.2.2.2.2.2.1 w.tp.2.2.2.2.2.2.2.2.2.2.2.2.1 w.tp.2.2.2.2.2.2.2.2.2.2.2.2.2 false (0 : Int) (0 : Int) (0 : Int) (0 : Int) (0 : Int) ([(e.1, e.2.1, e.2.2.1, e.2.2.2)] : List EnT) = some (dM w.st (bat [e]), (dt w (bat [e])).tp) := ha
      rw [ha', Option.bind_some, show cl.f (dM w.st (bat [e])) = some (dM w.st (bat [e])) from rfl, Option.bind_some, hdr]
      have hone := qN w.st e
      by_cases hc : dM w.st (bat [e]) = 0
      · have hce : fG e.1 e.2.1 e.2.2.1 e.2.2.2 = 0 := by
          rw [hone] at hc
          split at hc
          · rename_i x; exact absurd hc x
          · rename_i x; exact Decidable.not_not.1 x
        have hg : ¬ (dB w.st).1 + 1 < e.2.1 := by
          rw [hone, if_neg (fun x => x hce)] at hc
          intro x
          rw [if_pos x] at hc
          omega
        have hx1 := (gi hce).2.1.1
        have hst := tz w e hc
        obtain ⟨hl1, hl2⟩ := qM hw.st hce (by omega) hg ((gF w).last : Int)
        have ih := mN l hl hd k (i + 1) (T + 1) (N + 1) (Z + 640 + e.2.2.2.length) (L + 4) (dt w (bat [e])) (dZ u (dd e) 1) (by omega) (by omega) (jf hao (Nat.le_refl _) (Nat.le_refl _) (by omega) (by omega)) (by rw [hst, hl2, hb]) (by rw [hst]; exact mL hs e _ _) (by omega) (by omega) (by omega) (by omega)
        rw [hst, hl1] at ih
        rw [hc, gM, if_neg (fun x => x hce), if_neg hg]
        exact ih
      · have hov : gM (dB w.st).1 (e :: l.drop (i + 1)) = dM w.st (bat [e]) := by
          rw [gM, hone]
          split
          · rfl
          · rename_i x
            split
            · rfl
            · rename_i y
              exfalso
              apply hc
              rw [hone, if_neg x, if_neg y]
        rw [hov]
        have hend : ∀ (c : Int), c ≠ 0 → ∀ (kk : Nat), 1 ≤ kk → bj.l1 l kk c ((i + 1 : Nat) : Int) (dt w (bat [e])).tp.2.2.2.2.1 (dt w (bat [e])).tp.2.2.2.2.2.1 (dt w (bat [e])).tp.2.2.2.2.2.2.1 (dt w (bat [e])).tp.2.2.2.2.2.2.2.1 (dt w (bat [e])).tp.2.2.2.2.2.2.2.2.1 (dt w (bat [e])).tp.2.2.2.2.2.2.2.2.2.1 (dt w (bat [e])).tp.2.2.2.2.2.2.2.2.2.2.1 (dt w (bat [e])).tp.2.2.2.2.2.2.2.2.2.2.2.1 (dt w (bat [e])).tp.2.2.2.2.2.2.2.2.2.2.2.2.1 (dt w (bat [e])).tp.2.2.2.2.2.2.2.2.2.2.2.2.2 (dt w (bat [e])).tp.1 (dt w (bat [e])).tp.2.1 (dt w (bat [e])).tp.2.2.1 (dt w (bat [e])).tp.2.2.2.1 = some (c, (dt w (bat [e])).tp.2.2.2.2.1, (dt w (bat [e])).tp.2.2.2.2.2.1, (dt w (bat [e])).tp.2.2.2.2.2.2.1, (dt w (bat [e])).tp.2.2.2.2.2.2.2.1, (dt w (bat [e])).tp.2.2.2.2.2.2.2.2.1, (dt w (bat [e])).tp.2.2.2.2.2.2.2.2.2.1, (dt w (bat [e])).tp.2.2.2.2.2.2.2.2.2.2.1, (dt w (bat [e])).tp.2.2.2.2.2.2.2.2.2.2.2.1, (dt w (bat [e])).tp.2.2.2.2.2.2.2.2.2.2.2.2.1, (dt w (bat [e])).tp.2.2.2.2.2.2.2.2.2.2.2.2.2, (dt w (bat [e])).tp.1, (dt w (bat [e])).tp.2.1, (dt w (bat [e])).tp.2.2.1, (dt w (bat [e])).tp.2.2.2.1) := fun c hcc kk hkk => by
          obtain ⟨q, rfl⟩ : ∃ q, kk = q + 1 := ⟨kk - 1, by omega⟩
          rw [bj.l1, if_neg (by simp [hcc])]
        exact ⟨dt w (bat [e]), hend _ hc k (by omega), jf hao (by omega) (by omega) (by omega) (by omega), fun x => absurd x hc⟩
    · rw [if_neg (by simp; omega), List.drop_of_length_le (by omega)]
      exact ⟨w, rfl, jf hw (by omega) (by omega) (by omega) (by omega), fun _ => hs⟩
theorem mO (x : List EnT) (hx : x.length < 2 ^ 40) : ∀ (k i : Nat) (z : Int), 200 - i < k → i ≤ 200 → ∃ r, bj.l0 x k z (i : Int) = some r
  | 0, i, z, h, _ => by omega
  | k + 1, i, z, h, hi => by
    rw [bj.l0]
    by_cases hc : i < x.length ∧ i < 200
    · rw [if_pos (by simp; omega), if_pos (by omega), ws1 (by omega)]
      exact mO x hx k (i + 1) _ (by omega) (by omega)
    · rw [if_neg (by simp; omega)]
      exact ⟨_, rfl⟩
theorem nZ : ∀ l : List EnT, fl l + l.length ≤ Mu.mu l
  | [] => by simp [fl, jC]
  | e :: l => by
    have ih := nZ l
    obtain ⟨a, b, c, d⟩ := e
    rw [iS, sI, kL, kL, kL, oc, oc, oc, od, List.length_cons]
    simp only
    omega
theorem oe {e : EnT} : ∀ {l : List EnT}, e ∈ l → e.2.2.2.length ≤ fl l
  | [], h => by cases h
  | x :: l, h => by
    rw [iS]
    rcases List.mem_cons.1 h with rfl | h
    · omega
    · have := oe h; omega
theorem kM : fH 256 ([] : FSt) := uv 256
theorem jM : ∀ x, x ∈ dS ([] : FSt) → jy x = 0 := fun x hx => by simp [dS] at hx
theorem mP : ∀ x, x ∈ dS ([] : FSt) → x.length ≤ 2 ^ 40 := fun x hx => by simp [dS] at hx
theorem mr {Q : EnT → Prop} {B : Nat} (x : Int) (hx : (Lit.int .i64 x).wf = true) (y : Int) (hy : (Lit.int .i64 y).wf = true) (l : List EnT) (h : l.length * B ≤ reachBytes ∧ ∀ e ∈ l, Q e) (hu : Mu.mu l ≤ 1048576) :
    ∃ k, bj.f k x y l = some true := by
  have hbu := nZ l
  obtain ⟨k, hk0⟩ : ∃ k, k = 600000000 + 100 := ⟨_, rfl⟩
  have hf : eh.f k = some true := by rw [hk0]; exact qL 600000000
  refine ⟨k, ?_⟩
  have hkl : 600000000 ≤ k := by omega
  clear hk0
  obtain ⟨r, hr⟩ := mO l (by omega) k 0 0 (by omega) (by omega)
  rw [show ((0 : Nat) : Int) = (0 : Int) from rfl] at hr
  unfold bj.f
  rw [hf, Option.bind_some, hr, Option.bind_some]
  by_cases hg : (((((((!true) || (decide ((200 : Int) < (l.length : Int)))) || (decide ((20000 : Int) < r))) || (decide (x < (64 : Int)))) || (decide ((1048576 : Int) < x))) || (decide (y < (64 : Int)))) || (decide ((1048576 : Int) < y))) = true
  · rw [if_pos hg]
  · rw [if_neg hg]
    simp only [Bool.not_true, Bool.false_or, Bool.or_eq_true, decide_eq_true_eq] at hg
    have hl200 : l.length ≤ 200 := by omega
    have hd : ∀ e, e ∈ l → e.2.2.2.length < 2 ^ 40 := fun e he => by have := oe he; omega
    have oa := qP (fs := []) (N := 0) (Z := 0) kM (by simp) (by omega) (by simp [szF]) (by omega) jM mP [] (most := x) (by omega) (by omega) (k := k) (by omega)
    have ob := qP (fs := []) (N := 0) (Z := 0) kM (by simp) (by omega) (by simp [szF]) (by omega) jM mP [] (most := y) (by omega) (by omega) (k := k) (by omega)
    have wa := oh (fs := []) (N := 0) (Z := 0) kM (by simp) (by omega) (by simp [szF]) (by omega) jM x
    have wb := oh (fs := []) (N := 0) (Z := 0) kM (by simp) (by omega) (by simp [szF]) (by omega) jM y
    rw [show eL.f = some (([] : FSt), ([] : List UInt8), (0 : Int), false) from rfl]
    simp only [Option.bind_some]
    rw [oa]
    simp only [Option.bind_some, if_true]
    rw [ob]
    simp only [Option.bind_some, if_true]
    obtain ⟨a, ea⟩ : ∃ a, eQ [] x = a := ⟨_, rfl⟩
    obtain ⟨b, eb⟩ : ∃ b, eQ [] y = b := ⟨_, rfl⟩
    have sa : a.st = st0 := by rw [← ea]; rfl
    have sb : b.st = st0 := by rw [← eb]; rfl
    have ma : a.m = 0 := by rw [← ea]; rfl
    rw [ea] at wa ⊢
    rw [eb] at wb ⊢
    have hz := nX a.st (bat l)
    have hbe : fl (bat l).2.2.2.2.2.2 = fl l := rfl
    have hle : (bat l).2.2.2.2.2.2.length = l.length := rfl
    have ha := nY wa (by omega) (by omega) (b := bat l) (by omega) (by omega) (by omega) hd (by omega) (k := k) (by omega)
    have hao := qO wa (by omega) (by omega) (b := bat l) (by omega) (by omega)
    have ha' : ce.f k a.tp.1 a.tp.2.1 a.tp.2.2.1 a.tp.2.2.2.1 a.tp.2.2.2.2.1 a.tp.2.2.2.2.2.1 a.tp.2.2.2.2.2.2.1 a.tp.2.2.2.2.2.2.2.1 a.tp.2.2.2.2.2.2.2.2.1 a.tp.2.2.2.2.2.2.2.2.2.1 a.tp.2.2.2.2.2.2.2.2.2.2.1 a.tp.2.2.2.2.2.2.2.2.2.2.2.1 a.tp.2.2.2.2.2.2.2.2.2.2.2.2.1 a.tp.2.2.2.2.2.2.2.2.2.2.2.2.2 false (0 : Int) (0 : Int) (0 : Int) (0 : Int) (0 : Int) l = some (dM a.st (bat l), (dt a (bat l)).tp) := ha
    rw [ha', Option.bind_some]
    obtain ⟨v, hv, wv, hvs⟩ := mN l hl200 hd k 0 1 (0 + 1) (0 + 128) 0 b st0 (by omega) (by omega) wb (by rw [sb]; rfl) (by rw [sb]) (by omega) (by omega) (by rw [List.drop_zero]; omega) (by omega)
    rw [List.drop_zero, show ((0 : Nat) : Int) = (0 : Int) from rfl] at hv
    rw [List.drop_zero] at hvs
    rw [hv, Option.bind_some]
    have hlast : (dB b.st).1 = 0 := by rw [sb]; rfl
    have hnum : ∀ x, cl.f x = some x := fun _ => rfl
    rw [hlast] at hvs ⊢
    simp only [hnum, Option.bind_some]
    have hck := mK a.st l
    have hla : (dB a.st).1 = 0 := by rw [sa]; rfl
    rw [hla] at hck
    by_cases he : dM a.st (bat l) = 0
    · rw [if_pos he]
      have hfb : cF l = 0 := by
        rw [hck] at he
        split at he
        · rename_i z; exact absurd he z
        · rename_i z; exact Decidable.not_not.1 z
      have hgp : iJ 0 l = 0 := by
        rw [hck, if_neg (fun z => z hfb)] at he
        exact he
      have h1 : gM 0 l = 0 := by rw [mq l 0 hfb, hgp]
      have hvst := hvs h1
      have hast : (dt a (bat l)).st = gm st0 (l.map dd) ((gF a).last : Int) := by
        unfold dt
        rw [if_pos he]
        unfold ig je
        rw [kK, nV, sa]
      have hss : fU (dt a (bat l)).st = fU v.st := by
        rw [hvst, hast]
        exact mM l rfl
      have hlen1 := hao.len
      rw [qQ hao (by omega) (by omega), Option.bind_some, qQ wv (by omega) (by omega), Option.bind_some]
      unfold fU at hss
      simp only [Prod.mk.injEq] at hss
      obtain ⟨s1, s2, s3, s4, s5, s6⟩ := hss
      rw [s1, s2, s3, s4, s5, s6, h1]
      have hlen2 := wv.len
      rw [rC (v.st.2.2.2.2.2.map lq) (by simp; omega) (M := 5000) (fun e hm => by
        obtain ⟨q, hq, rfl⟩ := List.mem_map.1 hm
        have := (gi (wv.st.chk q hq)).2.2.2.1
        show q.2.2.2.1.length < 5000
        omega) (by omega) (by
          have e6 := congrArg List.length s6
          simp only [List.length_map] at e6 ⊢
          omega), Option.bind_some]
      simp
    · rw [if_neg he]
      have : gM 0 l = 13 ∨ gM 0 l = dM a.st (bat l) := by
        rw [hck]
        by_cases hfb : cF l = 0
        · rw [if_neg (fun z => z hfb), mq l 0 hfb]
          exact .inr rfl
        · rw [if_pos hfb]
          exact nW l 0 hfb
      rcases this with h1 | h1
      · rw [if_pos h1]; rfl
      · by_cases h13 : gM 0 l = 13
        · rw [if_pos h13]; rfl
        · rw [if_neg h13, h1]
          simp
end Go.Proofs.YtndjkejhacfpdaaGreatDoor

namespace Go.Proofs.YtndjkejhacfpdaaGreatDoor
set_option linter.unusedVariables false
set_option linter.unusedSimpArgs false
open Go.RowKit Go.ChangeShapes Go.WideShapes Go.ChangeAt
def qd (P : Program) (w : World) (n : String) (d : DataW Unit) : Prop :=
  ∃ g t cs fuel p, P.globalNamed n = some g ∧ (P.globals[g]?).map (·.type) = some t ∧ w.var? P n = some cs ∧ DataW.trod (fun _ => ()) P w 0 (fun _ => true) false fuel t cs.toList = some (d, p)
theorem ov {P : Program} {w : World} : ∀ {l : List (String × DataW Unit)} {ps : List MemPlace}, DataW.LaidVars P w l ps → ∀ n d, (n, d) ∈ l → qd P w n d
  | [], _, _, _, _, hm => by cases hm
  | (n', d') :: r, ps, h, n, d, hm => by
    obtain ⟨g, t, cs, fuel, p, q, h1, h2, h3, h4, h5, _⟩ := h
    rcases List.mem_cons.1 hm with e | e
    · cases e
      exact ⟨g, t, cs, fuel, p, h1, h2, h3, h4⟩
    · exact ov h5 n d e
theorem qe {P : Program} {w : World} {l : List (String × DataW Unit)} (h : laidMet P l w) {n : String} {d : DataW Unit} (hm : (n, d) ∈ l) : qd P w n d :=
  let ⟨_, hv, _⟩ := h
  ov hv n d hm
theorem tB {P : Program} {W : World} {name : String} {k : IntKind} {zs : List Int} {g : Nat} {t e : TypeId} {n : Nat} (hg : P.globalNamed name = some g) (hty : (P.globals[g]?).map (·.type) = some t)
    (ht : P.underlying t = some (.array n e)) (he : P.underlying e = some (.int k)) (hce : P.cellsOf e = 1) (hct : P.cellsOf t = n) (h : qd P W name (Lib.tabData k zs)) : Lib.TabIs P W name k zs := by
  obtain ⟨g', t', cs, fuel, p, hg', ht', hvar, hd⟩ := h
  obtain rfl := Option.some.inj (hg.symm.trans hg')
  obtain rfl := Option.some.inj (hty.symm.trans ht')
  unfold Lib.TabIs
  rw [hvar, ← Lib.cells_of_tab ht he hce hct hd]
theorem lw {P : Program} {W w : World} {n : String} {cs : Array Value} (h : iC (gL W) w) (hv : W.var? P n = some cs) : w.var? P n = some cs := by
  obtain ⟨a, ha, e⟩ := h
  unfold World.var? at hv ⊢
  cases hg : P.globalNamed n with
  | none => rw [hg] at hv; cases hv
  | some g =>
    rw [hg] at hv
    simp only [Option.bind_some] at hv ⊢
    cases ho : W.heap[g]? with
    | none => rw [ho] at hv; cases hv
    | some o =>
      have hlt : g < W.heap.size := (Array.getElem?_eq_some_iff.1 ho).1
      have h1 : w.heap[g]? = some o := e g o ((ha g hlt).trans ho)
      rw [ho] at hv
      rw [h1]
      exact hv
theorem tC {P : Program} {W : World} (h1 : Lib.TabIs P W "internal/strconv.uint64pow10" .u64 Lib.pow10Tab) (h2 : (P.globalNamed "strconv.ErrSyntax").isSome = true → ∃ u p, W.var? P "strconv.ErrSyntax" = some #[.iface u p]) (h3 : (P.globalNamed "strconv.ErrRange").isSome = true → ∃ u p, W.var? P "strconv.ErrRange" = some #[.iface u p]) :
    Glb P (gL W) :=
  ⟨fun w h => lw h h1, fun e w h => let ⟨u, p, e⟩ := h2 e; ⟨u, p, lw h e⟩, fun e w h => let ⟨u, p, e⟩ := h3 e; ⟨u, p, lw h e⟩⟩
theorem ow {H : Type} {enc : TypeId × Value → H} {C : Checked} {os : Os} {f : FuncId} {fn : Func} {s : OpenSpec} {conds : List PathCond} {qf : Bool} {laid : List (String × DataW Unit)} (w0 : World) (args : Array Value) (hos : w0.os = os)
    (hsh : (w0.forCall (fun _ _ => 0) ⟨#[], args, []⟩).Shaped C.prog)
    (hok : Input.okWideB C.prog (w0.forCall (fun _ _ => 0) ⟨#[], args, []⟩) f ⟨#[], args, []⟩ = true)
    (hrow : s.preRow enc C.prog fn conds qf laid (w0.forCall (fun _ _ => 0) ⟨#[], args, []⟩).memory args) :
    ∃ (w : World) (tape : Tape) (i : Input), w.os = os ∧ (w.forCall tape i).Shaped C.prog ∧ i.vars = [] ∧ Input.okWide C.prog (w.forCall tape i) .any w.heap.size f i ∧
      s.preRow enc C.prog fn conds qf laid (w.forCall tape i).memory i.args ∧ ({} : Assume).holds C.prog (lone (Frame.enter C.prog f i.args .normal) [] (w.forCall tape i)) :=
  ⟨w0, fun _ _ => 0, ⟨#[], args, []⟩, hos, hsh, (Input.okWide_of_okWideB (base := 0) hok).1, (Input.okWide_of_okWideB hok).2, hrow, by
    simp only [Assume.holds]
    exact ⟨by simp, by simp, fun _ => Modest.zero, by simp, by simp⟩⟩
end Go.Proofs.YtndjkejhacfpdaaGreatDoor

namespace Go.Proofs.YtndjkejhacfpdaaGreatDoor.walSplits
open Go.RowKit Go.ChangeShapes Go.WideShapes Go.ChangeAt
open Go.ChangeMaps (open_string shut_string)
set_option linter.unusedVariables false
theorem own : ownKnob Tryz.prog.godebug = none := by kernel_rfl
theorem laidOut : laidOutB Tryz.prog = true := by kernel_rfl
theorem glb {W : World} (hL : laidMetH Tryz.prog Rows.walSplitsUptoRow.laid W) : Glb Tryz.prog (gL W) := by
  rw [MakeChecks.laidMetH_plain _ _ _ (by kernel_rfl)] at hL
  exact tC (tB (g := 0) (t := 198) (e := 174) (by kernel_rfl) (by kernel_rfl) Tryz.underlying198 Tryz.underlying174 (by kernel_rfl) (by kernel_rfl) (qe hL (n := "internal/strconv.uint64pow10") (d := Rows.laid_internal_strconv_uint64pow10) (.tail _ (.tail _ (.head _))))) (fun h => by rw [show (Tryz.prog.globalNamed "strconv.ErrSyntax").isSome = false by kernel_rfl] at h; cases h) (fun h => by rw [show (Tryz.prog.globalNamed "strconv.ErrRange").isSome = false by kernel_rfl] at h; cases h)
theorem laid_met (os : Os) (args : Array Value) : laidMetH Tryz.prog Rows.walSplitsUptoRow.laid ((World.laidAll Tryz.prog os Rows.walSplitsUptoRow.laid).forCall (fun _ _ => 0) ⟨#[], args, []⟩).memory := by
  rw [MakeChecks.laidMetH_plain _ _ _ (by kernel_rfl)]
  exact laidMet_laidAll args (by kernel_rfl) (by kernel_rfl)
theorem opensT35 {H : Type} (W : World) (held : Bool) (enc : TypeId × Value → H) : fB enc Tryz.prog W held 35 (V35 (gL W)) uy :=
  (nw Tryz.underlying35 (by kernel_rfl) (by kernel_rfl) (by kernel_rfl) (jj (jT Tryz.underlying3 (by kernel_rfl)) (jj (jT Tryz.underlying3 (by kernel_rfl)) (jj (jT Tryz.underlying3 (by kernel_rfl)) (pm (oB Tryz.underlying33 Tryz.underlying5 (by kernel_rfl) (by kernel_rfl) (by kernel_rfl))))))).mono (fun x r h => by obtain ⟨_, _, rfl, rfl, ⟨_, _, rfl, rfl, ⟨_, _, rfl, rfl, ⟨a3, c3, rfl, h3, k3, m3⟩⟩⟩⟩ := h; exact ⟨a3, c3, rfl, ⟨h3, k3, m3⟩⟩) (fun x h => h)
set_option maxRecDepth 100000 in
theorem lifted (os : Os) (started : os.Started) (H : Type) (enc : TypeId × Value → H) (F : Stop.Interp) :
    ReturnsInHanded {} Tryz.checked os 4 .any ((Rows.OpenSpec.upto Rows.walSplitsSpec).preRow enc Tryz.prog Tryz.f4 Rows.walSplitsUptoRow.domain false Rows.walSplitsUptoRow.laid) (((Rows.OpenSpec.upto Rows.walSplitsSpec).at F).post enc Tryz.prog Tryz.f4 false true false false) := by
  refine returnsInHanded_of_row (C := Tryz.checked) (s := (Rows.OpenSpec.upto Rows.walSplitsSpec)) own started (by kernel_rfl) Tryz.func4
    (ow (enc := enc) (C := Tryz.checked) (World.laidAll Tryz.prog os Rows.walSplitsUptoRow.laid) #[.int .i64 0, .int .i64 0, .slice none 0 0] (World.laidAll_os _ _ _) (World.shaped_of_ZipB (by kernel_rfl) (by kernel_rfl)) (by kernel_rfl)
      (OpenSpec.preRow_of_cond 8 (x := ([.lit (.int .i64 0), .lit (.int .i64 0), .nil], [], [])) (by kernel_rfl) (by kernel_rfl) (fun k hk => by cases hk; kernel_rfl) (by kernel_rfl) (laid_met os _))) ?_
  intro W base args ds gs before hval0 hW hcnd hk00 hsz0 hL _ _
  have hgl := glb hL
  have hk0 := hk00 _ rfl
  have hsz : (DataW.weightsEach Tryz.prog (Tryz.f4.params.toList ++ (Rows.OpenSpec.upto Rows.walSplitsSpec).bare.plain.varTypes Tryz.prog) (ds ++ gs)).all (· ≤ reachBytes) = true := hsz0
  have hval : ∀ (j : Nat) t v, Tryz.f4.params[j]? = some t → args[j]? = some v → Value.okWide Tryz.prog W .any base t v := hval0
  have hW' := hW
  obtain ⟨p, q, hA0, hV, rfl, hfz, hnd⟩ := hW
  have hA : DataW.TrodAll enc Tryz.prog W 0 (fun _ => true) true Tryz.f4.params.toList args.toList ds p := hA0
  rw [Tryz.params4] at hA hval hsz
  obtain ⟨v0, vs0, d0, ds0, p0, q0, hargs, rfl, rfl, h0, r0⟩ := trodAll_cons hA
  obtain ⟨v1, vs1, d1, ds1, p1, q1, rfl, rfl, rfl, h1, r1⟩ := trodAll_cons r0
  obtain ⟨v2, vs2, d2, ds2, p2, q2, rfl, rfl, rfl, h2, r2⟩ := trodAll_cons r1
  obtain ⟨rfl, rfl, rfl⟩ := trodAll_nil r2
  obtain rfl : args = #[v0, v1, v2] := by cases args; simp_all
  obtain ⟨rfl, rfl⟩ := trodVars_none hV
  obtain ⟨a0, rfl, rfl, rfl, w0⟩ := open_int Tryz.underlying3 (hval 0 3 v0 rfl rfl) h0
  obtain ⟨a1, rfl, rfl, rfl, w1⟩ := open_int Tryz.underlying3 (hval 1 3 v1 rfl rfl) h1
  obtain ⟨aa2, len2, cap2, rfl⟩ := okWide_slice Tryz.underlying32 (hval 2 32 v2 rfl rfl)
  have k2 := h2
  have lt2 : ∀ x ∈ p2, x.block < W.heap.size := by obtain ⟨m, hm⟩ := k2; exact DataW.trod_lt m _ _ _ hm
  obtain ⟨fuel2, hf2⟩ := h2
  obtain ⟨z2_0, ⟨a2_0, c2_0, hcs2, h2_0, k2_0, m2_0⟩, _, _, ok2, mu2⟩ := (pl (n := 4) (B := 48) Tryz.underlying32 (by kernel_rfl) (by kernel_rfl) (by kernel_rfl) (opensT35 W true enc)) _ _ _ hf2 (qk hsz (j := 2) (t := 32) rfl rfl)
  replace mu2 : _ ≤ Rows.uptoBulk d2 := mu2
  have e2 : Value.slice aa2 len2 cap2 = .slice a2_0 z2_0.length c2_0 := by simpa [Value.cells] using hcs2
  injection e2 with ea2 eb2 ec2
  subst ea2 eb2 ec2
  have hu0 : Rows.uptoBulkAll [_, _, _] ≤ 1048576 := of_decide_eq_true hk0
  simp only [Rows.uptoBulkAll] at hu0
  have hu : Mu.mu z2_0 ≤ 1048576 := by omega
  clear hA0 hval0 hsz0 hsz
  obtain ⟨k, hk⟩ := mr a0 w0 a1 w1 z2_0 ok2 hu
  refine (qX (bj.calls W (gL W) k a0 a1 _ _ z2_0 h2_0 k2_0 m2_0 hgl) hk (fun _ => rfl)).mono fun e W' ⟨he, bel⟩ => ?_
  subst he
  exact ⟨_, rfl, _, _, _, [], _, [], hW', trodAll_mk1 (shut_bool Tryz.underlying4 _), (trodAll_cons_mk (shut_int Tryz.underlying3 w0) (trodAll_cons_mk (shut_int Tryz.underlying3 w1) (trodAll_cons_mk (Below.trod laidOut (by kernel_rfl) (of_decide_eq_true (by kernel_rfl)) k2 bel lt2) trodAll_mk0))), rfl, bel.frame _, fun h => by cases h⟩
theorem said : Rows.WalSplitsUptoSaid :=
  OpenClaim.holds_of_cond 4 Tryz.f4 rfl rfl rfl rfl rfl rfl rfl ⟨rfl, rfl, rfl, rfl, rfl⟩ rfl rfl rfl rfl rfl (by kernel_rfl) Tryz.func4 (by kernel_rfl)
    (of_decide_eq_true (by kernel_rfl)) (by unfold Func.isWrapper; first | (rw [if_pos (by decide +kernel)]; kernel_rfl) | (rw [if_neg (by decide +kernel)]; exact ⟨rfl, rfl⟩))
    (fun os started H enc _ F => by rw [OpenClaim.pre_eq_preRow]; exact lifted os started H enc F)
theorem plain (f : FuncId) (fn : Func) (hf : Tryz.pinned.checked.prog.funcNamed "synod/synodlaw5.WalSplits" = some f) (hfn : Tryz.pinned.checked.prog.funcs[f]? = some fn) :
    true = Tryz.pinned.checked.prog.looks [] ∧ ∀ (j : Nat) t, fn.params[j]? = some t → Tryz.pinned.checked.prog.wantsStandIn t = false := by
  obtain rfl : f = 4 := Option.some.inj ((show Tryz.prog.funcNamed "synod/synodlaw5.WalSplits" = some 4 by kernel_rfl).symm.trans hf) |>.symm
  obtain rfl : fn = Tryz.f4 := (Option.some.inj (Tryz.func4.symm.trans hfn)).symm
  refine ⟨by kernel_rfl, fun j t ht => ?_⟩
  rw [Tryz.params4] at ht
  have hm : t ∈ [3, 3, 32] := by simpa using Array.mem_of_getElem? ht
  have hall : ([3, 3, 32].all fun u => !Tryz.prog.wantsStandIn u) = true := by kernel_rfl
  exact (show Tryz.prog.wantsStandIn t = false by simpa using List.all_eq_true.1 hall t hm)
theorem card : Rows.WalSplitsUptoCardSaid :=
  Claim7.holds_tied_plain_at .later [] _ _ _ _ said (fun _ h => by cases h) (by kernel_rfl) (fun _ h => by cases h) walSplitsUpto_row_tie rfl ⟨rfl, rfl⟩ (by kernel_rfl) rfl plain (by kernel_rfl)
end Go.Proofs.YtndjkejhacfpdaaGreatDoor.walSplits
namespace Go.Proofs.YtndjkejhacfpdaaGreatDoor
/-- The card, under a short name, for the claim. -/
theorem walSplits_holds : Rows.WalSplitsUptoCardSaid := walSplits.card
end Go.Proofs.YtndjkejhacfpdaaGreatDoor
