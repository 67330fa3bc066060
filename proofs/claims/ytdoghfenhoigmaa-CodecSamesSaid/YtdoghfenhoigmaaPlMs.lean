/- The codec's plain laws: the check of a message, the program's and the document's. Conditions: as each says. -/
import Derived.Test.YtdoghfenhoigmaaPlCd3
namespace Go.Proofs.Ytdoghfenhoigmaa
set_option linter.unusedVariables false
set_option linter.unusedSimpArgs false
open Go.RowKit
abbrev EnT := Int × Int × Int × List UInt8
abbrev dEnT : EnT := ((0 : Int), (0 : Int), (0 : Int), ([] : List UInt8))
def cEnT (e : EnT) : Int := chkE e.1 e.2.1 e.2.2.1 e.2.2.2
def tEnT (e : EnT) : List UInt8 := txE e.1 e.2.1 e.2.2.1 e.2.2.2
theorem getD_at' {α : Type} (l : List α) (d : α) (i : Nat) (h : i < l.length) : l.getD i d = l[i] := by simp [List.getD_eq_getElem?_getD, List.getElem?_eq_getElem h]
theorem drop_at {α : Type} (l : List α) (d : α) {i : Nat} (h : i < l.length) : l.drop i = l.getD i d :: l.drop (i + 1) := by rw [getD_at' _ _ _ h]; exact List.drop_eq_getElem_cons h
theorem wi1 {i : Nat} (h : i < 2 ^ 62) : IntKind.i64.wrap ((i : Int) + 1) = ((i + 1 : Nat) : Int) := by rw [w64 (by omega) (by omega)]; simp
/-! ### The entries of a message -/
def firstBad : List EnT → Int
  | [] => 0
  | e :: l => if cEnT e = 0 then firstBad l else cEnT e
def sumI (c : Int) : Unit ⊕ Int := if c = 0 then .inl () else .inr c
theorem app_l0 (l : List EnT) (hl : l.length < 2 ^ 62) : ∀ (d i k : Nat), i + d = l.length → d + 1 ≤ k → codec_appends.l0 l k (i : Int) = some (sumI (firstBad (l.drop i)))
  | d, i, 0, _, hk => by omega
  | 0, i, k + 1, h, _ => by
    simp only [codec_appends.l0]
    rw [if_neg (by omega), List.drop_of_length_le (by omega)]; rfl
  | d + 1, i, k + 1, h, hk => by
    have hi : i < l.length := by omega
    simp only [codec_appends.l0]
    rw [if_pos (by omega), if_pos (by omega), wi1 (by omega), cE, app_l0 l hl d (i + 1) k (by omega) (by omega), drop_at l dEnT hi]
    simp only [Int.toNat_natCast, Option.bind_some, firstBad]
    show (if cEnT (l.getD i dEnT) = 0 then _ else some (Sum.inr (cEnT (l.getD i dEnT)))) = _
    split
    · rfl
    · unfold sumI; rw [if_neg ‹_›]
/-- The entries' indices rise by one from n on, their terms don't fall. -/
def chainB (tm : Int) : Int → Int → List EnT → Bool
  | _, _, [] => true
  | n, prev, e :: l => !((!decide (e.2.1 = n)) || (decide (e.1 < prev)) || (decide (tm < e.1))) && chainB tm (n + 1) e.1 l
def c4 (b : Bool) : Int := bif b then 0 else 4
theorem app_l1 (tm ix : Int) (l : List EnT) (hl : l.length ≤ 64) (hx : 0 ≤ ix ∧ ix ≤ 4611686018427387904) : ∀ (d i k : Nat) (prev : Int), i + d = l.length → d + 1 ≤ k → codec_appends.l1 tm ix l k prev (i : Int) = some (sumI (c4 (chainB tm (ix + 1 + i) prev (l.drop i))))
  | d, i, 0, _, _, hk => by omega
  | 0, i, k + 1, prev, h, _ => by
    simp only [codec_appends.l1]
    rw [if_neg (by omega), List.drop_of_length_le (by omega)]; rfl
  | d + 1, i, k + 1, prev, h, hk => by
    have hi : i < l.length := by omega
    simp only [codec_appends.l1]
    have e1 : IntKind.i64.wrap (IntKind.i64.wrap (ix + 1) + (i : Int)) = ix + 1 + i := by rw [w64 (n := ix + 1) (by omega) (by omega), w64 (by omega) (by omega)]
    rw [if_pos (by omega), if_pos (by omega), wi1 (by omega), e1, app_l1 tm ix l hl hx d (i + 1) k _ (by omega) (by omega), drop_at l dEnT hi]
    simp only [Int.toNat_natCast, chainB]
    have e2 : ix + 1 + ((i + 1 : Nat) : Int) = ix + 1 + i + 1 := by omega
    rw [e2]
    by_cases hc : (((!decide ((l.getD i dEnT).2.1 = ix + 1 + (i : Int))) || (decide ((l.getD i dEnT).1 < prev))) || (decide (tm < (l.getD i dEnT).1))) = true
    · rw [if_pos hc, hc]; rfl
    · rw [if_neg hc, Bool.eq_false_iff.2 hc]; simp
/-! ### A message -/
structure Msg where
  kd : Int
  fr : Int
  to : Int
  tm : Int
  ix : Int
  lt : Int
  cm : Int
  hi : Int
  cx : Int
  rj : Bool
  es : List EnT
  si : Int
  st : Int
  sd : List UInt8
instance : DecidableEq Msg := fun a b => decidable_of_iff (a.kd = b.kd ∧ a.fr = b.fr ∧ a.to = b.to ∧ a.tm = b.tm ∧ a.ix = b.ix ∧ a.lt = b.lt ∧ a.cm = b.cm ∧ a.hi = b.hi ∧ a.cx = b.cx ∧ a.rj = b.rj ∧ a.es = b.es ∧ a.si = b.si ∧ a.st = b.st ∧ a.sd = b.sd) ⟨fun h => by cases a; cases b; simp_all, fun h => by subst h; simp⟩
def chkA (m : Msg) : Int := if 64 < (m.es.length : Int) then 3 else if firstBad m.es ≠ 0 then firstBad m.es else if m.tm < m.lt ∨ ¬ (m.lt = 0 ↔ m.ix = 0) then 4 else c4 (chainB m.tm (m.ix + 1) m.lt m.es)
/-- What its kind does not use is zero. -/
def bare (m : Msg) : Prop :=
  (m.kd ≠ 1 → m.kd ≠ 3 → m.kd ≠ 4 → m.ix = 0) ∧ (m.kd ≠ 1 → m.kd ≠ 3 → m.lt = 0) ∧ (m.kd ≠ 3 → m.kd ≠ 5 → m.cm = 0) ∧ (m.kd ≠ 4 → m.hi = 0) ∧ (m.kd ≠ 5 → m.kd ≠ 6 → m.cx = 0) ∧ (m.kd ≠ 2 → m.kd ≠ 4 → m.rj = false) ∧ (m.kd ≠ 3 → m.es = []) ∧ (m.kd ≠ 7 → m.si = 0 ∧ m.st = 0 ∧ m.sd = [])
instance (m : Msg) : Decidable (bare m) := by unfold bare; infer_instance
def nodeP (n : Int) : Prop := 1 ≤ n ∧ n ≤ 7
instance (n : Int) : Decidable (nodeP n) := by unfold nodeP; infer_instance
def kindC (m : Msg) : Int :=
  if m.kd = 1 then (if m.tm ≤ m.lt ∨ ¬ (m.lt = 0 ↔ m.ix = 0) then 4 else 0) else if m.kd = 3 then chkA m else if m.kd = 4 then (if m.hi ≠ 0 ∧ m.rj = false then 4 else 0) else
  if m.kd = 7 then (if chkP m.si m.st m.sd ≠ 0 then chkP m.si m.st m.sd else if noneP m.si m.st m.sd ∨ m.tm < m.st then 4 else 0) else 0
def chkM (m : Msg) : Int :=
  if ¬ nodeP m.kd then 6 else if ¬ (nodeP m.fr ∧ nodeP m.to ∧ rg m.tm 1) then 1 else if ¬ (rg m.ix 0 ∧ rg m.lt 0 ∧ rg m.cm 0 ∧ rg m.hi 0 ∧ rg m.cx 0) then 1 else if m.fr = m.to ∨ ¬ bare m then 4 else kindC m
def checkM (k : Nat) (m : Msg) : Option Int := codec_Messages_Check.f k m.kd m.fr m.to m.tm m.ix m.lt m.cm m.hi m.cx m.rj m.es m.si m.st m.sd
theorem cnode (n : Int) : codec_node.f n = some (decide (nodeP n)) := by
  have : (decide ((1 : Int) ≤ n) && decide (n ≤ (7 : Int))) = decide (nodeP n) := by rw [Bool.eq_iff_iff, Bool.and_eq_true, decide_eq_true_iff, decide_eq_true_iff, decide_eq_true_iff]; rfl
  unfold codec_node.f; rw [this]
theorem cbare (m : Msg) (h : nodeP m.kd) : codec_bare.f m.kd m.fr m.to m.tm m.ix m.lt m.cm m.hi m.cx m.rj m.es m.si m.st m.sd = some (decide (bare m)) := by
  obtain ⟨kd, fr, to, tm, ix, lt, cm, hi, cx, rj, es, si, st, sd⟩ := m
  unfold codec_bare.f
  simp only [cnone]
  have key : ∀ (x : Bool), (x = true ↔ bare ⟨kd, fr, to, tm, ix, lt, cm, hi, cx, rj, es, si, st, sd⟩) → some x = some (decide (bare ⟨kd, fr, to, tm, ix, lt, cm, hi, cx, rj, es, si, st, sd⟩)) := fun x hx => by
    congr 1; rw [Bool.eq_iff_iff, hx, decide_eq_true_iff]
  have h7 : kd = 1 ∨ kd = 2 ∨ kd = 3 ∨ kd = 4 ∨ kd = 5 ∨ kd = 6 ∨ kd = 7 := by have := h.1; have := h.2; simp only at *; omega
  have bnd : ∀ (p q : Bool), ((if p = true then some q else some false).bind fun s => some s) = some (p && q) := by intro p q; cases p <;> rfl
  rcases h7 with rfl | rfl | rfl | rfl | rfl | rfl | rfl <;> simp only [Int.reduceEq, if_true, if_false, Option.bind_some] <;> rw [bnd] <;> apply key <;> simp [bare, noneP] <;> grind
theorem appA {k : Nat} (hk : 70 ≤ k) (m : Msg) (hx : rg m.ix 0) (odd : Bool) (ho : odd = true ↔ ¬ (m.lt = 0 ↔ m.ix = 0)) : codec_appends.f k m.kd m.fr m.to m.tm m.ix m.lt m.cm m.hi m.cx m.rj m.es m.si m.st m.sd odd = some (chkA m) := by
  unfold codec_appends.f chkA
  by_cases h1 : 64 < (m.es.length : Int)
  · rw [if_pos h1, if_pos h1]
  rw [if_neg h1, if_neg h1, show (0 : Int) = ((0 : Nat) : Int) from rfl, app_l0 m.es (by omega) m.es.length 0 k (by omega) (by omega), app_l1 m.tm m.ix m.es (by omega) hx m.es.length 0 k _ (by omega) (by omega)]
  simp only [List.drop_zero, sumI, Int.natCast_zero, Int.add_zero]
  by_cases h2 : firstBad m.es = 0
  · have h2' : ¬ (firstBad m.es ≠ 0) := not_not_intro h2
    rw [if_neg h2', if_pos h2]
    show (if (decide (m.tm < m.lt) || odd) = true then some 4 else orR (some (if c4 (chainB m.tm (m.ix + 1) m.lt m.es) = 0 then Sum.inl () else Sum.inr (c4 (chainB m.tm (m.ix + 1) m.lt m.es)))) fun _ => some 0) = _
    by_cases h3 : m.tm < m.lt ∨ ¬ (m.lt = 0 ↔ m.ix = 0)
    · have h3' : (decide (m.tm < m.lt) || odd) = true := by rw [Bool.or_eq_true, ho]; simpa using h3
      rw [if_pos h3, if_pos h3']
    · have h3' : ¬ (decide (m.tm < m.lt) || odd) = true := by rw [Bool.or_eq_true, ho]; simpa using h3
      rw [if_neg h3, if_neg h3']
      cases chainB m.tm (m.ix + 1) m.lt m.es <;> rfl
  · have h2' : firstBad m.es ≠ 0 := h2
    rw [if_neg h2, if_pos h2']; rfl
theorem odd_iff (a b : Int) : (!((decide (a = (0 : Int))) == (decide (b = (0 : Int))))) = true ↔ ¬ (a = 0 ↔ b = 0) := by
  by_cases h1 : a = 0 <;> by_cases h2 : b = 0 <;> simp [h1, h2]
theorem or_step (p q : Prop) [Decidable p] [Decidable q] : (if (!decide p) = true then some true else (some (decide q)).bind fun s => some (!s)) = some (!decide (p ∧ q)) := by
  by_cases hp : p <;> by_cases hq : q <;> simp [hp, hq]
theorem or_step2 (b : Bool) (q : Prop) [Decidable q] : (if b = true then some true else some (!decide q)) = some (b || !decide q) := by
  cases b <;> simp
theorem cM {k : Nat} (hk : 70 ≤ k) (m : Msg) : checkM k m = some (chkM m) := by
  unfold checkM codec_Messages_Check.f chkM
  by_cases h1 : nodeP m.kd
  · rw [if_neg (by have := h1.1; have := h1.2; simp; omega), if_neg (not_not_intro h1)]
    rw [cnode, cnode, cwithin, cwithin, cwithin, cwithin, cwithin, cwithin, cbare m h1]
    simp only [Option.bind_some, or_step2]
    by_cases h2 : nodeP m.fr ∧ nodeP m.to ∧ rg m.tm 1
    · rw [if_neg (not_not_intro h2), if_neg (by simp [h2])]
      by_cases h3 : rg m.ix 0 ∧ rg m.lt 0 ∧ rg m.cm 0 ∧ rg m.hi 0 ∧ rg m.cx 0
      · rw [if_neg (not_not_intro h3), if_neg (by simp [h3])]
        by_cases h4 : m.fr = m.to ∨ ¬ bare m
        · rw [if_pos h4]
          by_cases h5 : m.fr = m.to
          · rw [if_pos h5]; rfl
          · rw [if_neg h5, Option.bind_some, if_pos (by rcases h4 with x | x; exact absurd x h5; simpa using x)]
        · have h5 : ¬ m.fr = m.to := fun x => h4 (.inl x)
          have h6 : bare m := Classical.byContradiction fun x => h4 (.inr x)
          rw [if_neg h4, if_neg h5, Option.bind_some, if_neg (by simpa using h6)]
          rw [appA hk m h3.1 _ (odd_iff m.lt m.ix), cP, cnone]
          unfold kindC
          simp only [Option.bind_some]
          by_cases k1 : m.kd = 1
          · rw [if_pos k1, if_pos k1]
            by_cases c1 : m.tm ≤ m.lt ∨ ¬ (m.lt = 0 ↔ m.ix = 0)
            · rw [if_pos c1, if_pos (by rw [Bool.or_eq_true, odd_iff]; simpa using c1)]; rfl
            · rw [if_neg c1, if_neg (by rw [Bool.or_eq_true, odd_iff]; simpa using c1)]; rfl
          rw [if_neg k1, if_neg k1]
          by_cases k3 : m.kd = 3
          · rw [if_pos k3, if_pos k3]; rfl
          rw [if_neg k3, if_neg k3]
          by_cases k4 : m.kd = 4
          · rw [if_pos k4, if_pos k4]
            by_cases c1 : m.hi ≠ 0 ∧ m.rj = false
            · rw [if_pos c1, if_pos (by simpa using c1)]; rfl
            · rw [if_neg c1, if_neg (by simpa using c1)]; rfl
          rw [if_neg k4, if_neg k4]
          by_cases k7 : m.kd = 7
          · rw [if_pos k7, if_pos k7]
            by_cases c1 : chkP m.si m.st m.sd = 0
            · have c1' : ¬ (chkP m.si m.st m.sd ≠ 0) := not_not_intro c1
              rw [if_pos c1, if_neg c1']
              by_cases c2 : noneP m.si m.st m.sd ∨ m.tm < m.st
              · have c2' : (decide (noneP m.si m.st m.sd) || decide (m.tm < m.st)) = true := by simpa using c2
                rw [if_pos c2, if_pos c2']; rfl
              · have c2' : ¬ (decide (noneP m.si m.st m.sd) || decide (m.tm < m.st)) = true := by simpa using c2
                rw [if_neg c2, if_neg c2']; rfl
            · have c1' : chkP m.si m.st m.sd ≠ 0 := c1
              rw [if_neg c1, if_pos c1']; rfl
          · rw [if_neg k7, if_neg k7]; rfl
      · rw [if_pos h3, if_pos]
        simp only [Bool.or_eq_true, Bool.not_eq_true', decide_eq_false_iff_not]
        by_cases a1 : rg m.ix 0 <;> by_cases a2 : rg m.lt 0 <;> by_cases a3 : rg m.cm 0 <;> by_cases a4 : rg m.hi 0 <;> simp_all
    · rw [if_pos h2, if_pos]
      simp only [Bool.or_eq_true, Bool.not_eq_true', decide_eq_false_iff_not]
      by_cases a1 : nodeP m.fr <;> by_cases a2 : nodeP m.to <;> simp_all
  · rw [if_pos h1, if_pos]
    have : ¬ (1 ≤ m.kd ∧ m.kd ≤ 7) := h1
    simp; omega
end Go.Proofs.Ytdoghfenhoigmaa
