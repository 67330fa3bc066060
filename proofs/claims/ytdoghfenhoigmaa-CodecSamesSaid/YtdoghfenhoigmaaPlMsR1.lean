/- The codec's plain laws: a message's check, the document's. Conditions: as each says. -/
import Derived.Test.YtdoghfenhoigmaaPlMsR0
namespace Go.Proofs.Ytdoghfenhoigmaa
set_option linter.unusedVariables false
set_option linter.unusedSimpArgs false
open Go.RowKit
theorem rapp_l0 (l : List EnT) : ∀ (k : Nat) (i : Int), synodref3_app.l0 l k i = codec_appends.l0 l k i
  | 0, i => rfl
  | k + 1, i => by simp only [synodref3_app.l0, codec_appends.l0, cE, rE, rapp_l0 l k]
theorem rapp_l1 (tm ix : Int) (l : List EnT) : ∀ (k : Nat) (p i : Int), synodref3_app.l1 tm ix l k p i = codec_appends.l1 tm ix l k p i
  | 0, p, i => rfl
  | k + 1, p, i => by simp only [synodref3_app.l1, codec_appends.l1, rapp_l1 tm ix l k]
def used (m : Msg) : Msg :=
  if m.kd = 1 then ⟨m.kd, m.fr, m.to, m.tm, m.ix, m.lt, 0, 0, 0, false, [], 0, 0, []⟩ else if m.kd = 2 then ⟨m.kd, m.fr, m.to, m.tm, 0, 0, 0, 0, 0, m.rj, [], 0, 0, []⟩ else
  if m.kd = 3 then ⟨m.kd, m.fr, m.to, m.tm, m.ix, m.lt, m.cm, 0, 0, false, m.es, 0, 0, []⟩ else if m.kd = 4 then ⟨m.kd, m.fr, m.to, m.tm, m.ix, 0, 0, m.hi, 0, m.rj, [], 0, 0, []⟩ else
  if m.kd = 5 then ⟨m.kd, m.fr, m.to, m.tm, 0, 0, m.cm, 0, m.cx, false, [], 0, 0, []⟩ else if m.kd = 6 then ⟨m.kd, m.fr, m.to, m.tm, 0, 0, 0, 0, m.cx, false, [], 0, 0, []⟩ else
  if m.kd = 7 then ⟨m.kd, m.fr, m.to, m.tm, 0, 0, 0, 0, 0, false, [], m.si, m.st, m.sd⟩ else ⟨m.kd, m.fr, m.to, m.tm, 0, 0, 0, 0, 0, false, [], 0, 0, []⟩
theorem used_eq (m : Msg) : synodref3_used.f m.kd m.fr m.to m.tm m.ix m.lt m.cm m.hi m.cx m.rj m.es m.si m.st m.sd = some ((used m).kd, (used m).fr, (used m).to, (used m).tm, (used m).ix, (used m).lt, (used m).cm, (used m).hi, (used m).cx, (used m).rj, (used m).es, (used m).si, (used m).st, (used m).sd) := by
  unfold synodref3_used.f used
  by_cases h1 : m.kd = 1
  · simp [h1]
  by_cases h2 : m.kd = 2
  · simp [h2]
  by_cases h3 : m.kd = 3
  · simp [h3]
  by_cases h4 : m.kd = 4
  · simp [h4]
  by_cases h5 : m.kd = 5
  · simp [h5]
  by_cases h6 : m.kd = 6
  · simp [h6]
  by_cases h7 : m.kd = 7
  · simp [h7]
  · simp [h1, h2, h3, h4, h5, h6, h7]
theorem used_bare (m : Msg) (h : nodeP m.kd) : m = used m ↔ bare m := by
  have h7 : m.kd = 1 ∨ m.kd = 2 ∨ m.kd = 3 ∨ m.kd = 4 ∨ m.kd = 5 ∨ m.kd = 6 ∨ m.kd = 7 := by have := h.1; have := h.2; omega
  obtain ⟨kd, fr, to, tm, ix, lt, cm, hi, cx, rj, es, si, st, sd⟩ := m
  simp only at h7
  rcases h7 with rfl | rfl | rfl | rfl | rfl | rfl | rfl <;> simp [bare, used] <;> grind
theorem rNumber (x : Int) : synodref_Number.f x = some (decide (rg x 0)) := by
  have : (decide ((0 : Int) ≤ x) && decide (x ≤ (4611686018427387904 : Int))) = decide (rg x 0) := by rw [Bool.eq_iff_iff, Bool.and_eq_true, decide_eq_true_iff, decide_eq_true_iff, decide_eq_true_iff]; rfl
  unfold synodref_Number.f; rw [this]
theorem and_step2 (b : Bool) (q : Prop) [Decidable q] : (if b = true then (some (decide q)) else some false) = some (b && decide q) := by cases b <;> simp
theorem rwithin_node (x : Int) : synodref3_within.f x 1 7 = some (decide (nodeP x)) := rwithin x 1 7
def rcheckM (k : Nat) (m : Msg) : Option Int := synodref3_CheckMessage.f k m.kd m.fr m.to m.tm m.ix m.lt m.cm m.hi m.cx m.rj m.es m.si m.st m.sd
theorem rM {k : Nat} {m : Msg} (hR : Room k m) : rcheckM k m = some (chkM m) := by
  have hk := hR.k0
  unfold rcheckM synodref3_CheckMessage.f chkM
  rw [rwithin_node, rwithin_node, rwithin_node, rwithin_rg, rNumber, rNumber, rNumber, rNumber, rNumber, used_eq]
  simp only [Option.bind_some, and_step2, or_step2]
  by_cases h1 : nodeP m.kd
  · rw [if_neg (by simpa using h1), if_neg (not_not_intro h1)]
    by_cases h2 : nodeP m.fr ∧ nodeP m.to ∧ rg m.tm 1
    · rw [if_neg (not_not_intro h2)]
      by_cases h3 : rg m.ix 0 ∧ rg m.lt 0 ∧ rg m.cm 0 ∧ rg m.hi 0 ∧ rg m.cx 0
      · rw [if_neg (not_not_intro h3), if_neg (by simp [h2, h3]), SameMessage_eq hR, Option.bind_some]
        have hub := used_bare m h1
        by_cases h4 : m.fr = m.to ∨ ¬ bare m
        · have h4' : (decide (m.fr = m.to) || !decide (m = used m)) = true := by
            rw [← hub] at h4; simpa using h4
          rw [if_pos h4, if_pos h4']
        · have h4' : ¬ (decide (m.fr = m.to) || !decide (m = used m)) = true := by
            rw [← hub] at h4; simpa using h4
          rw [if_neg h4, if_neg h4']
          have eapp : synodref3_app.f k m.kd m.fr m.to m.tm m.ix m.lt m.cm m.hi m.cx m.rj m.es m.si m.st m.sd = some (chkA m) := by
            rw [← appA (k := k) (by omega) m h3.1 _ (odd_iff m.lt m.ix)]
            unfold synodref3_app.f codec_appends.f
            rw [rapp_l0, rapp_l1]
          rw [eapp, rP, rnone]
          unfold kindC
          simp only [Option.bind_some]
          by_cases k3 : m.kd = 3
          · rw [if_pos k3, if_neg (by omega), if_pos k3]; rfl
          by_cases k1 : m.kd = 1
          · rw [if_neg k3, if_pos k1, if_pos k1]
            by_cases c1 : m.tm ≤ m.lt ∨ ¬ (m.lt = 0 ↔ m.ix = 0)
            · rw [if_pos c1, if_pos (by rw [Bool.or_eq_true, odd_iff]; simpa using c1)]; rfl
            · rw [if_neg c1, if_neg (by rw [Bool.or_eq_true, odd_iff]; simpa using c1)]; rfl
          rw [if_neg k3, if_neg k1, if_neg k1, if_neg k3]
          by_cases k4 : m.kd = 4
          · rw [if_pos k4, if_pos k4]
            by_cases c1 : m.hi ≠ 0 ∧ m.rj = false
            · rw [if_pos c1, if_pos (by simpa using c1)]; rfl
            · rw [if_neg c1, if_neg (by simpa using c1)]; rfl
          rw [if_neg k4, if_neg k4]
          by_cases k7 : m.kd = 7
          · rw [if_pos k7, if_pos k7]
            by_cases c1 : chkP m.si m.st m.sd = 0
            · have c1' : ¬ (chkP m.si m.st m.sd ≠ 0) := not_not_intro c1
              rw [if_pos c1, if_neg c1']
              by_cases c2 : noneP m.si m.st m.sd ∨ m.tm < m.st
              · have c2' : (decide (noneP m.si m.st m.sd) || decide (m.tm < m.st)) = true := by simpa using c2
                rw [if_pos c2, if_pos c2']; rfl
              · have c2' : ¬ (decide (noneP m.si m.st m.sd) || decide (m.tm < m.st)) = true := by simpa using c2
                rw [if_neg c2, if_neg c2']; rfl
            · have c1' : chkP m.si m.st m.sd ≠ 0 := c1
              rw [if_neg c1, if_pos c1']; rfl
          · rw [if_neg k7, if_neg k7]; rfl
      · rw [if_pos h3, if_pos]
        simp only [Bool.or_eq_true, Bool.not_eq_true', decide_eq_false_iff_not]
        by_cases a1 : rg m.ix 0 <;> by_cases a2 : rg m.lt 0 <;> by_cases a3 : rg m.cm 0 <;> by_cases a4 : rg m.hi 0 <;> simp_all
    · have e0 : ((decide (nodeP m.fr) && decide (nodeP m.to)) && decide (rg m.tm 1)) = false := by
        by_cases a1 : nodeP m.fr <;> by_cases a2 : nodeP m.to <;> simp_all
      rw [if_pos h2, if_pos]
      by_cases a1 : nodeP m.fr <;> by_cases a2 : nodeP m.to <;> simp_all
  · rw [if_pos h1, if_pos (by simpa using h1)]
end Go.Proofs.Ytdoghfenhoigmaa
