/- The codec's plain laws: a message's check and text, the document's; whether messages are the same. Conditions: as each says. -/
import Derived.Test.YtdoghfenhoigmaaPlMsP
import Derived.Test.YtdoghfenhoigmaaPlSe
namespace Go.Proofs.Ytdoghfenhoigmaa
set_option linter.unusedVariables false
set_option linter.unusedSimpArgs false
open Go.RowKit
theorem rapp_l0 (l : List EnT) : ∀ (k : Nat) (i : Int), synodref3_app.l0 l k i = codec_appends.l0 l k i
  | 0, i => rfl
  | k + 1, i => by simp only [synodref3_app.l0, codec_appends.l0, cE, rE, rapp_l0 l k]
theorem rapp_l1 (tm ix : Int) (l : List EnT) : ∀ (k : Nat) (p i : Int), synodref3_app.l1 tm ix l k p i = codec_appends.l1 tm ix l k p i
  | 0, p, i => rfl
  | k + 1, p, i => by simp only [synodref3_app.l1, codec_appends.l1, rapp_l1 tm ix l k]
theorem SameEntries_loop (x y : List EnT) (hl : x.length = y.length) (hx : x.length < 2 ^ 61) (hb : ∀ e ∈ x, e.2.2.2.length < 2 ^ 61) : ∀ (d i k : Nat), i + d = x.length → d + 1 ≤ k → (∀ e ∈ x, e.2.2.2.length + d + 1 ≤ k) → (x.take i = y.take i) →
    (orR (synodref_SameEntries.l0 x y k (i : Int)) fun _ => some true) = some (decide (x = y))
  | d, i, 0, _, hk, _, _ => by omega
  | 0, i, k + 1, h, _, _, ht => by
    simp only [synodref_SameEntries.l0]
    rw [if_neg (by omega)]
    have : x = y := by rwa [List.take_of_length_le (by omega), List.take_of_length_le (by omega)] at ht
    simp [orR, this]
  | d + 1, i, k + 1, h, hk, hb2, ht => by
    have hi : i < x.length := by omega
    have hi2 : i < y.length := by omega
    have hm : x.getD i dEnT ∈ x := by rw [getD_at' _ _ _ hi]; exact List.getElem_mem hi
    have hme := hb _ hm
    have hme2 := hb2 _ hm
    simp only [synodref_SameEntries.l0]
    rw [if_pos (by omega), if_pos (by omega), if_pos (by omega), wi1 (by omega)]
    simp only [Int.toNat_natCast]
    have e1 := SameEntry_eq (k := k) (a := x.getD i dEnT) (b := y.getD i dEnT) (by omega) (by omega)
    rw [e1, Option.bind_some]
    by_cases he : x.getD i dEnT = y.getD i dEnT
    · rw [if_neg (by simpa using he)]
      refine SameEntries_loop x y hl hx hb d (i + 1) k (by omega) (by omega) (fun e he => by have := hb2 e he; omega) ?_
      rw [List.take_succ_eq_append_getElem hi, List.take_succ_eq_append_getElem hi2, ht, ← getD_at' x dEnT i hi, ← getD_at' y dEnT i hi2, he]
    · rw [if_pos (by simpa using he)]
      have : x ≠ y := fun e => he (by rw [e])
      simp [orR, this]
theorem SameEntries_eq {k : Nat} {x y : List EnT} (hx : x.length < 2 ^ 61) (hb : ∀ e ∈ x, e.2.2.2.length < 2 ^ 61) (hk : x.length + 1 ≤ k) (hk2 : ∀ e ∈ x, e.2.2.2.length + x.length + 1 ≤ k) : synodref_SameEntries.f k x y = some (decide (x = y)) := by
  unfold synodref_SameEntries.f
  by_cases hl : x.length = y.length
  · rw [if_pos (by omega)]
    exact SameEntries_loop x y hl hx hb x.length 0 k (by omega) hk hk2 (by simp)
  · rw [if_neg (by omega)]
    have : x ≠ y := fun e => hl (by rw [e])
    simp [this]
structure Room (k : Nat) (m : Msg) : Prop where
  l : m.es.length < 2 ^ 60
  b : ∀ e ∈ m.es, e.2.2.2.length < 2 ^ 60
  s : m.sd.length < 2 ^ 60
  k0 : 100 ≤ k
  kl : m.es.length + 2 ≤ k
  kb : ∀ e ∈ m.es, e.2.2.2.length + m.es.length + 2 ≤ k
  ks : m.sd.length + 2 ≤ k
theorem SameMessage_eq {k : Nat} {a b : Msg} (h : Room k a) : synodref_SameMessage.f k a.kd a.fr a.to a.tm a.ix a.lt a.cm a.hi a.cx a.rj a.es a.si a.st a.sd b.kd b.fr b.to b.tm b.ix b.lt b.cm b.hi b.cx b.rj b.es b.si b.st b.sd = some (decide (a = b)) := by
  have h1 := h.s; have h2 := h.ks; have h3 := h.l; have h4 := h.kl
  unfold synodref_SameMessage.f synodref_SameSnap.f
  rw [SameBytes_eq (by omega) (by omega), Option.bind_some, Option.bind_some, SameEntries_eq (by omega) (fun e he => by have := h.b e he; omega) (by omega) (fun e he => by have := h.kb e he; omega), Option.bind_some]
  congr 1
  obtain ⟨a1, a2, a3, a4, a5, a6, a7, a8, a9, a10, a11, a12, a13, a14⟩ := a
  obtain ⟨b1, b2, b3, b4, b5, b6, b7, b8, b9, b10, b11, b12, b13, b14⟩ := b
  rw [Bool.eq_iff_iff]
  simp
  grind
def used (m : Msg) : Msg :=
  if m.kd = 1 then ⟨m.kd, m.fr, m.to, m.tm, m.ix, m.lt, 0, 0, 0, false, [], 0, 0, []⟩ else if m.kd = 2 then ⟨m.kd, m.fr, m.to, m.tm, 0, 0, 0, 0, 0, m.rj, [], 0, 0, []⟩ else
  if m.kd = 3 then ⟨m.kd, m.fr, m.to, m.tm, m.ix, m.lt, m.cm, 0, 0, false, m.es, 0, 0, []⟩ else if m.kd = 4 then ⟨m.kd, m.fr, m.to, m.tm, m.ix, 0, 0, m.hi, 0, m.rj, [], 0, 0, []⟩ else
  if m.kd = 5 then ⟨m.kd, m.fr, m.to, m.tm, 0, 0, m.cm, 0, m.cx, false, [], 0, 0, []⟩ else if m.kd = 6 then ⟨m.kd, m.fr, m.to, m.tm, 0, 0, 0, 0, m.cx, false, [], 0, 0, []⟩ else
  if m.kd = 7 then ⟨m.kd, m.fr, m.to, m.tm, 0, 0, 0, 0, 0, false, [], m.si, m.st, m.sd⟩ else ⟨m.kd, m.fr, m.to, m.tm, 0, 0, 0, 0, 0, false, [], 0, 0, []⟩
theorem used_eq (m : Msg) : synodref3_used.f m.kd m.fr m.to m.tm m.ix m.lt m.cm m.hi m.cx m.rj m.es m.si m.st m.sd = some ((used m).kd, (used m).fr, (used m).to, (used m).tm, (used m).ix, (used m).lt, (used m).cm, (used m).hi, (used m).cx, (used m).rj, (used m).es, (used m).si, (used m).st, (used m).sd) := by
  unfold synodref3_used.f used
  by_cases h1 : m.kd = 1
  · simp [h1]
  by_cases h2 : m.kd = 2
  · simp [h2]
  by_cases h3 : m.kd = 3
  · simp [h3]
  by_cases h4 : m.kd = 4
  · simp [h4]
  by_cases h5 : m.kd = 5
  · simp [h5]
  by_cases h6 : m.kd = 6
  · simp [h6]
  by_cases h7 : m.kd = 7
  · simp [h7]
  · simp [h1, h2, h3, h4, h5, h6, h7]
theorem used_bare (m : Msg) (h : nodeP m.kd) : m = used m ↔ bare m := by
  have h7 : m.kd = 1 ∨ m.kd = 2 ∨ m.kd = 3 ∨ m.kd = 4 ∨ m.kd = 5 ∨ m.kd = 6 ∨ m.kd = 7 := by have := h.1; have := h.2; omega
  obtain ⟨kd, fr, to, tm, ix, lt, cm, hi, cx, rj, es, si, st, sd⟩ := m
  simp only at h7
  rcases h7 with rfl | rfl | rfl | rfl | rfl | rfl | rfl <;> simp [bare, used] <;> grind
theorem rNumber (x : Int) : synodref_Number.f x = some (decide (rg x 0)) := by
  have : (decide ((0 : Int) ≤ x) && decide (x ≤ (4611686018427387904 : Int))) = decide (rg x 0) := by rw [Bool.eq_iff_iff, Bool.and_eq_true, decide_eq_true_iff, decide_eq_true_iff, decide_eq_true_iff]; rfl
  unfold synodref_Number.f; rw [this]
theorem and_step2 (b : Bool) (q : Prop) [Decidable q] : (if b = true then (some (decide q)) else some false) = some (b && decide q) := by cases b <;> simp
theorem rwithin_node (x : Int) : synodref3_within.f x 1 7 = some (decide (nodeP x)) := rwithin x 1 7
def rcheckM (k : Nat) (m : Msg) : Option Int := synodref3_CheckMessage.f k m.kd m.fr m.to m.tm m.ix m.lt m.cm m.hi m.cx m.rj m.es m.si m.st m.sd
theorem rM {k : Nat} {m : Msg} (hR : Room k m) : rcheckM k m = some (chkM m) := by
  have hk := hR.k0
  unfold rcheckM synodref3_CheckMessage.f chkM
  rw [rwithin_node, rwithin_node, rwithin_node, rwithin_rg, rNumber, rNumber, rNumber, rNumber, rNumber, used_eq]
  simp only [Option.bind_some, and_step2, or_step2]
  by_cases h1 : nodeP m.kd
  · rw [if_neg (by simpa using h1), if_neg (not_not_intro h1)]
    by_cases h2 : nodeP m.fr ∧ nodeP m.to ∧ rg m.tm 1
    · rw [if_neg (not_not_intro h2)]
      by_cases h3 : rg m.ix 0 ∧ rg m.lt 0 ∧ rg m.cm 0 ∧ rg m.hi 0 ∧ rg m.cx 0
      · rw [if_neg (not_not_intro h3), if_neg (by simp [h2, h3]), SameMessage_eq hR, Option.bind_some]
        have hub := used_bare m h1
        by_cases h4 : m.fr = m.to ∨ ¬ bare m
        · have h4' : (decide (m.fr = m.to) || !decide (m = used m)) = true := by
            rw [← hub] at h4; simpa using h4
          rw [if_pos h4, if_pos h4']
        · have h4' : ¬ (decide (m.fr = m.to) || !decide (m = used m)) = true := by
            rw [← hub] at h4; simpa using h4
          rw [if_neg h4, if_neg h4']
          have eapp : synodref3_app.f k m.kd m.fr m.to m.tm m.ix m.lt m.cm m.hi m.cx m.rj m.es m.si m.st m.sd = some (chkA m) := by
            rw [← appA (k := k) (by omega) m h3.1 _ (odd_iff m.lt m.ix)]
            unfold synodref3_app.f codec_appends.f
            rw [rapp_l0, rapp_l1]
          rw [eapp, rP, rnone]
          unfold kindC
          simp only [Option.bind_some]
          by_cases k3 : m.kd = 3
          · rw [if_pos k3, if_neg (by omega), if_pos k3]; rfl
          by_cases k1 : m.kd = 1
          · rw [if_neg k3, if_pos k1, if_pos k1]
            by_cases c1 : m.tm ≤ m.lt ∨ ¬ (m.lt = 0 ↔ m.ix = 0)
            · rw [if_pos c1, if_pos (by rw [Bool.or_eq_true, odd_iff]; simpa using c1)]; rfl
            · rw [if_neg c1, if_neg (by rw [Bool.or_eq_true, odd_iff]; simpa using c1)]; rfl
          rw [if_neg k3, if_neg k1, if_neg k1, if_neg k3]
          by_cases k4 : m.kd = 4
          · rw [if_pos k4, if_pos k4]
            by_cases c1 : m.hi ≠ 0 ∧ m.rj = false
            · rw [if_pos c1, if_pos (by simpa using c1)]; rfl
            · rw [if_neg c1, if_neg (by simpa using c1)]; rfl
          rw [if_neg k4, if_neg k4]
          by_cases k7 : m.kd = 7
          · rw [if_pos k7, if_pos k7]
            by_cases c1 : chkP m.si m.st m.sd = 0
            · have c1' : ¬ (chkP m.si m.st m.sd ≠ 0) := not_not_intro c1
              rw [if_pos c1, if_neg c1']
              by_cases c2 : noneP m.si m.st m.sd ∨ m.tm < m.st
              · have c2' : (decide (noneP m.si m.st m.sd) || decide (m.tm < m.st)) = true := by simpa using c2
                rw [if_pos c2, if_pos c2']; rfl
              · have c2' : ¬ (decide (noneP m.si m.st m.sd) || decide (m.tm < m.st)) = true := by simpa using c2
                rw [if_neg c2, if_neg c2']; rfl
            · have c1' : chkP m.si m.st m.sd ≠ 0 := c1
              rw [if_neg c1, if_pos c1']; rfl
          · rw [if_neg k7, if_neg k7]; rfl
      · rw [if_pos h3, if_pos]
        simp only [Bool.or_eq_true, Bool.not_eq_true', decide_eq_false_iff_not]
        by_cases a1 : rg m.ix 0 <;> by_cases a2 : rg m.lt 0 <;> by_cases a3 : rg m.cm 0 <;> by_cases a4 : rg m.hi 0 <;> simp_all
    · have e0 : ((decide (nodeP m.fr) && decide (nodeP m.to)) && decide (rg m.tm 1)) = false := by
        by_cases a1 : nodeP m.fr <;> by_cases a2 : nodeP m.to <;> simp_all
      rw [if_pos h2, if_pos]
      by_cases a1 : nodeP m.fr <;> by_cases a2 : nodeP m.to <;> simp_all
  · rw [if_pos h1, if_pos (by simpa using h1)]
theorem rput_l0 (l : List EnT) (hl : l.length ≤ 64) (hb : firstBad l = 0) : ∀ (d i k : Nat) (b : List UInt8), i + d = l.length → d + 20 ≤ k → b.length ≤ 100 + i * 4141 → synodref3_PutMessage.l0 l k (i : Int) b 0 = some (b ++ txL (l.drop i), 0)
  | d, i, 0, b, _, hk, _ => by omega
  | 0, i, k + 1, b, h, _, _ => by
    simp only [synodref3_PutMessage.l0]
    rw [if_neg (by omega), List.drop_of_length_le (by omega)]
    simp [txL]
  | d + 1, i, k + 1, b, h, hk, hbl => by
    have hi : i < l.length := by omega
    have hm : l.getD i dEnT ∈ l := by rw [getD_at' _ _ _ hi]; exact List.getElem_mem hi
    have hc := firstBad_all hb _ hm
    have hlen := tEnT_len hc
    simp only [synodref3_PutMessage.l0]
    rw [if_pos (by omega), if_pos (by omega), wi1 (by omega)]
    simp only [Int.toNat_natCast]
    rw [rPutE (by omega)]
    have e1 : putV (chkE (l.getD i dEnT).1 (l.getD i dEnT).2.1 (l.getD i dEnT).2.2.1 (l.getD i dEnT).2.2.2) (txE (l.getD i dEnT).1 (l.getD i dEnT).2.1 (l.getD i dEnT).2.2.1 (l.getD i dEnT).2.2.2) = (tEnT (l.getD i dEnT), 0) := by
      unfold putV; exact if_pos hc
    rw [e1, Option.bind_some]
    simp only []
    rw [rwB (by omega) (by omega) (by omega) (by omega), Option.bind_some]
    simp only []
    have hl1 := bytesV_len ((tEnT (l.getD i dEnT)).length : Int)
    rw [rput_l0 l hl hb d (i + 1) k _ (by omega) (by omega) (by simp only [List.length_append]; omega), drop_at l dEnT hi]
    simp [txL, bB]
def rputM (k : Nat) (m : Msg) : Option (List UInt8 × Int) := synodref3_PutMessage.f k m.kd m.fr m.to m.tm m.ix m.lt m.cm m.hi m.cx m.rj m.es m.si m.st m.sd
theorem rPutM {k : Nat} {m : Msg} (hR : Room k m) : rputM k m = some (putV (chkM m) (txM m)) := by
  have hk := hR.k0
  unfold rputM synodref3_PutMessage.f
  have hc := rM hR
  unfold rcheckM at hc
  rw [hc, Option.bind_some]
  unfold putV
  by_cases hz : chkM m = 0
  · have h := okM hz
    rw [if_pos hz, if_pos hz]
    have b0 := bytesV_len m.kd; have b1 := bytesV_len m.fr; have b2 := bytesV_len m.to; have b3 := bytesV_len m.tm
    have c0 := bytesV_len m.ix; have c1 := bytesV_len m.lt; have c2 := bytesV_len m.cm; have c3 := bytesV_len m.hi; have c4 := bytesV_len m.cx; have c5 := bytesV_len (b01 m.rj); have c6 := bytesV_len (m.es.length : Int)
    unfold txM txK
    rw [rwI (by omega) (by simp) (kdOk h), Option.bind_some]; simp only []
    rw [rwI (by omega) (by simp; omega) h.fr, Option.bind_some]; simp only []
    rw [rwI (by omega) (by simp; omega) h.to, Option.bind_some]; simp only []
    rw [rwI (by omega) (by simp; omega) h.tm, Option.bind_some]; simp only []
    by_cases k1 : m.kd = 1
    · rw [if_pos k1, if_pos k1, rwI (by omega) (by simp; omega) h.ix, Option.bind_some]; simp only []
      rw [rwI (by omega) (by simp; omega) h.lt, Option.bind_some, Option.bind_some, rwD]; simp
    rw [if_neg k1, if_neg k1]
    by_cases k2 : m.kd = 2
    · rw [if_pos k2, if_pos k2, rwO (by omega) (by simp; omega), Option.bind_some, Option.bind_some, rwD]; simp
    rw [if_neg k2, if_neg k2]
    by_cases k3 : m.kd = 3
    · have hes := h.es k3; have hl := txL_len' h k3
      rw [if_pos k3, if_pos k3, rwI (by omega) (by simp; omega) h.ix, Option.bind_some]; simp only []
      rw [rwI (by omega) (by simp; omega) h.lt, Option.bind_some]; simp only []
      rw [rwI (by omega) (by simp; omega) h.cm, Option.bind_some]; simp only []
      rw [rwI (by omega) (by simp; omega) ⟨by omega, by omega⟩, Option.bind_some]; simp only []
      have hp := rput_l0 m.es (by omega) hes.1 m.es.length 0 k (([] ++ bytesV m.kd ++ bytesV m.fr ++ bytesV m.to ++ bytesV m.tm ++ bytesV m.ix ++ bytesV m.lt ++ bytesV m.cm ++ bytesV (m.es.length : Int))) (by omega) (by omega) (by simp; omega)
      rw [Int.natCast_zero] at hp
      rw [hp, Option.bind_some, rwD]
      simp
    rw [if_neg k3, if_neg k3]
    by_cases k4 : m.kd = 4
    · rw [if_pos k4, if_pos k4, rwI (by omega) (by simp; omega) h.ix, Option.bind_some]; simp only []
      rw [rwO (by omega) (by simp; omega), Option.bind_some]; simp only []
      rw [rwI (by omega) (by simp; omega) h.hi, Option.bind_some, Option.bind_some, rwD]; simp
    rw [if_neg k4, if_neg k4]
    by_cases k5 : m.kd = 5
    · rw [if_pos k5, if_pos k5, rwI (by omega) (by simp; omega) h.cm, Option.bind_some]; simp only []
      rw [rwI (by omega) (by simp; omega) h.cx, Option.bind_some, Option.bind_some, rwD]; simp
    rw [if_neg k5, if_neg k5]
    by_cases k6 : m.kd = 6
    · rw [if_pos k6, if_pos k6, rwI (by omega) (by simp; omega) h.cx, Option.bind_some, Option.bind_some, rwD]; simp
    have k7 : m.kd = 7 := by have := h.kd; omega
    have hp := h.sn k7
    have hl := txP_len hp; have hl2 := bytesV_len ((txP m.si m.st m.sd).length : Int)
    rw [if_neg k6, if_neg k6, if_pos k7, if_pos k7, rPutP (by omega), putV_tx hp, Option.bind_some]; simp only []
    rw [rwB (by omega) (by simp; omega) (by omega) (by omega), Option.bind_some, Option.bind_some, rwD]; simp [bB]
  · rw [if_neg hz, if_neg hz]
end Go.Proofs.Ytdoghfenhoigmaa
