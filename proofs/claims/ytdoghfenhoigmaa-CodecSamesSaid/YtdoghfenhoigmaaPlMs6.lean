/- The codec's plain laws: a text is read as what it is of, and what is read of bytes has these bytes as its text. Conditions: as each says. -/
import Derived.Test.YtdoghfenhoigmaaPlMs4a
namespace Go.Proofs.Ytdoghfenhoigmaa
set_option linter.unusedVariables false
set_option linter.unusedSimpArgs false
open Go.RowKit
theorem getE_t {e : EnT} (h : cEnT e = 0) : getE (tEnT e) = (e.1, e.2.1, e.2.2.1, e.2.2.2, 0) := by
  have := getE_tx (t := e.1) (i := e.2.1) (kd := e.2.2.1) (d := e.2.2.2) h []
  rw [List.append_nil, if_pos rfl] at this
  exact this
theorem firstBad_tl {e : EnT} {l : List EnT} (h : firstBad (e :: l) = 0) : cEnT e = 0 ∧ firstBad l = 0 := by
  have h1 := firstBad_all h e (by simp)
  unfold firstBad at h
  rw [if_pos h1] at h
  exact ⟨h1, h⟩
theorem rdEs_at : ∀ (l : List EnT) (b pre r : List UInt8), firstBad l = 0 → b = pre ++ (txL l ++ r) → rdEs b l.length pre.length = (l, (pre ++ txL l).length, 0)
  | [], b, pre, r, _, _ => by simp [rdEs, txL]
  | e :: l, b, pre, r, h, hb => by
    obtain ⟨h1, h2⟩ := firstBad_tl h
    have hl := tEnT_len h1
    have hx : txL (e :: l) = bB (tEnT e) ++ txL l := by simp [txL]
    have e1 := rB_at (b := b) (pre := pre) (r := txL l ++ r) (d := tEnT e) (most := 8192) (by rw [hb, hx]; simp) (by omega) (by omega)
    have ih := rdEs_at l b (pre ++ bB (tEnT e)) r h2 (by rw [hb, hx]; simp)
    have h3 : (rBytes b pre.length 0 8192).2.2 = 0 := by rw [e1]
    have h4 : (getE (rBytes b pre.length 0 8192).1).2.2.2.2 = 0 := by rw [e1, getE_t h1]
    have h5 : (rdEs b l.length (rBytes b pre.length 0 8192).2.1).2.2 = 0 := by rw [e1]; simp only []; rw [ih]
    rw [List.length_cons, rdEs_ok h3 h4 h5, e1]
    simp only []
    rw [ih, getE_t h1, hx]
    simp [Nat.add_assoc]
theorem Msg.ext' {m : Msg} {kd fr to tm ix lt cm hi cx : Int} {rj : Bool} {es : List EnT} {si st : Int} {sd : List UInt8} (h : m.kd = kd ∧ m.fr = fr ∧ m.to = to ∧ m.tm = tm ∧ m.ix = ix ∧ m.lt = lt ∧ m.cm = cm ∧ m.hi = hi ∧ m.cx = cx ∧ m.rj = rj ∧ m.es = es ∧ m.si = si ∧ m.st = st ∧ m.sd = sd) : (⟨kd, fr, to, tm, ix, lt, cm, hi, cx, rj, es, si, st, sd⟩ : Msg) = m := by
  cases m; simp at h ⊢; grind
theorem getM_tx {m : Msg} (hc : chkM m = 0) (r : List UInt8) : getM (txM m ++ r) = if r = [] then (m, 0) else (zM, 3) := by
  have h := okM hc
  have hkd := h.kd
  have hb := h.br
  unfold bare at hb
  generalize hB : txM m ++ r = b
  have e1 := rI_at (b := b) (pre := []) (r := bytesV m.fr ++ (bytesV m.to ++ (bytesV m.tm ++ txK m)) ++ r) (x := m.kd) (by rw [← hB]; simp [txM]) (kdOk h)
  have e2 := rI_at (b := b) (pre := [] ++ bytesV m.kd) (r := bytesV m.to ++ (bytesV m.tm ++ txK m) ++ r) (x := m.fr) (by rw [← hB]; simp [txM]) h.fr
  have e3 := rI_at (b := b) (pre := [] ++ bytesV m.kd ++ bytesV m.fr) (r := bytesV m.tm ++ txK m ++ r) (x := m.to) (by rw [← hB]; simp [txM]) h.to
  have e4 := rI_at (b := b) (pre := [] ++ bytesV m.kd ++ bytesV m.fr ++ bytesV m.to) (r := txK m ++ r) (x := m.tm) (by rw [← hB]; simp [txM]) h.tm
  have hpre : b = ([] ++ bytesV m.kd ++ bytesV m.fr ++ bytesV m.to ++ bytesV m.tm) ++ (txK m ++ r) := by rw [← hB]; simp [txM]
  generalize hP : [] ++ bytesV m.kd ++ bytesV m.fr ++ bytesV m.to ++ bytesV m.tm = P at hpre e4
  have key : ∀ (x : Msg × Nat × Int) (pre : List UInt8), x = (m, pre.length, 0) → b = pre ++ r → finM b x = if r = [] then (m, 0) else (zM, 3) := by
    intro x pre hx hp
    subst hx
    unfold finM
    simp only []
    rw [rEnd_at hp, hc, ends0]
    by_cases hr : r = [] <;> simp [hr]
  have he0 : ¬ ((0 : Int) ≠ 0) := by simp
  unfold getM
  rw [show (0 : Nat) = ([] : List UInt8).length from rfl, e1]; simp only []
  rw [if_neg he0, if_neg (not_not_intro (show nodeP m.kd from hkd)), e2]; simp only []
  rw [e3]; simp only []
  rw [e4]; simp only []
  have hn1 : ∀ n : Int, (n = 1 → False) → n ≠ 1 := fun n h => h
  unfold rdK
  unfold txK at hpre
  by_cases k1 : m.kd = 1
  · rw [if_pos k1] at hpre ⊢
    have a1 := rI_at (b := b) (pre := P) (r := bytesV m.lt ++ r) (x := m.ix) (by rw [hpre]; simp) h.ix
    have a2 := rI_at (b := b) (pre := P ++ bytesV m.ix) (r := r) (x := m.lt) (by rw [hpre]; simp) h.lt
    rw [a1]; simp only []
    rw [a2]; simp only []
    refine key _ (P ++ bytesV m.ix ++ bytesV m.lt) ?_ (by rw [hpre]; simp)
    rw [Msg.ext' (m := m) (by simp [k1] at hb ⊢; grind)]
  rw [if_neg k1] at hpre ⊢
  by_cases k2 : m.kd = 2
  · rw [if_pos k2] at hpre ⊢
    have a1 := rO_at (b := b) (pre := P) (r := r) (v := m.rj) (by rw [hpre])
    rw [a1]; simp only []
    refine key _ (P ++ bytesV (b01 m.rj)) ?_ (by rw [hpre]; simp)
    rw [Msg.ext' (m := m) (by simp [k2] at hb ⊢; grind)]
  rw [if_neg k2] at hpre ⊢
  by_cases k3 : m.kd = 3
  · have hes := h.es k3
    rw [if_pos k3] at hpre ⊢
    have a1 := rI_at (b := b) (pre := P) (r := bytesV m.lt ++ (bytesV m.cm ++ (bytesV (m.es.length : Int) ++ txL m.es)) ++ r) (x := m.ix) (by rw [hpre]; simp) h.ix
    have a2 := rI_at (b := b) (pre := P ++ bytesV m.ix) (r := bytesV m.cm ++ (bytesV (m.es.length : Int) ++ txL m.es) ++ r) (x := m.lt) (by rw [hpre]; simp) h.lt
    have a3 := rI_at (b := b) (pre := P ++ bytesV m.ix ++ bytesV m.lt) (r := bytesV (m.es.length : Int) ++ txL m.es ++ r) (x := m.cm) (by rw [hpre]; simp) h.cm
    have a4 := rI_at (b := b) (pre := P ++ bytesV m.ix ++ bytesV m.lt ++ bytesV m.cm) (r := txL m.es ++ r) (x := (m.es.length : Int)) (by rw [hpre]; simp) ⟨by omega, by omega⟩
    have a5 := rdEs_at m.es b (P ++ bytesV m.ix ++ bytesV m.lt ++ bytesV m.cm ++ bytesV (m.es.length : Int)) r hes.1 (by rw [hpre]; simp)
    rw [a1]; simp only []
    rw [a2]; simp only []
    rw [a3]; simp only []
    rw [a4]; simp only []
    rw [if_neg he0, if_neg (by omega), Int.toNat_natCast, a5]
    refine key _ (P ++ bytesV m.ix ++ bytesV m.lt ++ bytesV m.cm ++ bytesV (m.es.length : Int) ++ txL m.es) ?_ (by rw [hpre]; simp)
    rw [Msg.ext' (m := m) (by simp [k3] at hb ⊢; grind)]
  rw [if_neg k3] at hpre ⊢
  by_cases k4 : m.kd = 4
  · rw [if_pos k4] at hpre ⊢
    have a1 := rI_at (b := b) (pre := P) (r := bytesV (b01 m.rj) ++ bytesV m.hi ++ r) (x := m.ix) (by rw [hpre]; simp) h.ix
    have a2 := rO_at (b := b) (pre := P ++ bytesV m.ix) (r := bytesV m.hi ++ r) (v := m.rj) (by rw [hpre]; simp)
    have a3 := rI_at (b := b) (pre := P ++ bytesV m.ix ++ bytesV (b01 m.rj)) (r := r) (x := m.hi) (by rw [hpre]; simp) h.hi
    rw [a1]; simp only []
    rw [a2]; simp only []
    rw [a3]; simp only []
    refine key _ (P ++ bytesV m.ix ++ bytesV (b01 m.rj) ++ bytesV m.hi) ?_ (by rw [hpre]; simp)
    rw [Msg.ext' (m := m) (by simp [k4] at hb ⊢; grind)]
  rw [if_neg k4] at hpre ⊢
  by_cases k5 : m.kd = 5
  · rw [if_pos k5] at hpre ⊢
    have a1 := rI_at (b := b) (pre := P) (r := bytesV m.cx ++ r) (x := m.cm) (by rw [hpre]; simp) h.cm
    have a2 := rI_at (b := b) (pre := P ++ bytesV m.cm) (r := r) (x := m.cx) (by rw [hpre]; simp) h.cx
    rw [a1]; simp only []
    rw [a2]; simp only []
    refine key _ (P ++ bytesV m.cm ++ bytesV m.cx) ?_ (by rw [hpre]; simp)
    rw [Msg.ext' (m := m) (by simp [k5] at hb ⊢; grind)]
  rw [if_neg k5] at hpre ⊢
  by_cases k6 : m.kd = 6
  · rw [if_pos k6] at hpre ⊢
    have a1 := rI_at (b := b) (pre := P) (r := r) (x := m.cx) (by rw [hpre]) h.cx
    rw [a1]; simp only []
    refine key _ (P ++ bytesV m.cx) ?_ (by rw [hpre]; simp)
    rw [Msg.ext' (m := m) (by simp [k6] at hb ⊢; grind)]
  have k7 : m.kd = 7 := by omega
  have hp := h.sn k7
  have hl := txP_len hp
  rw [if_neg k6, if_pos k7] at hpre
  rw [if_neg k6]
  have a1 := rB_at (b := b) (pre := P) (r := r) (d := txP m.si m.st m.sd) (most := 1048576) (by rw [hpre]) (by omega) (by omega)
  have a2 := getP_tx hp []
  rw [List.append_nil, if_pos rfl] at a2
  rw [a1]; simp only []
  rw [if_neg he0, a2]
  refine key _ (P ++ bB (txP m.si m.st m.sd)) ?_ (by rw [hpre]; simp)
  rw [Msg.ext' (m := m) (by simp [k7] at hb ⊢; grind)]
/-! ### Back: the text of what was read -/
theorem rI_rev {b : List UInt8} {p : Nat} {e : Int} (hp : p ≤ b.length) (h : (rI b p e).2.2 = 0) : e = 0 ∧ okN (rI b p e).1 ∧ b.drop p = bytesV (rI b p e).1 ++ b.drop (rI b p e).2.1 ∧ (rI b p e).2.1 ≤ b.length := by
  have he : e = 0 := Classical.byContradiction fun x => by rw [rI_err x] at h; exact x h
  subst he
  refine ⟨rfl, ?_⟩
  have hle := rI_le (e := 0) hp
  unfold rI rPos rNum at h hle ⊢
  simp only [if_true] at h hle ⊢
  unfold decAt at h hle ⊢
  by_cases hat : (p : Int) < 0 ∨ (b.length : Int) ≤ (p : Int)
  · rw [if_pos hat] at h; simp at h
  rw [if_neg hat] at h hle ⊢
  simp only [Int.toNat_natCast] at h hle ⊢
  obtain ⟨i, hi, h9, hlt, hz, hv, hd⟩ := dec_ok h
  rw [hd] at hle ⊢
  simp only [Int.toNat_natCast] at hle ⊢
  have ho : okN ((part7 (i + 1) (b.drop p) : Nat) : Int) := ⟨by omega, by omega⟩
  refine ⟨ho, ?_, hle⟩
  have e1 : bytesV ((part7 (i + 1) (b.drop p) : Nat) : Int) = sv (part7 (i + 1) (b.drop p)) := by unfold bytesV; rw [if_pos ho]; rfl
  rw [e1, ← val7_part, sv_val i (b.drop p) hi hlt hz]
  rw [← List.drop_drop, List.take_append_drop]
theorem rB_rev {b : List UInt8} {p : Nat} {e most : Int} (hp : p ≤ b.length) (h : (rBytes b p e most).2.2 = 0) : e = 0 ∧ b.drop p = bB (rBytes b p e most).1 ++ b.drop (rBytes b p e most).2.1 ∧ (rBytes b p e most).2.1 ≤ b.length ∧ ((rBytes b p e most).1.length : Int) ≤ max most 0 := by
  have hle := (rBytes_le (e := e) (most := most) hp).1
  have hh := h
  unfold rBytes at h hle ⊢
  simp only [] at h hle ⊢
  by_cases hr : (rNum b p e).2.2 = 0
  · rw [if_pos hr] at h hle ⊢
    by_cases hm : max most 0 < (rNum b p e).1
    · rw [if_pos hm] at h; simp at h
    rw [if_neg hm] at h hle ⊢
    by_cases hs : (b.length : Int) - (rPos b p e : Nat) < (rNum b p e).1
    · rw [if_pos hs] at h; simp at h
    rw [if_neg hs] at hle ⊢
    have hrev := rI_rev (e := e) hp (show (rI b p e).2.2 = 0 from hr)
    unfold rI at hrev
    simp only [] at hrev
    obtain ⟨h1, h2, h3, h4⟩ := hrev
    refine ⟨h1, ?_, hle, ?_⟩
    · simp only []
      have hlen : (((b.drop (rPos b p e)).take (rNum b p e).1.toNat).length : Int) = (rNum b p e).1 := by
        have := h2.1
        rw [List.length_take, List.length_drop]; omega
      unfold bB
      rw [hlen, h3, List.append_assoc]
      congr 1
      rw [← List.drop_drop, List.take_append_drop]
    · simp only []
      have := h2.1
      rw [List.length_take, List.length_drop]; omega
  · rw [if_neg hr] at h; exact absurd h hr
theorem rO_rev {b : List UInt8} {p : Nat} {e : Int} (hp : p ≤ b.length) (h : (rBool b p e).2.2 = 0) : e = 0 ∧ b.drop p = bytesV (b01 (rBool b p e).1) ++ b.drop (rBool b p e).2.1 ∧ (rBool b p e).2.1 ≤ b.length := by
  have hle := rBool_le (e := e) hp
  unfold rBool at h hle ⊢
  simp only [] at h hle ⊢
  by_cases hr : (rNum b p e).2.2 = 0
  · rw [if_pos hr] at h hle ⊢
    by_cases hm : 1 < (rNum b p e).1
    · rw [if_pos hm] at h; simp at h
    rw [if_neg hm] at hle ⊢
    have hrev := rI_rev (e := e) hp (show (rI b p e).2.2 = 0 from hr)
    unfold rI at hrev
    simp only [] at hrev
    obtain ⟨h1, h2, h3, h4⟩ := hrev
    refine ⟨h1, ?_, hle⟩
    rw [h3]
    have h5 := h2.1
    have : (rNum b p e).1 = b01 (decide ((rNum b p e).1 = 1)) := by
      unfold b01
      by_cases h6 : (rNum b p e).1 = 1
      · simp [h6]
      · simp [h6]; omega
    rw [← this]
  · rw [if_neg hr] at h; exact absurd h hr
theorem ends_zero {e c : Int} (h : ends e c = 0) : e = 0 ∧ c = 0 := by unfold ends at h; split at h; exact ⟨‹_›, h⟩; exact absurd h ‹_›
theorem rEnd_zero {b : List UInt8} {p : Nat} {e : Int} (h : rEnd b p e = 0) : e = 0 ∧ b.length ≤ p := by
  unfold rEnd at h
  split at h
  · simp at h
  · rename_i h1
    exact ⟨h, Classical.byContradiction fun x => h1 ⟨h, by omega⟩⟩
theorem getE_rev {b : List UInt8} (h : (getE b).2.2.2.2 = 0) : chkE (getE b).1 (getE b).2.1 (getE b).2.2.1 (getE b).2.2.2.1 = 0 ∧ txE (getE b).1 (getE b).2.1 (getE b).2.2.1 (getE b).2.2.2.1 = b := by
  unfold getE at h ⊢
  simp only [] at h ⊢
  split at h
  · rename_i hz
    rw [if_pos hz]
    simp only []
    obtain ⟨z1, z2⟩ := ends_zero hz
    refine ⟨z2, ?_⟩
    obtain ⟨y1, y2⟩ := rEnd_zero z1
    have p0 : (0 : Nat) ≤ b.length := Nat.zero_le _
    have p1 := rI_le (e := 0) p0; have p2 := rI_le (e := (rI b 0 0).2.2) p1; have p3 := rI_le (e := (rI b (rI b 0 0).2.1 (rI b 0 0).2.2).2.2) p2
    obtain ⟨x1, x2, x3, x4⟩ := rB_rev p3 y1
    obtain ⟨w1, w2, w3, w4⟩ := rI_rev p2 x1
    obtain ⟨v1, v2, v3, v4⟩ := rI_rev p1 w1
    obtain ⟨u1, u2, u3, u4⟩ := rI_rev p0 v1
    rw [List.drop_of_length_le y2, List.append_nil] at x2
    rw [x2] at w3; rw [w3] at v3; rw [v3] at u3
    rw [List.drop_zero] at u3
    exact u3.symm
  · rename_i hz; exact absurd h hz
theorem getP_rev {b : List UInt8} (h : (getP b).2.2.2 = 0) : chkP (getP b).1 (getP b).2.1 (getP b).2.2.1 = 0 ∧ txP (getP b).1 (getP b).2.1 (getP b).2.2.1 = b := by
  unfold getP at h ⊢
  simp only [] at h ⊢
  split at h
  · rename_i hz
    rw [if_pos hz]
    simp only []
    obtain ⟨z1, z2⟩ := ends_zero hz
    refine ⟨z2, ?_⟩
    obtain ⟨y1, y2⟩ := rEnd_zero z1
    have p0 : (0 : Nat) ≤ b.length := Nat.zero_le _
    have p1 := rI_le (e := 0) p0; have p2 := rI_le (e := (rI b 0 0).2.2) p1
    obtain ⟨x1, x2, x3, x4⟩ := rB_rev p2 y1
    obtain ⟨v1, v2, v3, v4⟩ := rI_rev p1 x1
    obtain ⟨u1, u2, u3, u4⟩ := rI_rev p0 v1
    rw [List.drop_of_length_le y2, List.append_nil] at x2
    rw [x2] at v3; rw [v3] at u3
    rw [List.drop_zero] at u3
    exact u3.symm
  · rename_i hz; exact absurd h hz
theorem rdEs_rev {b : List UInt8} : ∀ (n p : Nat), p ≤ b.length → (rdEs b n p).2.2 = 0 → (rdEs b n p).1.length = n ∧ b.drop p = txL (rdEs b n p).1 ++ b.drop (rdEs b n p).2.1
  | 0, p, hp, _ => by simp [rdEs, txL]
  | n + 1, p, hp, h => by
    by_cases hd : (rBytes b p 0 8192).2.2 = 0
    · by_cases hx : (getE (rBytes b p 0 8192).1).2.2.2.2 = 0
      · by_cases hr : (rdEs b n (rBytes b p 0 8192).2.1).2.2 = 0
        · rw [rdEs_ok hd hx hr]
          have hq := (rBytes_le (b := b) (e := 0) (most := 8192) hp).1
          obtain ⟨i1, i2⟩ := rdEs_rev n _ hq hr
          obtain ⟨_, x2, x3, x4⟩ := rB_rev hp hd
          obtain ⟨g1, g2⟩ := getE_rev hx
          refine ⟨by simp only [List.length_cons]; omega, ?_⟩
          simp only []
          rw [x2, i2]
          have : txL (((getE (rBytes b p 0 8192).1).1, (getE (rBytes b p 0 8192).1).2.1, (getE (rBytes b p 0 8192).1).2.2.1, (getE (rBytes b p 0 8192).1).2.2.2.1) :: (rdEs b n (rBytes b p 0 8192).2.1).1) = bB (rBytes b p 0 8192).1 ++ txL (rdEs b n (rBytes b p 0 8192).2.1).1 := by
            simp only [txL, List.flatMap_cons, tEnT]
            rw [g2]
          rw [this, List.append_assoc]
        · rw [rdEs_r hd hx hr] at h; exact absurd h hr
      · rw [rdEs_x hd hx] at h; exact absurd h hx
    · rw [rdEs_d hd] at h; exact absurd h hd
/-- What the kind has, read and laid down again. -/
theorem rdK_rev {b : List UInt8} {kd fr to tm : Int} {p : Nat} {e : Int} (hkd : nodeP kd) (hp : p ≤ b.length) (h : (rdK b kd fr to tm p e).2.2 = 0) :
    e = 0 ∧ (rdK b kd fr to tm p e).1.kd = kd ∧ (rdK b kd fr to tm p e).1.fr = fr ∧ (rdK b kd fr to tm p e).1.to = to ∧ (rdK b kd fr to tm p e).1.tm = tm ∧ b.drop p = txK (rdK b kd fr to tm p e).1 ++ b.drop (rdK b kd fr to tm p e).2.1 := by
  have q1 := rI_le (e := e) hp
  have q2 := rI_le (e := (rI b p e).2.2) q1
  have q3 := rI_le (e := (rI b (rI b p e).2.1 (rI b p e).2.2).2.2) q2
  unfold rdK at h ⊢
  simp only [] at h ⊢
  by_cases k1 : kd = 1
  · rw [if_pos k1] at h ⊢
    obtain ⟨a1, a2, a3, a4⟩ := rI_rev q1 h
    obtain ⟨c1, c2, c3, c4⟩ := rI_rev hp a1
    refine ⟨c1, rfl, rfl, rfl, rfl, ?_⟩
    simp only [txK]
    rw [if_pos k1, c3, a3, List.append_assoc]
  rw [if_neg k1] at h ⊢
  by_cases k2 : kd = 2
  · rw [if_pos k2] at h ⊢
    obtain ⟨a1, a2, a3⟩ := rO_rev hp h
    refine ⟨a1, rfl, rfl, rfl, rfl, ?_⟩
    simp only [txK]
    rw [if_neg k1, if_pos k2, a2]
  rw [if_neg k2] at h ⊢
  by_cases k3 : kd = 3
  · rw [if_pos k3] at h ⊢
    generalize hn : rI b (rI b (rI b (rI b p e).2.1 (rI b p e).2.2).2.1 (rI b (rI b p e).2.1 (rI b p e).2.2).2.2).2.1 (rI b (rI b (rI b p e).2.1 (rI b p e).2.2).2.1 (rI b (rI b p e).2.1 (rI b p e).2.2).2.2).2.2 = n at h ⊢
    by_cases hne : n.2.2 ≠ 0
    · rw [if_pos hne] at h; exact absurd h hne
    rw [if_neg hne] at h ⊢
    by_cases h64 : 64 < n.1
    · rw [if_pos h64] at h; simp at h
    rw [if_neg h64] at h ⊢
    have hne := Classical.not_not.1 hne
    have n1 := rI_rev (b := b) q3 (by rw [hn]; exact hne)
    rw [hn] at n1
    obtain ⟨n2, n3, n4, n5⟩ := n1
    obtain ⟨d1, d2, d3, d4⟩ := rI_rev q2 n2
    obtain ⟨a1, a2, a3, a4⟩ := rI_rev q1 d1
    obtain ⟨c1, c2, c3, c4⟩ := rI_rev hp a1
    obtain ⟨r1, r2⟩ := rdEs_rev _ _ n5 h
    refine ⟨c1, rfl, rfl, rfl, rfl, ?_⟩
    simp only [txK]
    have hnv : ((rdEs b n.1.toNat n.2.1).1.length : Int) = n.1 := by rw [r1]; have := n3.1; omega
    rw [if_neg k1, if_neg k2, if_pos k3, hnv, c3, a3, d3, n4, r2]
    simp only [List.append_assoc]
  rw [if_neg k3] at h ⊢
  by_cases k4 : kd = 4
  · rw [if_pos k4] at h ⊢
    have qb := rBool_le (e := (rI b p e).2.2) q1
    obtain ⟨d1, d2, d3, d4⟩ := rI_rev qb h
    obtain ⟨a1, a2, a3⟩ := rO_rev q1 d1
    obtain ⟨c1, c2, c3, c4⟩ := rI_rev hp a1
    refine ⟨c1, rfl, rfl, rfl, rfl, ?_⟩
    simp only [txK]
    rw [if_neg k1, if_neg k2, if_neg k3, if_pos k4, c3, a2, d3]
    simp only [List.append_assoc]
  rw [if_neg k4] at h ⊢
  by_cases k5 : kd = 5
  · rw [if_pos k5] at h ⊢
    obtain ⟨a1, a2, a3, a4⟩ := rI_rev q1 h
    obtain ⟨c1, c2, c3, c4⟩ := rI_rev hp a1
    refine ⟨c1, rfl, rfl, rfl, rfl, ?_⟩
    simp only [txK]
    rw [if_neg k1, if_neg k2, if_neg k3, if_neg k4, if_pos k5, c3, a3, List.append_assoc]
  rw [if_neg k5] at h ⊢
  by_cases k6 : kd = 6
  · rw [if_pos k6] at h ⊢
    obtain ⟨c1, c2, c3, c4⟩ := rI_rev hp h
    refine ⟨c1, rfl, rfl, rfl, rfl, ?_⟩
    simp only [txK]
    rw [if_neg k1, if_neg k2, if_neg k3, if_neg k4, if_neg k5, if_pos k6, c3]
  have k7 : kd = 7 := by have := hkd.1; have := hkd.2; omega
  rw [if_neg k6] at h ⊢
  by_cases hd : (rBytes b p e 1048576).2.2 ≠ 0
  · rw [if_pos hd] at h; exact absurd h hd
  rw [if_neg hd] at h ⊢
  have hd := Classical.not_not.1 hd
  obtain ⟨c1, c2, c3, c4⟩ := rB_rev hp hd
  obtain ⟨g1, g2⟩ := getP_rev h
  refine ⟨c1, rfl, rfl, rfl, rfl, ?_⟩
  simp only [txK]
  rw [if_neg k1, if_neg k2, if_neg k3, if_neg k4, if_neg k5, if_neg k6, if_pos k7, g2]
  exact c2
theorem getM_rev {b : List UInt8} (h : (getM b).2 = 0) : chkM (getM b).1 = 0 ∧ txM (getM b).1 = b := by
  have p0 : (0 : Nat) ≤ b.length := Nat.zero_le _
  have p1 := rI_le (e := 0) p0
  have p2 := rI_le (e := 0) p1
  have p3 := rI_le (e := (rI b (rI b 0 0).2.1 0).2.2) p2
  have p4 := rI_le (e := (rI b (rI b (rI b 0 0).2.1 0).2.1 (rI b (rI b 0 0).2.1 0).2.2).2.2) p3
  unfold getM at h ⊢
  simp only [] at h ⊢
  by_cases ha : (rI b 0 0).2.2 ≠ 0
  · rw [if_pos ha] at h; exact absurd h ha
  rw [if_neg ha] at h ⊢
  by_cases hn : ¬ nodeP (rI b 0 0).1
  · rw [if_pos hn] at h; simp at h
  rw [if_neg hn] at h ⊢
  have hn := Classical.not_not.1 hn
  have ha := Classical.not_not.1 ha
  generalize hx : rdK b (rI b 0 0).1 _ _ _ _ _ = x at h ⊢
  unfold finM at h ⊢
  simp only [] at h ⊢
  by_cases hz : ends (rEnd b x.2.1 x.2.2) (chkM x.1) = 0
  · rw [if_pos hz]
    simp only []
    obtain ⟨z1, z2⟩ := ends_zero hz
    obtain ⟨y1, y2⟩ := rEnd_zero z1
    refine ⟨z2, ?_⟩
    have hk := rdK_rev (b := b) hn p4 (by rw [hx]; exact y1)
    rw [hx] at hk
    obtain ⟨m1, m2, m3, m4, m5, m6⟩ := hk
    obtain ⟨t1, t2, t3, t4⟩ := rI_rev p3 m1
    obtain ⟨f1, f2, f3, f4⟩ := rI_rev p2 t1
    obtain ⟨g1, g2, g3, g4⟩ := rI_rev p1 f1
    obtain ⟨a1, a2, a3, a4⟩ := rI_rev p0 ha
    rw [List.drop_of_length_le y2, List.append_nil] at m6
    rw [m6] at t3; rw [t3] at f3; rw [f3] at g3; rw [g3] at a3
    rw [List.drop_zero] at a3
    unfold txM
    rw [m2, m3, m4, m5]
    exact a3.symm
  · rw [if_neg hz] at h; exact absurd h hz
end Go.Proofs.Ytdoghfenhoigmaa
