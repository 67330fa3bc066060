/- The codec's plain laws: a message's text, as the program puts it. Conditions: as each says. -/
import Derived.Test.YtdoghfenhoigmaaPlMs
namespace Go.Proofs.Ytdoghfenhoigmaa
set_option linter.unusedVariables false
set_option linter.unusedSimpArgs false
open Go.RowKit
theorem kindC_es {m : Msg} (h : chkM m = 0) (h3 : m.kd = 3) : firstBad m.es = 0 ∧ (m.es.length : Int) ≤ 64 := by
  unfold chkM at h
  (repeat' split at h) <;> try omega
  unfold kindC at h
  rw [if_neg (by omega), if_pos h3] at h
  unfold chkA at h
  split at h
  · omega
  · split at h
    · rename_i _ _ _ _ _ h9; exact absurd h h9
    · rename_i _ _ _ _ h8 h9
      exact ⟨Classical.not_not.1 h9, by omega⟩
theorem firstBad_all : ∀ {l : List EnT}, firstBad l = 0 → ∀ e ∈ l, cEnT e = 0
  | [], _, e, he => by cases he
  | x :: l, h, e, he => by
    unfold firstBad at h
    split at h
    · rcases List.mem_cons.1 he with rfl | he
      · assumption
      · exact firstBad_all h e he
    · exact absurd h ‹_›
structure OkM (m : Msg) : Prop where
  kd : 1 ≤ m.kd ∧ m.kd ≤ 7
  fr : okN m.fr
  to : okN m.to
  tm : okN m.tm
  ix : okN m.ix
  lt : okN m.lt
  cm : okN m.cm
  hi : okN m.hi
  cx : okN m.cx
  es : m.kd = 3 → firstBad m.es = 0 ∧ (m.es.length : Int) ≤ 64
  sn : m.kd = 7 → chkP m.si m.st m.sd = 0
  br : bare m
theorem okM {m : Msg} (h : chkM m = 0) : OkM m := by
  have hes := kindC_es h
  unfold chkM at h
  by_cases h1 : ¬ nodeP m.kd
  · rw [if_pos h1] at h; omega
  rw [if_neg h1] at h
  by_cases h2 : ¬ (nodeP m.fr ∧ nodeP m.to ∧ rg m.tm 1)
  · rw [if_pos h2] at h; omega
  rw [if_neg h2] at h
  by_cases h3 : ¬ (rg m.ix 0 ∧ rg m.lt 0 ∧ rg m.cm 0 ∧ rg m.hi 0 ∧ rg m.cx 0)
  · rw [if_pos h3] at h; omega
  rw [if_neg h3] at h
  by_cases h4 : m.fr = m.to ∨ ¬ bare m
  · rw [if_pos h4] at h; omega
  rw [if_neg h4] at h
  have h1 := Classical.not_not.1 h1
  obtain ⟨f1, f2, f3⟩ := Classical.not_not.1 h2
  obtain ⟨g1, g2, g3, g4, g5⟩ := Classical.not_not.1 h3
  refine ⟨h1, ⟨by have := f1.1; omega, by have := f1.2; omega⟩, ⟨by have := f2.1; omega, by have := f2.2; omega⟩, rg_ok f3 (by decide), rg_ok g1 (by decide), rg_ok g2 (by decide), rg_ok g3 (by decide), rg_ok g4 (by decide), rg_ok g5 (by decide), hes, fun h7 => ?_, Classical.byContradiction fun x => h4 (.inr x)⟩
  unfold kindC at h
  rw [if_neg (by omega), if_neg (by omega), if_neg (by omega), if_pos h7] at h
  split at h
  · exact absurd h ‹_›
  · rename_i h9; exact Classical.not_not.1 h9
def txL (l : List EnT) : List UInt8 := l.flatMap fun e => bB (tEnT e)
def txK (m : Msg) : List UInt8 :=
  if m.kd = 1 then bytesV m.ix ++ bytesV m.lt else if m.kd = 2 then bytesV (b01 m.rj) else if m.kd = 3 then bytesV m.ix ++ (bytesV m.lt ++ (bytesV m.cm ++ (bytesV (m.es.length : Int) ++ txL m.es))) else
  if m.kd = 4 then bytesV m.ix ++ (bytesV (b01 m.rj) ++ bytesV m.hi) else if m.kd = 5 then bytesV m.cm ++ bytesV m.cx else if m.kd = 6 then bytesV m.cx else if m.kd = 7 then bB (txP m.si m.st m.sd) else []
def txM (m : Msg) : List UInt8 := bytesV m.kd ++ (bytesV m.fr ++ (bytesV m.to ++ (bytesV m.tm ++ txK m)))
theorem tEnT_len {e : EnT} (h : cEnT e = 0) : (tEnT e).length ≤ 4132 := by
  obtain ⟨_, _, _, h4, _⟩ := chkE_ok h
  unfold tEnT txE
  have b1 := bytesV_len e.1; have b2 := bytesV_len e.2.1; have b3 := bytesV_len e.2.2.1; have b4 := bB_len e.2.2.2
  simp only [List.length_append]; omega
theorem txL_len : ∀ {l : List EnT}, firstBad l = 0 → (txL l).length ≤ l.length * 4141
  | [], _ => by simp [txL]
  | e :: l, h => by
    have h1 := firstBad_all h e (by simp)
    have h2 : firstBad l = 0 := by unfold firstBad at h; rw [if_pos h1] at h; exact h
    have h3 := txL_len h2
    have h4 := tEnT_len h1
    have h5 := bB_len (tEnT e)
    unfold txL at h3 ⊢
    simp only [List.flatMap_cons, List.length_append, List.length_cons]
    omega
theorem put_l0 (l : List EnT) (hl : l.length ≤ 64) (hb : firstBad l = 0) : ∀ (d i k : Nat) (b : List UInt8), i + d = l.length → d + 20 ≤ k → b.length ≤ 100 + i * 4141 → codec_Messages_Put_1.l0 l k (i : Int) b 0 = some (b ++ txL (l.drop i), 0)
  | d, i, 0, b, _, hk, _ => by omega
  | 0, i, k + 1, b, h, _, _ => by
    simp only [codec_Messages_Put_1.l0]
    rw [if_neg (by omega), List.drop_of_length_le (by omega)]
    simp [txL]
  | d + 1, i, k + 1, b, h, hk, hbl => by
    have hi : i < l.length := by omega
    have hm : l.getD i dEnT ∈ l := by rw [getD_at' _ _ _ hi]; exact List.getElem_mem hi
    have hc := firstBad_all hb _ hm
    have hlen := tEnT_len hc
    simp only [codec_Messages_Put_1.l0]
    rw [if_pos (by omega), if_pos (by omega), wi1 (by omega)]
    simp only [Int.toNat_natCast]
    rw [cPutE (by omega)]
    have e1 : putV (chkE (l.getD i dEnT).1 (l.getD i dEnT).2.1 (l.getD i dEnT).2.2.1 (l.getD i dEnT).2.2.2) (txE (l.getD i dEnT).1 (l.getD i dEnT).2.1 (l.getD i dEnT).2.2.1 (l.getD i dEnT).2.2.2) = (tEnT (l.getD i dEnT), 0) := by
      unfold putV; exact if_pos hc
    rw [e1, Option.bind_some]
    simp only []
    rw [wB (by omega) (by omega) (by omega) (by omega), Option.bind_some]
    simp only []
    have hl1 := bytesV_len ((tEnT (l.getD i dEnT)).length : Int)
    rw [put_l0 l hl hb d (i + 1) k _ (by omega) (by omega) (by simp only [List.length_append]; omega), drop_at l dEnT hi]
    simp [txL, bB]
def putM (k : Nat) (m : Msg) : Option (List UInt8 × Int) := codec_Messages_Put.f k m.kd m.fr m.to m.tm m.ix m.lt m.cm m.hi m.cx m.rj m.es m.si m.st m.sd
theorem txP_len {i t : Int} {d : List UInt8} (h : chkP i t d = 0) : (txP i t d).length ≤ 524288 + 27 := by
  obtain ⟨_, _, h4⟩ := chkP_ok h
  unfold txP
  have b1 := bytesV_len i; have b2 := bytesV_len t; have b4 := bB_len d
  simp only [List.length_append]; omega
theorem kdOk {m : Msg} (h : OkM m) : okN m.kd := ⟨by have := h.kd; omega, by have := h.kd; omega⟩
theorem txL_len' {m : Msg} (h : OkM m) (h3 : m.kd = 3) : (txL m.es).length ≤ 265024 := by
  have := txL_len (h.es h3).1
  have := (h.es h3).2
  omega
theorem putV_tx {i t : Int} {d : List UInt8} (h : chkP i t d = 0) : putV (chkP i t d) (txP i t d) = (txP i t d, 0) := if_pos h
theorem put1M {k : Nat} (hk : 100 ≤ k) {m : Msg} (h : OkM m) : codec_Messages_Put_1.f k [] 0 m.kd m.fr m.to m.tm m.ix m.lt m.cm m.hi m.cx m.rj m.es m.si m.st m.sd = some (txM m, 0) ∧ (txM m).length ≤ 600000 := by
  have b0 := bytesV_len m.kd; have b1 := bytesV_len m.fr; have b2 := bytesV_len m.to; have b3 := bytesV_len m.tm
  have c0 := bytesV_len m.ix; have c1 := bytesV_len m.lt; have c2 := bytesV_len m.cm; have c3 := bytesV_len m.hi; have c4 := bytesV_len m.cx; have c5 := bytesV_len (b01 m.rj); have c6 := bytesV_len (m.es.length : Int)
  unfold codec_Messages_Put_1.f txM txK
  rw [wI (by omega) (by simp) (kdOk h), Option.bind_some]; simp only []
  rw [wI (by omega) (by simp; omega) h.fr, Option.bind_some]; simp only []
  rw [wI (by omega) (by simp; omega) h.to, Option.bind_some]; simp only []
  rw [wI (by omega) (by simp; omega) h.tm, Option.bind_some]; simp only []
  by_cases k1 : m.kd = 1
  · rw [if_pos k1, if_pos k1, wI (by omega) (by simp; omega) h.ix, Option.bind_some]; simp only []
    rw [wI (by omega) (by simp; omega) h.lt, Option.bind_some]; simp; omega
  rw [if_neg k1, if_neg k1]
  by_cases k2 : m.kd = 2
  · rw [if_pos k2, if_pos k2, wO (by omega) (by simp; omega), Option.bind_some]; simp; omega
  rw [if_neg k2, if_neg k2]
  by_cases k3 : m.kd = 3
  · have hes := h.es k3; have hl := txL_len' h k3
    rw [if_pos k3, if_pos k3, wI (by omega) (by simp; omega) h.ix, Option.bind_some]; simp only []
    rw [wI (by omega) (by simp; omega) h.lt, Option.bind_some]; simp only []
    rw [wI (by omega) (by simp; omega) h.cm, Option.bind_some]; simp only []
    rw [wI (by omega) (by simp; omega) ⟨by omega, by omega⟩, Option.bind_some]; simp only []
    have hp := put_l0 m.es (by omega) hes.1 m.es.length 0 k (([] ++ bytesV m.kd ++ bytesV m.fr ++ bytesV m.to ++ bytesV m.tm ++ bytesV m.ix ++ bytesV m.lt ++ bytesV m.cm ++ bytesV (m.es.length : Int))) (by omega) (by omega) (by simp; omega)
    rw [Int.natCast_zero] at hp
    rw [hp]
    simp; omega
  rw [if_neg k3, if_neg k3]
  by_cases k4 : m.kd = 4
  · rw [if_pos k4, if_pos k4, wI (by omega) (by simp; omega) h.ix, Option.bind_some]; simp only []
    rw [wO (by omega) (by simp; omega), Option.bind_some]; simp only []
    rw [wI (by omega) (by simp; omega) h.hi, Option.bind_some]; simp; omega
  rw [if_neg k4, if_neg k4]
  by_cases k5 : m.kd = 5
  · rw [if_pos k5, if_pos k5, wI (by omega) (by simp; omega) h.cm, Option.bind_some]; simp only []
    rw [wI (by omega) (by simp; omega) h.cx, Option.bind_some]; simp; omega
  rw [if_neg k5, if_neg k5]
  by_cases k6 : m.kd = 6
  · rw [if_pos k6, if_pos k6, wI (by omega) (by simp; omega) h.cx, Option.bind_some]; simp; omega
  have k7 : m.kd = 7 := by have := h.kd; omega
  have hp := h.sn k7
  have hl := txP_len hp; have hl2 := bytesV_len ((txP m.si m.st m.sd).length : Int)
  rw [if_neg k6, if_neg k6, if_pos k7, if_pos k7, cPutP (by omega), putV_tx hp, Option.bind_some]; simp only []
  rw [wB (by omega) (by simp; omega) (by omega) (by omega), Option.bind_some]; simp [bB]; omega
theorem cPutM {k : Nat} (hk : 100 ≤ k) (m : Msg) : putM k m = some (putV (chkM m) (txM m)) := by
  unfold putM codec_Messages_Put.f codec_text_codec_Messages_Put_1.f
  have hc := cM (k := k) (by omega) m
  unfold checkM at hc
  rw [hc, Option.bind_some]
  unfold putV
  by_cases h : chkM m = 0
  · obtain ⟨h1, h2⟩ := put1M hk (okM h)
    rw [if_pos h, if_pos h, show wire_NewWriter.f = some ([], 0) from rfl, Option.bind_some]; simp only []
    rw [h1, Option.bind_some]; simp only []
    rw [wD (by omega)]; rfl
  · rw [if_neg h, if_neg h]; rfl
end Go.Proofs.Ytdoghfenhoigmaa
