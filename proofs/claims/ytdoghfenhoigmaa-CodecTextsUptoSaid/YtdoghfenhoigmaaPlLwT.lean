/- The plain law CodecTexts. Conditions: as it says. -/
import Derived.Test.YtdoghfenhoigmaaPlMv0
import Derived.Test.YtdoghfenhoigmaaPlCdF
import Derived.Test.YtdoghfenhoigmaaPlCdC
import Derived.Test.YtdoghfenhoigmaaRw3
namespace Go.Proofs.Ytdoghfenhoigmaa
set_option linter.unusedVariables false
set_option linter.unusedSimpArgs false
open Go.RowKit
abbrev CmT := Int × Int × Int × List UInt8 × List UInt8 × List UInt8
abbrev dCmT : CmT := ((0 : Int), (0 : Int), (0 : Int), ([] : List UInt8), ([] : List UInt8), ([] : List UInt8))
def cCmT (e : CmT) : Int := chkC e.1 e.2.1 e.2.2.1 e.2.2.2.1 e.2.2.2.2.1 e.2.2.2.2.2
def tCmT (e : CmT) : List UInt8 := txC e.1 e.2.1 e.2.2.1 e.2.2.2.1 e.2.2.2.2.1 e.2.2.2.2.2
theorem tCmT_len {e : CmT} (h : cCmT e = 0) : (tCmT e).length ≤ 2200 := txC_len h
def badC : List CmT → Int
  | [] => 0
  | e :: l => if cCmT e = 0 then badC l else cCmT e
theorem badC_all : ∀ {l : List CmT}, badC l = 0 → ∀ e ∈ l, cCmT e = 0
  | x :: l, h, e, he => by
    unfold badC at h
    by_cases hx : cCmT x = 0
    · rw [if_pos hx] at h
      rcases List.mem_cons.1 he with rfl | he
      · exact hx
      · exact badC_all h e he
    · rw [if_neg hx] at h; exact absurd h hx
def txCs (l : List CmT) : List UInt8 := l.flatMap fun e => bB (tCmT e)
theorem txCs_len : ∀ {l : List CmT}, (∀ e ∈ l, cCmT e = 0) → (txCs l).length ≤ l.length * 2209
  | [], _ => by simp [txCs]
  | e :: l, h => by
    have h1 := tCmT_len (h e (by simp))
    have h3 := txCs_len (l := l) (fun x hx => h x (by simp [hx]))
    have h5 := bB_len (tCmT e)
    unfold txCs at h3 ⊢
    simp only [List.flatMap_cons, List.length_append, List.length_cons]
    omega
def putCs (l : List CmT) : List UInt8 × Int := if badC l = 0 then (bytesV (l.length : Int) ++ txCs l, 0) else ([], badC l)
theorem putC_at (l : List CmT) (i : Nat) (k : Nat) (hk : 10 ≤ k) : codec_Commands_Put.f k (l.getD i dCmT).1 (l.getD i dCmT).2.1 (l.getD i dCmT).2.2.1 (l.getD i dCmT).2.2.2.1 (l.getD i dCmT).2.2.2.2.1 (l.getD i dCmT).2.2.2.2.2 = some (putV (cCmT (l.getD i dCmT)) (tCmT (l.getD i dCmT))) := cPutC hk _ _ _ _ _ _
theorem putCs_l0 (l : List CmT) (hl : l.length ≤ 100) : ∀ (d i k : Nat) (b : List UInt8), i + d = l.length → d + 20 ≤ k → b.length ≤ 100 + i * 2209 →
    codec_PutList_Command_Commands.l0 l k (i : Int) b 0 = some (if badC (l.drop i) = 0 then .inl (b ++ txCs (l.drop i), 0) else .inr ([], badC (l.drop i)))
  | d, i, 0, b, _, hk, _ => by omega
  | 0, i, k + 1, b, h, _, _ => by
    simp only [codec_PutList_Command_Commands.l0]
    rw [if_neg (by omega), List.drop_of_length_le (by omega)]
    simp [txCs, badC]
  | d + 1, i, k + 1, b, h, hk, hbl => by
    have hi : i < l.length := by omega
    simp only [codec_PutList_Command_Commands.l0]
    rw [if_pos (by omega), if_pos (by omega), wi1 (by omega)]
    simp only [Int.toNat_natCast]
    rw [putC_at l i k (by omega), Option.bind_some, chk_big, drop_at l dCmT hi]
    by_cases hc : cCmT (l.getD i dCmT) = 0
    · have hlen := tCmT_len hc
      have hl1 := bytesV_len ((tCmT (l.getD i dCmT)).length : Int)
      have e1 : putV (cCmT (l.getD i dCmT)) (tCmT (l.getD i dCmT)) = (tCmT (l.getD i dCmT), 0) := if_pos hc
      have e2 : badC (l.getD i dCmT :: l.drop (i + 1)) = badC (l.drop (i + 1)) := by simp only [badC]; rw [if_pos hc]
      rw [if_pos hc, e1]
      simp only []
      rw [wB (by omega) (by omega) (by omega) (by omega), Option.bind_some]
      simp only []
      rw [putCs_l0 l hl d (i + 1) k _ (by omega) (by omega) (by simp only [List.length_append]; omega), e2]
      split <;> simp [txCs, bB]
    · have e2 : badC (l.getD i dCmT :: l.drop (i + 1)) = cCmT (l.getD i dCmT) := by simp only [badC]; rw [if_neg hc]
      rw [if_neg hc, e2, if_neg hc]
theorem cPutCs {k : Nat} {l : List CmT} (hl : l.length ≤ 100) (hk : 200 ≤ k) (n : Int) : codec_PutList_Command_Commands.f k l n = some (if n < (l.length : Int) then ([], 3) else putCs l) := by
  unfold codec_PutList_Command_Commands.f
  by_cases hn : n < (l.length : Int)
  · rw [if_pos hn, if_pos hn]
  · have hb := bytesV_len (l.length : Int)
    rw [if_neg hn, if_neg hn, show wire_NewWriter.f = some ([], 0) from rfl, Option.bind_some]; simp only []
    rw [wI (by omega) (by simp) ⟨by omega, by omega⟩, Option.bind_some]; simp only []
    have h := putCs_l0 l hl l.length 0 k ([] ++ bytesV (l.length : Int)) (by omega) (by omega) (by simp; omega)
    rw [Int.natCast_zero] at h
    rw [h]
    unfold putCs
    simp only [List.drop_zero, List.nil_append]
    by_cases hf : badC l = 0
    · rw [if_pos hf, if_pos hf]
      have hx := txCs_len (badC_all hf)
      simp only [orR]
      rw [wD (by simp only [List.length_append]; omega)]; rfl
    · rw [if_neg hf, if_neg hf]; rfl
/-! ### Its own text, read -/
theorem getC_t {e : CmT} (h : cCmT e = 0) : getC (tCmT e) = (e.1, e.2.1, e.2.2.1, e.2.2.2.1, e.2.2.2.2.1, e.2.2.2.2.2, 0) := by
  have := getC_tx (o := e.1) (c := e.2.1) (s := e.2.2.1) (k := e.2.2.2.1) (v := e.2.2.2.2.1) (w := e.2.2.2.2.2) h []
  rw [List.append_nil, if_pos rfl] at this
  exact this
theorem movC {k : Nat} {b : List UInt8} (hb : b.length ≤ 100000000) (hk : 12 ≤ k) {p : Nat} (hp : p ≤ b.length) (e most : Int) : codec_moved__byte_codec_each_Command_1.f k b (p : Int) e most = some ((rBytes b p e most).1, decide ((rBytes b p e most).2.2 = 0), (((rBytes b p e most).2.1 : Nat) : Int), (rBytes b p e most).2.2) := by
  unfold codec_moved__byte_codec_each_Command_1.f codec_each_Command_1_s.f wire_Reader_At.f
  rw [Option.bind_some, cB hk hb hp, Option.bind_some]; simp only [Option.bind_some]
  rw [rB_moved]
theorem eachC_l0 (s : Int × Bool × Int × Int) : ∀ (l : List CmT) (b pre : List UInt8) (k : Nat) (acc : List CmT), (∀ e ∈ l, cCmT e = 0) → b = pre ++ txCs l → b.length ≤ 100000000 → (acc.length : Int) + l.length = s.1 → s.1 ≤ 100 → l.length + 200 ≤ k →
    codec_each_Command_Commands.l0 b 1048576 s k acc (pre.length : Int) 0 = some (.inl (acc ++ l, (b.length : Int), 0))
  | l, b, pre, 0, acc, _, _, _, _, _, hk => by omega
  | [], b, pre, k + 1, acc, _, hb, _, hs, _, _ => by
    simp only [codec_each_Command_Commands.l0]
    rw [if_neg (by simp at hs; omega), hb]
    simp [txCs]
  | e :: l, b, pre, k + 1, acc, h, hb, hB, hs, h1, hk => by
    have hc := h e (by simp)
    have hl := tCmT_len hc
    have hx : txCs (e :: l) = bB (tCmT e) ++ txCs l := by simp [txCs]
    have e1 := rB_at (b := b) (pre := pre) (r := txCs l) (d := tCmT e) (most := 1048576) (by rw [hb, hx]) (by omega) (by omega)
    simp only [List.length_cons] at hs hk
    simp only [codec_each_Command_Commands.l0]
    rw [if_pos (by omega), movC hB (by omega) (by rw [hb]; simp), Option.bind_some, e1]
    simp only [decide_true, Bool.not_true, Bool.false_eq_true, if_false]
    rw [cGetC (by omega) (by omega), Option.bind_some, getC_t hc]
    simp only [if_true]
    rw [if_pos (by simp only [List.length_singleton]; omega)]
    have ih := eachC_l0 s l b (pre ++ bB (tCmT e)) k (acc ++ [e]) (fun x hx => h x (by simp [hx])) (by rw [hb, hx]; simp) hB (by simp only [List.length_append, List.length_singleton]; omega) h1 (by omega)
    rw [show ([(e.1, e.2.1, e.2.2.1, e.2.2.2.1, e.2.2.2.2.1, e.2.2.2.2.2)] : List CmT) = [e] from rfl, ih]
    simp
theorem cGetCs {k : Nat} {l : List CmT} (h : ∀ e ∈ l, cCmT e = 0) (hl : l.length ≤ 100) (hk : 400 ≤ k) (n : Int) : codec_GetList_Command_Commands.f k (bytesV (l.length : Int) ++ txCs l) n = some (if n < (l.length : Int) then ([], 3) else (l, 0)) := by
  have hx := txCs_len h
  have hv := bytesV_len (l.length : Int)
  generalize hb : bytesV (l.length : Int) ++ txCs l = b
  have hbl : b.length ≤ 1000000 := by rw [← hb, List.length_append]; omega
  have e1 := rI_at (b := b) (pre := []) (r := txCs l) (x := (l.length : Int)) (by rw [← hb]; rfl) ⟨by omega, by omega⟩
  simp only [List.length_nil, List.nil_append] at e1
  unfold codec_GetList_Command_Commands.f codec_each_Command_Commands.f
  rw [cNew (by omega), Option.bind_some]; simp only []
  rw [movI (by omega) (by omega) (Nat.zero_le _), Option.bind_some, e1]; simp only []
  by_cases hn : n < (l.length : Int)
  · rw [if_pos (by simp [hn]), if_pos hn]; rfl
  · rw [if_neg (by simp [hn]), if_neg hn]
    rw [eachC_l0 _ l b (bytesV (l.length : Int)) k [] h hb.symm (by omega) (by simp) (by simp only []; omega) (by omega)]
    simp only [orR, Option.bind_some, if_true, List.nil_append]
    rw [cDone (by omega) (Nat.le_refl _)]
    have : rEnd b b.length 0 = 0 := by unfold rEnd; simp
    rw [this]; rfl
/-! ### The law -/
theorem ctexts_l0 (l : List CmT) (hl : l.length < 2 ^ 60) : ∀ (d i k : Nat) (n : Int), i + d = l.length → d + 1 ≤ k → ∃ r, synodlaw3_CodecTexts.l0 l k n (i : Int) = some r
  | d, i, 0, n, _, hk => by omega
  | 0, i, k + 1, n, h, _ => by
    simp only [synodlaw3_CodecTexts.l0]
    rw [if_neg (by omega)]
    exact ⟨_, rfl⟩
  | d + 1, i, k + 1, n, h, hk => by
    simp only [synodlaw3_CodecTexts.l0]
    rw [if_pos (by omega), if_pos (by omega), if_pos (by omega), if_pos (by omega), wi1 (by omega)]
    exact ctexts_l0 l hl d (i + 1) k _ (by omega) (by omega)
theorem ctexts_l1 (l : List CmT) (x : Int) (hl : l.length < 2 ^ 60) : ∀ (d i k : Nat), i + d = l.length → d + 1 ≤ k → synodlaw3_CodecTexts.l1 l (l, x) k (i : Int) = some (.inl ())
  | d, i, 0, _, hk => by omega
  | 0, i, k + 1, h, _ => by
    simp only [synodlaw3_CodecTexts.l1]
    rw [if_neg (by omega)]
  | d + 1, i, k + 1, h, hk => by
    simp only [synodlaw3_CodecTexts.l1]
    rw [if_pos (by omega), if_pos (by omega), if_pos (by omega), wi1 (by omega), if_neg (by simp)]
    exact ctexts_l1 l x hl d (i + 1) k (by omega) (by omega)
theorem pure_CodecTexts {Q : CmT → Prop} (l : List CmT) (h : l.length * 72 ≤ reachBytes ∧ ∀ e ∈ l, Q e) (n : Int) (hn : (Lit.int .i64 n).wf = true) (hu : Mu.mu l ≤ 1048576) :
    ∃ k, synodlaw3_CodecTexts.f k l n = some true := by
  have hr : reachBytes < 2 ^ 47 := by decide
  refine ⟨l.length + 3000000, ?_⟩
  generalize hk : l.length + 3000000 = k
  unfold synodlaw3_CodecTexts.f
  obtain ⟨s, hs⟩ := ctexts_l0 l (by omega) l.length 0 k 0 (by omega) (by omega)
  rw [Int.natCast_zero] at hs
  rw [first_k (by omega), Option.bind_some, hs, Option.bind_some]
  by_cases hl : l.length ≤ 100 ∧ s ≤ 20000
  · obtain ⟨h1, h2⟩ := hl
    rw [if_neg (by simp; omega), cPutCs h1 (by omega), Option.bind_some, cPutCs h1 (by omega), Option.bind_some]
    rw [if_neg (show ¬ (100 : Int) < (l.length : Int) by omega)]
    by_cases hx : n < (l.length : Int)
    · rw [if_pos hx, if_pos hx]
      simp [NumV]
    · rw [if_neg hx, if_neg hx]
      have hlen : (putCs l).1.length ≤ 500000 := by
        unfold putCs
        split
        · rename_i hb
          have := txCs_len (badC_all hb)
          have := bytesV_len (l.length : Int)
          simp only [List.length_append]; omega
        · simp
      rw [SameBytes_eq (by omega) (by omega), Option.bind_some]
      simp only [NumV, decide_true, Bool.not_true, Bool.false_eq_true, if_false, Option.bind_some]
      by_cases hb : badC l = 0
      · have e1 : putCs l = (bytesV (l.length : Int) ++ txCs l, 0) := if_pos hb
        rw [e1]
        simp only [if_true]
        rw [cGetCs (badC_all hb) h1 (by omega), if_neg (by omega), Option.bind_some]
        simp only [decide_true, Bool.not_true, Bool.or_self, Bool.false_eq_true, if_false]
        have h3 := ctexts_l1 l 0 (by omega) l.length 0 k (by omega) (by omega)
        rw [Int.natCast_zero] at h3
        rw [h3]
        simp only [orR]
        rw [w64 (by omega) (by omega), cGetCs (badC_all hb) h1 (by omega), if_pos (by omega)]
        simp
      · have e1 : putCs l = ([], badC l) := if_neg hb
        rw [e1]
        simp only []
        rw [if_neg hb]
        simp
  · rw [if_pos (by simp; omega)]
end Go.Proofs.Ytdoghfenhoigmaa
