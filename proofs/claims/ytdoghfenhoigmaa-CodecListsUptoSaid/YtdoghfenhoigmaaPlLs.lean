/- The codec's plain laws: lists of entries, put and read, the program's and the document's. Conditions: as each says. -/
import Derived.Test.YtdoghfenhoigmaaPlMvL
import Derived.Test.YtdoghfenhoigmaaPlCdF
namespace Go.Proofs.Ytdoghfenhoigmaa
set_option linter.unusedVariables false
set_option linter.unusedSimpArgs false
open Go.RowKit
/-! ### What is put -/
def putL (l : List EnT) : List UInt8 × Int := if firstBad l = 0 then (bytesV (l.length : Int) ++ txL l, 0) else ([], firstBad l)
theorem putE_at (l : List EnT) (i : Nat) (k : Nat) (hk : 10 ≤ k) : codec_Entries_Put.f k (l.getD i dEnT).1 (l.getD i dEnT).2.1 (l.getD i dEnT).2.2.1 (l.getD i dEnT).2.2.2 = some (putV (cEnT (l.getD i dEnT)) (tEnT (l.getD i dEnT))) := cPutE hk _ _ _ _
theorem rputE_at (l : List EnT) (i : Nat) (k : Nat) (hk : 10 ≤ k) : synodref3_PutEntry.f k (l.getD i dEnT).1 (l.getD i dEnT).2.1 (l.getD i dEnT).2.2.1 (l.getD i dEnT).2.2.2 = some (putV (cEnT (l.getD i dEnT)) (tEnT (l.getD i dEnT))) := rPutE hk _ _ _ _
theorem putL_l0 (l : List EnT) (hl : l.length ≤ 100) : ∀ (d i k : Nat) (b : List UInt8), i + d = l.length → d + 20 ≤ k → b.length ≤ 100 + i * 4141 →
    codec_PutList_Entry_Entries.l0 l k (i : Int) b 0 = some (if firstBad (l.drop i) = 0 then .inl (b ++ txL (l.drop i), 0) else .inr ([], firstBad (l.drop i)))
  | d, i, 0, b, _, hk, _ => by omega
  | 0, i, k + 1, b, h, _, _ => by
    simp only [codec_PutList_Entry_Entries.l0]
    rw [if_neg (by omega), List.drop_of_length_le (by omega)]
    simp [txL, firstBad]
  | d + 1, i, k + 1, b, h, hk, hbl => by
    have hi : i < l.length := by omega
    simp only [codec_PutList_Entry_Entries.l0]
    rw [if_pos (by omega), if_pos (by omega), wi1 (by omega)]
    simp only [Int.toNat_natCast]
    rw [putE_at l i k (by omega), Option.bind_some, chk_big, drop_at l dEnT hi]
    by_cases hc : cEnT (l.getD i dEnT) = 0
    · have hlen := tEnT_len hc
      have hl1 := bytesV_len ((tEnT (l.getD i dEnT)).length : Int)
      have e1 : putV (cEnT (l.getD i dEnT)) (tEnT (l.getD i dEnT)) = (tEnT (l.getD i dEnT), 0) := if_pos hc
      have e2 : firstBad (l.getD i dEnT :: l.drop (i + 1)) = firstBad (l.drop (i + 1)) := by simp only [firstBad]; rw [if_pos hc]
      rw [if_pos hc, e1]
      simp only []
      rw [wB (by omega) (by omega) (by omega) (by omega), Option.bind_some]
      simp only []
      rw [putL_l0 l hl d (i + 1) k _ (by omega) (by omega) (by simp only [List.length_append]; omega), e2]
      split <;> simp [txL, bB]
    · have e2 : firstBad (l.getD i dEnT :: l.drop (i + 1)) = cEnT (l.getD i dEnT) := by simp only [firstBad]; rw [if_neg hc]
      rw [if_neg hc, e2, if_neg hc]
theorem cPutL {k : Nat} {l : List EnT} (hl : l.length ≤ 100) (hk : 200 ≤ k) (n : Int) : codec_PutList_Entry_Entries.f k l n = some (if n < (l.length : Int) then ([], 3) else putL l) := by
  unfold codec_PutList_Entry_Entries.f
  by_cases hn : n < (l.length : Int)
  · rw [if_pos hn, if_pos hn]
  · have hb := bytesV_len (l.length : Int)
    rw [if_neg hn, if_neg hn, show wire_NewWriter.f = some ([], 0) from rfl, Option.bind_some]; simp only []
    rw [wI (by omega) (by simp) ⟨by omega, by omega⟩, Option.bind_some]; simp only []
    have h := putL_l0 l hl l.length 0 k ([] ++ bytesV (l.length : Int)) (by omega) (by omega) (by simp; omega)
    rw [Int.natCast_zero] at h
    rw [h]
    unfold putL
    simp only [List.drop_zero, List.nil_append]
    by_cases hf : firstBad l = 0
    · rw [if_pos hf, if_pos hf]
      have hx := txL_len hf
      simp only [orR]
      rw [wD (by simp only [List.length_append]; omega)]; rfl
    · rw [if_neg hf, if_neg hf]; rfl
/-! The document's: all the texts first. -/
abbrev pvE (e : EnT) : List UInt8 := (putV (cEnT e) (tEnT e)).1
theorem texts_l0 (l : List EnT) (hl : l.length ≤ 100) : ∀ (d i k : Nat) (a : List (List UInt8)) (c : List Int), i + d = l.length → d + 20 ≤ k → a.length = i → c.length = i →
    synodlaw3_texts.l0 l k a c (i : Int) = some (a ++ (l.drop i).map pvE, c ++ (l.drop i).map cEnT)
  | d, i, 0, a, c, _, hk, _, _ => by omega
  | 0, i, k + 1, a, c, h, _, _, _ => by
    simp only [synodlaw3_texts.l0]
    rw [if_neg (by omega), List.drop_of_length_le (by omega)]
    simp
  | d + 1, i, k + 1, a, c, h, hk, ha, hc => by
    have hi : i < l.length := by omega
    simp only [synodlaw3_texts.l0]
    rw [if_pos (by omega), if_pos (by omega), wi1 (by omega)]
    simp only [Int.toNat_natCast]
    rw [rputE_at l i k (by omega), Option.bind_some, if_pos (by simp; omega), if_pos (by simp; omega), chk_big]
    rw [texts_l0 l hl d (i + 1) k _ _ (by omega) (by omega) (by simp; omega) (by simp; omega), drop_at l dEnT hi]
    simp
theorem texts_k {k : Nat} {l : List EnT} (hl : l.length ≤ 100) (hk : 200 ≤ k) : synodlaw3_texts.f k l = some (l.map pvE, l.map cEnT) := by
  unfold synodlaw3_texts.f
  have h := texts_l0 l hl l.length 0 k [] [] (by omega) (by omega) rfl rfl
  rw [Int.natCast_zero] at h
  rw [h]; simp
theorem ptx_l0 (l : List EnT) (hl : l.length ≤ 100) : ∀ (d i k : Nat), i + d = l.length → d + 20 ≤ k →
    synodref3_PutTexts.l0 (l.map pvE) (l.map cEnT) k (i : Int) = some (if firstBad (l.drop i) = 0 then .inl () else .inr ([], firstBad (l.drop i)))
  | d, i, 0, _, hk => by omega
  | 0, i, k + 1, h, _ => by
    simp only [synodref3_PutTexts.l0]
    rw [if_neg (by simp; omega), List.drop_of_length_le (by omega)]
    simp [firstBad]
  | d + 1, i, k + 1, h, hk => by
    have hi : i < l.length := by omega
    have e0 : (l.map cEnT).getD i 0 = cEnT (l.getD i dEnT) := by simp [List.getD_eq_getElem?_getD, List.getElem?_eq_getElem hi]
    simp only [synodref3_PutTexts.l0]
    rw [if_pos (by simp; omega), if_pos (by simp; omega), wi1 (by omega)]
    simp only [Int.toNat_natCast]
    rw [e0, drop_at l dEnT hi]
    by_cases hc : cEnT (l.getD i dEnT) = 0
    · have e2 : firstBad (l.getD i dEnT :: l.drop (i + 1)) = firstBad (l.drop (i + 1)) := by simp only [firstBad]; rw [if_pos hc]
      rw [if_pos hc, ptx_l0 l hl d (i + 1) k (by omega) (by omega), e2]
    · have e2 : firstBad (l.getD i dEnT :: l.drop (i + 1)) = cEnT (l.getD i dEnT) := by simp only [firstBad]; rw [if_neg hc]
      rw [if_neg hc, e2, if_neg hc, if_pos (by simp; omega)]
theorem ptx_l1 (l : List EnT) (hl : l.length ≤ 100) (hb : ∀ e ∈ l, cEnT e = 0) : ∀ (d i k : Nat) (b : List UInt8), i + d = l.length → d + 20 ≤ k → b.length ≤ 100 + i * 4141 →
    synodref3_PutTexts.l1 (l.map pvE) k (i : Int) b 0 = some (b ++ txL (l.drop i), 0)
  | d, i, 0, b, _, hk, _ => by omega
  | 0, i, k + 1, b, h, _, _ => by
    simp only [synodref3_PutTexts.l1]
    rw [if_neg (by simp; omega), List.drop_of_length_le (by omega)]
    simp [txL]
  | d + 1, i, k + 1, b, h, hk, hbl => by
    have hi : i < l.length := by omega
    have hm : l.getD i dEnT ∈ l := by rw [getD_at' _ _ _ hi]; exact List.getElem_mem hi
    have hc := hb _ hm
    have hlen := tEnT_len hc
    have e1 : putV (cEnT (l.getD i dEnT)) (tEnT (l.getD i dEnT)) = (tEnT (l.getD i dEnT), 0) := if_pos hc
    have e0 : (l.map pvE).getD i [] = tEnT (l.getD i dEnT) := by
      have : (l.map pvE).getD i [] = pvE (l.getD i dEnT) := by simp [List.getD_eq_getElem?_getD, List.getElem?_eq_getElem hi]
      rw [this]; show (putV _ _).1 = _; rw [e1]
    have hl1 := bytesV_len ((tEnT (l.getD i dEnT)).length : Int)
    simp only [synodref3_PutTexts.l1]
    rw [if_pos (by simp; omega), if_pos (by simp; omega), wi1 (by omega)]
    simp only [Int.toNat_natCast]
    rw [e0, rwB (by omega) (by omega) (by omega) (by omega), Option.bind_some]
    simp only []
    rw [ptx_l1 l hl hb d (i + 1) k _ (by omega) (by omega) (by simp only [List.length_append]; omega), drop_at l dEnT hi]
    simp [txL, bB]
theorem rPutL {k : Nat} {l : List EnT} (hl : l.length ≤ 100) (hk : 200 ≤ k) (n : Int) : synodref3_PutTexts.f k (l.map pvE) (l.map cEnT) n = some (if n < (l.length : Int) then ([], 3) else putL l) := by
  unfold synodref3_PutTexts.f
  by_cases hn : n < (l.length : Int)
  · rw [if_pos (by simpa using hn), if_pos hn]
  · have hb := bytesV_len (l.length : Int)
    rw [if_neg (by simpa using hn), if_neg hn]
    have h := ptx_l0 l hl l.length 0 k (by omega) (by omega)
    rw [Int.natCast_zero] at h
    rw [h]
    unfold putL
    simp only [List.drop_zero]
    by_cases hf : firstBad l = 0
    · rw [if_pos hf, if_pos hf]
      simp only [orR, List.length_map]
      rw [rwI (by omega) (by simp) ⟨by omega, by omega⟩, Option.bind_some]; simp only []
      have h2 := ptx_l1 l hl (firstBad_all hf) l.length 0 k ([] ++ bytesV (l.length : Int)) (by omega) (by omega) (by simp; omega)
      rw [Int.natCast_zero] at h2
      rw [h2, Option.bind_some]; simp only []
      rw [rwD]; simp
    · rw [if_neg hf, if_neg hf]; rfl
theorem putL_len {l : List EnT} (hl : l.length ≤ 100) : (putL l).1.length ≤ 500000 := by
  unfold putL
  split
  · rename_i h
    have := txL_len h
    have := bytesV_len (l.length : Int)
    simp only [List.length_append]; omega
  · simp
/-! ### What is read -/
section
variable {b : List UInt8} {n p : Nat}
/-- n texts; the place behind them, the error. -/
def rdT (b : List UInt8) : Nat → Nat → List (List UInt8) × Nat × Int
  | 0, p => ([], p, 0)
  | n + 1, p => if (rBytes b p 0 1048576).2.2 ≠ 0 then ([], (rBytes b p 0 1048576).2.1, (rBytes b p 0 1048576).2.2) else ((rBytes b p 0 1048576).1 :: (rdT b n (rBytes b p 0 1048576).2.1).1, (rdT b n (rBytes b p 0 1048576).2.1).2)
theorem rdT_d (h : (rBytes b p 0 1048576).2.2 ≠ 0) : rdT b (n + 1) p = ([], (rBytes b p 0 1048576).2.1, (rBytes b p 0 1048576).2.2) := by simp only [rdT]; rw [if_pos h]
theorem rdT_k (h : (rBytes b p 0 1048576).2.2 = 0) : rdT b (n + 1) p = ((rBytes b p 0 1048576).1 :: (rdT b n (rBytes b p 0 1048576).2.1).1, (rdT b n (rBytes b p 0 1048576).2.1).2) := by simp only [rdT]; rw [if_neg (not_not_intro h)]
theorem rB_on (h : (rBytes b p 0 1048576).2.2 = 0) : p < (rBytes b p 0 1048576).2.1 := by
  have := rB_moved b p 0 1048576
  rw [h] at this
  simp at this
  exact this
def gE (t : List UInt8) : EnT := ((getE t).1, (getE t).2.1, (getE t).2.2.1, (getE t).2.2.2.1)
def gErr : List (List UInt8) → Int
  | [] => 0
  | t :: l => if (getE t).2.2.2.2 = 0 then gErr l else (getE t).2.2.2.2
theorem rdT_len : ∀ (n p : Nat), p ≤ b.length → (rdT b n p).1.length + p ≤ b.length ∧ (∀ t ∈ (rdT b n p).1, t.length ≤ b.length) ∧ (rdT b n p).2.1 ≤ b.length
  | 0, p, hp => by simp [rdT, hp]
  | n + 1, p, hp => by
    have hq := rBytes_le (b := b) (e := 0) (most := 1048576) hp
    by_cases h : (rBytes b p 0 1048576).2.2 = 0
    · have h1 := rB_on h
      obtain ⟨i1, i2, i3⟩ := rdT_len n _ hq.1
      rw [rdT_k h]
      refine ⟨by simp only [List.length_cons]; omega, fun t ht => ?_, i3⟩
      rcases List.mem_cons.1 ht with rfl | ht
      · exact hq.2
      · exact i2 t ht
    · rw [rdT_d h]; exact ⟨by simpa using hp, by simp, hq.1⟩
end
section
variable {b : List UInt8} (hb : b.length ≤ 100000000)
include hb
theorem eachL_l0 (s : Int × Bool × Int × Int) : ∀ (m r k p : Nat) (acc : List EnT), r = (s.1 - acc.length).toNat → b.length - p ≤ m → m + 20 ≤ k → p ≤ b.length → acc.length ≤ p →
    (gErr (rdT b r p).1 ≠ 0 → ∃ (q : Nat) (e : Int), q ≤ b.length ∧ codec_each_Entry_Entries.l0 b 1048576 s k acc (p : Int) 0 = some (.inr ([], gErr (rdT b r p).1, (q : Int), e))) ∧
    (gErr (rdT b r p).1 = 0 → (rdT b r p).2.2 ≠ 0 → ∃ (q : Nat) (e : Int), q ≤ b.length ∧ codec_each_Entry_Entries.l0 b 1048576 s k acc (p : Int) 0 = some (.inr ([], (rdT b r p).2.2, (q : Int), e))) ∧
    (gErr (rdT b r p).1 = 0 → (rdT b r p).2.2 = 0 → codec_each_Entry_Entries.l0 b 1048576 s k acc (p : Int) 0 = some (.inl (acc ++ (rdT b r p).1.map gE, (((rdT b r p).2.1 : Nat) : Int), 0)))
  | m, r, 0, p, acc, _, _, hk, _, _ => by omega
  | m, 0, k + 1, p, acc, h, _, _, _, _ => by
    simp only [codec_each_Entry_Entries.l0, rdT, gErr]
    rw [if_neg (by omega)]
    simp
  | m, r + 1, k + 1, p, acc, h, hm, hk, hp, ha => by
    have hq := rBytes_le (b := b) (e := 0) (most := 1048576) hp
    simp only [codec_each_Entry_Entries.l0]
    rw [if_pos (by omega), movE hb (by omega) hp, Option.bind_some]
    by_cases hd : (rBytes b p 0 1048576).2.2 = 0
    · have h1 := rB_on hd
      obtain ⟨m', rfl⟩ : ∃ m', m = m' + 1 := ⟨m - 1, by omega⟩
      simp only [hd, decide_true, Bool.not_true, Bool.false_eq_true, if_false]
      rw [cGetE (by omega) (by omega), Option.bind_some, rdT_k hd]
      simp only [gErr]
      by_cases hx : (getE (rBytes b p 0 1048576).1).2.2.2.2 = 0
      · rw [if_pos hx, if_pos hx, if_pos (by simp only [List.length_singleton]; omega)]
        have ih := eachL_l0 s m' r k (rBytes b p 0 1048576).2.1 (acc ++ [gE (rBytes b p 0 1048576).1]) (by simp only [List.length_append, List.length_singleton]; omega) (by omega) (by omega) hq.1 (by simp only [List.length_append, List.length_singleton]; omega)
        refine ⟨ih.1, ih.2.1, fun a c => ?_⟩
        have := ih.2.2 a c
        simp only [List.map_cons, List.append_assoc, List.singleton_append] at this ⊢
        exact this
      · rw [if_neg hx, if_neg hx]
        exact ⟨fun _ => ⟨_, _, hq.1, rfl⟩, fun x => absurd x hx, fun x => absurd x hx⟩
    · rw [rdT_d hd]
      refine ⟨fun x => absurd rfl x, fun _ _ => ⟨(rBytes b p 0 1048576).2.1, (rBytes b p 0 1048576).2.2, hq.1, ?_⟩, fun _ x => absurd x hd⟩
      simp only [hd, decide_false, Bool.not_false, if_true]
      rw [cDone hb hq.1, Option.bind_some, rEnd_err hd]
theorem rtx_l0 (s : Int × Int × Int) : ∀ (m r k p : Nat) (acc : List (List UInt8)) (i : Int), r = (s.1 - i).toNat → 0 ≤ i → i ≤ p → b.length - p ≤ m → m + 20 ≤ k → p ≤ b.length → (acc.length : Int) ≤ p →
    synodref3_Texts.l0 b s k acc i (p : Int) 0 = some (acc ++ (rdT b r p).1, (((rdT b r p).2.1 : Nat) : Int), (rdT b r p).2.2)
  | m, r, 0, p, acc, i, _, _, _, _, hk, _, _ => by omega
  | m, 0, k + 1, p, acc, i, h, _, _, _, _, _, _ => by
    simp only [synodref3_Texts.l0, rdT]
    rw [if_neg (by simp; omega)]
    simp
  | m, r + 1, k + 1, p, acc, i, h, hi, hip, hm, hk, hp, ha => by
    have hq := rBytes_le (b := b) (e := 0) (most := 1048576) hp
    obtain ⟨k', rfl⟩ : ∃ k', k = k' + 1 := ⟨k - 1, by omega⟩
    have wi : IntKind.i64.wrap (i + 1) = i + 1 := w64 (by omega) (by omega)
    rw [synodref3_Texts.l0]
    rw [if_pos (by simp; omega), rB' (by omega) hb hp, Option.bind_some]
    simp only []
    by_cases hd : (rBytes b p 0 1048576).2.2 = 0
    · have h1 := rB_on hd
      obtain ⟨m', rfl⟩ : ∃ m', m = m' + 1 := ⟨m - 1, by omega⟩
      rw [if_pos hd, if_pos (by simp only [List.length_singleton]; omega), wi, rdT_k hd]
      have ih := rtx_l0 s m' r (k' + 1) (rBytes b p 0 1048576).2.1 (acc ++ [(rBytes b p 0 1048576).1]) (i + 1) (by omega) (by omega) (by omega) (by omega) (by omega) hq.1 (by simp only [List.length_append, List.length_singleton]; omega)
      rw [hd, ih]
      simp
    · rw [if_neg hd, wi, rdT_d hd, synodref3_Texts.l0, if_neg (by simp [hd])]
      simp
end
theorem read_l0 (s : List (List UInt8) × List UInt8 × Int × Int × Int) (hs : s.1.length ≤ 100000000) (ht : ∀ t ∈ s.1, t.length ≤ 100000000) : ∀ (d i k : Nat) (acc : List EnT), i + d = s.1.length → d + 220 ≤ k → acc.length ≤ i →
    ∃ l, synodlaw3_read.l0 s k acc 0 (i : Int) = some (l, gErr (s.1.drop i)) ∧ (gErr (s.1.drop i) = 0 → l = acc ++ (s.1.drop i).map gE)
  | d, i, 0, acc, _, hk, _ => by omega
  | 0, i, k + 1, acc, h, _, _ => by
    simp only [synodlaw3_read.l0]
    rw [if_neg (by simp; omega), List.drop_of_length_le (by omega)]
    exact ⟨_, rfl, fun _ => by simp⟩
  | d + 1, i, k + 1, acc, h, hk, ha => by
    have hi : i < s.1.length := by omega
    have hm : s.1.getD i [] ∈ s.1 := by rw [getD_at' _ _ _ hi]; exact List.getElem_mem hi
    have hlt := ht _ hm
    obtain ⟨k', rfl⟩ : ∃ k', k = k' + 1 := ⟨k - 1, by omega⟩
    rw [synodlaw3_read.l0]
    rw [if_pos (by simp; omega), if_pos (by omega), wi1 (by omega)]
    simp only [Int.toNat_natCast]
    rw [rGetE (by omega) hlt, Option.bind_some, if_pos (by simp only [List.length_singleton]; omega), drop_at s.1 [] hi]
    simp only [gErr]
    by_cases hx : (getE (s.1.getD i [])).2.2.2.2 = 0
    · rw [hx, if_pos rfl]
      obtain ⟨l, h1, h2⟩ := read_l0 s hs ht d (i + 1) (k' + 1) (acc ++ [gE (s.1.getD i [])]) (by omega) (by omega) (by simp; omega)
      exact ⟨l, h1, fun h3 => by rw [h2 h3]; simp⟩
    · rw [if_neg hx, synodlaw3_read.l0, if_neg (by rw [Bool.and_eq_true, decide_eq_true_iff, decide_eq_true_iff]; exact fun h => hx h.2)]
      exact ⟨_, rfl, fun h3 => absurd h3 hx⟩
end Go.Proofs.Ytdoghfenhoigmaa
