/- The plain law CodecLists. Conditions: as it says. -/
import Derived.Test.YtdoghfenhoigmaaPlLs
import Derived.Test.YtdoghfenhoigmaaRw3
namespace Go.Proofs.Ytdoghfenhoigmaa
set_option linter.unusedVariables false
set_option linter.unusedSimpArgs false
open Go.RowKit
/-- A list's text, read. -/
def getL (b : List UInt8) (n : Int) : List EnT × Int :=
  if (rI b 0 0).2.2 ≠ 0 then ([], (rI b 0 0).2.2) else if n < (rI b 0 0).1 then ([], 3) else
  if gErr (rdT b (rI b 0 0).1.toNat (rI b 0 0).2.1).1 ≠ 0 then ([], gErr (rdT b (rI b 0 0).1.toNat (rI b 0 0).2.1).1) else
  if rEnd b (rdT b (rI b 0 0).1.toNat (rI b 0 0).2.1).2.1 (rdT b (rI b 0 0).1.toNat (rI b 0 0).2.1).2.2 = 0 then ((rdT b (rI b 0 0).1.toNat (rI b 0 0).2.1).1.map gE, 0) else
  ([], rEnd b (rdT b (rI b 0 0).1.toNat (rI b 0 0).2.1).2.1 (rdT b (rI b 0 0).1.toNat (rI b 0 0).2.1).2.2)
theorem cGetL {k : Nat} {b : List UInt8} (hb : b.length ≤ 100000000) (hk : b.length + 300 ≤ k) (n : Int) : codec_GetList_Entry_Entries.f k b n = some (getL b n) := by
  have p0 : (0 : Nat) ≤ b.length := Nat.zero_le _
  have p1 := rI_le (e := 0) p0
  have hc0 := rI_bad (b := b) (p := 0) (e := 0)
  unfold codec_GetList_Entry_Entries.f codec_each_Entry_Entries.f getL
  rw [cNew hb, Option.bind_some]; simp only []
  rw [movI hb (by omega) p0, Option.bind_some]; simp only []
  generalize rI b 0 0 = N at p1 hc0 ⊢
  obtain ⟨c, p, e⟩ := N
  simp only [] at p1 hc0 ⊢
  obtain ⟨k, rfl⟩ : ∃ k', k = k' + 1 := ⟨k - 1, by omega⟩
  by_cases he : e = 0
  · subst he
    rw [if_neg (not_not_intro rfl)]
    by_cases hn : n < c
    · rw [if_pos (by simp [hn]), if_pos hn]; rfl
    · rw [if_neg (by simp [hn]), if_neg hn]
      obtain ⟨h1, h2, h3⟩ := eachL_l0 hb (c, decide ((0 : Int) = 0), (p : Int), 0) b.length c.toNat (k + 1) p [] (by simp) (by omega) (by omega) p1 (Nat.zero_le _)
      by_cases hg : gErr (rdT b c.toNat p).1 = 0
      · have hl := rdT_len (b := b) c.toNat p p1
        by_cases ht : (rdT b c.toNat p).2.2 = 0
        · rw [if_neg (not_not_intro hg), h3 hg ht, ht]
          simp only [orR, Option.bind_some, if_true, List.nil_append]
          rw [cDone hb hl.2.2]
          simp only [Option.bind_some]
          split <;> simp_all
        · obtain ⟨q, e', hq, h⟩ := h2 hg ht
          rw [if_neg (not_not_intro hg), h, rEnd_err ht, if_neg ht]
          simp only [orR, Option.bind_some]
          rw [if_neg ht, Option.bind_some, if_neg ht]
      · obtain ⟨q, e', hq, h⟩ := h1 hg
        rw [if_pos hg, h]
        simp only [orR, Option.bind_some]
        rw [if_neg hg, Option.bind_some, if_neg hg]
  · have hc := hc0 he
    subst hc
    rw [if_pos he, if_neg (by simp [he]), codec_each_Entry_Entries.l0, if_neg (by simp)]
    simp only [orR, Option.bind_some, if_true]
    rw [cDone hb p1, rEnd_err he]
    simp only [Option.bind_some]
    rw [if_neg he]
theorem getL_len {b : List UInt8} (n : Int) : (getL b n).1.length ≤ b.length ∧ ∀ e ∈ (getL b n).1, e.2.2.2.length ≤ b.length := by
  have p0 : (0 : Nat) ≤ b.length := Nat.zero_le _
  have p1 := rI_le (e := 0) p0
  have hl := rdT_len (b := b) (rI b 0 0).1.toNat (rI b 0 0).2.1 p1
  unfold getL
  split
  · simp
  split
  · simp
  split
  · simp
  split
  · refine ⟨by simp only [List.length_map]; omega, fun e he => ?_⟩
    obtain ⟨t, ht, rfl⟩ := List.mem_map.1 he
    have h1 := hl.2.1 t ht
    have h2 := getE_len t
    show (getE t).2.2.2.1.length ≤ _
    omega
  · simp
theorem rtx_stop {k : Nat} {b : List UInt8} {s : Int × Int × Int} {l : List (List UInt8)} {j p e : Int} (he : e ≠ 0) : synodref3_Texts.l0 b s (k + 1) l j p e = some (l, p, e) := by
  simp only [synodref3_Texts.l0]
  rw [if_neg (by simp [he])]
theorem read_k {k : Nat} {b : List UInt8} (hb : b.length ≤ 100000000) (hk : 2 * b.length + 1000 ≤ k) (n : Int) : synodlaw3_read.f k b n = some true := by
  have p0 : (0 : Nat) ≤ b.length := Nat.zero_le _
  have p1 := rI_le (e := 0) p0
  have hc0 := rI_bad (b := b) (p := 0) (e := 0)
  obtain ⟨k, rfl⟩ : ∃ k', k = k' + 1 := ⟨k - 1, by omega⟩
  have hsame : ∀ {L : List EnT}, L.length ≤ b.length → (∀ e ∈ L, e.2.2.2.length ≤ b.length) → synodref_SameEntries.f (k + 1) L L = some true := by
    intro L h1 h2
    rw [SameEntries_eq (by omega) (fun e he => by have := h2 e he; omega) (by omega) (fun e he => by have := h2 e he; omega)]
    simp
  have hgl := getL_len (b := b) n
  have hfin : ∀ {x : Int} {L : List EnT}, getL b n = (if x = 0 then L else [], x) → (((if x = 0 then some L else some ([] : List EnT)).bind fun s59v => ((synodref_SameEntries.f (k + 1) (getL b n).1 s59v).bind fun s75v => ((if s75v = true then ((synodref_Num.f (getL b n).2).bind fun s80v => (some (decide (s80v = x)))) else (some false)).bind fun s78v => (some s78v))))) = some true := by
    intro x L h
    have h2 := hsame hgl.1 hgl.2
    rw [h] at h2 ⊢
    by_cases hx : x = 0
    · simp only [if_pos hx] at h2 ⊢
      simp only [Option.bind_some, h2, NumV, if_true, decide_true]
    · simp only [if_neg hx] at h2 ⊢
      simp only [Option.bind_some, h2, NumV, if_true, decide_true]
  unfold synodlaw3_read.f synodref3_Texts.f
  rw [cGetL hb (by omega), Option.bind_some, rI0 (by omega) hb, Option.bind_some]; simp only []
  generalize hN : rI b 0 0 = N at p1 hc0 ⊢
  obtain ⟨c, p, e⟩ := N
  simp only [] at p1 hc0 ⊢
  rw [fail_eq]
  simp only [Option.bind_some]
  by_cases he : e = 0
  · subst he
    by_cases hn : n < c
    · rw [if_pos hn]
      simp only [Option.bind_some, if_true]
      rw [rtx_stop (by decide)]
      simp only [Option.bind_some]
      rw [synodlaw3_read.l0, if_neg (by simp)]
      simp only [Option.bind_some, if_true]
      rw [rDone hb p1, rEnd_err (by decide)]
      simp only [Option.bind_some]
      exact hfin (by simp [getL, hN, hn])
    · rw [if_neg hn]
      simp only [Option.bind_some]
      have h := rtx_l0 hb (c, (p : Int), 0) b.length c.toNat (k + 1) p [] 0 (by simp) (by omega) (by omega) (by omega) (by omega) p1 (by simp)
      rw [h]
      simp only [Option.bind_some, List.nil_append]
      have hl := rdT_len (b := b) c.toNat p p1
      obtain ⟨l, h1, h2⟩ := read_l0 ((rdT b c.toNat p).1, b, (((rdT b c.toNat p).2.1 : Nat) : Int), (rdT b c.toNat p).2.2, c) (by simp only []; omega) (fun t ht => by have := hl.2.1 t ht; omega) (rdT b c.toNat p).1.length 0 (k + 1) [] (by simp) (by omega) (Nat.le_refl _)
      simp only [Int.natCast_zero, List.drop_zero] at h1 h2
      rw [h1]
      simp only [Option.bind_some]
      by_cases hg : gErr (rdT b c.toNat p).1 = 0
      · rw [if_pos hg, rDone hb hl.2.2]
        simp only [Option.bind_some]
        refine hfin ?_
        rw [h2 hg]
        simp only [getL, hN]
        rw [if_neg (not_not_intro rfl), if_neg hn, if_neg (not_not_intro hg)]
        split <;> simp_all
      · rw [if_neg hg]
        simp only [Option.bind_some]
        refine hfin ?_
        simp only [getL, hN]
        rw [if_neg (not_not_intro rfl), if_neg hn, if_pos hg, if_neg hg]
  · have hc := hc0 he
    subst hc
    have hp : (if n < 0 then some ((p : Int), if e = 0 then 3 else e) else some ((p : Int), e)) = some ((p : Int), e) := by rw [if_neg he]; split <;> rfl
    rw [hp]
    simp only [Option.bind_some]
    rw [rtx_stop he]
    simp only [Option.bind_some]
    rw [synodlaw3_read.l0, if_neg (by simp)]
    simp only [Option.bind_some, if_true]
    rw [rDone hb p1, rEnd_err he]
    simp only [Option.bind_some]
    exact hfin (by simp [getL, hN, he])
theorem lists_l0 (l : List EnT) (hl : l.length < 2 ^ 60) : ∀ (d i k : Nat) (n : Int), i + d = l.length → d + 1 ≤ k → ∃ r, synodlaw3_CodecLists.l0 l k n (i : Int) = some r
  | d, i, 0, n, _, hk => by omega
  | 0, i, k + 1, n, h, _ => by
    simp only [synodlaw3_CodecLists.l0]
    rw [if_neg (by omega)]
    exact ⟨_, rfl⟩
  | d + 1, i, k + 1, n, h, hk => by
    simp only [synodlaw3_CodecLists.l0]
    rw [if_pos (by omega), if_pos (by omega), wi1 (by omega)]
    exact lists_l0 l hl d (i + 1) k _ (by omega) (by omega)
theorem pure_CodecLists {Q : EnT → Prop} (l : List EnT) (h : l.length * 48 ≤ reachBytes ∧ ∀ e ∈ l, Q e) (n : Int) (hn : (Lit.int .i64 n).wf = true) (b : List UInt8) (hb : b.length ≤ reachBytes) (hu : Mu.mu l + Mu.mu b ≤ 1048576) :
    ∃ k, synodlaw3_CodecLists.f k l n b = some true := by
  have hr : reachBytes < 2 ^ 47 := by decide
  refine ⟨l.length + 3000000, ?_⟩
  generalize hk : l.length + 3000000 = k
  unfold synodlaw3_CodecLists.f
  obtain ⟨s, hs⟩ := lists_l0 l (by omega) l.length 0 k 0 (by omega) (by omega)
  rw [Int.natCast_zero] at hs
  rw [first_k (by omega), Option.bind_some, hs, Option.bind_some]
  by_cases hl : l.length ≤ 100 ∧ s ≤ 20000 ∧ (b.length : Int) ≤ 20000
  · obtain ⟨h1, h2, h3⟩ := hl
    rw [if_neg (by simp; omega), cPutL h1 (by omega), Option.bind_some, texts_k h1 (by omega), Option.bind_some]
    simp only []
    rw [rPutL h1 (by omega), Option.bind_some]
    have hlen : (if n < (l.length : Int) then (([] : List UInt8), (3 : Int)) else putL l).1.length ≤ 500000 := by
      split
      · simp
      · exact putL_len h1
    generalize (if n < (l.length : Int) then (([] : List UInt8), (3 : Int)) else putL l) = P at hlen ⊢
    rw [SameBytes_eq (by omega) (by omega), Option.bind_some]
    simp only [NumV, decide_true, Bool.not_true, Bool.false_eq_true, if_false, Option.bind_some]
    rw [read_k (by omega) (by omega), read_k (by omega) (by omega)]
    simp
  · rw [if_pos (by simp; omega)]
end Go.Proofs.Ytdoghfenhoigmaa
