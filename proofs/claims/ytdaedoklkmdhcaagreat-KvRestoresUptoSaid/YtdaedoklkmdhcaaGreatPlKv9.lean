/- Kv: what is read is a store; the document's Restore reads the same. Conditions: as each says. -/
import Derived.Test.YtdaedoklkmdhcaaGreatPlKv8
import Derived.Test.YtdaedoklkmdhcaaGreatPlKvRr
namespace Go.Proofs.YtdaedoklkmdhcaaGreat
set_option linter.unusedVariables false
set_option linter.unusedSimpArgs false
open Go.RowKit
theorem srt_snoc {κ β : Type} [LT κ] [Ord3 κ] {acc : List (κ × β)} {a k : κ} {v : β} (hs : srt acc) (h : ∀ e ∈ acc, e.1 = a ∨ e.1 < a) (hk : a < k) : srt (acc ++ [(k, v)]) := by
  unfold srt at *
  rw [List.map_append, List.pairwise_append]
  refine ⟨hs, by simp, ?_⟩
  intro x hx y hy
  obtain ⟨e, he, rfl⟩ := List.mem_map.1 hx
  simp at hy; subst hy
  rcases h e he with h1 | h1
  · rw [h1]; exact hk
  · exact Ord3.trans _ _ _ h1 hk
def goodP (e : List UInt8 × List UInt8) : Prop := e.1 ≠ [] ∧ e.1.length ≤ 64 ∧ e.2.length ≤ 1024
theorem prP_inv (b : List UInt8) : ∀ (n p : Nat) (a : List UInt8) (acc : PP), (prP b n p a acc).2.1 = 0 → srt acc → (∀ e ∈ acc, e.1 = a ∨ e.1 < a) → (∀ e ∈ acc, goodP e) →
    srt (prP b n p a acc).2.2 ∧ (∀ e ∈ (prP b n p a acc).2.2, goodP e) ∧ (prP b n p a acc).2.2.length = acc.length + n
  | 0, p, a, acc, _, h1, _, h3 => ⟨h1, h3, rfl⟩
  | n + 1, p, a, acc, h, h1, h2, h3 => by
    simp only [prP] at h ⊢
    by_cases c1 : (rBytes b p 0 64).2.2 = 0
    · by_cases c2 : a < (rBytes b p 0 64).1
      · by_cases c3 : (rBytes b (rBytes b p 0 64).2.1 0 1024).2.2 = 0
        · rw [if_pos c1, if_pos c2, if_pos c3] at h ⊢
          have l1 := (rBytes_ok c1).2
          have l2 := (rBytes_ok c3).2
          have ih := prP_inv b n _ _ _ h (srt_snoc h1 h2 c2) (acc_le h2 c2) (by
            intro e he
            rcases List.mem_append.1 he with he | he
            · exact h3 e he
            · simp at he; subst he
              refine ⟨fun e => ?_, ?_, ?_⟩
              · simp only at e; rw [e] at c2; exact List.not_lt_nil _ c2
              · simp only; omega
              · simp only; omega)
          refine ⟨ih.1, ih.2.1, ?_⟩
          rw [ih.2.2, List.length_append, List.length_singleton]; omega
        · rw [if_pos c1, if_pos c2, if_neg c3] at h; exact absurd h c3
      · rw [if_pos c1, if_neg c2] at h; simp at h
    · rw [if_neg c1] at h; exact absurd h c1
def goodS (e : Int × Sess) : Prop := e.2.1 = e.1 ∧ rg e.1 1 ∧ rg e.2.2.1 1 ∧ (e.2.2.2.1 = 1 ∨ e.2.2.2.1 = 2 ∨ e.2.2.2.1 = 3 ∨ e.2.2.2.1 = 5) ∧ e.2.2.2.2.length ≤ 1024
theorem keptC_iff (x : Int) : keptC x = true ↔ (x = 1 ∨ x = 2 ∨ x = 3 ∨ x = 5) := by
  unfold keptC; simp [or_assoc]
theorem prS_inv (b : List UInt8) : ∀ (n p : Nat) (a : Int) (acc : SS), (prS b n p a acc).2.1 = 0 → 0 ≤ a → srt acc → (∀ e ∈ acc, e.1 = a ∨ e.1 < a) → (∀ e ∈ acc, goodS e) →
    srt (prS b n p a acc).2.2 ∧ (∀ e ∈ (prS b n p a acc).2.2, goodS e) ∧ (prS b n p a acc).2.2.length = acc.length + n
  | 0, p, a, acc, _, _, h1, _, h3 => ⟨h1, h3, rfl⟩
  | n + 1, p, a, acc, h, h0, h1, h2, h3 => by
    simp only [prS] at h ⊢
    by_cases c1 : (rNum b p 0).2.2 = 0
    · rw [if_neg (not_not_intro c1)] at h ⊢
      by_cases c2 : a < (rNum b p 0).1
      · rw [if_neg (not_not_intro c2)] at h ⊢
        by_cases c3 : (rNum b (rPos b p 0) 0).2.2 = 0
        · rw [if_neg (not_not_intro c3)] at h ⊢
          by_cases c4 : 0 < (rNum b (rPos b p 0) 0).1
          · rw [if_neg (not_not_intro c4)] at h ⊢
            by_cases c5 : (rNum b (rPos b (rPos b p 0) 0) 0).2.2 = 0
            · rw [if_neg (not_not_intro c5)] at h ⊢
              by_cases c6 : keptC (rNum b (rPos b (rPos b p 0) 0) 0).1 = false
              · rw [if_pos c6] at h; simp at h
              · rw [if_neg c6] at h ⊢
                by_cases c7 : (rBytes b (rPos b (rPos b (rPos b p 0) 0) 0) 0 1024).2.2 = 0
                · rw [if_neg (not_not_intro c7)] at h ⊢
                  by_cases c8 : okVal (rNum b (rPos b (rPos b p 0) 0) 0).1 (rBytes b (rPos b (rPos b (rPos b p 0) 0) 0) 0 1024).1 = false
                  · rw [if_pos c8] at h; simp at h
                  · rw [if_neg c8] at h ⊢
                    obtain ⟨x1, j1, d1, _, _, u1⟩ := rNum_ok c1
                    obtain ⟨x2, j2, d2, _, _, u2⟩ := rNum_ok c3
                    have v1 : (rNum b p 0).1 = (x1 : Int) := by rw [d1]
                    have v2 : (rNum b (rPos b p 0) 0).1 = (x2 : Int) := by rw [d2]
                    have l2 := (rBytes_ok c7).2
                    have ih := prS_inv b n _ _ _ h (by omega) (srt_snoc h1 h2 c2) (acc_le h2 c2) (by
                      intro e he
                      rcases List.mem_append.1 he with he | he
                      · exact h3 e he
                      · simp at he; subst he
                        refine ⟨rfl, ⟨?_, ?_⟩, ⟨?_, ?_⟩, (keptC_iff _).1 (by simpa using c6), ?_⟩
                        · simp only; omega
                        · simp only; omega
                        · simp only; omega
                        · simp only; omega
                        · simp only; omega)
                    refine ⟨ih.1, ih.2.1, ?_⟩
                    rw [ih.2.2, List.length_append, List.length_singleton]; omega
                · rw [if_pos c7] at h; exact absurd h c7
            · rw [if_pos c5] at h; exact absurd h c5
          · rw [if_pos c4] at h; simp at h
        · rw [if_pos c3] at h; exact absurd h c3
      · rw [if_pos c2] at h; simp at h
    · rw [if_pos c1] at h; exact absurd h c1
theorem resV_inv {b : List UInt8} (h : (resV b).1 = 0) : srt (resV b).2.1 ∧ srt (resV b).2.2 ∧ Inv (resV b).2.1 (resV b).2.2 := by
  unfold resV at h ⊢
  simp only at h ⊢
  by_cases c1 : (rNum b 0 0).2.2 = 0
  · rw [if_neg (not_not_intro c1)] at h ⊢
    by_cases c2 : 128 < (rNum b 0 0).1
    · rw [if_pos c2] at h; simp at h
    · rw [if_neg c2] at h ⊢
      by_cases c3 : (prP b (rNum b 0 0).1.toNat (rPos b 0 0) [] []).2.1 = 0
      · rw [if_neg (not_not_intro c3)] at h ⊢
        by_cases c4 : (rNum b (prP b (rNum b 0 0).1.toNat (rPos b 0 0) [] []).1 0).2.2 = 0
        · rw [if_neg (not_not_intro c4)] at h ⊢
          by_cases c5 : 32 < (rNum b (prP b (rNum b 0 0).1.toNat (rPos b 0 0) [] []).1 0).1
          · rw [if_pos c5] at h; simp at h
          · rw [if_neg c5] at h ⊢
            by_cases c6 : (prS b (rNum b (prP b (rNum b 0 0).1.toNat (rPos b 0 0) [] []).1 0).1.toNat (rPos b (prP b (rNum b 0 0).1.toNat (rPos b 0 0) [] []).1 0) 0 []).2.1 = 0
            · rw [if_neg (not_not_intro c6)] at h ⊢
              split at h
              · simp at h
              · rename_i c7
                rw [if_neg c7]
                obtain ⟨p1, p2, p3⟩ := prP_inv b _ _ _ _ c3 (by simp [srt]) (by simp) (by simp)
                obtain ⟨s1, s2, s3⟩ := prS_inv b _ _ _ _ c6 (by omega) (by simp [srt]) (by simp) (by simp)
                refine ⟨p1, s1, srt_nodup p1, ?_, p2, srt_nodup s1, ?_, s2⟩
                · simp only; rw [p3]; simp; omega
                · simp only; rw [s3]; simp; omega
            · rw [if_pos c6] at h; exact absurd h c6
        · rw [if_pos c4] at h; exact absurd h c4
      · rw [if_pos c3] at h; exact absurd h c3
  · rw [if_pos c1] at h; exact absurd h c1
theorem canP_self {p : PP} (h : srt p) : canP p = p := srt_eq (canP_srt (srt_nodup h)) h fun z => canP_get z
theorem canM_self {s : SS} (h : srt s) : canM s = s := srt_eq (canM_srt (srt_nodup h)) h fun z => canM_get z
/-! ### The document's -/
theorem form_eq (b : List UInt8) (p e : Int) (ok : Bool) : synodref11_form.f b p e ok = some (p, if e = 0 then (if ok then 0 else 4) else e) := by
  unfold synodref11_form.f
  by_cases he : e = 0
  · subst he; cases ok <;> simp
  · simp [he]
theorem rNum_stop (b : List UInt8) (p : Nat) {e : Int} (he : ¬ e = 0) : rNum b p e = (0, 0, e) := by unfold rNum; rw [if_neg he]
theorem rPos_stop (b : List UInt8) (p : Nat) {e : Int} (he : ¬ e = 0) : rPos b p e = p := by unfold rPos; rw [rNum_stop b p he]; rfl
theorem rBytes_stop (b : List UInt8) (p : Nat) {e : Int} (m : Int) (he : ¬ e = 0) : rBytes b p e m = ([], p, e) := by
  unfold rBytes; rw [rNum_stop b p he]; simp [he]
theorem count_eq {b : List UInt8} (hb : b.length < 2 ^ 47) {k : Nat} (hk : 12 ≤ k) (p : Nat) (e most : Int) (hp : p ≤ b.length) : synodref11_count.f k b (p : Int) e most = some ((rNum b p e).1, ((rPos b p e : Nat) : Int), if (rNum b p e).2.2 = 0 ∧ most < (rNum b p e).1 then 23 else (rNum b p e).2.2) := by
  unfold synodref11_count.f
  rw [refInt_eq hk (by omega) p e hp, Option.bind_some]
  by_cases h : (rNum b p e).2.2 = 0 ∧ most < (rNum b p e).1
  · rw [if_pos h, if_pos (by simp [h.1, h.2]), Option.bind_some]
  · rw [if_neg h, if_neg (by simpa using h), Option.bind_some]
theorem ref_stop0 {b : List UInt8} (s3 : Int × Int × Int) (k : Nat) (hk : 1 ≤ k) (i p e : Int) (he : ¬ e = 0) (acc : PP) : synodref11_Restore.l0 b s3 k i p e acc = some (p, e, acc) := by
  cases k with
  | zero => omega
  | succ k => simp only [synodref11_Restore.l0]; rw [if_neg (by simp [he])]
theorem ref_stop1 {b : List UInt8} (s3 : Int × Int × Int) (k : Nat) (hk : 1 ≤ k) (i p e : Int) (he : ¬ e = 0) (acc : List Sess) : synodref11_Restore.l1 b s3 k i p e acc = some (p, e, acc) := by
  cases k with
  | zero => omega
  | succ k => simp only [synodref11_Restore.l1]; rw [if_neg (by simp [he])]
theorem nil_lt (l : List UInt8) : [] < l ↔ l ≠ [] := by
  cases l with
  | nil => simp
  | cons x l => simp
theorem refP_loop {b : List UInt8} (hb : b.length < 2 ^ 46) (s3 : Int × Int × Int) : ∀ (n i k p : Nat) (a : List UInt8) (acc : PP), ((i + n : Nat) : Int) = s3.1 → i + n ≤ 1000 → n + 20 ≤ k → p ≤ b.length → acc.length = i → (i = 0 → a = []) → (0 < i → (acc.getD (i - 1) ([], [])).1 = a) →
    ((prP b n p a acc).2.1 = 0 → synodref11_Restore.l0 b s3 k (i : Int) (p : Int) 0 acc = some ((((prP b n p a acc).1 : Nat) : Int), 0, (prP b n p a acc).2.2) ∧ (prP b n p a acc).1 ≤ b.length) ∧
    ((prP b n p a acc).2.1 ≠ 0 → ∃ (p' : Nat) (m : PP), p' ≤ b.length ∧ synodref11_Restore.l0 b s3 k (i : Int) (p : Int) 0 acc = some ((p' : Int), (prP b n p a acc).2.1, m))
  | n, i, 0, p, a, acc, _, _, hk, _, _, _, _ => by omega
  | 0, i, k + 1, p, a, acc, hi, _, hk, hp, _, _, _ => by
    have hL : synodref11_Restore.l0 b s3 (k + 1) (i : Int) (p : Int) 0 acc = some ((p : Int), 0, acc) := by
      simp only [synodref11_Restore.l0]
      rw [if_neg (by simp; omega)]
    rw [hL, show prP b 0 p a acc = (p, 0, acc) from rfl]
    exact ⟨fun _ => ⟨rfl, hp⟩, fun h => absurd rfl h⟩
  | n + 1, i, k + 1, p, a, acc, hi, hi2, hk, hp, hl, ha, ha2 => by
    have hp1 := rBytes_le (e := 0) (most := 64) hp
    have hc : ((decide ((i : Int) < s3.1)) && (decide ((0 : Int) = (0 : Int)))) = true := by simp; omega
    have hg : (if (rBytes b p 0 64).1 = ([] : List UInt8) then (some false) else ((if (i : Int) = (0 : Int) then (some (true, true, true)) else (if 0 ≤ IntKind.i64.wrap ((i : Int) - 1) ∧ IntKind.i64.wrap ((i : Int) - 1) < (acc.length : Int) then (some (false, false, !(Op.bytesLess (rBytes b p 0 64).1 ((acc.getD (IntKind.i64.wrap ((i : Int) - 1)).toNat (([] : List UInt8), ([] : List UInt8))).1) || decide ((rBytes b p 0 64).1 = ((acc.getD (IntKind.i64.wrap ((i : Int) - 1)).toNat (([] : List UInt8), ([] : List UInt8))).1))))) else none)).bind fun s21v => (some s21v.2.2))) = some (decide (a < (rBytes b p 0 64).1)) := by
      by_cases h0 : (rBytes b p 0 64).1 = ([] : List UInt8)
      · rw [if_pos h0, h0, decide_eq_false (List.not_lt_nil _)]
      · rw [if_neg h0]
        by_cases hi0 : i = 0
        · subst hi0
          rw [if_pos (show ((0 : Nat) : Int) = 0 from rfl), Option.bind_some, ha rfl, decide_eq_true ((nil_lt _).2 h0)]
        · have e : IntKind.i64.wrap ((i : Int) - 1) = ((i - 1 : Nat) : Int) := by rw [w64 (by omega) (by omega)]; omega
          rw [if_neg (by omega), e, if_pos (by omega), Option.bind_some, Int.toNat_natCast, ha2 (by omega), gt_iff]
    have hL : synodref11_Restore.l0 b s3 (k + 1) (i : Int) (p : Int) 0 acc = ((synodref1_Reader_Text.f k b (((rBytes b p 0 64).2.1 : Nat) : Int) (if (rBytes b p 0 64).2.2 = 0 then (if decide (a < (rBytes b p 0 64).1) then 0 else 4) else (rBytes b p 0 64).2.2) (1024 : Int)).bind fun s42v => (if (acc.length + ([((rBytes b p 0 64).1, s42v.1)] : PP).length) * 32 ≤ 140737488355328 then (synodref11_Restore.l0 b s3 k (IntKind.i64.wrap ((i : Int) + 1)) s42v.2.1 s42v.2.2 (acc ++ ([((rBytes b p 0 64).1, s42v.1)] : PP))) else none)) := by
      simp only [synodref11_Restore.l0]
      rw [if_pos (by simp; omega), refText_eq (by omega) (by omega) p 0 64 hp, Option.bind_some]
      simp only
      rw [hg, Option.bind_some, form_eq, Option.bind_some]
    have stop : ∀ e : Int, ¬ e = 0 → (if (rBytes b p 0 64).2.2 = 0 then (if decide (a < (rBytes b p 0 64).1) then (0 : Int) else 4) else (rBytes b p 0 64).2.2) = e → ∃ (p' : Nat) (m : PP), p' ≤ b.length ∧ synodref11_Restore.l0 b s3 (k + 1) (i : Int) (p : Int) 0 acc = some ((p' : Int), e, m) := by
      intro e he h
      rw [hL, h, refText_eq (by omega) (by omega) _ e 1024 hp1.1, Option.bind_some, rBytes_stop _ _ _ he, if_pos (by simp; omega)]
      rw [ref_stop0 _ _ (by omega) _ _ _ he]
      exact ⟨_, _, hp1.1, rfl⟩
    by_cases h1 : (rBytes b p 0 64).2.2 = 0
    · by_cases h2 : a < (rBytes b p 0 64).1
      · have hp2 := rBytes_le (e := 0) (most := 1024) hp1.1
        rw [if_pos h1, decide_eq_true h2, if_pos rfl, refText_eq (by omega) (by omega) _ 0 1024 hp1.1, Option.bind_some, if_pos (by simp; omega)] at hL
        by_cases h3 : (rBytes b (rBytes b p 0 64).2.1 0 1024).2.2 = 0
        · have hP : prP b (n + 1) p a acc = prP b n (rBytes b (rBytes b p 0 64).2.1 0 1024).2.1 (rBytes b p 0 64).1 (acc ++ [((rBytes b p 0 64).1, (rBytes b (rBytes b p 0 64).2.1 0 1024).1)]) := by
            simp only [prP]; rw [if_pos h1, if_pos h2, if_pos h3]
          rw [hP, hL]
          simp only [h3]
          rw [inc64 i 2000 (by omega) (by decide)]
          exact refP_loop hb s3 n (i + 1) k _ _ _ (by rw [← hi]; omega) (by omega) (by omega) hp2.1 (by simp [hl]) (by omega) (by
            intro _
            rw [getD_of (x := ((rBytes b p 0 64).1, (rBytes b (rBytes b p 0 64).2.1 0 1024).1))]
            simp [hl])
        · have hP : prP b (n + 1) p a acc = (0, (rBytes b (rBytes b p 0 64).2.1 0 1024).2.2, []) := by
            simp only [prP]; rw [if_pos h1, if_pos h2, if_neg h3]
          rw [hP]
          refine ⟨fun h => absurd h h3, fun _ => ?_⟩
          rw [hL]
          simp only
          rw [ref_stop0 _ _ (by omega) _ _ _ h3]
          exact ⟨_, _, hp2.1, rfl⟩
      · have hP : prP b (n + 1) p a acc = (0, 4, []) := by
          simp only [prP]; rw [if_pos h1, if_neg h2]
        rw [hP]
        refine ⟨fun h => by simp at h, fun _ => ?_⟩
        exact stop 4 (by decide) (by rw [if_pos h1, decide_eq_false h2]; rfl)
    · have hP : prP b (n + 1) p a acc = (0, (rBytes b p 0 64).2.2, []) := by
        simp only [prP]; rw [if_neg h1]
      rw [hP]
      refine ⟨fun h => absurd h h1, fun _ => ?_⟩
      exact stop _ h1 (by rw [if_neg h1])
end Go.Proofs.YtdaedoklkmdhcaaGreat
