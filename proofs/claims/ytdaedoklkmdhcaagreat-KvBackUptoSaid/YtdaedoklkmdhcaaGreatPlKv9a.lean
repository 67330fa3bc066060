/- Kv: what is read is a store. Conditions: as each says. -/
import Derived.Test.YtdaedoklkmdhcaaGreatPlKv8
namespace Go.Proofs.YtdaedoklkmdhcaaGreat
set_option linter.unusedVariables false
set_option linter.unusedSimpArgs false
open Go.RowKit
theorem srt_snoc {κ β : Type} [LT κ] [Ord3 κ] {acc : List (κ × β)} {a k : κ} {v : β} (hs : srt acc) (h : ∀ e ∈ acc, e.1 = a ∨ e.1 < a) (hk : a < k) : srt (acc ++ [(k, v)]) := by
  unfold srt at *
  rw [List.map_append, List.pairwise_append]
  refine ⟨hs, by simp, ?_⟩
  intro x hx y hy
  obtain ⟨e, he, rfl⟩ := List.mem_map.1 hx
  simp at hy; subst hy
  rcases h e he with h1 | h1
  · rw [h1]; exact hk
  · exact Ord3.trans _ _ _ h1 hk
def goodP (e : List UInt8 × List UInt8) : Prop := e.1 ≠ [] ∧ e.1.length ≤ 64 ∧ e.2.length ≤ 1024
theorem prP_inv (b : List UInt8) : ∀ (n p : Nat) (a : List UInt8) (acc : PP), (prP b n p a acc).2.1 = 0 → srt acc → (∀ e ∈ acc, e.1 = a ∨ e.1 < a) → (∀ e ∈ acc, goodP e) →
    srt (prP b n p a acc).2.2 ∧ (∀ e ∈ (prP b n p a acc).2.2, goodP e) ∧ (prP b n p a acc).2.2.length = acc.length + n
  | 0, p, a, acc, _, h1, _, h3 => ⟨h1, h3, rfl⟩
  | n + 1, p, a, acc, h, h1, h2, h3 => by
    simp only [prP] at h ⊢
    by_cases c1 : (rBytes b p 0 64).2.2 = 0
    · by_cases c2 : a < (rBytes b p 0 64).1
      · by_cases c3 : (rBytes b (rBytes b p 0 64).2.1 0 1024).2.2 = 0
        · rw [if_pos c1, if_pos c2, if_pos c3] at h ⊢
          have l1 := (rBytes_ok c1).2
          have l2 := (rBytes_ok c3).2
          have ih := prP_inv b n _ _ _ h (srt_snoc h1 h2 c2) (acc_le h2 c2) (by
            intro e he
            rcases List.mem_append.1 he with he | he
            · exact h3 e he
            · simp at he; subst he
              refine ⟨fun e => ?_, ?_, ?_⟩
              · simp only at e; rw [e] at c2; exact List.not_lt_nil _ c2
              · simp only; omega
              · simp only; omega)
          refine ⟨ih.1, ih.2.1, ?_⟩
          rw [ih.2.2, List.length_append, List.length_singleton]; omega
        · rw [if_pos c1, if_pos c2, if_neg c3] at h; exact absurd h c3
      · rw [if_pos c1, if_neg c2] at h; simp at h
    · rw [if_neg c1] at h; exact absurd h c1
def goodS (e : Int × Sess) : Prop := e.2.1 = e.1 ∧ rg e.1 1 ∧ rg e.2.2.1 1 ∧ (e.2.2.2.1 = 1 ∨ e.2.2.2.1 = 2 ∨ e.2.2.2.1 = 3 ∨ e.2.2.2.1 = 5) ∧ e.2.2.2.2.length ≤ 1024
theorem keptC_iff (x : Int) : keptC x = true ↔ (x = 1 ∨ x = 2 ∨ x = 3 ∨ x = 5) := by
  unfold keptC; simp [or_assoc]
theorem prS_inv (b : List UInt8) : ∀ (n p : Nat) (a : Int) (acc : SS), (prS b n p a acc).2.1 = 0 → 0 ≤ a → srt acc → (∀ e ∈ acc, e.1 = a ∨ e.1 < a) → (∀ e ∈ acc, goodS e) →
    srt (prS b n p a acc).2.2 ∧ (∀ e ∈ (prS b n p a acc).2.2, goodS e) ∧ (prS b n p a acc).2.2.length = acc.length + n
  | 0, p, a, acc, _, _, h1, _, h3 => ⟨h1, h3, rfl⟩
  | n + 1, p, a, acc, h, h0, h1, h2, h3 => by
    simp only [prS] at h ⊢
    by_cases c1 : (rNum b p 0).2.2 = 0
    · rw [if_neg (not_not_intro c1)] at h ⊢
      by_cases c2 : a < (rNum b p 0).1
      · rw [if_neg (not_not_intro c2)] at h ⊢
        by_cases c3 : (rNum b (rPos b p 0) 0).2.2 = 0
        · rw [if_neg (not_not_intro c3)] at h ⊢
          by_cases c4 : 0 < (rNum b (rPos b p 0) 0).1
          · rw [if_neg (not_not_intro c4)] at h ⊢
            by_cases c5 : (rNum b (rPos b (rPos b p 0) 0) 0).2.2 = 0
            · rw [if_neg (not_not_intro c5)] at h ⊢
              by_cases c6 : keptC (rNum b (rPos b (rPos b p 0) 0) 0).1 = false
              · rw [if_pos c6] at h; simp at h
              · rw [if_neg c6] at h ⊢
                by_cases c7 : (rBytes b (rPos b (rPos b (rPos b p 0) 0) 0) 0 1024).2.2 = 0
                · rw [if_neg (not_not_intro c7)] at h ⊢
                  by_cases c8 : okVal (rNum b (rPos b (rPos b p 0) 0) 0).1 (rBytes b (rPos b (rPos b (rPos b p 0) 0) 0) 0 1024).1 = false
                  · rw [if_pos c8] at h; simp at h
                  · rw [if_neg c8] at h ⊢
                    obtain ⟨x1, j1, d1, _, _, u1⟩ := rNum_ok c1
                    obtain ⟨x2, j2, d2, _, _, u2⟩ := rNum_ok c3
                    have v1 : (rNum b p 0).1 = (x1 : Int) := by rw [d1]
                    have v2 : (rNum b (rPos b p 0) 0).1 = (x2 : Int) := by rw [d2]
                    have l2 := (rBytes_ok c7).2
                    have ih := prS_inv b n _ _ _ h (by omega) (srt_snoc h1 h2 c2) (acc_le h2 c2) (by
                      intro e he
                      rcases List.mem_append.1 he with he | he
                      · exact h3 e he
                      · simp at he; subst he
                        refine ⟨rfl, ⟨?_, ?_⟩, ⟨?_, ?_⟩, (keptC_iff _).1 (by simpa using c6), ?_⟩
                        · simp only; omega
                        · simp only; omega
                        · simp only; omega
                        · simp only; omega
                        · simp only; omega)
                    refine ⟨ih.1, ih.2.1, ?_⟩
                    rw [ih.2.2, List.length_append, List.length_singleton]; omega
                · rw [if_pos c7] at h; exact absurd h c7
            · rw [if_pos c5] at h; exact absurd h c5
          · rw [if_pos c4] at h; simp at h
        · rw [if_pos c3] at h; exact absurd h c3
      · rw [if_pos c2] at h; simp at h
    · rw [if_pos c1] at h; exact absurd h c1
theorem resV_inv {b : List UInt8} (h : (resV b).1 = 0) : srt (resV b).2.1 ∧ srt (resV b).2.2 ∧ Inv (resV b).2.1 (resV b).2.2 := by
  unfold resV at h ⊢
  simp only at h ⊢
  by_cases c1 : (rNum b 0 0).2.2 = 0
  · rw [if_neg (not_not_intro c1)] at h ⊢
    by_cases c2 : 128 < (rNum b 0 0).1
    · rw [if_pos c2] at h; simp at h
    · rw [if_neg c2] at h ⊢
      by_cases c3 : (prP b (rNum b 0 0).1.toNat (rPos b 0 0) [] []).2.1 = 0
      · rw [if_neg (not_not_intro c3)] at h ⊢
        by_cases c4 : (rNum b (prP b (rNum b 0 0).1.toNat (rPos b 0 0) [] []).1 0).2.2 = 0
        · rw [if_neg (not_not_intro c4)] at h ⊢
          by_cases c5 : 32 < (rNum b (prP b (rNum b 0 0).1.toNat (rPos b 0 0) [] []).1 0).1
          · rw [if_pos c5] at h; simp at h
          · rw [if_neg c5] at h ⊢
            by_cases c6 : (prS b (rNum b (prP b (rNum b 0 0).1.toNat (rPos b 0 0) [] []).1 0).1.toNat (rPos b (prP b (rNum b 0 0).1.toNat (rPos b 0 0) [] []).1 0) 0 []).2.1 = 0
            · rw [if_neg (not_not_intro c6)] at h ⊢
              split at h
              · simp at h
              · rename_i c7
                rw [if_neg c7]
                obtain ⟨p1, p2, p3⟩ := prP_inv b _ _ _ _ c3 (by simp [srt]) (by simp) (by simp)
                obtain ⟨s1, s2, s3⟩ := prS_inv b _ _ _ _ c6 (by omega) (by simp [srt]) (by simp) (by simp)
                refine ⟨p1, s1, srt_nodup p1, ?_, p2, srt_nodup s1, ?_, s2⟩
                · simp only; rw [p3]; simp; omega
                · simp only; rw [s3]; simp; omega
            · rw [if_pos c6] at h; exact absurd h c6
        · rw [if_pos c4] at h; exact absurd h c4
      · rw [if_pos c3] at h; exact absurd h c3
  · rw [if_pos c1] at h; exact absurd h c1
theorem canP_self {p : PP} (h : srt p) : canP p = p := srt_eq (canP_srt (srt_nodup h)) h fun z => canP_get z
theorem canM_self {s : SS} (h : srt s) : canM s = s := srt_eq (canM_srt (srt_nodup h)) h fun z => canM_get z
end Go.Proofs.YtdaedoklkmdhcaaGreat
