/- The codec's plain laws: whether messages are the same. Conditions: as each says. -/
import Derived.Test.YtdoghfenhoigmaaPlMsP
import Derived.Test.YtdoghfenhoigmaaPlSe
namespace Go.Proofs.Ytdoghfenhoigmaa
set_option linter.unusedVariables false
set_option linter.unusedSimpArgs false
open Go.RowKit
theorem SameEntries_loop (x y : List EnT) (hl : x.length = y.length) (hx : x.length < 2 ^ 61) (hb : ∀ e ∈ x, e.2.2.2.length < 2 ^ 61) : ∀ (d i k : Nat), i + d = x.length → d + 1 ≤ k → (∀ e ∈ x, e.2.2.2.length + d + 1 ≤ k) → (x.take i = y.take i) →
    (orR (synodref_SameEntries.l0 x y k (i : Int)) fun _ => some true) = some (decide (x = y))
  | d, i, 0, _, hk, _, _ => by omega
  | 0, i, k + 1, h, _, _, ht => by
    simp only [synodref_SameEntries.l0]
    rw [if_neg (by omega)]
    have : x = y := by rwa [List.take_of_length_le (by omega), List.take_of_length_le (by omega)] at ht
    simp [orR, this]
  | d + 1, i, k + 1, h, hk, hb2, ht => by
    have hi : i < x.length := by omega
    have hi2 : i < y.length := by omega
    have hm : x.getD i dEnT ∈ x := by rw [getD_at' _ _ _ hi]; exact List.getElem_mem hi
    have hme := hb _ hm
    have hme2 := hb2 _ hm
    simp only [synodref_SameEntries.l0]
    rw [if_pos (by omega), if_pos (by omega), if_pos (by omega), wi1 (by omega)]
    simp only [Int.toNat_natCast]
    have e1 := SameEntry_eq (k := k) (a := x.getD i dEnT) (b := y.getD i dEnT) (by omega) (by omega)
    rw [e1, Option.bind_some]
    by_cases he : x.getD i dEnT = y.getD i dEnT
    · rw [if_neg (by simpa using he)]
      refine SameEntries_loop x y hl hx hb d (i + 1) k (by omega) (by omega) (fun e he => by have := hb2 e he; omega) ?_
      rw [List.take_succ_eq_append_getElem hi, List.take_succ_eq_append_getElem hi2, ht, ← getD_at' x dEnT i hi, ← getD_at' y dEnT i hi2, he]
    · rw [if_pos (by simpa using he)]
      have : x ≠ y := fun e => he (by rw [e])
      simp [orR, this]
theorem SameEntries_eq {k : Nat} {x y : List EnT} (hx : x.length < 2 ^ 61) (hb : ∀ e ∈ x, e.2.2.2.length < 2 ^ 61) (hk : x.length + 1 ≤ k) (hk2 : ∀ e ∈ x, e.2.2.2.length + x.length + 1 ≤ k) : synodref_SameEntries.f k x y = some (decide (x = y)) := by
  unfold synodref_SameEntries.f
  by_cases hl : x.length = y.length
  · rw [if_pos (by omega)]
    exact SameEntries_loop x y hl hx hb x.length 0 k (by omega) hk hk2 (by simp)
  · rw [if_neg (by omega)]
    have : x ≠ y := fun e => hl (by rw [e])
    simp [this]
structure Room (k : Nat) (m : Msg) : Prop where
  l : m.es.length < 2 ^ 60
  b : ∀ e ∈ m.es, e.2.2.2.length < 2 ^ 60
  s : m.sd.length < 2 ^ 60
  k0 : 100 ≤ k
  kl : m.es.length + 2 ≤ k
  kb : ∀ e ∈ m.es, e.2.2.2.length + m.es.length + 2 ≤ k
  ks : m.sd.length + 2 ≤ k
theorem SameMessage_eq {k : Nat} {a b : Msg} (h : Room k a) : synodref_SameMessage.f k a.kd a.fr a.to a.tm a.ix a.lt a.cm a.hi a.cx a.rj a.es a.si a.st a.sd b.kd b.fr b.to b.tm b.ix b.lt b.cm b.hi b.cx b.rj b.es b.si b.st b.sd = some (decide (a = b)) := by
  have h1 := h.s; have h2 := h.ks; have h3 := h.l; have h4 := h.kl
  unfold synodref_SameMessage.f synodref_SameSnap.f
  rw [SameBytes_eq (by omega) (by omega), Option.bind_some, Option.bind_some, SameEntries_eq (by omega) (fun e he => by have := h.b e he; omega) (by omega) (fun e he => by have := h.kb e he; omega), Option.bind_some]
  congr 1
  obtain ⟨a1, a2, a3, a4, a5, a6, a7, a8, a9, a10, a11, a12, a13, a14⟩ := a
  obtain ⟨b1, b2, b3, b4, b5, b6, b7, b8, b9, b10, b11, b12, b13, b14⟩ := b
  rw [Bool.eq_iff_iff]
  simp
  grind
end Go.Proofs.Ytdoghfenhoigmaa
