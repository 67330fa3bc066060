/- Histories: an order by the places in the history. Conditions: as each says. -/
import Derived.Test.YtlblpegbgbgliaaPlLin6
namespace Go.Proofs.Ytlblpegbgbgliaa
set_option linter.unusedVariables false
set_option linter.unusedSimpArgs false
open Go.RowKit
/-- What may follow, behind p. -/
structure KeepQ (h : List OpT) (key : List UInt8) (p : List Nat) (t : Bool) (v : List UInt8) (q : List Nat) : Prop where
  mem : ∀ j ∈ q, j < h.length ∧ inK h key j = true ∧ j ∉ p
  nodup : q.Nodup
  run : run t v (q.map fun j => h.getD j op0)
  prec : q.Pairwise fun i j => prec (h.getD i op0) (h.getD j op0)
theorem keepQ_nil (h : List OpT) (key : List UInt8) (p : List Nat) (t : Bool) (v : List UInt8) : KeepQ h key p t v [] := ⟨fun j hj => absurd hj (by simp), List.nodup_nil, trivial, List.Pairwise.nil⟩
theorem keepQ_cons {h : List OpT} {key : List UInt8} {p : List Nat} {t : Bool} {v : List UInt8} {n : Nat} {q : List Nat} : KeepQ h key p t v (n :: q) ↔
    (n < h.length ∧ inK h key n = true ∧ n ∉ p) ∧ okR (h.getD n op0) (stp t v (h.getD n op0)).2.2 = true ∧ (∀ j ∈ q, prec (h.getD n op0) (h.getD j op0)) ∧ KeepQ h key (p ++ [n]) (stp t v (h.getD n op0)).1 (stp t v (h.getD n op0)).2.1 q := by
  constructor
  · rintro ⟨a, b, c, d⟩
    obtain ⟨b1, b2⟩ := List.nodup_cons.1 b
    obtain ⟨d1, d2⟩ := List.pairwise_cons.1 d
    refine ⟨a n (by simp), c.1, d1, ⟨fun j hj => ?_, b2, c.2, d2⟩⟩
    obtain ⟨x, y, z⟩ := a j (by simp [hj])
    refine ⟨x, y, fun hm => ?_⟩
    rcases List.mem_append.1 hm with hm | hm
    · exact z hm
    · rw [List.mem_singleton] at hm; exact b1 (hm ▸ hj)
  · rintro ⟨a, b, c, d⟩
    refine ⟨fun j hj => ?_, List.nodup_cons.2 ⟨fun hn => (d.mem n hn).2.2 (by simp), d.nodup⟩, ⟨b, d.run⟩, List.pairwise_cons.2 ⟨c, d.prec⟩⟩
    rcases List.mem_cons.1 hj with rfl | hj
    · exact a
    · obtain ⟨x, y, z⟩ := d.mem j hj
      exact ⟨x, y, fun hm => z (List.mem_append_left _ hm)⟩
def KP (h : List OpT) (key : List UInt8) (l : List Int) : Prop := ∃ p : List Nat, l = p.map (fun (j : Nat) => (j : Int)) ∧ KeepQ h key [] false [] p ∧ ∀ j, j < h.length → inK h key j = true → isO (h.getD j op0) = true ∨ j ∈ p
def ofN (h : List OpT) (key : List UInt8) : List Nat := (List.range' 0 h.length).filter (inK h key)
theorem ofL_ofN (h : List OpT) (key : List UInt8) : ofL h key = (ofN h key).map fun (j : Nat) => (j : Int) := rfl
theorem ofN_len (h : List OpT) (key : List UInt8) : (ofN h key).length = (opsL h key).length := by rw [opsL_len, ofL_ofN, List.length_map]
theorem ofN_nodup (h : List OpT) (key : List UInt8) : (ofN h key).Nodup := (List.nodup_range' (s := 0) (n := h.length)).filter _
theorem ofN_mem {h : List OpT} {key : List UInt8} {j : Nat} : j ∈ ofN h key ↔ j < h.length ∧ inK h key j = true := by
  unfold ofN
  rw [List.mem_filter, List.mem_range'_1]
  exact ⟨fun a => ⟨by omega, a.2⟩, fun a => ⟨⟨by omega, by omega⟩, a.2⟩⟩
theorem ofN_at {h : List OpT} {key : List UInt8} {i : Nat} (hi : i < (ofN h key).length) : (opsL h key).getD i op0 = h.getD ((ofN h key).getD i 0) op0 := by
  rw [getD_at (l := opsL h key) (by rw [← ofN_len]; exact hi), getD_at hi]
  unfold opsL
  simp only [List.getElem_map, ofL_ofN, Int.toNat_natCast]
theorem ofN_lt {h : List OpT} {key : List UInt8} {i j : Nat} (hij : i < j) (hj : j < (ofN h key).length) : (ofN h key).getD i 0 < (ofN h key).getD j 0 := by
  rw [getD_at (by omega), getD_at hj]
  have : (ofN h key).Pairwise (· < ·) := List.Pairwise.filter _ List.pairwise_lt_range'
  exact List.pairwise_iff_getElem.1 this i j (by omega) hj hij
/-- An order by places in the key's operations is one by places in the history. -/
theorem kp_of_comp {h : List OpT} {key : List UInt8} {o : List Nat} (hc : comp (opsL h key) 0 false [] o) : KP h key (o.map fun j => (ofL h key).getD j 0) := by
  obtain ⟨h1, h2, h3, h4, h5, h6⟩ := (comp_iff o 0 false []).1 hc
  have hlt : ∀ i ∈ o, i < (ofN h key).length := fun i hi => by rw [ofN_len]; exact (h1 i hi).1
  have hm : ∀ i ∈ o, (ofN h key).getD i 0 ∈ ofN h key := fun i hi => by rw [getD_at (hlt i hi)]; exact List.getElem_mem _
  refine ⟨o.map fun j => (ofN h key).getD j 0, ?_, ⟨?_, ?_, ?_, ?_⟩, ?_⟩
  · rw [List.map_map]
    refine List.map_congr_left fun j hj => ?_
    have := hlt j hj
    rw [ofL_ofN, getD_at (by simpa using this)]
    simp [this]
  · intro j hj
    obtain ⟨i, hi, rfl⟩ := List.mem_map.1 hj
    obtain ⟨a, b⟩ := ofN_mem.1 (hm i hi)
    exact ⟨a, b, by simp⟩
  · refine List.pairwise_map.2 (h2.imp_of_mem fun {a b} ha hb hab e => hab ?_)
    rcases Nat.lt_trichotomy a b with h | h | h
    · have := ofN_lt h (hlt b hb); omega
    · exact h
    · have := ofN_lt h (hlt a ha); omega
  · rw [List.map_map]
    have : o.map ((fun j => h.getD j op0) ∘ fun j => (ofN h key).getD j 0) = o.map fun i => (opsL h key).getD i op0 := List.map_congr_left fun i hi => by rw [ofN_at (hlt i hi)]; rfl
    rw [this]; exact h3
  · refine List.pairwise_map.2 (h5.imp_of_mem fun {a b} ha hb hp => ?_)
    rw [← ofN_at (hlt a ha), ← ofN_at (hlt b hb)]; exact hp
  · intro j hj hin
    have hjm : j ∈ ofN h key := ofN_mem.2 ⟨hj, hin⟩
    obtain ⟨i, hi, rfl⟩ := List.mem_iff_getElem.1 hjm
    rcases h4 i (by rw [← ofN_len]; exact hi) with h | h | h
    · left; rwa [ofN_at hi, getD_at hi] at h
    · simp at h
    · right; exact List.mem_map.2 ⟨i, h, getD_at hi 0⟩
theorem comp_of_kp {h : List OpT} {key : List UInt8} {l : List Int} (hb : ∀ x ∈ h, bad x = 0) (hk : KP h key l) : ∃ o, comp (opsL h key) 0 false [] o ∧ l = o.map fun j => (ofL h key).getD j 0 := by
  obtain ⟨p, rfl, ⟨a, b, c, d⟩, e⟩ := hk
  have hm : ∀ j ∈ p, j ∈ ofN h key := fun j hj => ofN_mem.2 ⟨(a j hj).1, (a j hj).2.1⟩
  have hlt : ∀ j ∈ p, (ofN h key).idxOf j < (ofN h key).length := fun j hj => List.idxOf_lt_length_of_mem (hm j hj)
  have hat : ∀ j ∈ p, (ofN h key).getD ((ofN h key).idxOf j) 0 = j := fun j hj => by rw [getD_at (hlt j hj)]; exact List.getElem_idxOf (hlt j hj)
  have hg : ∀ j ∈ p, (opsL h key).getD ((ofN h key).idxOf j) op0 = h.getD j op0 := fun j hj => by rw [ofN_at (hlt j hj), hat j hj]
  refine ⟨p.map fun j => (ofN h key).idxOf j, (comp_iff _ _ _ _).2 ⟨?_, ?_, ?_, ?_, ?_, ?_⟩, ?_⟩
  · intro i hi
    obtain ⟨j, hj, rfl⟩ := List.mem_map.1 hi
    exact ⟨by rw [← ofN_len]; exact hlt j hj, by simp⟩
  · refine List.pairwise_map.2 (b.imp_of_mem fun {x y} hx hy hxy e => hxy ?_)
    rw [← hat x hx, ← hat y hy, e]
  · rw [List.map_map]
    have : p.map ((fun i => (opsL h key).getD i op0) ∘ fun j => (ofN h key).idxOf j) = p.map fun j => h.getD j op0 := List.map_congr_left fun j hj => hg j hj
    rw [this]; exact c
  · intro i hi
    rw [← ofN_len] at hi
    have hmem : (ofN h key)[i] ∈ ofN h key := List.getElem_mem _
    obtain ⟨x, y⟩ := ofN_mem.1 hmem
    rcases e _ x y with g | g
    · left; rwa [ofN_at hi, getD_at hi]
    · right; right
      exact List.mem_map.2 ⟨_, g, (ofN_nodup h key).idxOf_getElem i hi⟩
  · refine List.pairwise_map.2 (d.imp_of_mem fun {x y} hx hy hp => ?_)
    rw [hg x hx, hg y hy]; exact hp
  · intro i hi
    obtain ⟨j, hj, rfl⟩ := List.mem_map.1 hi
    rw [hg j hj]
    have hj2 := (a j hj).1
    have := hb (h.getD j op0) (by rw [getD_at hj2]; exact List.getElem_mem _)
    generalize h.getD j op0 = x at this ⊢
    unfold prec isO
    by_cases h0 : oBack x = 0
    · exact .inl (decide_eq_true h0)
    · right
      intro hlt
      unfold bad at this
      split at this
      · cases this
      · rw [if_pos (.inl (.inr (.inr ⟨h0, hlt⟩)))] at this; cases this
  · rw [List.map_map]
    refine List.map_congr_left fun j hj => ?_
    have hl := hlt j hj
    have hh := hat j hj
    show (j : Int) = (ofL h key).getD ((ofN h key).idxOf j) 0
    rw [ofL_ofN, getD_at (by simpa using hl), List.getElem_map]
    rw [getD_at hl] at hh
    rw [hh]
/-- One list of numbers lies ahead of another. -/
def lexI : List Int → List Int → Prop
  | [], [] => False
  | [], _ :: _ => True
  | _ :: _, [] => False
  | a :: x, b :: y => a < b ∨ (a = b ∧ lexI x y)
theorem not_lexI {F : Nat → Int} {n : Nat} (hF : ∀ i j, i < j → j < n → F i < F j) : ∀ {x y : List Nat}, (∀ i ∈ x, i < n) → (∀ i ∈ y, i < n) → lexle x y → ¬ lexI (y.map F) (x.map F)
  | [], [], _, _, _ => fun h => h
  | [], _ :: _, _, _, _ => fun h => h
  | _ :: _, [], _, _, h => h.elim
  | a :: x, b :: y, hx, hy, h => by
    intro g
    simp only [List.map_cons, lexI] at g
    rcases h with h | ⟨rfl, h⟩
    · have := hF a b h (hy b (by simp))
      rcases g with g | g <;> omega
    · rcases g with g | g
      · omega
      · exact not_lexI hF (fun i hi => hx i (by simp [hi])) (fun i hi => hy i (by simp [hi])) h g.2
end Go.Proofs.Ytlblpegbgbgliaa
