/- The plain laws of WireOneForm and WireFronts. Conditions: none. -/
import Derived.Test.YtdolffamgbcokaaPlWire2
import Derived.SizedLaws
import Derived.Test.YtdolffamgbcokaaPlWireInts
namespace Go.Proofs.Ytdolffamgbcokaa
set_option linter.unusedVariables false
set_option linter.unusedSimpArgs false
open Go.RowKit
theorem errV_zero (x : Int) : errV x = 0 ↔ okN x := by unfold errV; split <;> simp_all
theorem reach_lt : reachBytes < 2 ^ 47 := by decide
theorem Bytes_eq {x : List UInt8} (h : x.length ≤ 140737488355328) : synodref_Bytes.f x = some x := by
  unfold synodref_Bytes.f
  rw [if_pos (by simp; omega)]; rfl
theorem sv_front {n m : Nat} (hn : n ≤ 2 ^ 62) (hm : m ≤ 2 ^ 62) (r : List UInt8) (h : sv m = sv n ++ r) : n = m := by
  have h1 := dec_sv hn r
  have h2 := dec_sv hm []
  rw [← h, ← List.append_nil (sv m), h2] at h1
  have := congrArg (·.1) h1
  simp at this
  omega
theorem cut0 (l : List UInt8) (n : Nat) : cut l (0 : Int) (n : Int) = l.take n := by simp [cut]
theorem pure_WireOneForm (x0 : Int) (_ : (Lit.int .i64 x0).wf = true) (x1 : Int) (_ : (Lit.int .i64 x1).wf = true) (x2 : List UInt8) (h2 : x2.length ≤ reachBytes) : ∃ k, synodlaw1_WireOneForm.f k x0 x1 x2 = some true := by
  refine ⟨30, ?_⟩
  have hm := reach_lt
  unfold synodlaw1_WireOneForm.f
  rw [first_eq 0]
  simp only [Option.bind_some]
  by_cases hbig : (20000 : Int) < (x2.length : Int)
  · rw [if_pos (by simp; omega)]
  rw [if_neg (by simp; omega), wire_PutInt_eq (by decide), wire_PutInt_eq (by decide)]
  simp only [Option.bind_some, synodref_Num.f]
  by_cases ha : okN x0
  · by_cases hb : okN x1
    · obtain ⟨n, rfl⟩ := Int.eq_ofNat_of_zero_le ha.1
      obtain ⟨m, rfl⟩ := Int.eq_ofNat_of_zero_le hb.1
      have hn : n ≤ 2 ^ 62 := by have := ha.2; omega
      have hmm : m ≤ 2 ^ 62 := by have := hb.2; omega
      have ea := (errV_zero _).2 ha
      have eb := (errV_zero _).2 hb
      have ba : bytesV (n : Int) = sv n := by unfold bytesV; rw [if_pos ha]; rfl
      have bb : bytesV (m : Int) = sv m := by unfold bytesV; rw [if_pos hb]; rfl
      have sa : sizeV (n : Int) = ((sv n).length : Nat) := by unfold sizeV; rw [if_pos ha]; rfl
      have hla := sv9 (n := n) (by omega)
      have hlb := sv9 (n := m) (by omega)
      have hpa := sv_pos n
      have hdec : decAt (sv n ++ x2) 0 = (((n : Nat) : Int), (((sv n).length : Nat) : Int), (0 : Int)) := by
        unfold decAt
        rw [if_neg (by rw [List.length_append]; omega)]
        exact dec_sv hn x2
      rw [ea, eb, ba, bb]
      simp only [if_true, Option.bind_some, decide_true, Bool.not_true, Bool.false_eq_true, if_false]
      rw [Bytes_eq (by omega)]
      simp only [Option.bind_some]
      rw [if_pos (by omega), wire_Int_eq (by decide) (by rw [List.length_append]; omega), hdec, wire_Size_eq (by decide), sa]
      simp only [Option.bind_some, decide_true, Bool.true_and, if_true]
      by_cases hle : (sv n).length ≤ (sv m).length
      · have emin : min ((sv n).length : Int) ((sv m).length : Int) = ((sv n).length : Nat) := by omega
        rw [if_pos (by omega), emin, if_pos (by omega), cut0, SameBytes_eq (by omega) (by omega)]
        simp only [Option.bind_some]
        have hq : (sv n = (sv m).take (sv n).length) ↔ n = m := by
          constructor
          · intro h
            refine sv_front hn hmm ((sv m).drop (sv n).length) ?_
            have h2 := List.take_append_drop (sv n).length (sv m)
            rw [← h] at h2
            exact h2.symm
          · rintro rfl; rw [List.take_length]
        by_cases hnm : n = m
        · subst hnm
          simp
        · have h3 : ¬ (sv n = (sv m).take (sv n).length) := fun h => hnm (hq.1 h)
          have h4 : ¬ ((n : Int) = (m : Int)) := by omega
          rw [if_pos (by simp [h3, h4])]
          simp
          omega
      · rw [if_neg (by omega)]
        have h4 : ¬ ((n : Int) = (m : Int)) := by rintro h; have : n = m := by omega
                                                  subst this; omega
        simp only [Option.bind_some]
        rw [if_pos (by simp [h4])]
        have : m < n := by
          refine Nat.not_le.1 fun h => hle (sv_mono_len n m h)
        simp
        omega
    · have ea := (errV_zero _).2 ha
      have eb : ¬ errV x1 = 0 := fun h => hb ((errV_zero _).1 h)
      rw [ea]
      simp only [if_true, Option.bind_some]
      rw [if_pos (by simp [eb])]
      have := ha.1; have := ha.2
      simp; omega
  · have ea : ¬ errV x0 = 0 := fun h => ha ((errV_zero _).1 h)
    rw [if_neg ea]
    simp only [Option.bind_some, if_true]
    unfold okN at ha
    simp [ea]; omega
theorem dec_ok {l : List UInt8} (h : (dec l).2.2 = 0) : ∃ i, lead l = i ∧ i < 9 ∧ i < l.length ∧ ¬ (0 < i ∧ (l.getD i 0).toNat = 0) ∧ part7 (i + 1) l ≤ 2 ^ 62 ∧ dec l = (((part7 (i + 1) l : Nat) : Int), ((i + 1 : Nat) : Int), (0 : Int)) := by
  by_cases h9 : 9 ≤ lead l
  · rw [dec_nine h9] at h; simp at h
  by_cases hs : l.length ≤ lead l
  · rw [dec_short (by omega) hs] at h; simp at h
  rw [dec_stop rfl (by omega) (by omega)] at h
  by_cases hz : 0 < lead l ∧ (l.getD (lead l) 0).toNat = 0
  · rw [if_pos hz] at h; simp at h
  rw [if_neg hz] at h
  by_cases hb : 2 ^ 62 < part7 (lead l + 1) l
  · rw [if_pos hb] at h; simp at h
  refine ⟨lead l, rfl, by omega, by omega, hz, by omega, ?_⟩
  rw [dec_stop rfl (by omega) (by omega), if_neg hz, if_neg hb]
theorem dec_bad {l : List UInt8} (h : ¬ (dec l).2.2 = 0) : (dec l).1 = 0 ∧ (dec l).2.1 = 0 := by
  by_cases h9 : 9 ≤ lead l
  · rw [dec_nine h9]; exact ⟨rfl, rfl⟩
  by_cases hs : l.length ≤ lead l
  · rw [dec_short (by omega) hs]; exact ⟨rfl, rfl⟩
  rw [dec_stop rfl (by omega) (by omega)] at h ⊢
  by_cases hz : 0 < lead l ∧ (l.getD (lead l) 0).toNat = 0
  · rw [if_pos hz]; exact ⟨rfl, rfl⟩
  rw [if_neg hz] at h ⊢
  by_cases hb : 2 ^ 62 < part7 (lead l + 1) l
  · rw [if_pos hb]; exact ⟨rfl, rfl⟩
  · rw [if_neg hb] at h; exact absurd rfl h
theorem cutN (l : List UInt8) (p n : Nat) : cut l (p : Int) ((p + n : Nat) : Int) = (l.drop p).take n := by
  simp only [cut, Int.toNat_natCast]
  rw [List.drop_take]
  congr 1
  omega
theorem pure_WireFronts (b : List UInt8) (hb : b.length ≤ reachBytes) (x : Int) (_ : (Lit.int .i64 x).wf = true) : ∃ k, synodlaw1_WireFronts.f k b x = some true := by
  refine ⟨30, ?_⟩
  have hm := reach_lt
  unfold synodlaw1_WireFronts.f
  rw [first_eq 0]
  simp only [Option.bind_some]
  by_cases hbig : (20000 : Int) < (b.length : Int)
  · rw [if_pos (by simp; omega)]
  rw [if_neg (by simp; omega), wire_Int_eq (by decide) (by omega)]
  simp only [Option.bind_some, synodref_Num.f]
  by_cases hat : x < 0 ∨ (b.length : Int) ≤ x
  · have e : decAt b x = (0, 0, 2) := by unfold decAt; rw [if_pos hat]
    rw [e]
    rfl
  obtain ⟨p, rfl⟩ := Int.eq_ofNat_of_zero_le (show 0 ≤ x by omega)
  have e : decAt b (p : Int) = dec (b.drop p) := by unfold decAt; rw [if_neg hat]; rfl
  rw [e]
  by_cases hok : (dec (b.drop p)).2.2 = 0
  · obtain ⟨i, hi, h9, hlt, hz, hv, hd⟩ := dec_ok hok
    have hlen : (b.drop p).length = b.length - p := by simp
    rw [hd]
    simp only [if_true]
    have e1 : IntKind.i64.wrap ((b.length : Int) - ((i + 1 : Nat) : Int)) = (b.length : Int) - ((i + 1 : Nat) : Int) := w64 (by omega) (by omega)
    have e2 : IntKind.i64.wrap ((p : Int) + ((i + 1 : Nat) : Int)) = ((p + (i + 1) : Nat) : Int) := by rw [w64 (by omega) (by omega)]; simp
    have e3 : IntKind.i64.wrap (((p + (i + 1) : Nat) : Int) - 1) = ((p + i : Nat) : Int) := by rw [w64 (by omega) (by omega)]; omega
    rw [e1, e2, e3, if_neg (by simp only [Bool.or_eq_true, decide_eq_true_eq]; omega), wire_PutInt_eq (by decide)]
    have hokN : okN ((part7 (i + 1) (b.drop p) : Nat) : Int) := ⟨by omega, by omega⟩
    have hbv : bytesV ((part7 (i + 1) (b.drop p) : Nat) : Int) = (b.drop p).take (i + 1) := by
      unfold bytesV
      rw [if_pos hokN, Int.toNat_natCast, ← val7_part]
      exact sv_val i (b.drop p) hi hlt hz
    have hev := (errV_zero _).2 hokN
    simp only [Option.bind_some, hbv, hev]
    rw [if_pos (by omega), cutN, SameBytes_eq (by rw [List.length_take]; omega) (by rw [List.length_take]; omega)]
    simp only [Option.bind_some, decide_true, if_true]
    rw [if_pos (by omega), wire_Int_eq (by decide) (by rw [cut0, List.length_take]; omega), cut0]
    have hfront : decAt (b.take (p + i)) (p : Int) = (0, 0, 2) := by
      unfold decAt
      by_cases h0 : i = 0
      · rw [if_pos (by rw [List.length_take]; omega)]
      · rw [if_neg (by rw [List.length_take]; omega), Int.toNat_natCast]
        have e4 : (b.take (p + i)).drop p = (b.drop p).take i := by rw [List.drop_take]; congr 1; omega
        rw [e4]
        have hl := lead_take (b.drop p) i (by omega)
        exact dec_short (by omega) (by rw [hl, List.length_take]; omega)
    rw [hfront]
    rfl
  · obtain ⟨h1, h2⟩ := dec_bad hok
    rw [if_neg hok, h1, h2]
    rfl
end Go.Proofs.Ytdolffamgbcokaa
