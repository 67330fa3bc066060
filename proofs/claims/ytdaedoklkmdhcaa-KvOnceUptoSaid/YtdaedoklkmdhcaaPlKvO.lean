/- The plain law KvOnce. Conditions: none. -/
import Derived.Test.YtdaedoklkmdhcaaPlKv2
import Derived.Test.YtdaedoklkmdhcaaRw3
namespace Go.Proofs.Ytdaedoklkmdhcaa
set_option linter.unusedVariables false
set_option linter.unusedSimpArgs false
open Go.RowKit
theorem once_l0 (l : List Cmd) (hl : l.length ≤ 1000) : ∀ (d i k : Nat) (st : PP × SS), i + d = l.length → d + 1 ≤ k →
    synodlaw11_KvOnce.l0 l k (i : Int) st.1 st.2 st.1 st.2 = some (.inl ((stL st (l.drop i)).1, (stL st (l.drop i)).2, (stL st (l.drop i)).1, (stL st (l.drop i)).2))
  | d, i, 0, st, _, hk => by omega
  | 0, i, k + 1, st, hi, _ => by
    simp only [synodlaw11_KvOnce.l0]
    rw [if_neg (by omega), List.drop_eq_nil_of_le (by omega)]; rfl
  | d + 1, i, k + 1, st, hi, hk => by
    simp only [synodlaw11_KvOnce.l0]
    rw [if_pos (by omega), if_pos (by omega), Int.toNat_natCast, stL_drop l st i (by omega)]
    obtain ⟨c, hc⟩ : ∃ c, l.getD i dz33 = c := ⟨_, rfl⟩
    simp only [hc]
    rw [DoC_eq, Option.bind_some, if_pos (by omega), Option.bind_some, if_pos (by omega)]
    have e2 := DoC_eq (stC st c) c
    rw [doC_twice] at e2
    rw [show (doC st c).2.2.2.1 = (stC st c).1 from rfl, show (doC st c).2.2.2.2 = (stC st c).2 from rfl, e2, Option.bind_some]
    rw [show synodref_Num.f (doC st c).2.2.1 = some (doC st c).2.2.1 from rfl]
    simp only [decide_true, Bool.and_self, Bool.not_true, Bool.or_self, Bool.false_eq_true, if_false, Option.bind_some]
    rw [inc64 i 2000 (by omega) (by decide)]
    exact once_l0 l hl d (i + 1) k (stC st c) (by omega) (by omega)
theorem once_l2 (l : List Cmd) (hl : l.length ≤ 1000) (t : Int × PP × SS) (ht : 0 ≤ t.1 ∧ t.1 < (l.length : Int)) : ∀ (d i k : Nat) (z : Bool), i + d = l.length → d + 1 ≤ k → ∃ b, synodlaw11_KvOnce.l2 l t k z (i : Int) = some b
  | d, i, 0, z, _, hk => by omega
  | 0, i, k + 1, z, hi, _ => by
    simp only [synodlaw11_KvOnce.l2]
    rw [if_neg (by omega)]; exact ⟨_, rfl⟩
  | d + 1, i, k + 1, z, hi, hk => by
    simp only [synodlaw11_KvOnce.l2]
    rw [if_pos (by omega), inc64 i 2000 (by omega) (by decide)]
    have hi' : 0 ≤ (i : Int) ∧ (i : Int) < (l.length : Int) := by omega
    split
    · try rw [if_pos hi', if_pos ht]
      split
      · try rw [if_pos hi', if_pos ht]
        exact once_l2 l hl t ht d (i + 1) k _ (by omega) (by omega)
      · exact once_l2 l hl t ht d (i + 1) k _ (by omega) (by omega)
    · exact once_l2 l hl t ht d (i + 1) k _ (by omega) (by omega)
theorem higher_l0 (c q : Int) (L : List Sess) (hL : L.length ≤ 1000) (h : ∀ t ∈ L, ¬ (t.1 = c ∧ q < t.2.1)) : ∀ (d i k : Nat), i + d = L.length → d + 1 ≤ k → synodlaw11_higher.l0 c q L k (i : Int) = some (.inl ())
  | d, i, 0, _, hk => by omega
  | 0, i, k + 1, hi, _ => by
    simp only [synodlaw11_higher.l0]
    rw [if_neg (by omega)]
  | d + 1, i, k + 1, hi, hk => by
    simp only [synodlaw11_higher.l0]
    have hi' : 0 ≤ (i : Int) ∧ (i : Int) < (L.length : Int) := by omega
    have hm := h _ (getD_mem L i ((0 : Int), (0 : Int), (0 : Int), ([] : List UInt8)) (by omega))
    rw [if_pos (by omega), if_pos hi', inc64 i 2000 (by omega) (by decide), Int.toNat_natCast]
    obtain ⟨x, hx⟩ : ∃ x, L.getD i ((0 : Int), (0 : Int), (0 : Int), ([] : List UInt8)) = x := ⟨_, rfl⟩
    rw [hx] at hm
    simp only [hx]
    have e : (if x.1 = c then (if 0 ≤ (i : Int) ∧ (i : Int) < (L.length : Int) then (some (decide (q < x.2.1))) else none) else (some false)) = some false := by
      split
      · rename_i h1
        try rw [if_pos hi']
        rw [decide_eq_false fun h2 => hm ⟨h1, h2⟩]
      · rfl
    rw [e, Option.bind_some, if_neg (by simp)]
    exact higher_l0 c q L hL h d (i + 1) k (by omega) (by omega)
theorem once_l1 (l : List Cmd) (hl : l.length ≤ 1000) (st : PP × SS) (hst : st = stL ([], []) l) : ∀ (d i k : Nat), i + d = l.length → d + 5000 ≤ k →
    synodlaw11_KvOnce.l1 l k (i : Int) st.1 st.2 = some (.inl (st.1, st.2))
  | d, i, 0, _, hk => by omega
  | 0, i, k + 1, hi, _ => by
    simp only [synodlaw11_KvOnce.l1]
    rw [if_neg (by omega)]
  | d + 1, i, k + 1, hi, hk => by
    have hI : Inv st.1 st.2 := by rw [hst]; exact stL_inv l _ inv0
    have hi' : 0 ≤ (i : Int) ∧ (i : Int) < (l.length : Int) := by omega
    simp only [synodlaw11_KvOnce.l1]
    rw [if_pos (by omega), inc64 i 2000 (by omega) (by decide)]
    obtain ⟨b, hb⟩ := once_l2 l hl ((i : Int), st.1, st.2) hi' d (i + 1) k true (by omega) (by omega)
    rw [hb, Option.bind_some, if_pos hi', Int.toNat_natCast]
    have hc := getD_mem l i dz33 (by omega)
    obtain ⟨c, ec⟩ : ∃ c, l.getD i dz33 = c := ⟨_, rfl⟩
    rw [ec] at hc
    simp only [ec]
    have hs : seen st.2 c := by rw [hst]; exact stL_seen l _ c hc
    have e1 : (doC st c).2.2.2.1 = st.1 := congrArg (·.1) (stC_seen hs)
    have e2 : (doC st c).2.2.2.2 = st.2 := congrArg (·.2) (stC_seen hs)
    rw [DoC_eq, Option.bind_some, show synodref_Num.f (doC st c).2.2.1 = some (doC st c).2.2.1 from rfl, Option.bind_some, e1, e2]
    have ih := once_l1 l hl st hst d (i + 1) k (by omega) (by omega)
    split
    · rename_i h0
      rw [doC_err] at h0
      have e : (if (((!b) && (!decide ((doC st c).1 = (4 : Int)))) && (!decide ((doC st c).1 = (5 : Int)))) = true then ((synodlaw11_higher.f k (c.1) (c.2.1) (c.2.2.1) (c.2.2.2.1) (c.2.2.2.2.1) (c.2.2.2.2.2) l).bind fun s187v => (some s187v)) else (some false)) = some false := by
        split
        · rename_i hg
          simp only [Bool.and_eq_true, Bool.not_eq_true', decide_eq_false_iff_not] at hg
          unfold synodlaw11_higher.f kv_New.f
          rw [Option.bind_some]
          have ed := does_eq l hl (k := k) (by omega) ([], [])
          rw [← hst] at ed
          simp only
          rw [ed, Option.bind_some, Sessions_eq hI (by omega), Option.bind_some]
          have eh := higher_l0 c.2.1 c.2.2.1 (canS st.2) (by rw [canS_len]; have := hI.sl; omega) (by
            rintro t ht ⟨h1, h2⟩
            have hg2 := canS_get hI ht
            rw [h1] at hg2
            exact hg.1.2 (by rw [doC_old h0 hg2 h2])) (canS st.2).length 0 k (by omega) (by rw [canS_len]; have := hI.sl; omega)
          rw [show ((0 : Nat) : Int) = 0 from rfl] at eh
          rw [eh]; rfl
        · rfl
      rw [e, Option.bind_some, if_neg (by simp)]
      exact ih
    · exact ih
theorem pure_KvOnce {Q : Ty33 → Prop} (l : List Ty33) (h : l.length * 72 ≤ reachBytes ∧ ∀ e ∈ l, Q e) (hu : Mu.mu l ≤ 1048576) :
    ∃ k, synodlaw11_KvOnce.f k l = some true := by
  have hr := reach_lt
  refine ⟨10000000, ?_⟩
  obtain ⟨k, hk0⟩ : ∃ k, k = 10000000 := ⟨_, rfl⟩
  rw [← hk0]
  have hk1 : 1000000 ≤ k := by omega
  clear hk0
  unfold synodlaw11_KvOnce.f
  obtain ⟨b1, e1, -⟩ := few_eq (h := l) (by omega) (k := k) (by omega)
  rw [first_eq, Option.bind_some, e1, Option.bind_some]
  split
  · rfl
  · rename_i hc
    have hl : l.length ≤ 200 := by
      apply Classical.byContradiction; intro h; apply hc; simp; omega
    unfold kv_New.f
    rw [Option.bind_some, Option.bind_some]
    have eL := once_l0 l (by omega) l.length 0 k ([], []) (by omega) (by omega)
    rw [show ((0 : Nat) : Int) = 0 from rfl, List.drop_zero] at eL
    obtain ⟨st, hst⟩ : ∃ st, st = stL ([], []) l := ⟨_, rfl⟩
    have hI : Inv st.1 st.2 := by rw [hst]; exact stL_inv l _ inv0
    have hlen := snapV_len hI
    rw [← hst] at eL
    simp only
    rw [eL]
    simp only [orR, Option.bind_some]
    rw [Snapshot_eq hI (by omega), Option.bind_some, Option.bind_some, SameBytes_eq (by omega) (by omega), Option.bind_some]
    have e1 := once_l1 l (by omega) st hst l.length 0 k (by omega) (by omega)
    rw [show ((0 : Nat) : Int) = 0 from rfl] at e1
    rw [e1]
    simp only [orR, Option.bind_some, decide_true, if_true]
    rw [Snapshot_eq hI (by omega), Option.bind_some, SameBytes_eq (by omega) (by omega), Option.bind_some]
    simp
end Go.Proofs.Ytdaedoklkmdhcaa
