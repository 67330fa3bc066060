/- The plain law KvSeqs. Conditions: none. -/
import Derived.Test.YtdaedoklkmdhcaaPlKv2
import Derived.Test.YtdaedoklkmdhcaaRw3
namespace Go.Proofs.Ytdaedoklkmdhcaa
set_option linter.unusedVariables false
set_option linter.unusedSimpArgs false
open Go.RowKit
def pick (c : Int) (l : List Sess) (z : Int) : Int := l.foldl (fun z x => if x.1 = c then x.2.1 else z) z
theorem pick_none (c : Int) : ∀ (l : List Sess) (z : Int), (∀ x ∈ l, x.1 ≠ c) → pick c l z = z
  | [], z, _ => rfl
  | x :: l, z, h => by
    have := pick_none c l z fun y hy => h y (List.mem_cons_of_mem _ hy)
    unfold pick at *
    rw [List.foldl_cons, if_neg (h x (by simp))]; exact this
theorem pick_same (c q : Int) : ∀ (l : List Sess) (z : Int), (∀ x ∈ l, x.1 = c → x.2.1 = q) → (z = q ∨ ∃ x ∈ l, x.1 = c) → pick c l z = q
  | [], z, _, h => by
    rcases h with h | ⟨x, hx, _⟩
    · exact h
    · simp at hx
  | x :: l, z, h, hz => by
    have ih := fun z' => pick_same c q l z' (fun y hy => h y (List.mem_cons_of_mem _ hy))
    unfold pick at *
    rw [List.foldl_cons]
    by_cases hx : x.1 = c
    · rw [if_pos hx]; exact ih _ (.inl (h x (by simp) hx))
    · rw [if_neg hx]
      refine ih _ ?_
      rcases hz with hz | ⟨y, hy, e⟩
      · exact .inl hz
      · rcases List.mem_cons.1 hy with hy | hy
        · subst hy; exact absurd e hx
        · exact .inr ⟨y, hy, e⟩
theorem seqs_l1 (l : List Cmd) (hl : l.length ≤ 1000) (t : Int × PP × SS) (c : Cmd) (i : Nat) (hi : t.1 = (i : Int) ∧ i < l.length ∧ l.getD i dz33 = c) (L : List Sess) (hL : L.length ≤ 1000) : ∀ (d j k : Nat) (z : Int), j + d = L.length → d + 1 ≤ k →
    synodlaw11_KvSeqs.l1 l t L k z (j : Int) = some (pick c.2.1 (L.drop j) z)
  | d, j, 0, z, _, hk => by omega
  | 0, j, k + 1, z, hj, _ => by
    simp only [synodlaw11_KvSeqs.l1]
    rw [if_neg (by omega), List.drop_eq_nil_of_le (by omega)]; rfl
  | d + 1, j, k + 1, z, hj, hk => by
    have hj' : 0 ≤ (j : Int) ∧ (j : Int) < (L.length : Int) := by omega
    simp only [synodlaw11_KvSeqs.l1]
    rw [hi.1, Int.toNat_natCast, Int.toNat_natCast, hi.2.2]
    rw [if_pos (by omega), if_pos hj', if_pos (by have := hi.2.1; omega), inc64 j 2000 (by omega) (by decide)]
    have e := getD_drop_cons L j ((0 : Int), (0 : Int), (0 : Int), ([] : List UInt8)) (by omega)
    obtain ⟨x, hx⟩ : ∃ x, L.getD j ((0 : Int), (0 : Int), (0 : Int), ([] : List UInt8)) = x := ⟨_, rfl⟩
    rw [hx] at e
    simp only [hx]
    have ih := fun z => seqs_l1 l hl t c i hi L hL d (j + 1) k z (by omega) (by omega)
    rw [e]
    have ep : pick c.2.1 (x :: L.drop (j + 1)) z = pick c.2.1 (L.drop (j + 1)) (if x.1 = c.2.1 then x.2.1 else z) := rfl
    rw [ep]
    by_cases h1 : x.1 = c.2.1
    · rw [if_pos h1, if_pos h1]
      first | rw [if_pos hj'] | skip
      exact ih _
    · rw [if_neg h1, if_neg h1]; exact ih _
theorem seen_pick {st : PP × SS} (h : Inv st.1 st.2) (c : Int) : pick c (canS st.2) 0 = match mget st.2 c with | some x => x.2.1 | none => 0 := by
  cases hm : mget st.2 c with
  | none =>
    refine pick_none c _ 0 fun x hx e => ?_
    have := canS_get h hx
    rw [e, hm] at this; cases this
  | some x =>
    have hx := mget_mem _ _ _ hm
    refine pick_same c x.2.1 _ 0 (fun y hy e => ?_) (.inr ⟨x, canS_mem h hx, (h.se _ hx).1⟩)
    have := canS_get h hy
    rw [e, hm] at this; injection this with this; rw [this]
theorem seqs_l0 (l : List Cmd) (hl : l.length ≤ 1000) : ∀ (d i k : Nat) (st : PP × SS), i + d = l.length → d + 400000 ≤ k → Inv st.1 st.2 →
    synodlaw11_KvSeqs.l0 l k (i : Int) st.1 st.2 = some (.inl ())
  | d, i, 0, st, _, hk, _ => by omega
  | 0, i, k + 1, st, hi, _, hI => by
    simp only [synodlaw11_KvSeqs.l0]
    rw [if_neg (by omega)]
  | d + 1, i, k + 1, st, hi, hk, hI => by
    have hi' : 0 ≤ (i : Int) ∧ (i : Int) < (l.length : Int) := by omega
    simp only [synodlaw11_KvSeqs.l0]
    rw [if_pos (by omega), inc64 i 2000 (by omega) (by decide), Sessions_eq hI (by omega), Option.bind_some]
    obtain ⟨c, hc⟩ : ∃ c, l.getD i dz33 = c := ⟨_, rfl⟩
    have hsl := hI.sl
    have e1 := seqs_l1 l hl ((i : Int), st.1, st.2) c i ⟨rfl, by omega, hc⟩ (canS st.2) (by rw [canS_len]; omega) (canS st.2).length 0 k 0 (by omega) (by rw [canS_len]; omega)
    rw [show ((0 : Nat) : Int) = 0 from rfl, List.drop_zero, seen_pick hI] at e1
    have hJ := stC_inv hI c
    have hl1 := snapV_len hI
    have hl2 := snapV_len hJ
    rw [e1, Option.bind_some, Snapshot_eq hI (by omega), Option.bind_some, if_pos hi', Int.toNat_natCast]
    simp only [hc]
    rw [DoC_eq, Option.bind_some, show (doC st c).2.2.2.1 = (stC st c).1 from rfl, show (doC st c).2.2.2.2 = (stC st c).2 from rfl, Snapshot_eq hJ (by omega), Option.bind_some, SameBytes_eq (by omega) (by omega), Option.bind_some]
    rw [show synodref_Num.f (doC st c).2.2.1 = some (doC st c).2.2.1 from rfl, show synodref_Num.v (doC st c).2.2.1 = (doC st c).2.2.1 from rfl, Option.bind_some]
    have ih := seqs_l0 l hl d (i + 1) k (stC st c) (by omega) (by omega) hJ
    rw [doC_err]
    have a1 : (if chkD c = (0 : Int) then (some false) else (some ((!decide (snapV st.1 st.2 = snapV (stC st c).1 (stC st c).2)) || (!(decide ((doC st c).1 = (0 : Int)) && (decide ((doC st c).2.1 = ([] : List UInt8)))))))) = some false := by
      by_cases h0 : chkD c = 0
      · rw [if_pos h0]
      · rw [if_neg h0, stC_seen (.inl h0), doC_same h0]; simp
    rw [a1, Option.bind_some, if_neg (by simp)]
    have a2 : ∀ s26v : Int, s26v = (match mget st.2 c.2.1 with | some x => x.2.1 | none => 0) → (if chkD c = (0 : Int) then (if 0 ≤ (i : Int) ∧ (i : Int) < (l.length : Int) then (if c.2.2.1 ≤ s26v then (if (!decide (snapV st.1 st.2 = snapV (stC st c).1 (stC st c).2)) = true then (some true) else (if 0 ≤ (i : Int) ∧ (i : Int) < (l.length : Int) then (some (!((decide ((doC st c).1 = (4 : Int))) == (decide (c.2.2.1 < s26v))))) else none)) else (some false)) else none) else (some false)) = some false := by
      intro s26v hs
      by_cases h0 : chkD c = 0
      · rw [if_pos h0, if_pos hi']
        by_cases hq : c.2.2.1 ≤ s26v
        · rw [if_pos hq]
          obtain ⟨-, -, hq1, -⟩ := chkC_ok h0
          have hq1 := hq1.1
          cases hm : mget st.2 c.2.1 with
          | none => rw [hm] at hs; simp only at hs; omega
          | some x =>
            rw [hm] at hs; simp only at hs
            rw [hs] at hq
            rw [stC_seen (.inr (.inl ⟨x, hm, hq⟩)), if_neg (by simp)]
            first | rw [if_pos hi'] | skip
            rcases Int.lt_or_eq_of_le hq with hq2 | hq2
            · rw [doC_old h0 hm hq2]; simp [hs, hq2]
            · rw [doC_again h0 hm hq2]
              have hx := (hI.se _ (mget_mem _ _ _ hm)).2.2.2.1
              have hx4 : ¬ x.2.2.1 = 4 := by
                simp only at hx; omega
              have hlt : ¬ c.2.2.1 < s26v := by omega
              simp [hx4, hlt]
        · rw [if_neg hq]
      · rw [if_neg h0]
    rw [a2 _ rfl, Option.bind_some, if_neg (by simp)]
    exact ih
theorem pure_KvSeqs {Q : Ty33 → Prop} (l : List Ty33) (h : l.length * 72 ≤ reachBytes ∧ ∀ e ∈ l, Q e) (hu : Mu.mu l ≤ 1048576) :
    ∃ k, synodlaw11_KvSeqs.f k l = some true := by
  have hr := reach_lt
  refine ⟨10000000, ?_⟩
  obtain ⟨k, hk0⟩ : ∃ k, k = 10000000 := ⟨_, rfl⟩
  rw [← hk0]
  have hk1 : 1000000 ≤ k := by omega
  clear hk0
  unfold synodlaw11_KvSeqs.f
  obtain ⟨b1, e1, -⟩ := few_eq (h := l) (by omega) (k := k) (by omega)
  rw [first_eq, Option.bind_some, e1, Option.bind_some]
  split
  · rfl
  · rename_i hc
    have hl : l.length ≤ 200 := by
      apply Classical.byContradiction; intro h; apply hc; simp; omega
    unfold kv_New.f
    rw [Option.bind_some]
    have e := seqs_l0 l (by omega) l.length 0 k ([], []) (by omega) (by omega) inv0
    rw [show ((0 : Nat) : Int) = 0 from rfl] at e
    simp only
    rw [e]; rfl
end Go.Proofs.Ytdaedoklkmdhcaa
