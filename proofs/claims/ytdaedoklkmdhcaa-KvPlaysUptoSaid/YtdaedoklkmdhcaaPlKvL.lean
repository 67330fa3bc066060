/- The plain law KvPlays. Conditions: none. -/
import Derived.Test.YtdaedoklkmdhcaaPlKv6
import Derived.Test.YtdaedoklkmdhcaaRw3
namespace Go.Proofs.Ytdaedoklkmdhcaa
set_option linter.unusedVariables false
set_option linter.unusedSimpArgs false
open Go.RowKit
def finE (c : Nat → Nat) : Nat → Nat → Int × Nat
  | i, 0 => ((i : Int), 0)
  | i, d + 1 => if c i = 0 then finE c (i + 1) d else (((i + 1 : Nat) : Int), c i)
def eachE (p : PP) (i : Nat) : List UInt8 × List UInt8 := ((keysS p).getD i [], (mget p ((keysS p).getD i [])).getD [])
theorem each_l0 {p : PP} {nc : Nat} {st : Int → List UInt8 × List UInt8 → Option (Int × Nat)} (c : Nat → Nat) (hc : ∀ i, c i ≤ nc) (hst : ∀ i : Nat, i < (keysS p).length → st (i : Int) (eachE p i) = some (((i + 1 : Nat) : Int), c i)) :
    ∀ (d i k : Nat), i + d = (keysS p).length → (keysS p).length ≤ 1000 → d + 1 ≤ k → kv_Store_Each_1_s_2_g.l0 goJ (stepJ nc st) p (keysS p) k (i : Int) ((i : Int), 0) = some (finE c i d)
  | d, i, 0, _, _, hk => by omega
  | 0, i, k + 1, hi, _, _ => by
    simp only [kv_Store_Each_1_s_2_g.l0]
    rw [if_neg (by omega)]; rfl
  | d + 1, i, k + 1, hi, hL, hk => by
    have hb : 0 ≤ (i : Int) ∧ (i : Int) < ((keysS p).length : Int) := by omega
    have hs := hst i (by omega)
    unfold eachE at hs
    have hj : stepJ nc st ((i : Int), 0) ((keysS p).getD i [], (mget p ((keysS p).getD i [])).getD []) = some (((i + 1 : Nat) : Int), c i) := by
      unfold stepJ; simp only [hs, Option.bind_some]; rw [if_pos (hc i)]
    simp only [kv_Store_Each_1_s_2_g.l0]
    rw [if_pos hb.2, if_pos hb, if_pos (show goJ ((i : Int), 0) = true from rfl), Int.toNat_natCast, hj, Option.bind_some, inc64 i 2000 (by omega) (by decide)]
    unfold finE
    by_cases h0 : c i = 0
    · rw [if_pos h0, h0, if_neg (by simp [goJ])]
      exact each_l0 c hc hst d (i + 1) k (by omega) hL (by omega)
    · rw [if_neg h0, if_pos (by simp [goJ, h0])]
theorem finE_all : ∀ (d i : Nat), finE (fun _ => 0) i d = (((i + d : Nat) : Int), 0)
  | 0, i => rfl
  | d + 1, i => by unfold finE; rw [if_pos rfl, finE_all d (i + 1), show i + 1 + d = i + (d + 1) by omega]
def cutE (stop : Int) (i : Nat) : Nat := if ((i + 1 : Nat) : Int) = stop then 2 else 0
theorem finE_cut (stop : Int) : ∀ (d i : Nat), finE (cutE stop) i d = if (i : Int) < stop ∧ stop ≤ ((i + d : Nat) : Int) then (stop, 2) else (((i + d : Nat) : Int), 0)
  | 0, i => by unfold finE; rw [if_neg (by omega)]; rfl
  | d + 1, i => by
    unfold finE
    by_cases h : ((i + 1 : Nat) : Int) = stop
    · have hc : cutE stop i = 2 := by unfold cutE; rw [if_pos h]
      rw [hc, if_neg (by decide), if_pos (by omega), h]
    · have hc : cutE stop i = 0 := by unfold cutE; rw [if_neg h]
      rw [hc, if_pos rfl, finE_cut stop d (i + 1), show i + 1 + d = i + (d + 1) by omega]
      by_cases h1 : (i : Int) < stop ∧ stop ≤ ((i + (d + 1) : Nat) : Int)
      · rw [if_pos h1, if_pos (by omega)]
      · rw [if_neg h1, if_neg (by omega)]
theorem eachF {p : PP} {s : SS} (hI : Inv p s) {nc : Nat} {st : Int → List UInt8 × List UInt8 → Option (Int × Nat)} (c : Nat → Nat) (hc : ∀ i, c i ≤ nc) (hst : ∀ i : Nat, i < (keysS p).length → st (i : Int) (eachE p i) = some (((i + 1 : Nat) : Int), c i)) {k : Nat} (hk : 2000 ≤ k) :
    kv_Store_Each_1_s_2_g.f k goJ (stepJ nc st) (0, 0) p s = some (finE c 0 (keysS p).length) := by
  have hpl := hI.pl
  have hl := keysS_len p
  have := each_l0 (st := st) c hc hst (keysS p).length 0 k (by omega) (by omega) (by omega)
  unfold kv_Store_Each_1_s_2_g.f maps_Clone_map_string_string_string_string.f maps_Keys_map_string_string_string_string.f slices_Sorted_string_maps_Keys_map_string_string_string_string_1.f
  rw [Option.bind_some, Option.bind_some, if_pos ⟨hI.pk, by omega, fun e he => by have := (hI.pe e he).2.1; omega⟩, Option.bind_some]
  exact this
theorem each_eq {p : PP} {s : SS} (hI : Inv p s) (W : List Sess) (stop : Int) {k : Nat} (hk : 2000 ≤ k) : synodlaw11_each.f k p s (canP p) W stop = some true := by
  have hpl := hI.pl
  have hl := keysS_len p
  have hcl : (canP p).length = (keysS p).length := by rw [canP_len, hl]
  have hat : ∀ i : Nat, i < (keysS p).length → (canP p).getD i ([], []) = eachE p i := fun i h => canP_at h
  unfold synodlaw11_each.f
  rw [show kv_Store_Each.f = some () from rfl, Option.bind_some]
  have h2 : ∀ st : Int → List UInt8 × List UInt8 → Option (Int × Nat), (∀ i : Nat, i < (keysS p).length → st (i : Int) (eachE p i) = some (((i + 1 : Nat) : Int), 0)) → kv_Store_Each_1_s_2_g.f k goJ (stepJ 1 st) (0, 0) p s = some (((keysS p).length : Int), 0) := fun st hst => by
    rw [eachF hI (fun _ => 0) (by simp) hst hk, finE_all, Nat.zero_add]
  have e1 : ∀ st : Int → List UInt8 × List UInt8 → Option (Int × Nat), (∀ i : Nat, i < (keysS p).length → st (i : Int) (eachE p i) = some (((i + 1 : Nat) : Int), cutE stop i)) → kv_Store_Each_1_s_2_g.f k goJ (stepJ 2 st) (0, 0) p s = some (if (0 : Int) < stop ∧ stop ≤ ((keysS p).length : Int) then (stop, 2) else (((keysS p).length : Int), 0)) := fun st hst => by
    rw [eachF hI (cutE stop) (fun i => by unfold cutE; split <;> omega) hst hk, finE_cut, Nat.zero_add]; rfl
  rw [e1 _ (fun i hi => by
    have hb : 0 ≤ (i : Int) ∧ (i : Int) < ((canP p).length : Int) := by omega
    rw [if_neg (show ¬ (((canP p).length : Int) ≤ (i : Int)) by omega)]
    simp only [if_pos hb, Int.toNat_natCast, hat i hi, if_true, decide_true, Bool.not_true, Option.bind_some, Bool.false_eq_true, if_false]
    rw [inc64 i 2000 (by omega) (by decide)]
    unfold cutE
    split <;> rfl), Option.bind_some]
  have r2 : ∀ st : Int → List UInt8 × List UInt8 → Option (Int × Nat), (∀ i : Nat, i < (keysS p).length → st (i : Int) (eachE p i) = some (((i + 1 : Nat) : Int), 0)) →
      ((kv_Store_Each_1_s_2_g.f k goJ (stepJ 1 st) (0, 0) p s).bind fun s84v => (jumpO s84v.2 (if s84v.1 = ((canP p).length : Int) then (some true) else (some false)) [some false])) = some true := fun st hst => by
    rw [h2 st hst, Option.bind_some]
    simp only [jumpO]
    rw [if_pos (by omega)]
  rw [r2 _ (fun i hi => by
    have hb : 0 ≤ (i : Int) ∧ (i : Int) < ((canP p).length : Int) := by omega
    rw [if_neg (show ¬ (((canP p).length : Int) ≤ (i : Int)) by omega)]
    simp only [if_pos hb, Int.toNat_natCast, hat i hi, if_true, decide_true, Bool.not_true, Option.bind_some, Bool.false_eq_true, if_false]
    rw [inc64 i 2000 (by omega) (by decide)])]
  by_cases h : (0 : Int) < stop ∧ stop ≤ ((keysS p).length : Int)
  · rw [if_pos h]
    simp only [jumpO, List.getD_cons_succ, List.getD_cons_zero]
    rw [if_neg]
    simp; omega
  · rw [if_neg h]
    simp only [jumpO]
    rw [if_neg]
    simp; omega
theorem getF_v (p : PP) (s : SS) (ky : List UInt8) : kv_Store_Get.f p s ky = some (kv_Store_Get.v p s ky) := by
  unfold kv_Store_Get.v
  unfold kv_Store_Get.f
  split <;> rfl
theorem plays_l0 (l : List Cmd) (hl : l.length ≤ 1000) : ∀ (d i k : Nat) (p : PP) (s : SS), i + d = l.length → d + 400100 ≤ k → Inv p s →
    ∃ p' s', synodlaw11_KvPlays.l0 l k (i : Int) (canP p) (canS s) p s = some (.inl (canP p', canS s', p', s')) ∧ Inv p' s'
  | d, i, 0, p, s, _, hk, _ => by omega
  | 0, i, k + 1, p, s, hi, _, h => by
    simp only [synodlaw11_KvPlays.l0]
    rw [if_neg (by omega)]
    exact ⟨p, s, rfl, h⟩
  | d + 1, i, k + 1, p, s, hi, hk, h => by
    simp only [synodlaw11_KvPlays.l0]
    have hb : 0 ≤ (i : Int) ∧ (i : Int) < (l.length : Int) := by omega
    obtain ⟨c, hc⟩ : ∃ c, l.getD i dCm = c := ⟨_, rfl⟩
    simp only [if_pos hb.2, if_pos hb, Int.toNat_natCast, hc]
    have hJ := Do_inv h c.1 c.2.1 c.2.2.1 c.2.2.2.1 c.2.2.2.2.1 c.2.2.2.2.2
    rw [Do_eq, Option.bind_some, refDo_eq h _ _ _ _ _ _ (by omega), Option.bind_some]
    rw [show ∀ x, synodref_Num.v x = x from fun _ => rfl]
    simp only [decide_true, Bool.and_self, Bool.not_true, Bool.or_self, Bool.false_eq_true, if_false]
    rw [refGet_eq hJ _ _ (by omega), getF_v, Option.bind_some]
    simp only [decide_true, Bool.and_self, Bool.not_true, Option.bind_some, Bool.false_eq_true, if_false]
    rw [Same_eq hJ (by omega)]
    simp only [Option.bind_some, Bool.not_true, ite_self, Bool.false_eq_true, if_false]
    rw [inc64 i 2000 (by omega) (by decide)]
    exact plays_l0 l hl d (i + 1) k _ _ (by omega) (by omega) hJ
theorem pure_KvPlays {Q : Cmd → Prop} (l : List Cmd) (h : l.length * 72 ≤ reachBytes ∧ ∀ e ∈ l, Q e) (key : List UInt8) (hkey : key.length ≤ reachBytes) (stop : Int) (hst : (Lit.int .i64 stop).wf = true) (hu : Mu.mu l + Mu.mu key ≤ 1048576) :
    ∃ k, synodlaw11_KvPlays.f k l key stop = some true := by
  have hr := reach_lt
  refine ⟨10000000, ?_⟩
  obtain ⟨k, hk0⟩ : ∃ k, k = 10000000 := ⟨_, rfl⟩
  rw [← hk0]
  have hk1 : 1000000 ≤ k := by omega
  clear hk0
  unfold synodlaw11_KvPlays.f
  obtain ⟨b1, e1, hb1⟩ := few_eq (h := l) (by omega) (k := k) (by omega)
  rw [first_eq, Option.bind_some, e1, Option.bind_some]
  split
  · rfl
  · rename_i hc
    have hl : l.length ≤ 400 := hb1 (by cases b1 <;> simp_all)
    unfold kv_New.f
    rw [Option.bind_some]
    have ec : canP ([] : PP) = [] := by
      have := canP_len (p := ([] : PP)); exact List.length_eq_zero_iff.1 this
    have es : canS ([] : SS) = [] := List.length_eq_zero_iff.1 (canS_len ([] : SS))
    obtain ⟨p', s', eM, hJ⟩ := plays_l0 l (by omega) l.length 0 k [] [] (by omega) (by omega) inv0
    rw [show ((0 : Nat) : Int) = 0 from rfl, ec, es] at eM
    simp only
    rw [eM]
    simp only [orR]
    rw [Same_eq hJ (by omega), Option.bind_some, if_pos rfl, refGet_eq hJ _ _ (by omega), getF_v, Option.bind_some, Option.bind_some]
    simp only [decide_true, Bool.and_self, Option.bind_some, if_true]
    rw [each_eq hJ _ _ (by omega)]
    rfl
end Go.Proofs.Ytdaedoklkmdhcaa
