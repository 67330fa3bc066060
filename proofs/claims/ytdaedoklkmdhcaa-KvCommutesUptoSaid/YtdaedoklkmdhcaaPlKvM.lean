/- The plain law KvCommutes. Conditions: none. -/
import Derived.Test.YtdaedoklkmdhcaaPlKv2
import Derived.Test.YtdaedoklkmdhcaaRw3
namespace Go.Proofs.Ytdaedoklkmdhcaa
set_option linter.unusedVariables false
set_option linter.unusedSimpArgs false
open Go.RowKit
theorem strictI_eq : ∀ {l m : List Int}, l.Pairwise (· < ·) → m.Pairwise (· < ·) → (∀ x, x ∈ l ↔ x ∈ m) → l = m
  | [], [], _, _, _ => rfl
  | [], b :: m, _, _, h => absurd ((h b).2 (by simp)) (by simp)
  | a :: l, [], _, _, h => absurd ((h a).1 (by simp)) (by simp)
  | a :: l, b :: m, hl, hm, h => by
    have hl' := List.pairwise_cons.1 hl
    have hm' := List.pairwise_cons.1 hm
    have hab : a = b := by
      have h1 := (h a).1 (by simp)
      have h2 := (h b).2 (by simp)
      simp only [List.mem_cons] at h1 h2
      rcases h1 with h1 | h1
      · exact h1
      · rcases h2 with h2 | h2
        · exact h2.symm
        · have := hl'.1 b h2; have := hm'.1 a h1; omega
    subst hab
    refine congrArg _ (strictI_eq hl'.2 hm'.2 fun x => ?_)
    have hx := h x
    simp only [List.mem_cons] at hx
    constructor
    · intro hx'
      rcases hx.1 (.inr hx') with e | e
      · subst e; have := hl'.1 x hx'; omega
      · exact e
    · intro hx'
      rcases hx.2 (.inr hx') with e | e
      · subst e; have := hm'.1 x hx'; omega
      · exact e
theorem keysS_ext {p q : PP} (hp : (p.map (·.1)).Nodup) (hq : (q.map (·.1)).Nodup) (h : ∀ k, mget p k = mget q k) : keysS p = keysS q := by
  refine strict_eq (keysS_strict hp) (keysS_strict hq) fun x => ?_
  rw [(keysS_perm p).mem_iff, (keysS_perm q).mem_iff, mget_key, mget_key, h]
theorem keysI_ext {p q : SS} (hp : (p.map (·.1)).Nodup) (hq : (q.map (·.1)).Nodup) (h : ∀ k, mget p k = mget q k) : keysI p = keysI q := by
  refine strictI_eq (keysI_strict hp) (keysI_strict hq) fun x => ?_
  rw [(keysI_perm p).mem_iff, (keysI_perm q).mem_iff, mget_key, mget_key, h]
theorem snapV_ext {u v : PP × SS} (hu : Inv u.1 u.2) (hv : Inv v.1 v.2) (h1 : ∀ k, mget u.1 k = mget v.1 k) (h2 : ∀ c, mget u.2 c = mget v.2 c) : snapV u.1 u.2 = snapV v.1 v.2 := by
  have e1 : u.1.length = v.1.length := by have := (mget_perm hu.pk hv.pk h1).length_eq; simpa using this
  have e2 : u.2.length = v.2.length := by have := (mget_perm hu.sk hv.sk h2).length_eq; simpa using this
  have e3 : canP u.1 = canP v.1 := by
    unfold canP; rw [keysS_ext hu.pk hv.pk h1]; exact List.map_congr_left fun k _ => by rw [h1]
  have e4 : canS u.2 = canS v.2 := by
    unfold canS; rw [keysI_ext hu.sk hv.sk h2]; exact List.map_congr_left fun k _ => by rw [h2]
  unfold snapV; rw [e1, e2, e3, e4]
/-- What lies beside a command's key and client is left. -/
theorem opC_frame {p : PP} (hp : (p.map (·.1)).Nodup) (c : Cmd) (k : List UInt8) (h : c.2.2.2.1 ≠ k) : mget (opC p c).2.2 k = mget p k := by
  unfold opC opV
  split <;> (repeat' split) <;> simp [mget_mput, mget_mdel _ _ _ hp, h]
theorem frameP {st : PP × SS} (hI : Inv st.1 st.2) (c : Cmd) (k : List UInt8) (h : c.2.2.2.1 ≠ k) : mget (stC st c).1 k = mget st.1 k := by
  rcases seen_or_runs st c with hs | hs
  · rw [stC_seen hs]
  · rw [stC_run hs]; exact opC_frame hI.pk c k h
theorem frameS (st : PP × SS) (c : Cmd) (k : Int) (h : c.2.1 ≠ k) : mget (stC st c).2 k = mget st.2 k := by
  rcases seen_or_runs st c with hs | hs
  · rw [stC_seen hs]
  · rw [stC_run hs]; rw [mget_mput, if_neg h]
theorem opC_len (p : PP) (c : Cmd) : (opC p c).2.2.length ≤ p.length + 1 := by
  unfold opC opV
  have := @mput_length _ _ _ p c.2.2.2.1 c.2.2.2.2.1
  have h2 := (mdel_sub p c.2.2.2.1).length_le
  split <;> (repeat' split) <;> simp only <;> omega
theorem lenP (st : PP × SS) (c : Cmd) : (stC st c).1.length ≤ st.1.length + 1 := by
  rcases seen_or_runs st c with hs | hs
  · rw [stC_seen hs]; omega
  · rw [stC_run hs]; exact opC_len _ _
theorem lenS (st : PP × SS) (c : Cmd) : (stC st c).2.length ≤ st.2.length + 1 := by
  rcases seen_or_runs st c with hs | hs
  · rw [stC_seen hs]; omega
  · rw [stC_run hs]; exact mput_length
theorem opC_local {p p' : PP} (hp : (p.map (·.1)).Nodup) (hp' : (p'.map (·.1)).Nodup) (c : Cmd) (h : mget p c.2.2.2.1 = mget p' c.2.2.2.1) (h1 : p.length < 128) (h2 : p'.length < 128) :
    (opC p c).1 = (opC p' c).1 ∧ (opC p c).2.1 = (opC p' c).2.1 ∧ mget (opC p c).2.2 c.2.2.2.1 = mget (opC p' c).2.2 c.2.2.2.1 := by
  unfold opC opV
  rw [← h]
  split
  · rename_i hm
    have q1 : ¬ 128 ≤ p.length := by omega
    have q2 : ¬ 128 ≤ p'.length := by omega
    by_cases h2 : c.1 = 2
    · simp only [if_pos h2, if_neg q1, if_neg q2]; simp [mget_mput]
    · simp only [if_neg h2]; simp [h]
  · rename_i u hm
    split
    · simp [mget_mput]
    · split
      · simp [mget_mdel _ _ _ hp, mget_mdel _ _ _ hp']
      · split
        · simp [mget_mput]
        · exact ⟨rfl, rfl, h⟩
theorem doC_local {st st' : PP × SS} (hI : Inv st.1 st.2) (hI' : Inv st'.1 st'.2) (c : Cmd) (hk : mget st.1 c.2.2.2.1 = mget st'.1 c.2.2.2.1) (hc : mget st.2 c.2.1 = mget st'.2 c.2.1) (h1 : st.1.length < 128) (h2 : st'.1.length < 128) (h3 : st.2.length < 32) (h4 : st'.2.length < 32) :
    repC st c = repC st' c ∧ mget (stC st c).1 c.2.2.2.1 = mget (stC st' c).1 c.2.2.2.1 ∧ mget (stC st c).2 c.2.1 = mget (stC st' c).2 c.2.1 := by
  unfold repC
  by_cases h0 : chkD c = 0
  · rcases seen_or_runs st c with hs | hs
    · have hs' : seen st'.2 c := by
        rcases hs with hs | ⟨x, hx, hq⟩ | ⟨hm, hs⟩
        · exact .inl hs
        · exact .inr (.inl ⟨x, by rw [← hc]; exact hx, hq⟩)
        · omega
      rw [stC_seen hs, stC_seen hs']
      refine ⟨?_, hk, hc⟩
      rcases hs with hs | ⟨x, hx, hq⟩ | ⟨hm, hs⟩
      · exact absurd h0 hs
      · have hx' : mget st'.2 c.2.1 = some x := by rw [← hc]; exact hx
        rcases Int.lt_or_eq_of_le hq with hq | hq
        · rw [doC_old h0 hx hq, doC_old h0 hx' hq]
        · rw [doC_again h0 hx hq, doC_again h0 hx' hq]
      · omega
    · have hs' : runs st' c := by
        refine ⟨h0, ?_⟩
        rcases hs.2 with ⟨hm, _⟩ | ⟨x, hx, hq⟩
        · exact .inl ⟨by rw [← hc]; exact hm, h4⟩
        · exact .inr ⟨x, by rw [← hc]; exact hx, hq⟩
      obtain ⟨e1, e2, e3⟩ := opC_local hI.pk hI'.pk c hk h1 h2
      rw [doC_run hs, doC_run hs', stC_run hs, stC_run hs']
      exact ⟨by rw [e1, e2], e3, by rw [mget_mput, mget_mput, if_pos rfl, if_pos rfl, e1, e2]⟩
  · rw [doC_same h0, doC_same h0, stC_seen (.inl h0), stC_seen (.inl h0)]
    exact ⟨rfl, hk, hc⟩
theorem commute {st : PP × SS} (hI : Inv st.1 st.2) (a b : Cmd) (hc : a.2.1 ≠ b.2.1) (hk : a.2.2.2.1 ≠ b.2.2.2.1) (h1 : st.1.length ≤ 126) (h2 : st.2.length ≤ 30) :
    repC (stC st b) a = repC st a ∧ repC (stC st a) b = repC st b ∧ snapV (stC (stC st a) b).1 (stC (stC st a) b).2 = snapV (stC (stC st b) a).1 (stC (stC st b) a).2 := by
  have ha := stC_inv hI a
  have hb := stC_inv hI b
  have la := lenP st a; have lb := lenP st b; have sa := lenS st a; have sb := lenS st b
  obtain ⟨e1, e2, e3⟩ := doC_local hb hI a (frameP hI b _ (Ne.symm hk)) (frameS st b _ (Ne.symm hc)) (by omega) (by omega) (by omega) (by omega)
  obtain ⟨f1, f2, f3⟩ := doC_local ha hI b (frameP hI a _ hk) (frameS st a _ hc) (by omega) (by omega) (by omega) (by omega)
  refine ⟨e1, f1, snapV_ext (stC_inv ha b) (stC_inv hb a) (fun k => ?_) (fun c => ?_)⟩
  · by_cases k1 : k = a.2.2.2.1
    · subst k1; rw [frameP ha b _ (Ne.symm hk), e2]
    · by_cases k2 : k = b.2.2.2.1
      · subst k2; rw [f2, frameP hb a _ hk]
      · rw [frameP ha b _ (Ne.symm k2), frameP hI a _ (Ne.symm k1), frameP hb a _ (Ne.symm k1), frameP hI b _ (Ne.symm k2)]
  · by_cases k1 : c = a.2.1
    · subst k1; rw [frameS _ b _ (Ne.symm hc), e3]
    · by_cases k2 : c = b.2.1
      · subst k2; rw [f3, frameS _ a _ hc]
      · rw [frameS _ b _ (Ne.symm k2), frameS _ a _ (Ne.symm k1), frameS _ a _ (Ne.symm k1), frameS _ b _ (Ne.symm k2)]
theorem commutes_k (l : List Cmd) (hr : l.length < 2 ^ 47) (a b : Cmd) {k : Nat} (hk1 : 1000000 ≤ k) :
    synodlaw11_KvCommutes.f k l a.1 a.2.1 a.2.2.1 a.2.2.2.1 a.2.2.2.2.1 a.2.2.2.2.2 b.1 b.2.1 b.2.2.1 b.2.2.2.1 b.2.2.2.2.1 b.2.2.2.2.2 = some true := by
  unfold synodlaw11_KvCommutes.f
  obtain ⟨b1, e1, -⟩ := few_eq (h := l) hr (k := k) (by omega)
  obtain ⟨b2, e2, -⟩ := few_eq (h := ([a, b] : List Ty33)) (by simp) (k := k) (by omega)
  rw [first_eq, Option.bind_some, e1, Option.bind_some]
  have eab : ([(a.1, a.2.1, a.2.2.1, a.2.2.2.1, a.2.2.2.2.1, a.2.2.2.2.2), (b.1, b.2.1, b.2.2.1, b.2.2.2.1, b.2.2.2.2.1, b.2.2.2.2.2)] : List Ty33) = [a, b] := rfl
  have eba : ([(b.1, b.2.1, b.2.2.1, b.2.2.2.1, b.2.2.2.2.1, b.2.2.2.2.2), (a.1, a.2.1, a.2.2.1, a.2.2.2.1, a.2.2.2.2.1, a.2.2.2.2.2)] : List Ty33) = [b, a] := rfl
  rw [eab, eba]
  have e : (if b1 = true then ((synodlaw11_few.f k ([a, b] : List Ty33)).bind fun s17v => (some s17v)) else (some false)) = some (b1 && b2) := by cases b1 <;> simp [e2]
  rw [e, Option.bind_some]
  split
  · rfl
  · rename_i hc
    have hl : l.length ≤ 200 ∧ a.2.1 ≠ b.2.1 ∧ a.2.2.2.1 ≠ b.2.2.2.1 := by
      simp only [Bool.or_eq_true, decide_eq_true_eq, not_or] at hc
      exact ⟨by omega, hc.1.2, hc.2⟩
    unfold kv_New.f
    rw [Option.bind_some]
    have ed := does_eq l (by omega) (k := k) (by omega) ([], [])
    have hI := stL_inv l ([], []) inv0
    obtain ⟨st, hst⟩ : ∃ st, st = stL ([], []) l := ⟨_, rfl⟩
    rw [← hst] at ed hI
    simp only
    rw [ed, Option.bind_some]
    simp only
    rw [show kv_Store_Len.f st.1 st.2 = some (st.1.length : Int) from rfl, Option.bind_some]
    have eg : (if (126 : Int) < (st.1.length : Int) then (some true) else ((kv_Store_Sessions.f k st.1 st.2).bind fun s35v => (some (decide ((30 : Int) < (s35v.length : Int)))))) = some (decide ((126 : Int) < (st.1.length : Int)) || decide ((30 : Int) < (st.2.length : Int))) := by
      by_cases h : (126 : Int) < (st.1.length : Int)
      · rw [if_pos h]; simp [h]
      · rw [if_neg h, Sessions_eq hI (by omega), Option.bind_some, canS_len]; simp [h]
    rw [eg, Option.bind_some]
    split
    · rfl
    · rename_i hg
      simp only [Bool.or_eq_true, decide_eq_true_eq, not_or] at hg
      obtain ⟨r1, r2, r3⟩ := commute hI a b hl.2.1 hl.2.2 (by omega) (by omega)
      have ecp : kv_Store_Copy.f st.1 st.2 = some (st.1, st.2) := by
        unfold kv_Store_Copy.f maps_Clone_map_string_string_string_string.f maps_Clone_Session.f; rfl
      have hJ := stC_inv (stC_inv hI a) b
      have hJ' := stC_inv (stC_inv hI b) a
      have hl1 := snapV_len hJ
      have hl2 := snapV_len hJ'
      rw [ecp, Option.bind_some, does_eq [a, b] (by simp) (k := k) (by omega) st, Option.bind_some]
      simp only
      rw [does_eq [b, a] (by simp) (k := k) (by omega) st, Option.bind_some]
      simp only [repL, stL, List.foldl_cons, List.foldl_nil]
      simp only [r1, r2, Snapshot_eq hJ (by omega : 200 ≤ k), Snapshot_eq hJ' (by omega : 200 ≤ k), r3, Option.bind_some, SameBytes_eq (x := snapV (stC (stC st b) a).1 (stC (stC st b) a).2) (y := snapV (stC (stC st b) a).1 (stC (stC st b) a).2) (by omega) (by omega : _ ≤ k)]
      simp
theorem pure_KvCommutes {Q : Ty33 → Prop} (l : List Ty33) (h : l.length * 72 ≤ reachBytes ∧ ∀ e ∈ l, Q e)
    (a0 a1 a2 : Int) (a3 a4 a5 : List UInt8) (ha : okI .i64 a0 ∧ okI .i64 a1 ∧ okI .i64 a2 ∧ a3.length ≤ reachBytes ∧ a4.length ≤ reachBytes ∧ a5.length ≤ reachBytes)
    (b0 b1 b2 : Int) (b3 b4 b5 : List UInt8) (hb : okI .i64 b0 ∧ okI .i64 b1 ∧ okI .i64 b2 ∧ b3.length ≤ reachBytes ∧ b4.length ≤ reachBytes ∧ b5.length ≤ reachBytes)
    (hu : Mu.mu l + Mu.mu (a0, a1, a2, a3, a4, a5) + Mu.mu (b0, b1, b2, b3, b4, b5) ≤ 1048576) :
    ∃ k, synodlaw11_KvCommutes.f k l a0 a1 a2 a3 a4 a5 b0 b1 b2 b3 b4 b5 = some true := by
  have hr := reach_lt
  refine ⟨10000000, commutes_k l (by omega) (a0, a1, a2, a3, a4, a5) (b0, b1, b2, b3, b4, b5) ?_⟩
  decide
end Go.Proofs.Ytdaedoklkmdhcaa
