/- Kv: the sessions, the snapshot, how few. Conditions: as each says. -/
import Derived.Test.YtdaedoklkmdhcaaPlKv0
namespace Go.Proofs.Ytdaedoklkmdhcaa
set_option linter.unusedVariables false
set_option linter.unusedSimpArgs false
open Go.RowKit
theorem first_eq : synodlaw11_first.f = some true := by kernel_rfl
theorem inc64 (i n : Nat) (h : i < n) (hn : n < 2 ^ 62) : IntKind.i64.wrap ((i : Int) + 1) = ((i + 1 : Nat) : Int) := by rw [w64 (by omega) (by omega)]; omega
theorem getD_drop_cons {α : Type} (l : List α) (i : Nat) (d : α) (h : i < l.length) : l.drop i = l.getD i d :: l.drop (i + 1) := by
  rw [List.drop_eq_getElem_cons h]; simp [List.getD_eq_getElem?_getD, h]
theorem getD_mem {α : Type} (l : List α) (i : Nat) (d : α) (h : i < l.length) : l.getD i d ∈ l := by
  simp [List.getD_eq_getElem?_getD, h]
/-! ### Few -/
theorem few_loop {h : List Cmd} (hh : h.length < 2 ^ 47) : ∀ (d i k : Nat) (z : Int), i + d = 402 → d + 1 ≤ k → ∃ s, synodlaw11_few.l0 h k z (i : Int) = some s
  | 0, i, 0, z, _, hk => by omega
  | 0, i, k + 1, z, hi, _ => by
    simp only [synodlaw11_few.l0]
    rw [if_neg (by simp; omega)]
    exact ⟨z, rfl⟩
  | d + 1, i, 0, z, _, hk => by omega
  | d + 1, i, k + 1, z, hi, hk => by
    simp only [synodlaw11_few.l0]
    by_cases hc : ((decide ((i : Int) < (h.length : Int))) && (decide ((i : Int) < (400 : Int)))) = true
    · rw [if_pos hc]
      have hc' := hc
      simp only [Bool.and_eq_true, decide_eq_true_eq] at hc'
      rw [if_pos ⟨by omega, hc'.1⟩, if_pos ⟨by omega, hc'.1⟩, if_pos ⟨by omega, hc'.1⟩, inc64 i 402 (by omega) (by decide)]
      exact few_loop hh d (i + 1) k _ (by omega) (by omega)
    · rw [if_neg hc]; exact ⟨z, rfl⟩
theorem few_eq {h : List Cmd} (hh : h.length < 2 ^ 47) {k : Nat} (hk : 500 ≤ k) : ∃ b : Bool, synodlaw11_few.f k h = some b ∧ (b = true → h.length ≤ 400) := by
  obtain ⟨s, hs⟩ := few_loop hh 402 0 k 0 (by omega) (by omega)
  unfold synodlaw11_few.f
  rw [show ((0 : Nat) : Int) = 0 from rfl] at hs
  rw [hs, Option.bind_some]
  refine ⟨_, rfl, fun h => ?_⟩
  simp only [Bool.and_eq_true, decide_eq_true_eq] at h
  omega
/-! ### Sessions -/
def dSe : Sess := ((0 : Int), (0 : Int), (0 : Int), ([] : List UInt8))
def canS (s : SS) : List Sess := (keysI s).map fun c => (mget s c).getD dSe
def canP (p : PP) : PP := (keysS p).map fun k => (k, (mget p k).getD [])
theorem sessions_loop (s : SS) (ks : List Int) (hks : ks.length ≤ 1000) : ∀ (d i k : Nat) (a : List Sess), i + d = ks.length → d + 1 ≤ k → a.length = i →
    kv_Store_Sessions.l0 s ks k a (i : Int) = some (a ++ (ks.drop i).map fun c => (mget s c).getD dSe)
  | d, i, 0, a, _, hk, _ => by omega
  | 0, i, k + 1, a, hi, _, ha => by
    simp only [kv_Store_Sessions.l0]
    rw [if_neg (by omega), List.drop_eq_nil_of_le (by omega)]; simp
  | d + 1, i, k + 1, a, hi, hk, ha => by
    simp only [kv_Store_Sessions.l0]
    rw [if_pos (by omega), if_pos (by omega), if_pos (by rw [ha, List.length_singleton]; omega), inc64 i 2000 (by omega) (by decide), sessions_loop s ks hks d (i + 1) k _ (by omega) (by omega) (by simp [ha]), List.append_assoc]
    congr 2
    rw [getD_drop_cons ks i 0 (by omega), List.map_cons]; rfl
theorem keysI_len {β : Type} (l : List (Int × β)) : (keysI l).length = l.length := by rw [(keysI_perm l).length_eq, List.length_map]
theorem keysS_len {β : Type} (l : List (List UInt8 × β)) : (keysS l).length = l.length := by rw [(keysS_perm l).length_eq, List.length_map]
theorem wf_rg {x : Int} (h : rg x 1) : (Lit.int .i64 x).wf = true := by
  have := h.1; have := h.2
  have e : IntKind.i64.min = -9223372036854775808 := rfl
  simp [Lit.wf]
  omega
theorem Sessions_eq {p : PP} {s : SS} (h : Inv p s) {k : Nat} (hk : 100 ≤ k) : kv_Store_Sessions.f k p s = some (canS s) := by
  unfold kv_Store_Sessions.f maps_Keys_Session.f slices_Sorted_int_maps_Keys_Session_1.f
  have hl := h.sl
  rw [Option.bind_some, if_pos ⟨h.sk, by omega, fun e he => wf_rg (h.se e he).2.1⟩, Option.bind_some]
  rw [show (0 : Int) = ((0 : Nat) : Int) from rfl, sessions_loop s (keysI s) (by rw [keysI_len]; omega) s.length 0 k [] (by rw [keysI_len]; omega) (by omega) rfl]
  simp [canS]
/-! ### The snapshot -/
def wP (st : List UInt8 × Int) (x : List UInt8 × List UInt8) : List UInt8 × Int :=
  wBytes (wBytes st.1 st.2 x.1 64).1 (wBytes st.1 st.2 x.1 64).2 x.2 1024
def wS (st : List UInt8 × Int) (x : Sess) : List UInt8 × Int :=
  let a := wNum st.1 st.2 x.1
  let b := wNum a.1 a.2 x.2.1
  let c := wNum b.1 b.2 x.2.2.1
  wBytes c.1 c.2 x.2.2.2 1024
theorem wP_len (st : List UInt8 × Int) (x : List UInt8 × List UInt8) (h1 : x.1.length ≤ 64) (h2 : x.2.length ≤ 1024) : (wP st x).1.length ≤ st.1.length + 1200 := by
  unfold wP
  have a := wBytes_len st.1 st.2 x.1 64
  have b := wBytes_len (wBytes st.1 st.2 x.1 64).1 (wBytes st.1 st.2 x.1 64).2 x.2 1024
  omega
theorem wS_len (st : List UInt8 × Int) (x : Sess) (h2 : x.2.2.2.length ≤ 1024) : (wS st x).1.length ≤ st.1.length + 1200 := by
  unfold wS
  have a := wNum_len st.1 st.2 x.1
  have b := wNum_len (wNum st.1 st.2 x.1).1 (wNum st.1 st.2 x.1).2 x.2.1
  have c := wNum_len (wNum (wNum st.1 st.2 x.1).1 (wNum st.1 st.2 x.1).2 x.2.1).1 (wNum (wNum st.1 st.2 x.1).1 (wNum st.1 st.2 x.1).2 x.2.1).2 x.2.2.1
  have d := wBytes_len (wNum (wNum (wNum st.1 st.2 x.1).1 (wNum st.1 st.2 x.1).2 x.2.1).1 (wNum (wNum st.1 st.2 x.1).1 (wNum st.1 st.2 x.1).2 x.2.1).2 x.2.2.1).1 (wNum (wNum (wNum st.1 st.2 x.1).1 (wNum st.1 st.2 x.1).2 x.2.1).1 (wNum (wNum st.1 st.2 x.1).1 (wNum st.1 st.2 x.1).2 x.2.1).2 x.2.2.1).2 x.2.2.2 1024
  simp only
  omega
theorem wP_fold : ∀ (l : PP) (st : List UInt8 × Int), (∀ e ∈ l, e.1.length ≤ 64 ∧ e.2.length ≤ 1024) → (l.foldl wP st).1.length ≤ st.1.length + 1200 * l.length
  | [], st, _ => by simp
  | x :: l, st, h => by
    have a := wP_len st x (h x (by simp)).1 (h x (by simp)).2
    have b := wP_fold l (wP st x) fun e he => h e (List.mem_cons_of_mem _ he)
    simp only [List.foldl_cons, List.length_cons]; omega
theorem wS_fold : ∀ (l : List Sess) (st : List UInt8 × Int), (∀ e ∈ l, e.2.2.2.length ≤ 1024) → (l.foldl wS st).1.length ≤ st.1.length + 1200 * l.length
  | [], st, _ => by simp
  | x :: l, st, h => by
    have a := wS_len st x (h x (by simp))
    have b := wS_fold l (wS st x) fun e he => h e (List.mem_cons_of_mem _ he)
    simp only [List.foldl_cons, List.length_cons]; omega
abbrev stepP (k : Nat) : List UInt8 × Int → (List UInt8 × List UInt8) → Option (List UInt8 × Int) := fun s13v x12v => (wire_Writer_Text.f k s13v.1 s13v.2 x12v.1 (64 : Int)).bind fun s15v => ((wire_Writer_Text.f k s15v.1 s15v.2 x12v.2 (1024 : Int)).bind fun s18v => (some (s18v.1, s18v.2)))
theorem stepP_eq {k : Nat} (hk : 10 ≤ k) (st : List UInt8 × Int) (x : List UInt8 × List UInt8) (h1 : x.1.length ≤ 64) (h2 : x.2.length ≤ 1024) (hs : st.1.length ≤ 1000000) : stepP k st x = some (wP st x) := by
  have a := wBytes_len st.1 st.2 x.1 64
  unfold stepP wP
  rw [wText_eq hk (by omega), Option.bind_some, wText_eq hk (by omega)]; rfl
theorem each_loop (p : PP) (ks : List (List UInt8)) (hks : ks.length ≤ 128) (he : ∀ c ∈ ks, c.length ≤ 64 ∧ ((mget p c).getD []).length ≤ 1024) (K : Nat) (hK : 10 ≤ K) : ∀ (d i k : Nat) (st : List UInt8 × Int), i + d = ks.length → d + 1 ≤ k → st.1.length ≤ 1000 + i * 1200 →
    kv_Store_Each_1_s.l0 (stepP K) p ks k (i : Int) st = some (((ks.drop i).map fun c => (c, (mget p c).getD [])).foldl wP st)
  | d, i, 0, st, _, hk, _ => by omega
  | 0, i, k + 1, st, hi, _, hs => by
    simp only [kv_Store_Each_1_s.l0]
    rw [if_neg (by omega), List.drop_eq_nil_of_le (by omega)]; simp
  | d + 1, i, k + 1, st, hi, hk, hs => by
    have hm := he _ (getD_mem ks i [] (by omega))
    simp only [kv_Store_Each_1_s.l0]
    have hw := wP_len st (ks.getD i [], (mget p (ks.getD i [])).getD []) hm.1 hm.2
    have ih := each_loop p ks hks he K hK d (i + 1) k (wP st (ks.getD i [], (mget p (ks.getD i [])).getD [])) (by omega) (by omega) (by
      generalize (wP st (ks.getD i [], (mget p (ks.getD i [])).getD [])).1.length = n at hw ⊢
      omega)
    rw [if_pos (by omega), if_pos (by omega), Int.toNat_natCast, stepP_eq hK st _ hm.1 hm.2 (by omega), Option.bind_some, inc64 i 2000 (by omega) (by decide), ih]
    rw [getD_drop_cons ks i [] (by omega), List.map_cons, List.foldl_cons]
theorem snap_loop (l : List Sess) (hl : l.length ≤ 32) (he : ∀ x ∈ l, x.2.2.2.length ≤ 1024) : ∀ (d i k : Nat) (st : List UInt8 × Int), i + d = l.length → d + 11 ≤ k → st.1.length ≤ 300000 + i * 1200 →
    kv_Store_Snapshot.l0 l k (i : Int) st.1 st.2 = some ((l.drop i).foldl wS st)
  | d, i, 0, st, _, hk, _ => by omega
  | 0, i, k + 1, st, hi, _, hs => by
    simp only [kv_Store_Snapshot.l0]
    rw [if_neg (by omega), List.drop_eq_nil_of_le (by omega)]; simp
  | d + 1, i, k + 1, st, hi, hk, hs => by
    simp only [kv_Store_Snapshot.l0]
    rw [if_pos (by omega), if_pos (by omega), Int.toNat_natCast]
    have hm := he _ (getD_mem l i dSe (by omega))
    obtain ⟨x, hx⟩ : ∃ x, l.getD i dSe = x := ⟨_, rfl⟩
    have hx' : l.getD i ((0 : Int), (0 : Int), (0 : Int), ([] : List UInt8)) = x := hx
    rw [hx] at hm
    simp only [hx']
    have a := wNum_len st.1 st.2 x.1
    have b := wNum_len (wNum st.1 st.2 x.1).1 (wNum st.1 st.2 x.1).2 x.2.1
    have c := wNum_len (wNum (wNum st.1 st.2 x.1).1 (wNum st.1 st.2 x.1).2 x.2.1).1 (wNum (wNum st.1 st.2 x.1).1 (wNum st.1 st.2 x.1).2 x.2.1).2 x.2.2.1
    rw [wInt_eq (by omega) (by omega), Option.bind_some, wInt_eq (by omega) (by omega), Option.bind_some, wInt_eq (by omega) (by omega), Option.bind_some, wText_eq (by omega) (by omega), Option.bind_some, inc64 i 2000 (by omega) (by decide)]
    have hw : (wS st x) = wBytes (wNum (wNum (wNum st.1 st.2 x.1).1 (wNum st.1 st.2 x.1).2 x.2.1).1 (wNum (wNum st.1 st.2 x.1).1 (wNum st.1 st.2 x.1).2 x.2.1).2 x.2.2.1).1 (wNum (wNum (wNum st.1 st.2 x.1).1 (wNum st.1 st.2 x.1).2 x.2.1).1 (wNum (wNum st.1 st.2 x.1).1 (wNum st.1 st.2 x.1).2 x.2.1).2 x.2.2.1).2 x.2.2.2 1024 := rfl
    have hn := wS_len st x hm
    have ih := snap_loop l hl he d (i + 1) k (wS st x) (by omega) (by omega) (by
      generalize (wS st x).1.length = n at hn ⊢
      omega)
    rw [← hw, ih, getD_drop_cons l i dSe (by omega), List.foldl_cons, hx]
def snapSt (np : Nat) (cp : PP) (ns : Nat) (cs : List Sess) : List UInt8 × Int :=
  let a := cp.foldl wP (wNum [] 0 (np : Int))
  cs.foldl wS (wNum a.1 a.2 (ns : Int))
def snapV (p : PP) (s : SS) : List UInt8 := (wDone (snapSt p.length (canP p) s.length (canS s)).1 (snapSt p.length (canP p) s.length (canS s)).2).1
theorem canP_in {p : PP} {s : SS} (h : Inv p s) : ∀ c ∈ keysS p, c.length ≤ 64 ∧ ((mget p c).getD []).length ≤ 1024 := by
  intro c hc
  have hc' := (keysS_perm p).mem_iff.1 hc
  obtain ⟨e, he, rfl⟩ := List.mem_map.1 hc'
  have h1 := h.pe e he
  rw [mget_of_mem p e.1 e.2 h.pk he]
  exact h1.2
theorem canS_in {p : PP} {s : SS} (h : Inv p s) : ∀ x ∈ canS s, (x.1, x) ∈ s := by
  intro x hx
  obtain ⟨c, hc, rfl⟩ := List.mem_map.1 hx
  obtain ⟨e, he, rfl⟩ := List.mem_map.1 ((keysI_perm s).mem_iff.1 hc)
  have h1 := (h.se e he).1
  simp only [mget_of_mem s e.1 e.2 h.sk he, Option.getD_some]
  rw [h1]; exact he
theorem canS_mem {p : PP} {s : SS} (h : Inv p s) {e : Int × Sess} (he : e ∈ s) : e.2 ∈ canS s := by
  refine List.mem_map.2 ⟨e.1, (keysI_perm s).mem_iff.2 (List.mem_map_of_mem he), ?_⟩
  rw [mget_of_mem s e.1 e.2 h.sk he]; rfl
theorem canS_len (s : SS) : (canS s).length = s.length := by rw [canS, List.length_map, keysI_len]
theorem snapV_len {p : PP} {s : SS} (h : Inv p s) : (snapV p s).length ≤ 300000 := by
  have a := wP_fold (canP p) (wNum [] 0 (p.length : Int)) (by
    intro e he; obtain ⟨c, hc, rfl⟩ := List.mem_map.1 he; exact canP_in h c hc)
  have b := wNum_len [] 0 (p.length : Int)
  have c := wNum_len ((canP p).foldl wP (wNum [] 0 (p.length : Int))).1 ((canP p).foldl wP (wNum [] 0 (p.length : Int))).2 (s.length : Int)
  have d := wS_fold (canS s) (wNum ((canP p).foldl wP (wNum [] 0 (p.length : Int))).1 ((canP p).foldl wP (wNum [] 0 (p.length : Int))).2 (s.length : Int)) (fun x hx => (h.se _ (canS_in h x hx)).2.2.2.2)
  have e1 : (canP p).length = p.length := by rw [canP, List.length_map, keysS_len]
  have e2 := canS_len s
  have := h.pl; have := h.sl
  have hd : (snapV p s).length ≤ (snapSt p.length (canP p) s.length (canS s)).1.length := by
    unfold snapV wDone; split <;> simp
  have e3 : (snapSt p.length (canP p) s.length (canS s)) = (canS s).foldl wS (wNum ((canP p).foldl wP (wNum [] 0 (p.length : Int))).1 ((canP p).foldl wP (wNum [] 0 (p.length : Int))).2 (s.length : Int)) := rfl
  rw [e3] at hd
  simp only [List.length_nil] at b
  omega
theorem Snapshot_eq {p : PP} {s : SS} (h : Inv p s) {k : Nat} (hk : 200 ≤ k) : kv_Store_Snapshot.f k p s = some (snapV p s) := by
  have hp := h.pl; have hs := h.sl
  have b := wNum_len [] 0 (p.length : Int)
  simp only [List.length_nil] at b
  have a := wP_fold (canP p) (wNum [] 0 (p.length : Int)) (by
    intro e he; obtain ⟨c, hc, rfl⟩ := List.mem_map.1 he; exact canP_in h c hc)
  have e1 : (canP p).length = p.length := by rw [canP, List.length_map, keysS_len]
  have e2 := canS_len s
  have c := wNum_len ((canP p).foldl wP (wNum [] 0 (p.length : Int))).1 ((canP p).foldl wP (wNum [] 0 (p.length : Int))).2 (s.length : Int)
  have d := wS_fold (canS s) (wNum ((canP p).foldl wP (wNum [] 0 (p.length : Int))).1 ((canP p).foldl wP (wNum [] 0 (p.length : Int))).2 (s.length : Int)) (fun x hx => (h.se _ (canS_in h x hx)).2.2.2.2)
  have e3 : (snapSt p.length (canP p) s.length (canS s)) = (canS s).foldl wS (wNum ((canP p).foldl wP (wNum [] 0 (p.length : Int))).1 ((canP p).foldl wP (wNum [] 0 (p.length : Int))).2 (s.length : Int)) := rfl
  unfold kv_Store_Snapshot.f wire_NewWriter.f kv_Store_Each.f
  rw [Option.bind_some]
  simp only
  rw [wInt_eq (by omega) (by simp), Option.bind_some, Option.bind_some]
  unfold kv_Store_Each_1_s.f maps_Clone_map_string_string_string_string.f maps_Keys_map_string_string_string_string.f slices_Sorted_string_maps_Keys_map_string_string_string_string_1.f
  rw [Option.bind_some, Option.bind_some, if_pos ⟨h.pk, by omega, fun e he => by have := (h.pe e he).2.1; omega⟩, Option.bind_some]
  have hE := each_loop p (keysS p) (by rw [keysS_len]; exact hp) (canP_in h) k (by omega) p.length 0 k (wNum [] 0 (p.length : Int)) (by rw [keysS_len]; omega) (by omega) (by omega)
  rw [show ((0 : Nat) : Int) = 0 from rfl] at hE
  unfold stepP at hE
  rw [hE, Option.bind_some, List.drop_zero]
  have hcp : ((keysS p).map fun c => (c, (mget p c).getD [])) = canP p := rfl
  rw [hcp, wInt_eq (by omega) (by omega), Option.bind_some, Sessions_eq h (by omega), Option.bind_some]
  have hL := snap_loop (canS s) (by omega) (fun x hx => (h.se _ (canS_in h x hx)).2.2.2.2) s.length 0 k (wNum ((canP p).foldl wP (wNum [] 0 (p.length : Int))).1 ((canP p).foldl wP (wNum [] 0 (p.length : Int))).2 (s.length : Int)) (by omega) (by omega) (by omega)
  rw [show ((0 : Nat) : Int) = 0 from rfl, List.drop_zero] at hL
  rw [hL, Option.bind_some, ← e3, wDone_eq (by rw [e3]; omega), Option.bind_some]
  rfl
end Go.Proofs.Ytdaedoklkmdhcaa
