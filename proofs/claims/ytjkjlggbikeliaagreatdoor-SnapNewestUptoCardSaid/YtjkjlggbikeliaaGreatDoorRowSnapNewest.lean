/- The row of the law SnapNewest, out of its pure law and the printed walk. Conditions: none. -/
import Derived.Test.YtjkjlggbikeliaaGreatDoorM5
import Derived.Lib.LaidTab
import Derived.Deep.DeepHandedRow
import Derived.Lay
import Derived.MakeChecks
import Derived.Test.YtjkjlggbikeliaaGreatDoorCards
import Derived.Test.YtjkjlggbikeliaaGreatDoorTie
namespace Go.Proofs.YtjkjlggbikeliaaGreatDoor
set_option linter.unusedVariables false
set_option linter.unusedSimpArgs false
open Go.RowKit
abbrev tmpW : List UInt8 := [115, 110, 97, 112, 46, 116, 109, 112]
theorem tmp_name : nmB tmpW = true := by decide +kernel
theorem nmB_nameB (n : Nat) : nmB (nameB n) = true := by
  have hd : ∀ c, dg c → badC c = false := fun c hc => by
    have := u8_all (p := fun c => !(decide (48 ≤ c.toNat) && decide (c.toNat ≤ 57)) || !badC c) (by decide +kernel) c
    simp only [decide_eq_true hc.1, decide_eq_true hc.2, Bool.and_self, Bool.not_true, Bool.false_or, Bool.not_eq_true'] at this
    exact this
  unfold nmB
  rw [Bool.and_eq_true, List.all_eq_true]
  constructor
  · intro c hc
    rcases List.mem_append.1 hc with hc | hc
    · have : (snapW.all fun c => !badC c) = true := by decide +kernel
      exact List.all_eq_true.1 this c hc
    · rw [hd c (pad_dg 19 n c hc)]; rfl
  · rw [name_len]; rfl
def idxs (l : List (List UInt8)) : List Nat := (l.map idxB).filter fun n => decide (0 < n)
theorem idxs_len (l : List (List UInt8)) : (idxs l).length ≤ l.length := by
  unfold idxs
  exact Nat.le_trans (List.length_filter_le _ _) (by simp)
def toI (l : List Nat) : List Int := l.map fun n : Nat => (n : Int)
theorem list_l0 {s : List (List UInt8)} (hs : ∀ x, x ∈ s → x.length ≤ 2 ^ 40) (hl : s.length < 2 ^ 40) : ∀ (k i : Nat) (acc : List Int), s.length - i < k → i ≤ s.length → acc.length ≤ i →
    snap_List.l0 s k acc (i : Int) = some (acc ++ toI (idxs (s.drop i)))
  | 0, i, acc, h, _, _ => by omega
  | k + 1, i, acc, h, hi, ha => by
    rw [snap_List.l0]
    by_cases hlt : i < s.length
    · have hm : s.getD i [] ∈ s := by rw [getD_at hlt]; exact List.getElem_mem hlt
      rw [if_pos (by omega), if_pos (by omega), getA_cons (d := ([] : List UInt8)) hlt, ws1 (by omega)]
      simp only [Int.toNat_natCast]
      rw [index_f (hs _ hm), Option.bind_some]
      by_cases h0 : 0 < idxB (s.getD i [])
      · simp only [decide_eq_true h0, if_true]
        rw [if_pos (by simp; omega), list_l0 hs hl k (i + 1) _ (by omega) (by omega) (by simp; omega)]
        simp only [idxs, List.map_cons, List.filter_cons, decide_eq_true h0, if_true, toI, List.append_assoc, List.cons_append, List.nil_append]
      · simp only [decide_eq_false h0, Bool.false_eq_true, if_false]
        rw [list_l0 hs hl k (i + 1) _ (by omega) (by omega) (by omega)]
        simp only [idxs, List.map_cons, List.filter_cons, decide_eq_false h0, Bool.false_eq_true, if_false]
    · rw [if_neg (by omega), List.drop_of_length_le (by omega)]
      simp [idxs, toI]
def idxN (fs : FSt) : List Nat := idxs (keysS fs)
theorem keys_short {n : Nat} {fs : FSt} (h : InvN n fs) : ∀ x, x ∈ keysS fs → x.length ≤ 32 := fun x hx => getF_name h (keysS_some hx)
theorem list_f {n : Nat} {fs : FSt} (h : InvN n fs) (hn : n < 2 ^ 30) (l : List UInt8) (a : Int) (d : Bool) {k : Nat} (hk : n + 2 ≤ k) : snap_List.f k fs l a d = some (toI (idxN fs)) := by
  have hlen := keysS_len fs
  have hln := h.ln
  unfold snap_List.f
  rw [List_eq h (by omega), Option.bind_some]
  have := list_l0 (s := keysS fs) (fun x hx => by have := keys_short h x hx; omega) (by omega) k 0 [] (by omega) (by omega) (by simp)
  rw [show (0 : Int) = ((0 : Nat) : Int) from rfl, this]
  simp [idxN]
theorem idxN_pos {fs : FSt} {n : Nat} (h : n ∈ idxN fs) : 0 < n ∧ n ≤ 4611686018427387904 ∧ (mget fs (nameB n)).isSome = true := by
  unfold idxN idxs at h
  obtain ⟨h1, h2⟩ := List.mem_filter.1 h
  obtain ⟨x, hx, rfl⟩ := List.mem_map.1 h1
  have h3 : 0 < idxB x := by simpa using h2
  refine ⟨h3, idx_le x, ?_⟩
  rw [name_idx h3]
  exact keysS_some hx
theorem idxN_iff {fs : FSt} {n : Nat} (h0 : 0 < n) (h1 : n ≤ 4611686018427387904) : n ∈ idxN fs ↔ (mget fs (nameB n)).isSome = true := by
  refine ⟨fun h => (idxN_pos h).2.2, fun h => ?_⟩
  unfold idxN idxs
  refine List.mem_filter.2 ⟨List.mem_map.2 ⟨nameB n, ?_, idx_name h1⟩, by simpa using h0⟩
  exact (keysS_perm fs).mem_iff.2 ((mget_key fs _).2 h)
def wholeB (b : List UInt8) (n : Nat) : Int × Int × List UInt8 × Bool :=
  if (oneM b).2 = 0 then ((getP (oneM b).1).1, (getP (oneM b).1).2.1, (getP (oneM b).1).2.2.1, decide ((getP (oneM b).1).2.2.2 = 0) && decide ((getP (oneM b).1).1 = (n : Int)))
  else (0, 0, [], false)
def wholeM (fs : FSt) (n : Nat) : Int × Int × List UInt8 × Bool := wholeB (readM fs (nameB n)).1 n
theorem oneM_len (b : List UInt8) : (oneM b).1.length ≤ b.length := by
  unfold oneM
  split
  · simp
  · unfold getM
    repeat' split
    all_goals simp
    omega
theorem read_len {m : Nat} {fs : FSt} (h : InvN m fs) (x : List UInt8) : (readM fs x).1.length ≤ 16777216 := by
  unfold readM
  split
  · rename_i hm; exact Nat.le_trans (le_szF (getF_mem hm)) h.sz
  · simp
theorem oneM_nil : oneM [] = ([], 2) := by decide +kernel
theorem whole_f {m : Nat} {fs : FSt} (h : InvN m fs) (l : List UInt8) (a : Int) (d : Bool) {n k : Nat} (h0 : 1 ≤ n) (h1 : n ≤ 4611686018427387904) (hk : 1048600 < k) : snap_whole.f k fs l a d (n : Int) = some (wholeM fs n) := by
  have hl := read_len h (nameB n)
  unfold snap_whole.f wholeM wholeB
  rw [name_f h0 h1, Option.bind_some, Read_eq h, Option.bind_some]
  simp only []
  by_cases hr : (readM fs (nameB n)).2 = 0
  · rw [if_pos hr, one_f (by omega) hk, Option.bind_some]
    by_cases ho : (oneM (readM fs (nameB n)).1).2 = 0
    · have := oneM_len (readM fs (nameB n)).1
      rw [if_pos ho, if_pos ho, cGetP (by omega) (by omega), Option.bind_some]
    · rw [if_neg ho, if_neg ho]
  · have e : (readM fs (nameB n)).1 = [] := by
      unfold readM at hr ⊢
      split
      · rename_i hm; rw [if_pos hm] at hr; exact absurd rfl hr
      · rfl
    rw [if_neg hr, e, oneM_nil, if_neg (by decide)]
def loadR (fs : FSt) : List Nat → Nat → Int × Int × List UInt8 × Int × Int
  | [], _ => (0, 0, [], 0, 8)
  | n :: r, p => if (wholeM fs n).2.2.2 = true then ((wholeM fs n).1, (wholeM fs n).2.1, (wholeM fs n).2.2.1, (p : Int), 0) else loadR fs r (p + 1)
def loadM (fs : FSt) : Int × Int × List UInt8 × Int × Int := loadR fs (idxN fs).reverse 0
theorem toI_rev (l : List Nat) : (toI l).reverse = toI l.reverse := by unfold toI; rw [List.map_reverse]
theorem toI_get (l : List Nat) (i : Nat) : (toI l).getD i 0 = ((l.getD i 0 : Nat) : Int) := by
  unfold toI
  simp only [List.getD_eq_getElem?_getD, List.getElem?_map]
  cases l[i]? <;> rfl
theorem load_l0 {m : Nat} {fs : FSt} (h : InvN m fs) (l : List UInt8) (a : Int) (d : Bool) {L : List Nat} (hL : ∀ n, n ∈ L → 1 ≤ n ∧ n ≤ 4611686018427387904) (hl : L.length < 2 ^ 40) : ∀ (k p : Nat), L.length - p + 1048601 < k → p ≤ L.length →
    orR (snap_Load.l0 fs l a d (toI L) k (p : Int)) (fun _ => some (0, 0, ([] : List UInt8), 0, 8)) = some (loadR fs (L.reverse.drop p) p)
  | 0, p, h, _ => by omega
  | k + 1, p, hk, hp => by
    rw [snap_Load.l0, toI_rev]
    have hlen : (toI L.reverse).length = L.length := by simp [toI]
    by_cases hlt : p < L.length
    · have hm : L.reverse.getD p 0 ∈ L := by
        rw [getD_at (by simpa using hlt)]
        exact List.mem_reverse.1 (List.getElem_mem _)
      have hb := hL _ hm
      rw [if_pos (by omega), if_pos (by omega), Int.toNat_natCast, toI_get, getA_cons (d := (0 : Nat)) (by simpa using hlt), whole_f h l a d hb.1 hb.2 (by omega), Option.bind_some, ws1 (by omega), loadR]
      by_cases hw : (wholeM fs (L.reverse.getD p 0)).2.2.2 = true
      · rw [if_pos hw, if_pos hw]; rfl
      · rw [if_neg hw, if_neg hw]
        exact load_l0 h l a d hL hl k (p + 1) (by omega) (by omega)
    · rw [if_neg (by omega), List.drop_of_length_le (by simp; omega)]
      rfl
theorem idxN_len {m : Nat} {fs : FSt} (h : InvN m fs) : (idxN fs).length ≤ m := by
  have h1 := idxs_len (keysS fs)
  have h2 := keysS_len fs
  have h3 := h.ln
  unfold idxN
  omega
theorem load_f {m : Nat} {fs : FSt} (h : InvN m fs) (hm : m < 2 ^ 30) (l : List UInt8) (a : Int) (d : Bool) {k : Nat} (hk : m + 1048700 < k) : snap_Load.f k fs l a d = some (loadM fs) := by
  have hlen := idxN_len h
  unfold snap_Load.f loadM
  rw [list_f h hm l a d (by omega), Option.bind_some]
  have := load_l0 h l a d (L := idxN fs) (fun n hn => ⟨(idxN_pos hn).1, (idxN_pos hn).2.1⟩) (by omega) k 0 (by omega) (by omega)
  rw [show (0 : Int) = ((0 : Nat) : Int) from rfl] at this ⊢
  exact this
/-! ### Save -/
def thenM (r : Int × DS) (f : DS → Int × DS) : Int × DS := if r.1 = 0 then f r.2 else r
def cleanM (s : DS) : Int × DS := if (mget s.1 tmpW).isSome = true then removeM s.1 s.2.1 s.2.2.1 s.2.2.2 tmpW else (0, s)
def stepsM (s : DS) (n : Nat) (b : List UInt8) : Int × DS :=
  thenM (thenM (thenM (thenM (cleanM s) fun t => createM t.1 t.2.1 t.2.2.1 t.2.2.2 tmpW) fun t => appendM t.1 t.2.1 t.2.2.1 t.2.2.2 tmpW b) fun t => syncM t.1 t.2.1 t.2.2.1 t.2.2.2 tmpW) fun t => renameM t.1 t.2.1 t.2.2.1 t.2.2.2 tmpW (nameB n)
def saveM (s : DS) (i t : Int) (d : List UInt8) : Int × DS :=
  if chkP i t d ≠ 0 then (chkP i t d, s) else if i = 0 then (4, s) else stepsM s i.toNat (frB (txP i t d))
theorem chkS_ok {i t : Int} {d : List UInt8} (h : chkP i t d = 0) : (i = 0 ∧ t = 0 ∧ d = []) ∨ (1 ≤ i ∧ i ≤ 4611686018427387904 ∧ 1 ≤ t ∧ t ≤ 4611686018427387904 ∧ d.length ≤ 524288) := by
  unfold chkP at h
  split at h
  · rename_i hn
    left
    refine ⟨hn.1.1, hn.1.2, List.length_eq_zero_iff.1 (by have := hn.2; omega)⟩
  · split at h
    · omega
    · rename_i hr
      split at h
      · omega
      · right
        have h1 : rg i 1 ∧ rg t 1 := by simpa using hr
        exact ⟨h1.1.1, h1.1.2, h1.2.1, h1.2.2, by omega⟩
theorem txP_len (i t : Int) (d : List UInt8) : (txP i t d).length ≤ d.length + 30 := by
  have b1 := bytesV_len i; have b2 := bytesV_len t; have b3 := bytesV_len (d.length : Int)
  unfold txP bB
  simp only [List.length_append]
  omega
theorem clean_f (s : DS) : snap_clean.f s.1 s.2.1 s.2.2.1 s.2.2.2 = some ((if (mget s.1 tmpW).isSome = true then 1 else 0), (cleanM s).1, (cleanM s).2.1, (cleanM s).2.2.1, (cleanM s).2.2.2.1, (cleanM s).2.2.2.2) := by
  unfold snap_clean.f cleanM
  rw [Has_eq, Option.bind_some]
  cases hm : (mget s.1 tmpW).isSome with
  | false => rfl
  | true => simp only [Bool.not_true, Bool.false_eq_true, if_false, if_true]; rw [Remove_eq, Option.bind_some]
theorem inv_clean {s : DS} (h : InvN 256 s.1) : InvN 256 (cleanM s).2.1 := by
  unfold cleanM
  split
  · exact inv_remove h _ _ _ _
  · exact h
theorem inv_then {r : Int × DS} {f : DS → Int × DS} (h : InvN 256 r.2.1) (hf : ∀ t : DS, InvN 256 t.1 → InvN 256 (f t).2.1) : InvN 256 (thenM r f).2.1 := by
  unfold thenM
  split
  · exact hf _ h
  · exact h
theorem frB_big (i t : Int) {d : List UInt8} (h : d.length ≤ 524288) : (txP i t d).length ≤ 1048576 := by
  have := txP_len i t d
  omega
theorem steps_f {s : DS} (h : InvN 256 s.1) {n : Nat} {b : List UInt8} (hb : b.length < 2 ^ 40) {k : Nat} (hk : 40 ≤ k) :
    ((snap_Save_1_s.f s.1 s.2.1 s.2.2.1 s.2.2.2).bind fun s27v => (if s27v.1 = (0 : Int) then ((snap_Save_2_s.f k s27v.2.1 s27v.2.2.1 s27v.2.2.2.1 s27v.2.2.2.2).bind fun s32v => (if s32v.1 = (0 : Int) then ((snap_Save_3_s.f s32v.2.1 s32v.2.2.1 s32v.2.2.2.1 s32v.2.2.2.2 b).bind fun s41v => (if s41v.1 = (0 : Int) then ((snap_Save_4_s.f s41v.2.1 s41v.2.2.1 s41v.2.2.2.1 s41v.2.2.2.2).bind fun s46v => (if s46v.1 = (0 : Int) then ((snap_Save_5_s.f k s46v.2.1 s46v.2.2.1 s46v.2.2.2.1 s46v.2.2.2.2 (nameB n)).bind fun s51v => (if s51v.1 = (0 : Int) then (some (0, s51v.2.1, s51v.2.2.1, s51v.2.2.2.1, s51v.2.2.2.2)) else (some (s51v.1, s51v.2.1, s51v.2.2.1, s51v.2.2.2.1, s51v.2.2.2.2)))) else (some (s46v.1, s46v.2.1, s46v.2.2.1, s46v.2.2.2.1, s46v.2.2.2.2)))) else (some (s41v.1, s41v.2.1, s41v.2.2.1, s41v.2.2.2.1, s41v.2.2.2.2)))) else (some (s32v.1, s32v.2.1, s32v.2.2.1, s32v.2.2.2.1, s32v.2.2.2.2)))) else (some (s27v.1, s27v.2.1, s27v.2.2.1, s27v.2.2.2.1, s27v.2.2.2.2))))
      = some (stepsM s n b) := by
  have i1 := inv_clean h
  unfold snap_Save_1_s.f snap_Save_2_s.f snap_Save_3_s.f snap_Save_4_s.f snap_Save_5_s.f stepsM
  rw [clean_f, Option.bind_some, Option.bind_some]
  obtain ⟨r1, e1⟩ : ∃ r, cleanM s = r := ⟨_, rfl⟩
  rw [e1] at i1 ⊢
  obtain ⟨c1, f1, l1, a1, d1⟩ := r1
  simp only at i1 ⊢
  by_cases z1 : c1 = 0
  · rw [if_pos z1, Create_eq _ _ _ _ _ (by simp) (by simp; omega), Option.bind_some, Option.bind_some]
    have i2 := inv_create i1 l1 a1 d1 tmpW
    have t1 : thenM (c1, f1, l1, a1, d1) (fun t => createM t.1 t.2.1 t.2.2.1 t.2.2.2 tmpW) = createM f1 l1 a1 d1 tmpW := if_pos z1
    rw [t1]
    obtain ⟨r2, e2⟩ : ∃ r, createM f1 l1 a1 d1 tmpW = r := ⟨_, rfl⟩
    rw [e2] at i2 ⊢
    obtain ⟨c2, f2, l2, a2, d2⟩ := r2
    simp only at i2 ⊢
    by_cases z2 : c2 = 0
    · rw [if_pos z2, Append_eq i2 _ _ _ _ _ hb, Option.bind_some, Option.bind_some]
      have i3 := inv_append i2 l2 a2 d2 tmpW b
      have t2 : thenM (c2, f2, l2, a2, d2) (fun t => appendM t.1 t.2.1 t.2.2.1 t.2.2.2 tmpW b) = appendM f2 l2 a2 d2 tmpW b := if_pos z2
      rw [t2]
      obtain ⟨r3, e3⟩ : ∃ r, appendM f2 l2 a2 d2 tmpW b = r := ⟨_, rfl⟩
      rw [e3] at i3 ⊢
      obtain ⟨c3, f3, l3, a3, d3⟩ := r3
      simp only at i3 ⊢
      by_cases z3 : c3 = 0
      · rw [if_pos z3, Sync_eq, Option.bind_some, Option.bind_some]
        have t3 : thenM (c3, f3, l3, a3, d3) (fun t => syncM t.1 t.2.1 t.2.2.1 t.2.2.2 tmpW) = syncM f3 l3 a3 d3 tmpW := if_pos z3
        rw [t3]
        obtain ⟨r4, e4⟩ : ∃ r, syncM f3 l3 a3 d3 tmpW = r := ⟨_, rfl⟩
        rw [e4]
        obtain ⟨c4, f4, l4, a4, d4⟩ := r4
        simp only
        by_cases z4 : c4 = 0
        · rw [if_pos z4, Rename_eq _ _ _ _ _ _ (by rw [name_len]; omega) (by rw [name_len]; omega), Option.bind_some, Option.bind_some]
          have t4 : thenM (c4, f4, l4, a4, d4) (fun t => renameM t.1 t.2.1 t.2.2.1 t.2.2.2 tmpW (nameB n)) = renameM f4 l4 a4 d4 tmpW (nameB n) := if_pos z4
          rw [t4]
          obtain ⟨r5, e5⟩ : ∃ r, renameM f4 l4 a4 d4 tmpW (nameB n) = r := ⟨_, rfl⟩
          rw [e5]
          obtain ⟨c5, f5, l5, a5, d5⟩ := r5
          simp only
          by_cases z5 : c5 = 0
          · rw [if_pos z5, z5]
          · rw [if_neg z5]
        · rw [if_neg z4]; unfold thenM; rw [if_neg z4]
      · rw [if_neg z3]; unfold thenM; rw [if_neg z3]; simp only [if_neg z3]
    · rw [if_neg z2]; unfold thenM; rw [if_neg z2]; simp only [if_neg z2]
  · rw [if_neg z1]; unfold thenM; rw [if_neg z1]; simp only [if_neg z1]
theorem save_f {s : DS} (h : InvN 256 s.1) (i t : Int) {d : List UInt8} {k : Nat} (hk : 2000000 ≤ k) : snap_Save.f k s.1 s.2.1 s.2.2.1 s.2.2.2 i t d = some (saveM s i t d) := by
  by_cases hc : chkP i t d = 0
  · have e1 : codec_Snaps_Put.f k i t d = some (txP i t d, 0) := by
      rw [cPutP (by omega)]; unfold putV; rw [if_pos hc]
    unfold saveM
    rw [if_neg (c := chkP i t d ≠ 0) (fun x => x hc)]
    unfold snap_Save.f
    rw [e1, Option.bind_some]
    simp only [if_true]
    by_cases hi : i = 0
    · rw [if_pos hi, if_pos hi]
    · rcases chkS_ok hc with ⟨h0, _⟩ | ⟨h1, h2, h3, h4, h5⟩
      · exact absurd h0 hi
      · have hb := frB_big i t h5
        have e2 : frame_Put.f k (txP i t d) = some (frB (txP i t d), 0) := by
          rw [put_f (by omega), if_neg (by omega)]
        obtain ⟨n, rfl⟩ : ∃ n : Nat, i = (n : Int) := ⟨i.toNat, by omega⟩
        rw [if_neg hi, if_neg hi, e2, Option.bind_some]
        simp only [if_true]
        rw [name_f (by omega) (by omega), Option.bind_some]
        simp only [if_true]
        rw [steps_f h (by rw [frB_len]; omega) (by omega), Int.toNat_natCast]
  · have e1 : codec_Snaps_Put.f k i t d = some ([], chkP i t d) := by
      rw [cPutP (by omega)]; unfold putV; rw [if_neg hc]
    unfold saveM
    rw [if_pos (c := chkP i t d ≠ 0) hc]
    unfold snap_Save.f
    rw [e1, Option.bind_some, if_neg (show ¬ (([] : List UInt8), chkP i t d).2 = 0 from hc)]
end Go.Proofs.YtjkjlggbikeliaaGreatDoor

namespace Go.Proofs.YtjkjlggbikeliaaGreatDoor
set_option linter.unusedVariables false
set_option linter.unusedSimpArgs false
open Go.RowKit
def rmM (s : DS) (x : List UInt8) : Int × DS := removeM s.1 s.2.1 s.2.2.1 s.2.2.2 x
def dropM (s : DS) : List Nat → Int × DS
  | [] => (0, s)
  | n :: r => if (rmM s (nameB n)).1 = 0 then dropM (rmM s (nameB n)).2 r else rmM s (nameB n)
def goneM (s : DS) : Nat := if (mget s.1 tmpW).isSome = true then 1 else 0
def oldN (fs : FSt) (m : Nat) : List Nat := (idxN fs).take ((idxN fs).length - m)
def keepM (s : DS) (n : Int) : Int × Int × DS :=
  if n < 1 then (0, 1, s)
  else if (cleanM s).1 = 0 then
    (if (dropM (cleanM s).2 (oldN (cleanM s).2.1 n.toNat)).1 = 0 then (((goneM s + (oldN (cleanM s).2.1 n.toNat).length : Nat) : Int), 0, (dropM (cleanM s).2 (oldN (cleanM s).2.1 n.toNat)).2)
      else (0, dropM (cleanM s).2 (oldN (cleanM s).2.1 n.toNat)))
  else (0, cleanM s)
theorem cut_tl {L : List Nat} (h : 1 ≤ L.length) : cut (toI L) (1 : Int) ((toI L).length : Int) = toI L.tail := by
  rw [cut_to]
  unfold toI
  cases L with
  | nil => rfl
  | cons n r => rfl
theorem keep_l0 {m : Nat} (hm : 1 ≤ m) : ∀ (k g : Nat) (L : List Nat) (s : DS), L.length < k → L.length ≤ 1000 → g + L.length ≤ 10000 → (∀ n, n ∈ L → 1 ≤ n ∧ n ≤ 4611686018427387904) →
    snap_Keep.l0 (m : Int) k (g : Int) (toI L) s.1 s.2.1 s.2.2.1 s.2.2.2 = some (if (dropM s (L.take (L.length - m))).1 = 0 then .inl (((g + (L.length - m) : Nat) : Int), (dropM s (L.take (L.length - m))).2) else .inr (0, dropM s (L.take (L.length - m))))
  | 0, g, L, s, h, _, _, _ => by omega
  | k + 1, g, L, s, hk, hl, hg, hL => by
    rw [snap_Keep.l0]
    have hlen : (toI L).length = L.length := by simp [toI]
    by_cases hlt : m < L.length
    · cases L with
      | nil => simp at hlt
      | cons n r =>
        have hn := hL n (by simp)
        have ht : (n :: r).take ((n :: r).length - m) = n :: r.take (r.length - m) := by
          have : (n :: r).length - m = (r.length - m) + 1 := by simp at hlt ⊢; omega
          rw [this, List.take_succ_cons]
        rw [if_pos (by omega), if_pos (by omega), toI_get]
        show Option.bind (snap_Name.f ((n : Nat) : Int)) _ = _
        rw [name_f hn.1 hn.2, Option.bind_some, Remove_eq, Option.bind_some, ht, dropM]
        show (if (rmM s (nameB n)).1 = 0 then _ else _) = _
        by_cases hr : (rmM s (nameB n)).1 = 0
        · have ih := keep_l0 hm k (g + 1) r (rmM s (nameB n)).2 (by simp at hk; omega) (by simp at hl; omega) (by simp at hg; omega) (fun x hx => hL x (by simp [hx]))
          have e1 : g + 1 + (r.length - m) = g + ((n :: r).length - m) := by simp at hlt ⊢; omega
          rw [if_pos hr, if_pos hr, if_pos (by omega), cut_tl (by simp), ws1 (by omega)]
          rw [e1] at ih
          exact ih
        · rw [if_neg hr, if_neg hr, if_neg hr]
          rfl
    · rw [if_neg (by omega), show L.length - m = 0 by omega, List.take_zero, dropM, if_pos rfl]
      rfl
theorem keep_f {s : DS} (h : InvN 256 s.1) {n : Int} (hn : n ≤ 9223372036854775807) {k : Nat} (hk : 2000 ≤ k) : snap_Keep.f k s.1 s.2.1 s.2.2.1 s.2.2.2 n = some (keepM s n) := by
  unfold snap_Keep.f keepM
  by_cases h1 : n < 1
  · rw [if_pos h1, if_pos h1]
  · have ic := inv_clean h
    rw [if_neg h1, if_neg h1, clean_f, Option.bind_some]
    simp only []
    by_cases hc : (cleanM s).1 = 0
    · have hlen := idxN_len ic
      obtain ⟨m, rfl⟩ : ∃ m : Nat, n = (m : Int) := ⟨n.toNat, by omega⟩
      have hg : (if (mget s.1 tmpW).isSome = true then (1 : Int) else 0) = ((goneM s : Nat) : Int) := by unfold goneM; split <;> rfl
      have hg1 : goneM s ≤ 1 := by unfold goneM; split <;> omega
      have kl := keep_l0 (m := m) (by omega) k (goneM s) (idxN (cleanM s).2.1) (cleanM s).2 (by omega) (by omega) (by omega) (fun x hx => ⟨(idxN_pos hx).1, (idxN_pos hx).2.1⟩)
      have e1 : (oldN (cleanM s).2.1 m).length = (idxN (cleanM s).2.1).length - m := by unfold oldN; rw [List.length_take]; omega
      rw [if_pos hc, if_pos hc, list_f ic (by decide) _ _ _ (by omega), Option.bind_some, hg, kl, Int.toNat_natCast, e1]
      show orR (some (if (dropM (cleanM s).2 (oldN (cleanM s).2.1 m)).1 = 0 then _ else _)) _ = _
      by_cases hd : (dropM (cleanM s).2 (oldN (cleanM s).2.1 m)).1 = 0
      · rw [if_pos hd, if_pos hd]; rfl
      · rw [if_neg hd, if_neg hd]; rfl
    · rw [if_neg hc, if_neg hc]
theorem inv_steps {s : DS} (h : InvN 256 s.1) (n : Nat) (b : List UInt8) : InvN 256 (stepsM s n b).2.1 := by
  unfold stepsM
  exact inv_then (inv_then (inv_then (inv_then (inv_clean h) fun t ht => inv_create ht _ _ _ _) fun t ht => inv_append ht _ _ _ _ _) fun t ht => inv_sync ht _ _ _ _) fun t ht => inv_rename ht _ _ _ _ _
theorem inv_save {s : DS} (h : InvN 256 s.1) (i t : Int) (d : List UInt8) : InvN 256 (saveM s i t d).2.1 := by
  unfold saveM
  split
  · exact h
  split
  · exact h
  · exact inv_steps h _ _
end Go.Proofs.YtjkjlggbikeliaaGreatDoor

namespace Go.Proofs.YtjkjlggbikeliaaGreatDoor
set_option linter.unusedVariables false
set_option linter.unusedSimpArgs false
open Go.RowKit
/-! ### The order of names -/
theorem lt_app : ∀ {a b : List UInt8} (c d : List UInt8), a.length = b.length → a < b → a ++ c < b ++ d
  | [], [], _, _, _, h => absurd h (List.lt_irrefl _)
  | [], _ :: _, _, _, h, _ => by simp at h
  | _ :: _, [], _, _, h, _ => by simp at h
  | x :: a, y :: b, c, d, hl, h => by
    rw [List.cons_append, List.cons_append]
    rw [List.cons_lt_cons_iff] at h ⊢
    rcases h with h | ⟨h1, h2⟩
    · exact .inl h
    · exact .inr ⟨h1, lt_app c d (by simpa using hl) h2⟩
theorem app_lt : ∀ (a : List UInt8) {c d : List UInt8}, c < d → a ++ c < a ++ d
  | [], _, _, h => h
  | x :: a, c, d, h => by
    rw [List.cons_append, List.cons_append, List.cons_lt_cons_iff]
    exact .inr ⟨rfl, app_lt a h⟩
theorem dig_lt {m n : Nat} (hm : m < 10) (hn : n < 10) (h : m < n) : UInt8.ofNat (48 + m) < UInt8.ofNat (48 + n) := by
  rw [UInt8.lt_iff_toNat_lt, UInt8.toNat_ofNat', UInt8.toNat_ofNat']
  omega
theorem pad_lt : ∀ (w : Nat) {m n : Nat}, m < n → n < 10 ^ w → pad w m < pad w n
  | 0, m, n, h, h2 => by simp at h2; omega
  | w + 1, m, n, h, h2 => by
    rw [pad, pad]
    by_cases hd : m / 10 < n / 10
    · exact lt_app _ _ (by rw [pad_len, pad_len]) (pad_lt w hd (by rw [Nat.pow_succ] at h2; omega))
    · have e : m / 10 = n / 10 := by omega
      rw [e]
      refine app_lt _ ?_
      rw [List.cons_lt_cons_iff]
      exact .inl (dig_lt (by omega) (by omega) (by omega))
theorem name_lt {m n : Nat} (h : m < n) (hn : n ≤ 4611686018427387904) : nameB m < nameB n := app_lt _ (pad_lt 19 h (by omega))
theorem idx_lt {x y : List UInt8} (h : x < y) (hx : 0 < idxB x) (hy : 0 < idxB y) : idxB x < idxB y := by
  rcases Nat.lt_trichotomy (idxB x) (idxB y) with h1 | h1 | h1
  · exact h1
  · have e : x = y := by rw [← name_idx hx, ← name_idx hy, h1]
    rw [e] at h
    exact absurd h (List.lt_irrefl _)
  · have h2 := name_lt h1 (idx_le x)
    rw [name_idx hx, name_idx hy] at h2
    exact absurd h (List.lt_asymm h2)
theorem idxN_asc {m : Nat} {fs : FSt} (h : InvN m fs) : (idxN fs).Pairwise (· < ·) := by
  unfold idxN idxs
  rw [List.filter_map, List.pairwise_map]
  refine List.Pairwise.imp_of_mem ?_ (List.Pairwise.filter _ (keysS_strict h.nd))
  intro x y hx hy hxy
  have h1 := (List.mem_filter.1 hx).2
  have h2 := (List.mem_filter.1 hy).2
  exact idx_lt hxy (by simpa using h1) (by simpa using h2)
theorem asc_eq : ∀ {l m : List Nat}, l.Pairwise (· < ·) → m.Pairwise (· < ·) → (∀ x, x ∈ l ↔ x ∈ m) → l = m
  | [], [], _, _, _ => rfl
  | [], b :: m, _, _, h => absurd ((h b).2 (by simp)) (by simp)
  | a :: l, [], _, _, h => absurd ((h a).1 (by simp)) (by simp)
  | a :: l, b :: m, hl, hm, h => by
    have hl' := List.pairwise_cons.1 hl
    have hm' := List.pairwise_cons.1 hm
    have hab : a = b := by
      have h1 := (h a).1 (by simp)
      have h2 := (h b).2 (by simp)
      simp only [List.mem_cons] at h1 h2
      rcases h1 with h1 | h1
      · exact h1
      · rcases h2 with h2 | h2
        · exact h2.symm
        · have := hl'.1 b h2; have := hm'.1 a h1; omega
    subst hab
    refine congrArg _ (asc_eq hl'.2 hm'.2 fun x => ?_)
    have hx := h x
    simp only [List.mem_cons] at hx
    constructor
    · intro hx'
      rcases hx.1 (.inr hx') with e | e
      · have := hl'.1 x hx'; omega
      · exact e
    · intro hx'
      rcases hx.2 (.inr hx') with e | e
      · have := hm'.1 x hx'; omega
      · exact e
/-! ### What Load and List hang on -/
theorem idxN_bd {fs : FSt} {n : Nat} (h : n ∈ idxN fs) : 1 ≤ n ∧ n ≤ 4611686018427387904 := ⟨(idxN_pos h).1, (idxN_pos h).2.1⟩
theorem whole_congr {fs gs : FSt} {n : Nat} (h : mget fs (nameB n) = mget gs (nameB n)) : wholeM fs n = wholeM gs n := by
  unfold wholeM readM getF
  rw [h]
theorem loadR_congr {fs gs : FSt} : ∀ (L : List Nat) (p : Nat), (∀ n, n ∈ L → mget fs (nameB n) = mget gs (nameB n)) → loadR fs L p = loadR gs L p
  | [], p, h => rfl
  | n :: r, p, h => by
    rw [loadR, loadR, whole_congr (h n (by simp)), loadR_congr r (p + 1) fun x hx => h x (List.mem_cons_of_mem _ hx)]
/-! ### Whole files -/
def filP (n : Nat) (t : Int) (d : List UInt8) : List UInt8 × Int := (frB (txP (n : Int) t d), ((frB (txP (n : Int) t d)).length : Int))
/-! ### Save -/
theorem tmp_ne (n : Nat) : nameB n ≠ tmpW := fun e => by
  have := name_len n
  rw [e] at this
  simp at this
theorem then_P {P Q : Int × DS → Prop} {r : Int × DS} {f : DS → Int × DS} (hr : P r) (h1 : r.1 ≠ 0 → P r → Q r) (h2 : r.1 = 0 → P r → Q (f r.2)) : Q (thenM r f) := by
  unfold thenM
  by_cases h : r.1 = 0
  · rw [if_pos h]; exact h2 h hr
  · rw [if_neg h]; exact h1 h hr
structure Lft (s : DS) (v : Option (List UInt8 × Int)) (r : Int × DS) : Prop where
  inv : InvN 256 r.2.1
  oth : ∀ x, x ≠ tmpW → mget r.2.1 x = mget s.1 x
  tmp : r.1 = 0 → mget r.2.1 tmpW = v
theorem lft_clean {s : DS} (h : InvN 256 s.1) : Lft s none (cleanM s) := by
  refine ⟨inv_clean h, ?_, ?_⟩
  · intro x hx
    unfold cleanM removeM
    repeat' split
    all_goals first | rfl | exact (mget_mdel _ _ _ h.nd).trans (if_neg (fun e => hx e.symm))
  · unfold cleanM removeM
    split
    · rename_i hm
      intro h0
      repeat' split at h0
      all_goals first | (simp at h0; done) | skip
      repeat' split
      all_goals first | (exfalso; simp_all; done) | exact (mget_mdel _ _ _ h.nd).trans (if_pos rfl)
    · rename_i hm
      intro _
      cases e : mget s.1 tmpW with
      | none => rfl
      | some v => rw [e] at hm; exact absurd rfl hm
theorem lft_create {s t : DS} {r0 : Int} (h : Lft s none (r0, t)) : Lft s (some ([], 0)) (createM t.1 t.2.1 t.2.2.1 t.2.2.2 tmpW) := by
  refine ⟨inv_create h.inv _ _ _ _, ?_, ?_⟩
  · intro x hx
    rw [← h.oth x hx]
    unfold createM
    repeat' split
    all_goals first | rfl | skip
    exact (mget_mput _ _ _ _).trans (if_neg (fun e => hx e.symm))
  · unfold createM
    intro h0
    repeat' split at h0
    all_goals first | (simp at h0; done) | skip
    repeat' split
    all_goals first | (exfalso; simp_all; done) | skip
    exact (mget_mput _ _ _ _).trans (if_pos rfl)
theorem getF_some {fs : FSt} {x : List UInt8} {v : List UInt8 × Int} (h : mget fs x = some v) : getF fs x = v := by unfold getF; rw [h]; rfl
theorem lft_append {s t : DS} {r0 : Int} (hr : r0 = 0) (h : Lft s (some ([], 0)) (r0, t)) (b : List UInt8) : Lft s (some (b, 0)) (appendM t.1 t.2.1 t.2.2.1 t.2.2.2 tmpW b) := by
  have hg := getF_some (h.tmp hr)
  refine ⟨inv_append h.inv _ _ _ _ _, ?_, ?_⟩
  · intro x hx
    rw [← h.oth x hx]
    unfold appendM
    repeat' split
    all_goals first | rfl | exact (mget_mput _ _ _ _).trans (if_neg (fun e => hx e.symm))
  · unfold appendM
    intro h0
    repeat' split at h0
    all_goals first | (simp at h0; done) | skip
    repeat' split
    all_goals first | (exfalso; simp_all; done) | skip
    refine (mget_mput _ _ _ _).trans ((if_pos rfl).trans ?_)
    show some ((getF t.1 tmpW).1 ++ b, (getF t.1 tmpW).2) = _
    rw [show getF t.1 tmpW = ([], 0) from hg]
    rfl
theorem lft_sync {s t : DS} {r0 : Int} {b : List UInt8} (hr : r0 = 0) (h : Lft s (some (b, 0)) (r0, t)) : Lft s (some (b, (b.length : Int))) (syncM t.1 t.2.1 t.2.2.1 t.2.2.2 tmpW) := by
  have hg := getF_some (h.tmp hr)
  refine ⟨inv_sync h.inv _ _ _ _, ?_, ?_⟩
  · intro x hx
    rw [← h.oth x hx]
    unfold syncM
    repeat' split
    all_goals first | rfl | exact (mget_mput _ _ _ _).trans (if_neg (fun e => hx e.symm))
  · unfold syncM
    intro h0
    repeat' split at h0
    all_goals first | (simp at h0; done) | skip
    repeat' split
    all_goals first | (exfalso; simp_all; done) | skip
    refine (mget_mput _ _ _ _).trans ((if_pos rfl).trans ?_)
    show some ((getF t.1 tmpW).1, ((getF t.1 tmpW).1.length : Int)) = _
    rw [show getF t.1 tmpW = (b, 0) from hg]
structure Sav (s : DS) (n : Nat) (b : List UInt8) (r : Int × DS) : Prop where
  inv : InvN 256 r.2.1
  no : r.1 ≠ 0 → ∀ x, x ≠ tmpW → mget r.2.1 x = mget s.1 x
  yes : r.1 = 0 → ∀ x, mget r.2.1 x = if x = nameB n then some (b, (b.length : Int)) else if x = tmpW then none else mget s.1 x
theorem sav_rename {s t : DS} {r0 : Int} {b : List UInt8} {n : Nat} (hr : r0 = 0) (h : Lft s (some (b, (b.length : Int))) (r0, t)) : Sav s n b (renameM t.1 t.2.1 t.2.2.1 t.2.2.2 tmpW (nameB n)) := by
  have hg := getF_some (h.tmp hr)
  have hne := tmp_ne n
  refine ⟨inv_rename h.inv _ _ _ _ _, ?_, ?_⟩
  · intro h0 x hx
    rw [← h.oth x hx]
    unfold renameM at h0 ⊢
    repeat' split
    all_goals first | rfl | skip
    exfalso
    apply h0
    repeat' split
    all_goals first | rfl | (simp_all; done)
  · unfold renameM
    intro h0 x
    by_cases hm : (mget t.1 tmpW).isSome = true
    · rw [if_pos hm] at h0 ⊢
      by_cases hd : t.2.2.2 = true
      · rw [if_pos hd] at h0; exact absurd h0 (by simp)
      · rw [if_neg hd] at h0 ⊢
        by_cases hn : nmB (nameB n) = false
        · rw [if_pos hn] at h0; exact absurd h0 (by simp)
        · rw [if_neg hn] at h0 ⊢
          by_cases hf : (failsM t.2.1 t.2.2.1 t.2.2.2).1 = true
          · rw [if_pos hf] at h0; exact absurd h0 (by simp)
          · rw [if_neg hf, if_neg (fun e => hne e.symm)]
            show mget (mput (mdel t.1 tmpW) (nameB n) (getF t.1 tmpW)) x = _
            rw [mget_mput, mget_mdel _ _ _ h.inv.nd, show getF t.1 tmpW = (b, (b.length : Int)) from hg]
            by_cases h1 : x = nameB n
            · rw [if_pos h1.symm, if_pos h1]
            · rw [if_neg (fun e => h1 e.symm), if_neg h1]
              by_cases h2 : x = tmpW
              · rw [if_pos h2.symm, if_pos h2]
              · rw [if_neg (fun e => h2 e.symm), if_neg h2]
                exact h.oth x h2
    · rw [if_neg hm] at h0
      split at h0 <;> exact absurd h0 (by simp)
theorem sav_steps {s : DS} (h : InvN 256 s.1) (n : Nat) (b : List UInt8) : Sav s n b (stepsM s n b) := by
  unfold stepsM
  have lt : ∀ {v w : Option (List UInt8 × Int)} {r : Int × DS}, r.1 ≠ 0 → Lft s v r → Lft s w r := fun hr x => ⟨x.inv, x.oth, fun h0 => absurd h0 hr⟩
  have h1 := lft_clean h
  have h2 := then_P (f := fun t => createM t.1 t.2.1 t.2.2.1 t.2.2.2 tmpW) (Q := Lft s (some ([], 0))) h1 lt fun hr x => lft_create (r0 := 0) (by rw [← hr]; exact x)
  have h3 := then_P (f := fun t => appendM t.1 t.2.1 t.2.2.1 t.2.2.2 tmpW b) (Q := Lft s (some (b, 0))) h2 lt fun hr x => lft_append hr x b
  have h4 := then_P (f := fun t => syncM t.1 t.2.1 t.2.2.1 t.2.2.2 tmpW) (Q := Lft s (some (b, (b.length : Int)))) h3 lt fun hr x => lft_sync hr x
  exact then_P (f := fun t => renameM t.1 t.2.1 t.2.2.1 t.2.2.2 tmpW (nameB n)) (Q := Sav s n b) h4 (fun hr x => ⟨x.inv, fun _ => x.oth, fun h0 => absurd h0 hr⟩) fun hr x => sav_rename hr x
/-! ### All snapshots' files are whole -/
theorem name_inj {m n : Nat} (hm : m ≤ 4611686018427387904) (hn : n ≤ 4611686018427387904) (h : nameB m = nameB n) : m = n := by
  rw [← idx_name (n := m) (by omega), h, idx_name (by omega)]
/-! ### A crash -/
/-! ### Behind one more Save, and a crash -/
end Go.Proofs.YtjkjlggbikeliaaGreatDoor

namespace Go.Proofs.YtjkjlggbikeliaaGreatDoor
set_option linter.unusedVariables false
set_option linter.unusedSimpArgs false
open Go.RowKit
structure Calm (N Z : Nat) (s : DS) : Prop where
  inv : InvN 256 s.1
  arm : s.2.2.1 = 0
  up : s.2.2.2 = false
  tmp : mget s.1 tmpW = none
  num : s.1.length ≤ N
  siz : szF s.1 ≤ Z
theorem calm_0 : Calm 0 0 d0 := ⟨inv0 256, rfl, rfl, rfl, Nat.le_refl _, Nat.le_refl _⟩
theorem calm_mono {N Z N' Z' : Nat} {s : DS} (h : Calm N Z s) (hN : N ≤ N') (hZ : Z ≤ Z') : Calm N' Z' s := ⟨h.inv, h.arm, h.up, h.tmp, Nat.le_trans h.num hN, Nat.le_trans h.siz hZ⟩
theorem none_is {fs : FSt} {x : List UInt8} (h : mget fs x = none) : (mget fs x).isSome = false := by rw [h]; rfl
theorem calm_clean {N Z : Nat} {s : DS} (h : Calm N Z s) : cleanM s = (0, s) := by
  unfold cleanM
  rw [none_is h.tmp, if_neg Bool.false_ne_true]
theorem noFail (l : List UInt8) : ¬ (failsM l 0 false).1 = true := Bool.false_ne_true
theorem create_c {fs : FSt} {l x : List UInt8} (hn : nmB x = true) (hm : mget fs x = none) (hl : fs.length < 256) : createM fs l 0 false x = (0, mput fs x ([], 0), l, 0, false) := by
  unfold createM
  rw [if_neg Bool.false_ne_true, if_neg (by rw [hn]; decide), if_neg (by rw [hm]; decide), if_neg (by omega), if_neg (noFail _)]
  rfl
theorem append_c {fs : FSt} {l x b : List UInt8} {v : List UInt8 × Int} (hm : mget fs x = some v) (hs : szF fs + b.length ≤ 16777216) : appendM fs l 0 false x b = (0, mput fs x (v.1 ++ b, v.2), x, 0, false) := by
  unfold appendM
  rw [getF_some hm, if_pos (by rw [hm]; rfl), if_neg Bool.false_ne_true, if_neg (by omega), if_neg (noFail _)]
  rfl
theorem sync_c {fs : FSt} {l x : List UInt8} {v : List UInt8 × Int} (hm : mget fs x = some v) : syncM fs l 0 false x = (0, mput fs x (v.1, (v.1.length : Int)), l, 0, false) := by
  unfold syncM
  rw [getF_some hm, if_pos (by rw [hm]; rfl), if_neg Bool.false_ne_true, if_neg (noFail _)]
  rfl
theorem rename_c {fs : FSt} {l x y : List UInt8} {v : List UInt8 × Int} (hm : mget fs x = some v) (hn : nmB y = true) (hxy : x ≠ y) : renameM fs l 0 false x y = (0, mput (mdel fs x) y v, lateM l x y, 0, false) := by
  unfold renameM
  rw [getF_some hm, if_pos (by rw [hm]; rfl), if_neg Bool.false_ne_true, if_neg (by rw [hn]; decide), if_neg (noFail _), if_neg hxy]
  rfl
theorem remove_c {fs : FSt} {l x : List UInt8} (hm : (mget fs x).isSome = true) : removeM fs l 0 false x = (0, mdel fs x, (if l = x then [] else l), 0, false) := by
  unfold removeM
  rw [if_neg Bool.false_ne_true, if_neg (by rw [hm]; decide), if_neg (noFail _)]
  rfl
theorem then_ok {t : DS} (f : DS → Int × DS) : thenM (0, t) f = f t := if_pos rfl
theorem calm_steps {N Z : Nat} {s : DS} (h : Calm N Z s) (n : Nat) (b : List UInt8) (hN : N < 256) (hZ : Z + b.length ≤ 16777216) : (stepsM s n b).1 = 0 ∧ Calm (N + 1) (Z + b.length) (stepsM s n b).2 := by
  have hs := sav_steps h.inv n b
  have hsz := h.siz
  have hln := h.num
  obtain ⟨fs, l, a, d⟩ := s
  have ha : a = 0 := h.arm
  have hd : d = false := h.up
  subst ha
  subst hd
  have ht : mget fs tmpW = none := h.tmp
  simp only at hsz hln
  have m1 : ∀ v, mget (mput fs tmpW v) tmpW = some v := fun v => by rw [mget_mput, if_pos rfl]
  have m2 : ∀ (gs : FSt) v, mget (mput gs tmpW v) tmpW = some v := fun gs v => by rw [mget_mput, if_pos rfl]
  have z1 := szF_mput tmpW ([], 0) fs
  rw [getF_none (none_is ht)] at z1
  have l1 := mput_len_in fs tmpW (([], 0) : List UInt8 × Int)
  rw [none_is ht, if_neg Bool.false_ne_true] at l1
  have z2 := szF_mput tmpW ([] ++ b, 0) (mput fs tmpW ([], 0))
  rw [getF_some (m1 _)] at z2
  have l2 := mput_len_in (mput fs tmpW ([], 0)) tmpW (([] ++ b, 0) : List UInt8 × Int)
  rw [m1] at l2
  simp only [Option.isSome_some, if_true] at l2
  have z3 := szF_mput tmpW ([] ++ b, ((([] ++ b : List UInt8)).length : Int)) (mput (mput fs tmpW ([], 0)) tmpW ([] ++ b, 0))
  rw [getF_some (m2 _ _)] at z3
  have l3 := mput_len_in (mput (mput fs tmpW ([], 0)) tmpW ([] ++ b, 0)) tmpW (([] ++ b, ((([] ++ b : List UInt8)).length : Int)) : List UInt8 × Int)
  rw [m2] at l3
  simp only [Option.isSome_some, if_true] at l3
  have z4 := szF_mdel tmpW (mput (mput (mput fs tmpW ([], 0)) tmpW ([] ++ b, 0)) tmpW ([] ++ b, ((([] ++ b : List UInt8)).length : Int)))
  rw [getF_some (m2 _ _)] at z4
  have l4 := mdel_len (mput (mput (mput fs tmpW ([], 0)) tmpW ([] ++ b, 0)) tmpW ([] ++ b, ((([] ++ b : List UInt8)).length : Int))) tmpW (by rw [m2]; rfl)
  have z5 := szF_mput (nameB n) ([] ++ b, ((([] ++ b : List UInt8)).length : Int)) (mdel (mput (mput (mput fs tmpW ([], 0)) tmpW ([] ++ b, 0)) tmpW ([] ++ b, ((([] ++ b : List UInt8)).length : Int))) tmpW)
  have l5 := mput_length (l := mdel (mput (mput (mput fs tmpW ([], 0)) tmpW ([] ++ b, 0)) tmpW ([] ++ b, ((([] ++ b : List UInt8)).length : Int))) tmpW) (x := nameB n) (y := ([] ++ b, ((([] ++ b : List UInt8)).length : Int)))
  have e : stepsM (fs, l, 0, false) n b = (0, mput (mdel (mput (mput (mput fs tmpW ([], 0)) tmpW ([] ++ b, 0)) tmpW ([] ++ b, ((([] ++ b : List UInt8)).length : Int))) tmpW) (nameB n) ([] ++ b, ((([] ++ b : List UInt8)).length : Int)), lateM tmpW tmpW (nameB n), 0, false) := by
    unfold stepsM
    rw [calm_clean h, then_ok, create_c tmp_name ht (by omega), then_ok]
    simp only []
    simp only [List.length_nil] at z1
    rw [append_c (m1 _) (by omega), then_ok]
    simp only []
    rw [sync_c (m2 _ _), then_ok]
    simp only []
    rw [rename_c (m2 _ _) (nmB_nameB n) (fun e => tmp_ne n e.symm)]
  have htmp : mget (stepsM (fs, l, 0, false) n b).2.1 tmpW = none := by
    have h0 : (stepsM (fs, l, 0, false) n b).1 = 0 := by rw [e]
    rw [hs.yes h0 tmpW, if_neg (fun x => tmp_ne n x.symm), if_pos rfl]
  have hinv := hs.inv
  rw [e] at htmp hinv ⊢
  simp only [List.nil_append, List.length_nil] at z1 z2 z3 z4 z5 l1 l2 l3 l4 l5
  refine ⟨rfl, hinv, rfl, rfl, htmp, ?_, ?_⟩
  · simp only [List.nil_append]; omega
  · simp only [List.nil_append]; omega
def badS (i t : Int) (d : List UInt8) : Prop := chkP i t d ≠ 0 ∨ i = 0
instance (i t : Int) (d : List UInt8) : Decidable (badS i t d) := inferInstanceAs (Decidable (_ ∨ _))
theorem calm_no {s : DS} {i t : Int} {d : List UInt8} (h : badS i t d) : (saveM s i t d).2 = s := by
  unfold saveM
  by_cases hc : chkP i t d ≠ 0
  · rw [if_pos hc]
  · rw [if_neg hc, if_pos (h.resolve_left hc)]
theorem calm_yes {N Z : Nat} {s : DS} {i t : Int} {d : List UInt8} (h : Calm N Z s) (hb : ¬ badS i t d) (hN : N < 256) (hZ : Z + d.length + 38 ≤ 16777216) :
    ∃ n : Nat, i = (n : Int) ∧ 1 ≤ n ∧ n ≤ 4611686018427387904 ∧ chkP i t d = 0 ∧ (saveM s i t d).1 = 0 ∧ Calm (N + 1) (Z + d.length + 38) (saveM s i t d).2 ∧
      ∀ x, mget (saveM s i t d).2.1 x = if x = nameB n then some (filP n t d) else if x = tmpW then none else mget s.1 x := by
  have hc0 : chkP i t d = 0 := Decidable.not_not.1 fun x => hb (.inl x)
  have hi : i ≠ 0 := fun x => hb (.inr x)
  rcases chkS_ok hc0 with ⟨h0, _⟩ | ⟨h1, h2, h3, h4, h5⟩
  · exact absurd h0 hi
  · obtain ⟨n, rfl⟩ : ∃ n : Nat, i = (n : Int) := ⟨i.toNat, by omega⟩
    have htx := txP_len (n : Int) t d
    have hfr := frB_len (txP (n : Int) t d)
    have hs := sav_steps h.inv n (frB (txP (n : Int) t d))
    obtain ⟨c0, cc⟩ := calm_steps h n (frB (txP (n : Int) t d)) hN (by omega)
    refine ⟨n, rfl, by omega, by omega, hc0, ?_⟩
    unfold saveM
    rw [if_neg (fun x => x hc0), if_neg hi, Int.toNat_natCast]
    exact ⟨c0, calm_mono cc (Nat.le_refl _) (by omega), hs.yes c0⟩
theorem calm_save {N Z : Nat} {s : DS} {i t : Int} {d : List UInt8} (h : Calm N Z s) (hN : N < 256) (hZ : Z + d.length + 38 ≤ 16777216) : Calm (N + 1) (Z + d.length + 38) (saveM s i t d).2 := by
  by_cases hb : badS i t d
  · rw [calm_no hb]; exact calm_mono h (by omega) (by omega)
  · obtain ⟨n, _, _, _, _, _, hc, _⟩ := calm_yes h hb hN hZ
    exact hc
/-! ### Keep -/
theorem calm_rm {N Z : Nat} {s : DS} (h : Calm N Z s) {n : Nat} (hm : (mget s.1 (nameB n)).isSome = true) :
    (rmM s (nameB n)).1 = 0 ∧ Calm N Z (rmM s (nameB n)).2 ∧ ∀ x, mget (rmM s (nameB n)).2.1 x = if x = nameB n then none else mget s.1 x := by
  have hz := szF_mdel (nameB n) s.1
  have hl := mdel_len s.1 (nameB n) hm
  have hi := inv_remove h.inv s.2.1 s.2.2.1 s.2.2.2 (nameB n)
  have hn := h.num
  have hs := h.siz
  have hg := mget_mdel s.1 (nameB n)
  unfold rmM
  rw [h.arm, h.up] at hi ⊢
  rw [remove_c hm] at hi ⊢
  refine ⟨rfl, ⟨hi, rfl, rfl, ?_, ?_, ?_⟩, fun x => ?_⟩
  · show mget (mdel s.1 (nameB n)) tmpW = none
    rw [hg tmpW h.inv.nd, if_neg (tmp_ne n), h.tmp]
  · show (mdel s.1 (nameB n)).length ≤ N
    omega
  · show szF (mdel s.1 (nameB n)) ≤ Z
    omega
  · show mget (mdel s.1 (nameB n)) x = _
    rw [hg x h.inv.nd]
    by_cases e : x = nameB n
    · rw [if_pos e.symm, if_pos e]
    · rw [if_neg (fun y => e y.symm), if_neg e]
theorem calm_drop : ∀ (L : List Nat) {N Z : Nat} {s : DS}, Calm N Z s → L.Nodup → (∀ n, n ∈ L → n ≤ 4611686018427387904 ∧ (mget s.1 (nameB n)).isSome = true) →
    (dropM s L).1 = 0 ∧ Calm N Z (dropM s L).2 ∧ ∀ x, mget (dropM s L).2.1 x = if x ∈ L.map nameB then none else mget s.1 x
  | [], N, Z, s, h, _, _ => ⟨rfl, h, fun x => by simp [dropM]⟩
  | n :: L, N, Z, s, h, hn, hL => by
    obtain ⟨h0, hc, hg⟩ := calm_rm h (hL n (by simp)).2
    have hn' := List.nodup_cons.1 hn
    rw [dropM, if_pos h0]
    obtain ⟨i0, ic, ig⟩ := calm_drop L hc hn'.2 fun m hm => by
      have hb := hL m (List.mem_cons_of_mem _ hm)
      refine ⟨hb.1, ?_⟩
      rw [hg, if_neg (fun e => hn'.1 (by rw [← name_inj hb.1 (hL n (by simp)).1 e]; exact hm))]
      exact hb.2
    refine ⟨i0, ic, fun x => ?_⟩
    rw [ig, hg, List.map_cons]
    by_cases e1 : x ∈ L.map nameB
    · rw [if_pos e1, if_pos (List.mem_cons_of_mem _ e1)]
    · rw [if_neg e1]
      by_cases e2 : x = nameB n
      · rw [if_pos e2, if_pos (by rw [e2]; simp)]
      · rw [if_neg e2, if_neg (by simp only [List.mem_cons]; rintro (e | e); exact e2 e; exact e1 e)]
theorem asc_nodup {L : List Nat} (h : L.Pairwise (· < ·)) : L.Nodup := h.imp fun {a b} hab e => by omega
theorem idxN_drop {m k : Nat} {fs gs : FSt} (hf : InvN m fs) (hg : InvN k gs) (j : Nat) (h : ∀ x, mget gs x = if x ∈ ((idxN fs).take j).map nameB then none else mget fs x) : idxN gs = (idxN fs).drop j := by
  have ha := idxN_asc hf
  refine asc_eq (idxN_asc hg) (List.Pairwise.sublist (List.drop_sublist _ _) ha) fun n => ?_
  have hnd : ((idxN fs).take j ++ (idxN fs).drop j).Nodup := by rw [List.take_append_drop]; exact asc_nodup ha
  have hdis := (List.nodup_append.1 hnd).2.2
  by_cases hb : 1 ≤ n ∧ n ≤ 4611686018427387904
  · rw [idxN_iff hb.1 hb.2, h]
    by_cases e : nameB n ∈ ((idxN fs).take j).map nameB
    · rw [if_pos e]
      obtain ⟨m', hm', em⟩ := List.mem_map.1 e
      have hm2 := idxN_bd (List.mem_of_mem_take hm')
      rw [name_inj hm2.2 hb.2 em] at hm'
      constructor
      · intro x; exact absurd x (by decide)
      · intro x; exact absurd rfl (hdis n hm' n x)
    · rw [if_neg e]
      constructor
      · intro x
        have hn : n ∈ idxN fs := (idxN_iff hb.1 hb.2).2 x
        rw [← List.take_append_drop j (idxN fs)] at hn
        rcases List.mem_append.1 hn with hn | hn
        · exact absurd (List.mem_map.2 ⟨n, hn, rfl⟩) e
        · exact hn
      · intro x
        exact (idxN_iff hb.1 hb.2).1 (List.mem_of_mem_drop x)
  · constructor
    · intro x; exact absurd (idxN_bd x) hb
    · intro x; exact absurd (idxN_bd (List.mem_of_mem_drop x)) hb
theorem calm_keep {N Z : Nat} {s : DS} (h : Calm N Z s) {n : Int} (hn : 1 ≤ n) :
    (keepM s n).1 = (((idxN s.1).length - n.toNat : Nat) : Int) ∧ (keepM s n).2.1 = 0 ∧ Calm N Z (keepM s n).2.2 ∧ (∀ x, mget (keepM s n).2.2.1 x = if x ∈ ((idxN s.1).take ((idxN s.1).length - n.toNat)).map nameB then none else mget s.1 x) ∧ idxN (keepM s n).2.2.1 = (idxN s.1).drop ((idxN s.1).length - n.toNat) := by
  have ha := idxN_asc h.inv
  obtain ⟨d0', dc, dg⟩ := calm_drop (oldN s.1 n.toNat) h (asc_nodup (List.Pairwise.sublist (List.take_sublist _ _) ha)) fun m hm => by
    have hb := idxN_pos (List.mem_of_mem_take hm)
    exact ⟨hb.2.1, hb.2.2⟩
  have hg0 : goneM s = 0 := by unfold goneM; rw [none_is h.tmp, if_neg Bool.false_ne_true]
  have hlen : (oldN s.1 n.toNat).length = (idxN s.1).length - n.toNat := by unfold oldN; rw [List.length_take]; omega
  have e : keepM s n = ((((idxN s.1).length - n.toNat : Nat) : Int), 0, (dropM s (oldN s.1 n.toNat)).2) := by
    unfold keepM
    rw [if_neg (by omega), calm_clean h]
    simp only [if_true]
    rw [if_pos d0', hg0, hlen, Nat.zero_add]
  rw [e]
  refine ⟨rfl, rfl, dc, dg, idxN_drop h.inv dc.inv _ dg⟩
/-! ### Cut -/
theorem calm_cut {N Z : Nat} {s : DS} (h : Calm N Z s) (n : Nat) (m : Int) : Calm N Z (cutM s.1 s.2.1 s.2.2.1 s.2.2.2 (nameB n) m).2 := by
  have hi := inv_cut h.inv s.2.1 s.2.2.1 s.2.2.2 (nameB n) m
  have hn := h.num
  have hs := h.siz
  unfold cutM at hi ⊢
  by_cases hm : (mget s.1 (nameB n)).isSome = true
  · rw [if_pos hm] at hi ⊢
    rw [h.arm, h.up] at hi ⊢
    rw [if_neg Bool.false_ne_true] at hi ⊢
    by_cases hb : m < 0 ∨ ((getF s.1 (nameB n)).1.length : Int) < m
    · rw [if_pos hb]; exact ⟨h.inv, rfl, rfl, h.tmp, hn, hs⟩
    · rw [if_neg hb] at hi ⊢
      rw [if_neg (noFail _)] at hi ⊢
      have hz := szF_mput (nameB n) ((getF s.1 (nameB n)).1.take m.toNat, min (getF s.1 (nameB n)).2 m) s.1
      have hl := mput_len_in s.1 (nameB n) ((getF s.1 (nameB n)).1.take m.toNat, min (getF s.1 (nameB n)).2 m)
      rw [hm, if_pos rfl] at hl
      have ht := List.length_take_le m.toNat (getF s.1 (nameB n)).1
      refine ⟨hi, rfl, rfl, ?_, ?_, ?_⟩
      · exact (mget_mput _ _ _ _).trans ((if_neg (tmp_ne n)).trans h.tmp)
      · show (mput s.1 (nameB n) _).length ≤ N
        omega
      · show szF (mput s.1 (nameB n) _) ≤ Z
        simp only at hz
        have ht2 : ((getF s.1 (nameB n)).1.take m.toNat).length ≤ (getF s.1 (nameB n)).1.length := by rw [List.length_take]; omega
        omega
  · rw [if_neg hm, h.arm, h.up, if_neg Bool.false_ne_true]
    exact ⟨h.inv, rfl, rfl, h.tmp, hn, hs⟩
/-! ### What Load tells -/
theorem load_no {fs : FSt} : ∀ (L : List Nat) (p : Nat), (loadR fs L p).2.2.2.2 = 0 ∨ (loadR fs L p).2.2.2 = (0, 8)
  | [], p => .inr rfl
  | n :: r, p => by
    rw [loadR]
    split
    · exact .inl rfl
    · exact load_no r (p + 1)
theorem whole_idx {fs : FSt} {n : Nat} (h : (wholeM fs n).2.2.2 = true) : (wholeM fs n).1 = (n : Int) := by
  unfold wholeM wholeB at h ⊢
  split
  · rename_i ho
    rw [if_pos ho, Bool.and_eq_true] at h
    simpa using h.2
  · rename_i ho
    rw [if_neg ho] at h
    exact absurd h (by decide)
theorem load_at {fs : FSt} : ∀ (L : List Nat) (p : Nat), (loadR fs L p).2.2.2.2 = 0 → ∃ j, (loadR fs L p).2.2.2.1 = ((p + j : Nat) : Int) ∧ j < L.length ∧ (loadR fs L p).1 = ((L.getD j 0 : Nat) : Int)
  | [], p, h => by simp [loadR] at h
  | n :: r, p, h => by
    rw [loadR] at h ⊢
    by_cases hw : (wholeM fs n).2.2.2 = true
    · rw [if_pos hw]
      exact ⟨0, rfl, by simp, whole_idx hw⟩
    · rw [if_neg hw] at h ⊢
      obtain ⟨j, h1, h2, h3⟩ := load_at r (p + 1) h
      exact ⟨j + 1, by rw [h1]; congr 1; omega, by simp; omega, by rw [h3]; simp⟩
theorem load_front {fs : FSt} : ∀ (A B : List Nat) (p : Nat), (loadR fs (A ++ B) p).2.2.2.2 = 0 → (loadR fs (A ++ B) p).2.2.2.1 < ((p + A.length : Nat) : Int) → loadR fs A p = loadR fs (A ++ B) p
  | [], B, p, h, h2 => by
    obtain ⟨j, h1, _, _⟩ := load_at ([] ++ B) p h
    rw [h1] at h2
    simp at h2
    omega
  | n :: A, B, p, h, h2 => by
    rw [List.cons_append, loadR] at h h2 ⊢
    rw [loadR]
    by_cases hw : (wholeM fs n).2.2.2 = true
    · rw [if_pos hw, if_pos hw]
    · rw [if_neg hw] at h h2
      rw [if_neg hw, if_neg hw]
      exact load_front A B (p + 1) h (by rw [List.length_cons] at h2; rw [show p + 1 + A.length = p + (A.length + 1) by omega]; exact h2)
theorem keep_load {N Z : Nat} {s : DS} (h : Calm N Z s) {n : Int} (hn : 1 ≤ n) (h0 : (loadM s.1).2.2.2.2 = 0) (hov : (loadM s.1).2.2.2.1 < n) : loadM (keepM s n).2.2.1 = loadM s.1 := by
  obtain ⟨_, _, hc, hg, hi⟩ := calm_keep h hn
  obtain ⟨j, h1, h2, h3⟩ := load_at (idxN s.1).reverse 0 h0
  unfold loadM at h0 hov ⊢
  rw [hi]
  have ha := idxN_asc h.inv
  have hnd : ((idxN s.1).take ((idxN s.1).length - n.toNat) ++ (idxN s.1).drop ((idxN s.1).length - n.toNat)).Nodup := by rw [List.take_append_drop]; exact asc_nodup ha
  have hdis := (List.nodup_append.1 hnd).2.2
  have e1 : loadR (keepM s n).2.2.1 ((idxN s.1).drop ((idxN s.1).length - n.toNat)).reverse 0 = loadR s.1 ((idxN s.1).drop ((idxN s.1).length - n.toNat)).reverse 0 := by
    refine loadR_congr _ _ fun m hm => ?_
    rw [hg, if_neg fun e => ?_]
    obtain ⟨m', hm', em⟩ := List.mem_map.1 e
    have hm1 := List.mem_reverse.1 hm
    have b1 := idxN_bd (List.mem_of_mem_take hm')
    have b2 := idxN_bd (List.mem_of_mem_drop hm1)
    exact hdis m' hm' m hm1 (name_inj b1.2 b2.2 em)
  have e2 : (idxN s.1).reverse = ((idxN s.1).drop ((idxN s.1).length - n.toNat)).reverse ++ ((idxN s.1).take ((idxN s.1).length - n.toNat)).reverse := by
    rw [← List.reverse_append, List.take_append_drop]
  rw [e1, load_front _ ((idxN s.1).take ((idxN s.1).length - n.toNat)).reverse 0 (by rw [← e2]; exact h0) (by
    rw [← e2, List.length_reverse, List.length_drop]
    rw [List.length_reverse] at h2
    have : (loadR s.1 (idxN s.1).reverse 0).2.2.2.1 = ((0 + j : Nat) : Int) := h1
    rw [this] at hov ⊢
    omega), ← e2]
end Go.Proofs.YtjkjlggbikeliaaGreatDoor

namespace Go.Proofs.YtjkjlggbikeliaaGreatDoor
set_option linter.unusedVariables false
set_option linter.unusedSimpArgs false
open Go.RowKit
theorem first6_eq (m : Nat) : synodlaw6_first.f (m + 60) = some true := by kernel_rfl
theorem loadM_len {fs : FSt} (h : InvN 256 fs) : (loadM fs).2.2.1.length ≤ 16777216 := by
  have key : ∀ (L : List Nat) (p : Nat), (loadR fs L p).2.2.1.length ≤ 16777216 := by
    intro L
    induction L with
    | nil => intro p; simp [loadR]
    | cons n r ih =>
      intro p
      rw [loadR]
      split
      · unfold wholeM wholeB
        split
        · have h1 := oneM_len (readM fs (nameB n)).1
          have h2 := read_len h (nameB n)
          have h3 := getP_len (oneM (readM fs (nameB n)).1).1
          simp only
          omega
        · simp
      · exact ih _
  exact key _ _
theorem sameSnap_f {i t j u : Int} {d e : List UInt8} (hd : d.length < 2 ^ 40) {k : Nat} (hk : d.length + 1 ≤ k) : synodref_SameSnap.f k i t d j u e = some ((decide (d = e) && decide (i = j)) && decide (t = u)) := by
  unfold synodref_SameSnap.f
  rw [SameBytes_eq (by omega) (by omega), Option.bind_some]
theorem sameSnap_same {i t : Int} {d : List UInt8} (hd : d.length < 2 ^ 40) {k : Nat} (hk : d.length + 1 ≤ k) : synodref_SameSnap.f k i t d i t d = some true := by
  rw [sameSnap_f hd hk]
  simp
theorem sameInts_l0 (x : List Int) (hl : x.length < 2 ^ 40) : ∀ (k i : Nat), x.length - i < k → i ≤ x.length → synodref_SameInts.l0 x x k (i : Int) = some (.inl ())
  | 0, i, h, _ => by omega
  | k + 1, i, h, hi => by
    rw [synodref_SameInts.l0]
    by_cases hlt : i < x.length
    · rw [if_pos (by omega), if_pos (by omega), ws1 (by omega)]
      simp only [sameInts_l0 x hl k (i + 1) (by omega) (by omega)]
      simp
      omega
    · rw [if_neg (by omega)]
theorem sameInts_f (x : List Int) (hl : x.length < 2 ^ 40) {k : Nat} (hk : x.length < k) : synodref_SameInts.f k x x = some true := by
  unfold synodref_SameInts.f
  have := sameInts_l0 x hl k 0 (by omega) (by omega)
  rw [show ((0 : Nat) : Int) = (0 : Int) from rfl] at this
  simp [this, orR]
/-! ### Some Saves -/
abbrev SnT := Int × Int × List UInt8
def savesM (s : DS) (l : List SnT) : DS := l.foldl (fun s e => (saveM s e.1 e.2.1 e.2.2).2) s
theorem saves_cons (s : DS) (e : SnT) (l : List SnT) : savesM s (e :: l) = savesM (saveM s e.1 e.2.1 e.2.2).2 l := rfl
def bulk (l : List SnT) : Nat := (l.map fun e => e.2.2.length).sum
theorem bulk_cons (e : SnT) (l : List SnT) : bulk (e :: l) = e.2.2.length + bulk l := by simp [bulk]
theorem bulk_mu : ∀ l : List SnT, bulk l + l.length ≤ Mu.mu l
  | [] => by simp [bulk, mu_list]
  | e :: l => by
    have ih := bulk_mu l
    obtain ⟨i, t, d⟩ := e
    rw [bulk_cons, mu_cons, mu_pair, mu_pair, mu_int, mu_int, mu_bytes, List.length_cons]
    simp only
    omega
theorem calm_saves : ∀ (l : List SnT) {N Z : Nat} {s : DS}, Calm N Z s → N + l.length ≤ 256 → Z + bulk l + 38 * l.length ≤ 16777216 → Calm (N + l.length) (Z + bulk l + 38 * l.length) (savesM s l)
  | [], N, Z, s, h, _, _ => calm_mono h (by simp) (by simp [bulk])
  | e :: l, N, Z, s, h, h1, h2 => by
    rw [bulk_cons, List.length_cons] at h2
    rw [List.length_cons] at h1
    have hc := calm_save (i := e.1) (t := e.2.1) (d := e.2.2) h (by omega) (by omega)
    have ih := calm_saves l hc (by omega) (by omega)
    rw [saves_cons]
    refine calm_mono ih (by rw [List.length_cons]; omega) (by rw [bulk_cons, List.length_cons]; omega)
end Go.Proofs.YtjkjlggbikeliaaGreatDoor

namespace Go.Proofs.YtjkjlggbikeliaaGreatDoor
set_option linter.unusedVariables false
set_option linter.unusedSimpArgs false
open Go.RowKit
theorem newest_l1 (l : List SnT) (hn : l.length < 2 ^ 40) : ∀ (k i : Nat) (s : DS), l.length - i + 2000000 < k → i ≤ l.length → InvN 256 s.1 → synodlaw6_SnapNewest.l1 l k (i : Int) s.1 s.2.1 s.2.2.1 s.2.2.2 = some (savesM s (l.drop i))
  | 0, i, s, h, _, _ => by omega
  | k + 1, i, s, hk, hi, hs => by
    rw [synodlaw6_SnapNewest.l1]
    by_cases hlt : i < l.length
    · rw [if_pos (by omega), if_pos (by omega), ws1 (by omega), save_f hs _ _ (by omega), Option.bind_some, newest_l1 l hn k (i + 1) _ (by omega) (by omega) (inv_save hs _ _ _), drop_at l dz27 hlt]
      rfl
    · rw [if_neg (by omega), List.drop_of_length_le (by omega)]
      rfl
theorem newest_l0 (x : List SnT) (hx : x.length < 2 ^ 40) : ∀ (k i : Nat) (z : Int), 20 - i < k → i ≤ 20 → ∃ r, synodlaw6_SnapNewest.l0 x k z (i : Int) = some r
  | 0, i, z, h, _ => by omega
  | k + 1, i, z, h, hi => by
    rw [synodlaw6_SnapNewest.l0]
    by_cases hc : i < x.length ∧ i < 20
    · rw [if_pos (by simp; omega), if_pos (by omega), ws1 (by omega)]
      exact newest_l0 x hx k (i + 1) _ (by omega) (by omega)
    · rw [if_neg (by simp; omega)]
      exact ⟨_, rfl⟩
theorem newest_l2 (x : List Int) (hx : x.length < 2 ^ 40) {N Z : Nat} : ∀ (k i : Nat) (s : DS), x.length - i < k → i ≤ x.length → Calm N Z s → ∃ t : DS, synodlaw6_SnapNewest.l2 x k (i : Int) s.1 s.2.1 s.2.2.1 s.2.2.2 = some t ∧ Calm N Z t
  | 0, i, s, h, _, _ => by omega
  | k + 1, i, s, hk, hi, hs => by
    rw [synodlaw6_SnapNewest.l2]
    by_cases hlt : i < x.length
    · rw [if_pos (by omega), if_pos (by omega), ws1 (by omega)]
      obtain ⟨m, hm⟩ : ∃ m, x.getD (i : Int).toNat (0 : Int) = m := ⟨_, rfl⟩
      rw [hm]
      have hnum : ∀ x, synodref_Num.f x = some x := fun _ => rfl
      by_cases hb : m < 1 ∨ 4611686018427387904 < m
      · rw [name_bad hb]
        simp only [Option.bind_some, hnum]
        rw [if_neg (by decide)]
        exact newest_l2 x hx k (i + 1) s (by omega) (by omega) hs
      · obtain ⟨n, rfl⟩ : ∃ n : Nat, m = (n : Int) := ⟨m.toNat, by omega⟩
        rw [name_f (by omega) (by omega)]
        simp only [Option.bind_some, hnum, if_true]
        rw [Cut_eq, Option.bind_some]
        exact newest_l2 x hx k (i + 1) _ (by omega) (by omega) (calm_cut hs n 3)
    · rw [if_neg (by omega)]
      exact ⟨s, rfl, hs⟩
theorem newest_l3 (L : List Nat) (hL : L.Pairwise (· < ·)) (hl : L.length < 2 ^ 40) : ∀ (k i : Nat), L.length - i < k → synodlaw6_SnapNewest.l3 (toI L) k ((i : Int) + 1) = some (.inl ())
  | 0, i, h => by omega
  | k + 1, i, h => by
    have hlen : (toI L).length = L.length := by simp [toI]
    rw [synodlaw6_SnapNewest.l3]
    by_cases hlt : i + 1 < L.length
    · have e1 : (i : Int) + 1 - 1 = (i : Int) := by omega
      rw [if_pos (by omega), if_pos (by omega), e1, w64 (n := (i : Int)) (by omega) (by omega), if_pos (by omega), w64 (by omega) (by omega)]
      have hp := List.pairwise_iff_getElem.1 hL i (i + 1) (by omega) hlt (by omega)
      have g1 : (toI L).getD ((i : Int) + 1).toNat 0 = ((L[i + 1] : Nat) : Int) := by
        rw [show ((i : Int) + 1).toNat = i + 1 by omega, toI_get, getD_at hlt]
      have g2 : (toI L).getD (i : Int).toNat 0 = ((L[i]'(by omega) : Nat) : Int) := by
        rw [Int.toNat_natCast, toI_get, getD_at (by omega)]
      rw [g1, g2, if_neg (by omega)]
      have ih := newest_l3 L hL hl k (i + 1) (by omega)
      rw [show ((i + 1 : Nat) : Int) + 1 = (i : Int) + 1 + 1 by omega] at ih
      exact ih
    · rw [if_neg (by omega)]
theorem toI_drop (L : List Nat) (j : Nat) : toI (L.drop j) = (toI L).drop j := by unfold toI; rw [List.map_drop]
theorem keep_rng (x : Int) : ∃ q : Nat, IntKind.i64.wrap ((Int.tmod (IntKind.i64.wrap ((Int.tmod x 5) + 5)) 5) + 1) = (q : Int) ∧ 1 ≤ q ∧ q ≤ 5 := by
  have h1 := Int.natAbs_tmod x 5
  have h2 : (Int.tmod x 5).natAbs < 5 := by rw [h1]; exact Nat.mod_lt _ (by decide)
  rw [w64 (n := Int.tmod x 5 + 5) (by omega) (by omega)]
  obtain ⟨y, hy⟩ : ∃ y : Nat, Int.tmod x 5 + 5 = (y : Int) := ⟨(Int.tmod x 5 + 5).toNat, by omega⟩
  rw [hy, Int.tmod_eq_emod_of_nonneg (by omega)]
  have h3 : ((y : Int) % 5) = ((y % 5 : Nat) : Int) := by omega
  rw [h3, w64 (by omega) (by omega)]
  exact ⟨y % 5 + 1, by omega, by omega, by omega⟩
theorem pure_SnapNewest {Q : SnT → Prop} {P : Int → Prop} {B C : Nat} (l : List SnT) (h : l.length * B ≤ reachBytes ∧ ∀ e ∈ l, Q e) (x : List Int) (hx : x.length * C ≤ reachBytes ∧ ∀ e ∈ x, P e) (keep : Int) (hk : (Lit.int .i64 keep).wf = true) (hu : Mu.mu l + Mu.mu x ≤ 1048576) :
    ∃ k, synodlaw6_SnapNewest.f k l x keep = some true := by
  have hb := bulk_mu l
  have hxl : x.length ≤ Mu.mu x := mu_len fun _ => Nat.le_refl _
  obtain ⟨k, hk0⟩ : ∃ k, k = 40000000 + 60 := ⟨_, rfl⟩
  have hf : synodlaw6_first.f k = some true := by rw [hk0]; exact first6_eq 40000000
  refine ⟨k, ?_⟩
  have hkl : 40000000 ≤ k := by omega
  clear hk0
  obtain ⟨r, hr⟩ := newest_l0 l (by omega) k 0 0 (by omega) (by omega)
  rw [show ((0 : Nat) : Int) = (0 : Int) from rfl] at hr
  unfold synodlaw6_SnapNewest.f
  rw [hf, Option.bind_some, hr, Option.bind_some]
  by_cases hg : ((((!true) || (decide ((20 : Int) < (l.length : Int)))) || (decide ((20 : Int) < (x.length : Int)))) || (decide ((20000 : Int) < r))) = true
  · rw [if_pos hg]
  · rw [if_neg hg]
    have hl20 : l.length ≤ 20 := by
      simp only [Bool.not_true, Bool.false_or, Bool.or_eq_true, decide_eq_true_eq] at hg
      omega
    have hl1 := newest_l1 l (by omega) k 0 d0 (by omega) (by omega) (inv0 256)
    rw [List.drop_zero] at hl1
    have hc := calm_saves l calm_0 (by omega) (by omega)
    rw [show disk_New.f = some d0 from rfl, Option.bind_some]
    rw [show synodlaw6_SnapNewest.l1 l k 0 d0.1 d0.2.1 d0.2.2.1 d0.2.2.2 = _ from hl1, Option.bind_some]
    obtain ⟨s, hs2, hs⟩ := newest_l2 x (by omega) k 0 _ (by omega) (by omega) hc
    rw [show ((0 : Nat) : Int) = (0 : Int) from rfl] at hs2
    rw [hs2, Option.bind_some, list_f hs.inv (by decide) _ _ _ (by omega), Option.bind_some]
    have hlen := idxN_len hs.inv
    have hasc := idxN_asc hs.inv
    have hl3 := newest_l3 (idxN s.1) hasc (by omega) k 0 (by omega)
    rw [show ((0 : Nat) : Int) + 1 = (1 : Int) from rfl] at hl3
    rw [hl3]
    simp only [orR]
    rw [load_f hs.inv (by decide) _ _ _ (by omega), Option.bind_some]
    have hnum : ∀ x, synodref_Num.f x = some x := fun _ => rfl
    have hlm := loadM_len hs.inv
    have htl : (toI (idxN s.1)).length = (idxN s.1).length := by simp [toI]
    simp only [hnum, Option.bind_some]
    by_cases he : (loadM s.1).2.2.2.2 = 0
    · rw [if_pos he]
      obtain ⟨j, j1, j2, j3⟩ := load_at (idxN s.1).reverse 0 he
      have j1' : (loadM s.1).2.2.2.1 = (j : Int) := by
        have : (loadM s.1).2.2.2.1 = ((0 + j : Nat) : Int) := j1
        rw [this]; omega
      have j3' : (loadM s.1).1 = (((idxN s.1).reverse.getD j 0 : Nat) : Int) := j3
      rw [List.length_reverse] at j2
      have hover : ((decide ((loadM s.1).2.2.2.1 < (0 : Int))) || (decide (((toI (idxN s.1)).length : Int) ≤ (loadM s.1).2.2.2.1))) = false := by
        rw [j1']
        simp only [Bool.or_eq_false_iff, decide_eq_false_iff_not]
        omega
      rw [hover, if_neg Bool.false_ne_true]
      obtain ⟨p, hp⟩ : ∃ p : Nat, (idxN s.1).length = p + 1 + j := ⟨(idxN s.1).length - 1 - j, by omega⟩
      have ew : IntKind.i64.wrap ((IntKind.i64.wrap (((toI (idxN s.1)).length : Int) - 1)) - (loadM s.1).2.2.2.1) = (p : Int) := by
        rw [w64 (n := ((toI (idxN s.1)).length : Int) - 1) (by omega) (by omega), j1', w64 (by omega) (by omega)]
        omega
      have hrev : (idxN s.1).reverse.getD j 0 = (idxN s.1).getD p 0 := by
        rw [getD_at (by simpa using j2), getD_at (by omega), List.getElem_reverse]
        congr 1
        omega
      rw [ew, if_pos (by omega), Int.toNat_natCast, toI_get, j3', hrev]
      simp only [decide_true, Bool.not_true, Option.bind_some, Bool.false_eq_true, if_false]
      obtain ⟨q, hq, q1, q2⟩ := keep_rng keep
      rw [hq]
      have hkf := keep_f hs.inv (n := (q : Int)) (by omega) (k := k) (by omega)
      rw [hkf, Option.bind_some]
      obtain ⟨k1, k2, k3, k4, k5⟩ := calm_keep hs (n := (q : Int)) (by omega)
      have kl := keep_load hs (n := (q : Int)) (by omega) he
      rw [Int.toNat_natCast] at k1 k5
      have hlen2 := idxN_len k3.inv
      rw [list_f k3.inv (by decide) _ _ _ (by omega), Option.bind_some]
      have emx : max (IntKind.i64.wrap (((toI (idxN s.1)).length : Int) - (q : Int))) (0 : Int) = (((idxN s.1).length - q : Nat) : Int) := by
        rw [w64 (by omega) (by omega)]
        omega
      have ecut : cut (toI (idxN s.1)) (((idxN s.1).length - q : Nat) : Int) ((toI (idxN s.1)).length : Int) = toI ((idxN s.1).drop ((idxN s.1).length - q)) := by
        rw [toI_drop]
        unfold cut
        rw [Int.toNat_natCast, Int.toNat_natCast, List.take_length]
      rw [emx, if_pos (by omega), ecut, k5]
      have hln3 : (toI ((idxN s.1).drop ((idxN s.1).length - q))).length ≤ 256 := by simp [toI]; omega
      rw [sameInts_f _ (by omega) (by omega), Option.bind_some]
      have hlm2 := loadM_len k3.inv
      rw [load_f k3.inv (by decide) _ _ _ (by omega), Option.bind_some, k1, k2]
      have hstays : ((if (q : Int) ≤ (loadM s.1).2.2.2.1 then (some true) else ((synodref_SameSnap.f k (loadM s.1).1 (loadM s.1).2.1 (loadM s.1).2.2.1 (loadM (keepM s (q : Int)).2.2.1).1 (loadM (keepM s (q : Int)).2.2.1).2.1 (loadM (keepM s (q : Int)).2.2.1).2.2.1).bind fun s198v => ((if (s198v && (decide ((loadM (keepM s (q : Int)).2.2.1).2.2.2.1 = (loadM s.1).2.2.2.1))) = true then (some (decide ((loadM (keepM s (q : Int)).2.2.1).2.2.2.2 = (0 : Int)))) else (some false)).bind fun s201v => (some s201v)))) : Option Bool) = some true := by
        split
        · rfl
        · rw [kl (by omega), sameSnap_same (by omega) (by omega), Option.bind_some]
          simp [he]
      rw [j3', hrev] at hstays
      rw [hstays]
      simp
    · rw [if_neg he]
      have hno : (loadM s.1).2.2.2 = (0, 8) := (load_no (idxN s.1).reverse 0).resolve_left he
      rw [hno]
      rfl
end Go.Proofs.YtjkjlggbikeliaaGreatDoor

namespace Go.Proofs.YtjkjlggbikeliaaGreatDoor
set_option linter.unusedVariables false
set_option linter.unusedSimpArgs false
open Go.RowKit Go.ChangeShapes Go.WideShapes Go.ChangeAt
def VRead (P : Program) (w : World) (n : String) (d : DataW Unit) : Prop :=
  ∃ g t cs fuel p, P.globalNamed n = some g ∧ (P.globals[g]?).map (·.type) = some t ∧ w.var? P n = some cs ∧ DataW.trod (fun _ => ()) P w 0 (fun _ => true) false fuel t cs.toList = some (d, p)
theorem vread_of {P : Program} {w : World} : ∀ {l : List (String × DataW Unit)} {ps : List MemPlace}, DataW.LaidVars P w l ps → ∀ n d, (n, d) ∈ l → VRead P w n d
  | [], _, _, _, _, hm => by cases hm
  | (n', d') :: r, ps, h, n, d, hm => by
    obtain ⟨g, t, cs, fuel, p, q, h1, h2, h3, h4, h5, _⟩ := h
    rcases List.mem_cons.1 hm with e | e
    · cases e
      exact ⟨g, t, cs, fuel, p, h1, h2, h3, h4⟩
    · exact vread_of h5 n d e
theorem laid_vread {P : Program} {w : World} {l : List (String × DataW Unit)} (h : laidMet P l w) {n : String} {d : DataW Unit} (hm : (n, d) ∈ l) : VRead P w n d :=
  let ⟨_, hv, _⟩ := h
  vread_of hv n d hm
theorem tab_of {P : Program} {W : World} {name : String} {k : IntKind} {zs : List Int} {g : Nat} {t e : TypeId} {n : Nat} (hg : P.globalNamed name = some g) (hty : (P.globals[g]?).map (·.type) = some t)
    (ht : P.underlying t = some (.array n e)) (he : P.underlying e = some (.int k)) (hce : P.cellsOf e = 1) (hct : P.cellsOf t = n) (h : VRead P W name (Lib.tabData k zs)) : Lib.TabIs P W name k zs := by
  obtain ⟨g', t', cs, fuel, p, hg', ht', hvar, hd⟩ := h
  obtain rfl := Option.some.inj (hg.symm.trans hg')
  obtain rfl := Option.some.inj (hty.symm.trans ht')
  unfold Lib.TabIs
  rw [hvar, ← Lib.cells_of_tab ht he hce hct hd]
theorem iface_of {P : Program} {W : World} {name nm : String} {d : DataW Unit} {g : Nat} {t : TypeId} {ms : _} (hg : P.globalNamed name = some g) (hty : (P.globals[g]?).map (·.type) = some t)
    (ht : P.underlying t = some (.interface ms)) (h : VRead P W name (.iface nm d)) : ∃ u p, W.var? P name = some #[.iface u p] := by
  obtain ⟨g', t', cs, fuel, p, hg', ht', hvar, hd⟩ := h
  obtain rfl := Option.some.inj (hg.symm.trans hg')
  obtain rfl := Option.some.inj (hty.symm.trans ht')
  cases fuel with
  | zero => simp [DataW.trod] at hd
  | succ m =>
    unfold DataW.trod at hd
    rw [ht] at hd
    split at hd <;> simp_all
    rename_i e
    exact ⟨_, _, Array.toList_inj.1 (e.trans rfl)⟩
theorem var_mono {P : Program} {W w : World} {n : String} {cs : Array Value} (h : HoldsW (heapF W) w) (hv : W.var? P n = some cs) : w.var? P n = some cs := by
  obtain ⟨a, ha, e⟩ := h
  unfold World.var? at hv ⊢
  cases hg : P.globalNamed n with
  | none => rw [hg] at hv; cases hv
  | some g =>
    rw [hg] at hv
    simp only [Option.bind_some] at hv ⊢
    cases ho : W.heap[g]? with
    | none => rw [ho] at hv; cases hv
    | some o =>
      have hlt : g < W.heap.size := (Array.getElem?_eq_some_iff.1 ho).1
      have h1 : w.heap[g]? = some o := e g o ((ha g hlt).trans ho)
      rw [ho] at hv
      rw [h1]
      exact hv
theorem glb_of {P : Program} {W : World} (h1 : Lib.TabIs P W "internal/strconv.uint64pow10" .u64 Lib.pow10Tab) (h2 : ∃ u p, W.var? P "strconv.ErrSyntax" = some #[.iface u p]) (h3 : ∃ u p, W.var? P "strconv.ErrRange" = some #[.iface u p]) :
    Glb P (heapF W) :=
  ⟨fun w h => var_mono h h1, fun w h => let ⟨u, p, e⟩ := h2; ⟨u, p, var_mono h e⟩, fun w h => let ⟨u, p, e⟩ := h3; ⟨u, p, var_mono h e⟩⟩
theorem witness_laid {H : Type} {enc : TypeId × Value → H} {C : Checked} {os : Os} {f : FuncId} {fn : Func} {s : OpenSpec} {conds : List PathCond} {apart : Bool} {laid : List (String × DataW Unit)} (w0 : World) (args : Array Value) (hos : w0.os = os)
    (hsh : (w0.forCall (fun _ _ => 0) ⟨#[], args, []⟩).Shaped C.prog)
    (hok : Input.okWideB C.prog (w0.forCall (fun _ _ => 0) ⟨#[], args, []⟩) f ⟨#[], args, []⟩ = true)
    (hrow : s.preRow enc C.prog fn conds apart laid (w0.forCall (fun _ _ => 0) ⟨#[], args, []⟩).memory args) :
    ∃ (w : World) (tape : Tape) (i : Input), w.os = os ∧ (w.forCall tape i).Shaped C.prog ∧ i.vars = [] ∧ Input.okWide C.prog (w.forCall tape i) .any w.heap.size f i ∧
      s.preRow enc C.prog fn conds apart laid (w.forCall tape i).memory i.args ∧ ({} : Assume).holds C.prog (lone (Frame.enter C.prog f i.args .normal) [] (w.forCall tape i)) :=
  ⟨w0, fun _ _ => 0, ⟨#[], args, []⟩, hos, hsh, (Input.okWide_of_okWideB (base := 0) hok).1, (Input.okWide_of_okWideB hok).2, hrow, by
    simp only [Assume.holds]
    exact ⟨by simp, by simp, fun _ => Modest.zero, by simp, by simp⟩⟩
end Go.Proofs.YtjkjlggbikeliaaGreatDoor

namespace Go.Proofs.YtjkjlggbikeliaaGreatDoor.snapNewest
open Go.RowKit Go.ChangeShapes Go.WideShapes Go.ChangeAt
open Go.ChangeMaps (open_string shut_string)
set_option linter.unusedVariables false
theorem own : ownKnob Tryz.prog.godebug = none := by kernel_rfl
theorem laidOut : laidOutB Tryz.prog = true := by kernel_rfl
theorem glb {W : World} (hL : laidMetH Tryz.prog Rows.snapNewestUptoRow.laid W) : Glb Tryz.prog (heapF W) := by
  rw [MakeChecks.laidMetH_plain _ _ _ (by kernel_rfl)] at hL
  exact glb_of (tab_of (g := 2) (t := 228) (e := 111) (by kernel_rfl) (by kernel_rfl) Tryz.underlying228 Tryz.underlying111 (by kernel_rfl) (by kernel_rfl) (laid_vread hL (n := "internal/strconv.uint64pow10") (d := Rows.laid_internal_strconv_uint64pow10) (.tail _ (.tail _ (.head _))))) (iface_of (g := 0) (t := 113) (by kernel_rfl) (by kernel_rfl) Tryz.underlying113 (laid_vread hL (n := "strconv.ErrSyntax") (d := Rows.laid_strconv_ErrSyntax) (.tail _ (.tail _ (.tail _ (.tail _ (.tail _ (.head _)))))))) (iface_of (g := 1) (t := 113) (by kernel_rfl) (by kernel_rfl) Tryz.underlying113 (laid_vread hL (n := "strconv.ErrRange") (d := Rows.laid_strconv_ErrRange) (.tail _ (.tail _ (.tail _ (.tail _ (.head _)))))))
theorem laid_met (os : Os) (args : Array Value) : laidMetH Tryz.prog Rows.snapNewestUptoRow.laid ((World.laidAll Tryz.prog os Rows.snapNewestUptoRow.laid).forCall (fun _ _ => 0) ⟨#[], args, []⟩).memory := by
  rw [MakeChecks.laidMetH_plain _ _ _ (by kernel_rfl)]
  exact laidMet_laidAll args (by kernel_rfl) (by kernel_rfl)
theorem opensT27 {H : Type} (W : World) (held : Bool) (enc : TypeId × Value → H) : OpensU enc Tryz.prog W held 27 (V27 (heapF W)) Ok27 :=
  (opensU_struct Tryz.underlying27 (by kernel_rfl) (by kernel_rfl) (by kernel_rfl) (opensLU_cons (opensU_int Tryz.underlying3 (by kernel_rfl)) (opensLU_cons (opensU_int Tryz.underlying3 (by kernel_rfl)) (opensLU_one (opensU_bytes Tryz.underlying25 Tryz.underlying5 (by kernel_rfl) (by kernel_rfl) (by kernel_rfl)))))).mono (fun x r h => by obtain ⟨_, _, rfl, rfl, ⟨_, _, rfl, rfl, ⟨a2, c2, rfl, h2, k2, m2⟩⟩⟩ := h; exact ⟨a2, c2, rfl, ⟨h2, k2, m2⟩⟩) (fun x h => h)
theorem opensT3 {H : Type} (W : World) (held : Bool) (enc : TypeId × Value → H) : OpensU enc Tryz.prog W held 3 (V3 tt) Ok3 :=
  (opensU_int Tryz.underlying3 (by kernel_rfl)).mono (fun x r h => by obtain rfl := h; exact rfl) (fun x h => h)
set_option maxRecDepth 100000 in
theorem lifted (os : Os) (started : os.Started) (H : Type) (enc : TypeId × Value → H) (F : Stop.Interp) :
    ReturnsInHanded {} Tryz.checked os 3 .any ((Rows.OpenSpec.upto Rows.snapNewestSpec).preRow enc Tryz.prog Tryz.f3 Rows.snapNewestUptoRow.domain false Rows.snapNewestUptoRow.laid) (((Rows.OpenSpec.upto Rows.snapNewestSpec).at F).post enc Tryz.prog Tryz.f3 false true false false) := by
  refine returnsInHanded_of_row (C := Tryz.checked) (s := (Rows.OpenSpec.upto Rows.snapNewestSpec)) own started (by kernel_rfl) Tryz.func3
    (witness_laid (enc := enc) (C := Tryz.checked) (World.laidAll Tryz.prog os Rows.snapNewestUptoRow.laid) #[.slice none 0 0, .slice none 0 0, .int .i64 0] (World.laidAll_os _ _ _) (World.shaped_of_ZipB (by kernel_rfl) (by kernel_rfl)) (by kernel_rfl)
      (OpenSpec.preRow_of_cond 8 (x := ([.nil, .nil, .lit (.int .i64 0)], [], [])) (by kernel_rfl) (by kernel_rfl) (fun k hk => by cases hk; kernel_rfl) (by kernel_rfl) (laid_met os _))) ?_
  intro W base args ds gs before hval0 hW hcnd hk00 hsz0 hL _ _
  have hgl := glb hL
  have hk0 := hk00 _ rfl
  have hsz : (DataW.weightsEach Tryz.prog (Tryz.f3.params.toList ++ (Rows.OpenSpec.upto Rows.snapNewestSpec).bare.plain.varTypes Tryz.prog) (ds ++ gs)).all (· ≤ reachBytes) = true := hsz0
  have hval : ∀ (j : Nat) t v, Tryz.f3.params[j]? = some t → args[j]? = some v → Value.okWide Tryz.prog W .any base t v := hval0
  have hW' := hW
  obtain ⟨p, q, hA0, hV, rfl, hfz, hnd⟩ := hW
  have hA : DataW.TrodAll enc Tryz.prog W 0 (fun _ => true) true Tryz.f3.params.toList args.toList ds p := hA0
  rw [Tryz.params3] at hA hval hsz
  obtain ⟨v0, vs0, d0, ds0, p0, q0, hargs, rfl, rfl, h0, r0⟩ := trodAll_cons hA
  obtain ⟨v1, vs1, d1, ds1, p1, q1, rfl, rfl, rfl, h1, r1⟩ := trodAll_cons r0
  obtain ⟨v2, vs2, d2, ds2, p2, q2, rfl, rfl, rfl, h2, r2⟩ := trodAll_cons r1
  obtain ⟨rfl, rfl, rfl⟩ := trodAll_nil r2
  obtain rfl : args = #[v0, v1, v2] := by cases args; simp_all
  obtain ⟨rfl, rfl⟩ := trodVars_none hV
  obtain ⟨aa0, len0, cap0, rfl⟩ := okWide_slice Tryz.underlying22 (hval 0 22 v0 rfl rfl)
  have k0 := h0
  have lt0 : ∀ x ∈ p0, x.block < W.heap.size := by obtain ⟨m, hm⟩ := k0; exact DataW.trod_lt m _ _ _ hm
  obtain ⟨fuel0, hf0⟩ := h0
  obtain ⟨z0_0, ⟨a0_0, c0_0, hcs0, h0_0, k0_0, m0_0⟩, _, _, ok0, mu0⟩ := (opensU_list (n := 3) (B := 40) Tryz.underlying22 (by kernel_rfl) (by kernel_rfl) (by kernel_rfl) (opensT27 W true enc)) _ _ _ hf0 (weights_of hsz (j := 0) (t := 22) rfl rfl)
  replace mu0 : _ ≤ Rows.uptoBulk d0 := mu0
  have e0 : Value.slice aa0 len0 cap0 = .slice a0_0 z0_0.length c0_0 := by simpa [Value.cells] using hcs0
  injection e0 with ea0 eb0 ec0
  subst ea0 eb0 ec0
  obtain ⟨aa1, len1, cap1, rfl⟩ := okWide_slice Tryz.underlying23 (hval 1 23 v1 rfl rfl)
  have k1 := h1
  have lt1 : ∀ x ∈ p1, x.block < W.heap.size := by obtain ⟨m, hm⟩ := k1; exact DataW.trod_lt m _ _ _ hm
  obtain ⟨fuel1, hf1⟩ := h1
  obtain ⟨z1_0, ⟨a1_0, c1_0, hcs1, h1_0, k1_0, m1_0⟩, _, _, ok1, mu1⟩ := (opensU_list (n := 1) (B := 8) Tryz.underlying23 (by kernel_rfl) (by kernel_rfl) (by kernel_rfl) (opensT3 W true enc)) _ _ _ hf1 (weights_of hsz (j := 1) (t := 23) rfl rfl)
  replace mu1 : _ ≤ Rows.uptoBulk d1 := mu1
  have e1 : Value.slice aa1 len1 cap1 = .slice a1_0 z1_0.length c1_0 := by simpa [Value.cells] using hcs1
  injection e1 with ea1 eb1 ec1
  subst ea1 eb1 ec1
  obtain ⟨a2, rfl, rfl, rfl, w2⟩ := open_int Tryz.underlying3 (hval 2 3 v2 rfl rfl) h2
  have hu0 : Rows.uptoBulkAll [_, _, _] ≤ 1048576 := of_decide_eq_true hk0
  simp only [Rows.uptoBulkAll] at hu0
  have hu : Mu.mu z0_0 + Mu.mu z1_0 ≤ 1048576 := by omega
  clear hA0 hval0 hsz0 hsz
  obtain ⟨k, hk⟩ := pure_SnapNewest z0_0 ok0 z1_0 ok1 a2 w2 hu
  refine (row_of_fn (synodlaw6_SnapNewest.calls W (heapF W) k _ _ z0_0 _ _ z1_0 a2 h0_0 k0_0 m0_0 h1_0 k1_0 m1_0 hgl) hk (fun _ => rfl)).mono fun e W' ⟨he, bel⟩ => ?_
  subst he
  exact ⟨_, rfl, _, _, _, [], _, [], hW', trodAll_mk1 (shut_bool Tryz.underlying4 _), (trodAll_cons_mk (Below.trod laidOut (by kernel_rfl) (of_decide_eq_true (by kernel_rfl)) k0 bel lt0) (trodAll_cons_mk (Below.trod laidOut (by kernel_rfl) (of_decide_eq_true (by kernel_rfl)) k1 bel lt1) (trodAll_cons_mk (shut_int Tryz.underlying3 w2) trodAll_mk0))), rfl, bel.frame _, fun h => by cases h⟩
theorem said : Rows.SnapNewestUptoSaid :=
  OpenClaim.holds_of_cond 3 Tryz.f3 rfl rfl rfl rfl rfl rfl rfl ⟨rfl, rfl, rfl, rfl, rfl⟩ rfl rfl rfl rfl rfl (by kernel_rfl) Tryz.func3 (by kernel_rfl)
    (of_decide_eq_true (by kernel_rfl)) (by unfold Func.isWrapper; first | (rw [if_pos (by decide +kernel)]; kernel_rfl) | (rw [if_neg (by decide +kernel)]; exact ⟨rfl, rfl⟩))
    (fun os started H enc _ F => by rw [OpenClaim.pre_eq_preRow]; exact lifted os started H enc F)
theorem plain (f : FuncId) (fn : Func) (hf : Tryz.pinned.checked.prog.funcNamed "synod/synodlaw6.SnapNewest" = some f) (hfn : Tryz.pinned.checked.prog.funcs[f]? = some fn) :
    true = Tryz.pinned.checked.prog.looks [] ∧ ∀ (j : Nat) t, fn.params[j]? = some t → Tryz.pinned.checked.prog.wantsStandIn t = false := by
  obtain rfl : f = 3 := Option.some.inj ((show Tryz.prog.funcNamed "synod/synodlaw6.SnapNewest" = some 3 by kernel_rfl).symm.trans hf) |>.symm
  obtain rfl : fn = Tryz.f3 := (Option.some.inj (Tryz.func3.symm.trans hfn)).symm
  refine ⟨by kernel_rfl, fun j t ht => ?_⟩
  rw [Tryz.params3] at ht
  have hm : t ∈ [22, 23, 3] := by simpa using Array.mem_of_getElem? ht
  have hall : ([22, 23, 3].all fun u => !Tryz.prog.wantsStandIn u) = true := by kernel_rfl
  exact (show Tryz.prog.wantsStandIn t = false by simpa using List.all_eq_true.1 hall t hm)
theorem card : Rows.SnapNewestUptoCardSaid :=
  Claim7.holds_tied_plain_at .later [] _ _ _ _ said (fun _ h => by cases h) (by kernel_rfl) (fun _ h => by cases h) snapNewestUpto_row_tie rfl ⟨rfl, rfl⟩ (by kernel_rfl) rfl plain (by kernel_rfl)
end Go.Proofs.YtjkjlggbikeliaaGreatDoor.snapNewest
namespace Go.Proofs.YtjkjlggbikeliaaGreatDoor
/-- The card, under a short name, for the claim. -/
theorem snapNewest_holds : Rows.SnapNewestUptoCardSaid := snapNewest.card
end Go.Proofs.YtjkjlggbikeliaaGreatDoor
