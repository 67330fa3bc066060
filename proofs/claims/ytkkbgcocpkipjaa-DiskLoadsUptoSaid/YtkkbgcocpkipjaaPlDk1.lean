/- Disk: what operations keep; any operations, one behind the other; the files as a list. Conditions: as each says. -/
import Derived.Test.YtkkbgcocpkipjaaPlDk0
namespace Go.Proofs.Ytkkbgcocpkipjaa
set_option linter.unusedVariables false
set_option linter.unusedSimpArgs false
open Go.RowKit
theorem getF_cons (p : List UInt8 × (List UInt8 × Int)) (fs : FSt) (x : List UInt8) : getF (p :: fs) x = if p.1 = x then p.2 else getF fs x := by
  unfold getF; rw [mget]; split <;> rfl
theorem szF_cons (p : List UInt8 × (List UInt8 × Int)) (fs : FSt) : szF (p :: fs) = p.2.1.length + szF fs := by simp [szF]
theorem szF_mput (x : List UInt8) (v : List UInt8 × Int) : ∀ fs : FSt, szF (mput fs x v) + (getF fs x).1.length = szF fs + v.1.length
  | [] => by simp [mput, szF, getF, mget]
  | p :: fs => by
    have ih := szF_mput x v fs
    rw [getF_cons, mput]
    by_cases h : p.1 = x
    · rw [if_pos h, if_pos h, szF_cons, szF_cons]; simp only; omega
    · rw [if_neg h, if_neg h, szF_cons, szF_cons]; omega
theorem szF_mdel (x : List UInt8) : ∀ fs : FSt, szF (mdel fs x) + (getF fs x).1.length = szF fs
  | [] => by simp [mdel, szF, getF, mget]
  | p :: fs => by
    have ih := szF_mdel x fs
    rw [getF_cons, mdel]
    by_cases h : p.1 = x
    · rw [if_pos h, if_pos h, szF_cons]; omega
    · rw [if_neg h, if_neg h, szF_cons, szF_cons]; omega
theorem inv_mput {n : Nat} {fs : FSt} (h : InvN n fs) {x : List UInt8} {v : List UInt8 × Int} (hx : x.length ≤ 32) (hv : 0 ≤ v.2 ∧ v.2 ≤ (v.1.length : Int)) (hs : szF (mput fs x v) ≤ 16777216) (hl : (mput fs x v).length ≤ n) : InvN n (mput fs x v) := by
  refine ⟨mput_nodup h.nd, fun p hp => ?_, fun p hp => ?_, hs, hl⟩
  · rcases mem_mput _ _ _ _ hp with rfl | hp
    · exact hv
    · exact h.sy p hp
  · rcases mem_mput _ _ _ _ hp with rfl | hp
    · exact hx
    · exact h.nm p hp
theorem inv_mdel {n : Nat} {fs : FSt} (h : InvN n fs) (x : List UInt8) : InvN n (mdel fs x) := by
  have hsub := mdel_sub fs x
  refine ⟨(hsub.map _).nodup h.nd, fun p hp => h.sy p (hsub.subset hp), fun p hp => h.nm p (hsub.subset hp), ?_, Nat.le_trans hsub.length_le h.ln⟩
  have := szF_mdel x fs
  have := h.sz
  omega
theorem szF_crash (l : List UInt8) (keep : Int) : ∀ fs : FSt, szF (crashM fs l keep) ≤ szF fs
  | [] => Nat.le_refl _
  | p :: fs => by
    have ih := szF_crash l keep fs
    rw [crashM, List.map_cons, szF_cons, szF_cons]
    have e : (crF l keep p.1 p.2).1.length ≤ p.2.1.length := by simp only [crF, List.length_take]; omega
    have : szF (fs.map fun p => (p.1, crF l keep p.1 p.2)) ≤ szF fs := ih
    simp only
    omega
theorem crash_keys (fs : FSt) (l : List UInt8) (keep : Int) : (crashM fs l keep).map (·.1) = fs.map (·.1) := by
  rw [crashM, List.map_map]; rfl
theorem inv_crash {n : Nat} {fs : FSt} (h : InvN n fs) (l : List UInt8) (keep : Int) : InvN n (crashM fs l keep) := by
  refine ⟨by rw [crash_keys]; exact h.nd, fun p hp => ?_, fun p hp => ?_, Nat.le_trans (szF_crash l keep fs) h.sz, by rw [crashM, List.length_map]; exact h.ln⟩
  · obtain ⟨q, hq, rfl⟩ := List.mem_map.1 hp
    have := crN_bd (l := l) (keep := keep) (x := q.1) (h.sy q hq)
    simp only [crF, List.length_take]
    omega
  · obtain ⟨q, hq, rfl⟩ := List.mem_map.1 hp
    exact h.nm q hq
theorem getF_name {n : Nat} {fs : FSt} (h : InvN n fs) {x : List UInt8} (hm : (mget fs x).isSome = true) : x.length ≤ 32 := h.nm _ (getF_mem hm)
theorem getF_sy {n : Nat} {fs : FSt} (h : InvN n fs) {x : List UInt8} (hm : (mget fs x).isSome = true) : 0 ≤ (getF fs x).2 ∧ (getF fs x).2 ≤ ((getF fs x).1.length : Int) := h.sy _ (getF_mem hm)
theorem getF_none {fs : FSt} {x : List UInt8} (h : (mget fs x).isSome = false) : getF fs x = ([], 0) := by
  unfold getF; cases hm : mget fs x with
  | none => rfl
  | some v => rw [hm] at h; cases h
theorem len_mput_in {fs : FSt} {x : List UInt8} {v : List UInt8 × Int} (hm : (mget fs x).isSome = true) : (mput fs x v).length = fs.length := by rw [mput_len_in, if_pos hm]
theorem inv_create {fs : FSt} (h : InvN 256 fs) (l : List UInt8) (a : Int) (d : Bool) (x : List UInt8) : InvN 256 (createM fs l a d x).2.1 := by
  unfold createM
  repeat' split
  all_goals try exact h
  rename_i h1 h2 h3 h4 h5
  have hs := szF_mput x ([], 0) fs
  have hsz := h.sz
  refine inv_mput h (nmB_len (by simpa using h2)) (by simp) ?_ ?_
  · simp only [List.length_nil] at hs; omega
  · have := mput_len_in fs x (([] : List UInt8), (0 : Int))
    rw [if_neg h3] at this
    rw [this]; omega
theorem inv_append {n : Nat} {fs : FSt} (h : InvN n fs) (l : List UInt8) (a : Int) (d : Bool) (x b : List UInt8) : InvN n (appendM fs l a d x b).2.1 := by
  unfold appendM
  have hsz := h.sz
  repeat' split
  all_goals try exact h
  · rename_i hm hd hs hf
    have hb := getF_sy h hm
    have h1 := szF_mput x ((getF fs x).1 ++ b.take (b.length / 2), (getF fs x).2) fs
    simp only [List.length_append, List.length_take] at h1
    refine inv_mput h (getF_name h hm) ⟨hb.1, ?_⟩ (by omega) (by rw [len_mput_in hm]; exact h.ln)
    simp only [List.length_append, List.length_take]; omega
  · rename_i hm hd hs hf
    have hb := getF_sy h hm
    have h1 := szF_mput x ((getF fs x).1 ++ b, (getF fs x).2) fs
    simp only [List.length_append] at h1
    refine inv_mput h (getF_name h hm) ⟨hb.1, ?_⟩ (by omega) (by rw [len_mput_in hm]; exact h.ln)
    simp only [List.length_append]; omega
theorem inv_sync {n : Nat} {fs : FSt} (h : InvN n fs) (l : List UInt8) (a : Int) (d : Bool) (x : List UInt8) : InvN n (syncM fs l a d x).2.1 := by
  unfold syncM
  have hsz := h.sz
  repeat' split
  all_goals try exact h
  rename_i hm hd hf
  have h1 := szF_mput x ((getF fs x).1, ((getF fs x).1.length : Int)) fs
  simp only at h1
  exact inv_mput h (getF_name h hm) ⟨by simp, by simp⟩ (by omega) (by rw [len_mput_in hm]; exact h.ln)
theorem inv_cut {n : Nat} {fs : FSt} (h : InvN n fs) (l : List UInt8) (a : Int) (d : Bool) (x : List UInt8) (m : Int) : InvN n (cutM fs l a d x m).2.1 := by
  unfold cutM
  have hsz := h.sz
  repeat' split
  all_goals try exact h
  rename_i hm hd hr hf
  have hb := getF_sy h hm
  have h1 := szF_mput x ((getF fs x).1.take m.toNat, min (getF fs x).2 m) fs
  simp only [List.length_take] at h1
  refine inv_mput h (getF_name h hm) ⟨?_, ?_⟩ (by omega) (by rw [len_mput_in hm]; exact h.ln)
  · simp only; omega
  · simp only [List.length_take]; omega
theorem inv_rename {n : Nat} {fs : FSt} (h : InvN n fs) (l : List UInt8) (a : Int) (d : Bool) (x y : List UInt8) : InvN n (renameM fs l a d x y).2.1 := by
  unfold renameM
  have hsz := h.sz
  repeat' split
  all_goals try exact h
  rename_i hm hd hy hf he
  have h1 := szF_mput y (getF fs x) (mdel fs x)
  have h2 := szF_mdel x fs
  have h3 := mdel_len fs x hm
  have h4 := mput_length (l := mdel fs x) (x := y) (y := getF fs x)
  have h5 := h.ln
  exact inv_mput (inv_mdel h x) (nmB_len (by simpa using hy)) (getF_sy h hm) (by omega) (by omega)
theorem inv_remove {n : Nat} {fs : FSt} (h : InvN n fs) (l : List UInt8) (a : Int) (d : Bool) (x : List UInt8) : InvN n (removeM fs l a d x).2.1 := by
  unfold removeM
  repeat' split
  all_goals first | exact h | exact inv_mdel h x
/-! ### An operation -/
abbrev OpD := Int × Int × List UInt8 × List UInt8 × List UInt8
def toldM (s : DS) (e : OpD) : Int × DS :=
  if e.1 = 0 then createM s.1 s.2.1 s.2.2.1 s.2.2.2 e.2.2.1 else if e.1 = 1 then appendM s.1 s.2.1 s.2.2.1 s.2.2.2 e.2.2.1 e.2.2.2.2 else if e.1 = 2 then syncM s.1 s.2.1 s.2.2.1 s.2.2.2 e.2.2.1
  else if e.1 = 3 then cutM s.1 s.2.1 s.2.2.1 s.2.2.2 e.2.2.1 e.2.1 else if e.1 = 4 then renameM s.1 s.2.1 s.2.2.1 s.2.2.2 e.2.2.1 e.2.2.2.1 else if e.1 = 5 then removeM s.1 s.2.1 s.2.2.1 s.2.2.2 e.2.2.1
  else if e.1 = 6 then (0, s.1, s.2.1, max e.2.1 0, s.2.2.2) else if e.1 = 7 then (0, crashM s.1 s.2.1 e.2.1, [], 0, false) else (0, s)
def smallD (e : OpD) : Prop := e.2.2.1.length < 2 ^ 40 ∧ e.2.2.2.1.length < 2 ^ 40 ∧ e.2.2.2.2.length < 2 ^ 40
theorem inv_told {s : DS} (h : InvN 256 s.1) (e : OpD) : InvN 256 (toldM s e).2.1 := by
  unfold toldM
  repeat' split
  all_goals first | exact inv_create h _ _ _ _ | exact inv_append h _ _ _ _ _ | exact inv_sync h _ _ _ _ | exact inv_cut h _ _ _ _ _ | exact inv_rename h _ _ _ _ _ | exact inv_remove h _ _ _ _ | exact inv_crash h _ _ | exact h
theorem told_eq {s : DS} (h : InvN 256 s.1) {e : OpD} (he : smallD e) {k : Nat} (hk : e.2.2.1.length + 1 ≤ k ∧ e.2.2.2.1.length + 1 ≤ k) : synodlaw4_told.f k s.1 s.2.1 s.2.2.1 s.2.2.2 e.1 e.2.1 e.2.2.1 e.2.2.2.1 e.2.2.2.2 = some (toldM s e) := by
  obtain ⟨h1, h2, h3⟩ := he
  unfold synodlaw4_told.f toldM synodref_Num.f
  rw [Create_eq _ _ _ _ _ (by omega) hk.1, Append_eq h _ _ _ _ _ h3, Sync_eq, Cut_eq, Rename_eq _ _ _ _ _ _ (by omega) hk.2, Remove_eq, Crash_eq h]
  unfold disk_Disk_Arm.f
  simp only [Option.bind_some]
  by_cases c0 : e.1 = 0
  · simp only [c0, if_true]; rfl
  by_cases c1 : e.1 = 1
  · simp only [c1, if_true]; rfl
  by_cases c2 : e.1 = 2
  · simp only [c2, if_true]; rfl
  by_cases c3 : e.1 = 3
  · simp only [c3, if_true]; rfl
  by_cases c4 : e.1 = 4
  · simp only [c4, if_true]; rfl
  by_cases c5 : e.1 = 5
  · simp only [c5, if_true]; rfl
  by_cases c6 : e.1 = 6
  · simp only [c6, if_true]; rfl
  by_cases c7 : e.1 = 7
  · simp only [c7, if_true]; rfl
  simp only [c0, c1, c2, c3, c4, c5, c6, c7, if_false]; rfl
def tM (s : DS) (e : OpD) : DS := (toldM s e).2
def d0 : DS := ([], [], 0, false)
theorem inv_fold : ∀ (l : List OpD) {s : DS}, InvN 256 s.1 → InvN 256 (l.foldl tM s).1
  | [], s, h => h
  | e :: l, s, h => inv_fold l (inv_told h e)
def smallL (M : Nat) (l : List OpD) : Prop := ∀ e ∈ l, smallD e ∧ e.2.2.1.length + 1 ≤ M ∧ e.2.2.2.1.length + 1 ≤ M
theorem getD_mem {α : Type} {l : List α} {d : α} {i : Nat} (h : i < l.length) : l.getD i d ∈ l := by rw [getD_at' _ _ _ h]; exact List.getElem_mem h
theorem made_loop (l : List OpD) {M : Nat} (hl : smallL M l) (hn : l.length < 2 ^ 60) : ∀ (d i k : Nat) (s : DS), i + d = l.length → d + M + 1 ≤ k → InvN 256 s.1 → synodlaw4_made.l0 l k (i : Int) s.1 s.2.1 s.2.2.1 s.2.2.2 = some ((l.drop i).foldl tM s)
  | d, i, 0, s, _, hk, _ => by omega
  | 0, i, k + 1, s, h, _, _ => by
    simp only [synodlaw4_made.l0]
    rw [if_neg (by omega), List.drop_of_length_le (by omega)]; rfl
  | d + 1, i, k + 1, s, h, hk, hs => by
    have hi : i < l.length := by omega
    simp only [synodlaw4_made.l0]
    rw [if_pos (by omega), if_pos (by omega), wi1 (by omega), Int.toNat_natCast, drop_at l dz52 hi]
    have hm := hl _ (getD_mem (d := dz52) hi)
    rw [told_eq hs hm.1 ⟨by omega, by omega⟩, Option.bind_some, List.foldl_cons]
    exact made_loop l hl hn d (i + 1) k _ (by omega) (by omega) (inv_told hs _)
theorem made_eq (l : List OpD) {M : Nat} (hl : smallL M l) (hn : l.length < 2 ^ 60) {k : Nat} (hk : l.length + M + 1 ≤ k) : synodlaw4_made.f k l = some (l.foldl tM d0) := by
  unfold synodlaw4_made.f disk_New.f
  have := made_loop l hl hn l.length 0 k d0 (by omega) hk (inv0 256)
  rw [Option.bind_some]
  rw [List.drop_zero] at this
  rw [show synodlaw4_made.l0 l k 0 [] [] 0 false = some (l.foldl tM d0) from this]
  rfl
/-! ### The files -/
abbrev FileT := List UInt8 × List UInt8 × Int
def fileM (fs : FSt) (x : List UInt8) : FileT := (x, (getF fs x).1, (getF fs x).2)
def filesM (fs : FSt) : List FileT := (keysS fs).map (fileM fs)
theorem keysS_len (fs : FSt) : (keysS fs).length = fs.length := by rw [(keysS_perm fs).length_eq, List.length_map]
theorem keysS_some {fs : FSt} {x : List UInt8} (h : x ∈ keysS fs) : (mget fs x).isSome = true := keys_some ((keysS_perm fs).mem_iff.1 h)
theorem List_eq {n : Nat} {fs : FSt} (h : InvN n fs) (hn : n < 2 ^ 40) (l : List UInt8) (a : Int) (d : Bool) : disk_Disk_List.f fs l a d = some (keysS fs) := by
  unfold disk_Disk_List.f maps_Keys_file.f slices_Sorted_string_maps_Keys_file_1.f
  have := h.ln
  rw [Option.bind_some, if_pos ⟨h.nd, by omega, fun p hp => by have := h.nm p hp; omega⟩]; rfl
theorem fresh_eq {x : List UInt8} (h : x.length < 2 ^ 40) : disk_fresh.f x = some x := by
  unfold disk_fresh.f
  rw [if_pos ⟨by omega, by omega, by omega⟩, if_pos (by simp; omega)]; rfl
theorem Files_loop {fs : FSt} (h : szF fs ≤ 16777216) (s : List (List UInt8)) (hs : ∀ x ∈ s, (mget fs x).isSome = true) (hl : s.length < 2 ^ 40) : ∀ (d i k : Nat) (acc : List FileT), i + d = s.length → d + 1 ≤ k → acc.length + d < 2 ^ 41 → disk_Disk_Files.l0 fs s k acc (i : Int) = some (acc ++ (s.drop i).map (fileM fs))
  | d, i, 0, acc, _, hk, _ => by omega
  | 0, i, k + 1, acc, h, _, _ => by
    simp only [disk_Disk_Files.l0]
    rw [if_neg (by omega), List.drop_of_length_le (by omega)]; simp
  | d + 1, i, k + 1, acc, h', hk, ha => by
    have hi : i < s.length := by omega
    simp only [disk_Disk_Files.l0]
    rw [if_pos (by omega), if_pos (by omega), wi1 (by omega), Int.toNat_natCast, drop_at s [] hi]
    have hm := hs _ (getD_mem (d := []) hi)
    obtain ⟨x, hx⟩ : ∃ x, s.getD i ([] : List UInt8) = x := ⟨_, rfl⟩
    rw [hx] at hm
    simp only [hx]
    have eF : (mget fs x).getD (([] : List UInt8), (0 : Int)) = getF fs x := rfl
    have hlen := Nat.le_trans (le_szF (getF_mem hm)) h
    simp only at hlen
    simp only [eF]
    rw [if_pos hm, fresh_eq (by omega), Option.bind_some, if_pos (by simp; omega)]
    rw [Files_loop h s hs hl d (i + 1) k _ (by omega) (by omega) (by simp; omega)]
    simp [fileM]
theorem Files_eq {n : Nat} {fs : FSt} (h : InvN n fs) (hn : n < 2 ^ 40) (l : List UInt8) (a : Int) (d : Bool) {k : Nat} (hk : n + 1 ≤ k) : disk_Disk_Files.f k fs l a d = some (filesM fs) := by
  unfold disk_Disk_Files.f
  have hln := h.ln
  rw [List_eq h hn, Option.bind_some]
  have := Files_loop h.sz (keysS fs) (fun x hx => keysS_some hx) (by rw [keysS_len]; omega) (keysS fs).length 0 k [] (by omega) (by rw [keysS_len]; omega) (by rw [keysS_len]; simp; omega)
  rw [show ((0 : Nat) : Int) = 0 from rfl] at this
  rw [this]; rfl
theorem Down_eq (fs : FSt) (l : List UInt8) (a : Int) (d : Bool) : disk_Disk_Down.f fs l a d = some d := rfl
/-! ### Whether files are the same -/
theorem same_loop (x y : List UInt8) (hl : x.length = y.length) (hm : x.length < 2 ^ 62) : ∀ (d i k : Nat), i + d = x.length → d + 1 ≤ k → x.take i = y.take i → (orR (synodref_SameBytes.l0 x y k (i : Int)) fun _ => some true) = some (decide (x = y))
  | d, i, 0, _, hk, _ => by omega
  | 0, i, k + 1, h, _, ht => by
    simp only [synodref_SameBytes.l0]
    rw [if_neg (by omega)]
    rw [List.take_of_length_le (by omega), List.take_of_length_le (by omega)] at ht
    simp [orR, ht]
  | d + 1, i, k + 1, h, hk, ht => by
    have hix : i < x.length := by omega
    have hiy : i < y.length := by omega
    simp only [synodref_SameBytes.l0]
    rw [if_pos (by omega), if_pos (by omega), if_pos (by omega), wi1 (by omega)]
    simp only [Int.toNat_natCast, getD_at' x 0 i hix, getD_at' y 0 i hiy]
    by_cases he : x[i] = y[i]
    · rw [if_pos (by rw [he])]
      exact same_loop x y hl hm d (i + 1) k (by omega) (by omega) (by rw [List.take_succ_eq_append_getElem hix, List.take_succ_eq_append_getElem hiy, ht, he])
    · rw [if_neg (by intro z; exact he (UInt8.toNat_inj.1 (by omega)))]
      have : x ≠ y := by rintro rfl; exact he rfl
      simp [orR, this]
theorem SameBytes_eq {k : Nat} {x y : List UInt8} (hm : x.length < 2 ^ 62) (hk : x.length + 1 ≤ k) : synodref_SameBytes.f k x y = some (decide (x = y)) := by
  unfold synodref_SameBytes.f
  by_cases h : x.length = y.length
  · rw [if_pos (by omega)]
    exact same_loop x y h hm x.length 0 k (by omega) hk rfl
  · rw [if_neg (by omega)]
    have : x ≠ y := by rintro rfl; exact h rfl
    simp [this]
theorem sameF_loop (x y : List FileT) {M : Nat} (hM : ∀ e ∈ x, e.2.1.length + 1 ≤ M ∧ e.2.1.length < 2 ^ 62) (hl : x.length = y.length) (hm : x.length < 2 ^ 62) : ∀ (d i k : Nat), i + d = x.length → d + M + 1 ≤ k → x.take i = y.take i → (orR (synodref_SameFiles.l0 x y k (i : Int)) fun _ => some true) = some (decide (x = y))
  | d, i, 0, _, hk, _ => by omega
  | 0, i, k + 1, h, _, ht => by
    simp only [synodref_SameFiles.l0]
    rw [if_neg (by omega)]
    rw [List.take_of_length_le (by omega), List.take_of_length_le (by omega)] at ht
    simp [orR, ht]
  | d + 1, i, k + 1, h, hk, ht => by
    have hix : i < x.length := by omega
    have hiy : i < y.length := by omega
    have hb := hM _ (List.getElem_mem hix)
    simp only [synodref_SameFiles.l0]
    simp only [Int.toNat_natCast, getD_at' x _ i hix, getD_at' y _ i hiy]
    obtain ⟨u, hu⟩ : ∃ u, x[i] = u := ⟨_, rfl⟩
    obtain ⟨v, hv⟩ : ∃ v, y[i] = v := ⟨_, rfl⟩
    simp only [hu, hv] at hb ⊢
    have c1 : 0 ≤ (i : Int) ∧ (i : Int) < (x.length : Int) := by omega
    have c2 : 0 ≤ (i : Int) ∧ (i : Int) < (y.length : Int) := by omega
    rw [if_pos (by omega), if_pos c1, if_pos c2, wi1 (by omega), SameBytes_eq hb.2 (by omega), Option.bind_some]
    simp only [c1, c2, if_true]
    have goOn : u = v → (orR (synodref_SameFiles.l0 x y k ((i + 1 : Nat) : Int)) fun _ => some true) = some (decide (x = y)) := fun e =>
      sameF_loop x y hM hl hm d (i + 1) k (by omega) (by omega) (by rw [List.take_succ_eq_append_getElem hix, List.take_succ_eq_append_getElem hiy, ht, hu, hv, e])
    have stop : u ≠ v → decide (x = y) = false := fun e => decide_eq_false (by rintro rfl; exact e (hu.symm.trans hv))
    obtain ⟨u1, u2, u3⟩ := u
    obtain ⟨v1, v2, v3⟩ := v
    simp only at goOn stop ⊢
    by_cases e2 : u2 = v2
    · by_cases e1 : u1 = v1
      · by_cases e3 : u3 = v3
        · simp only [e1, e2, e3, decide_true, Bool.not_true, Bool.false_eq_true, if_false, if_true, Option.bind_some]
          exact goOn (by rw [e1, e2, e3])
        · simp only [e1, e2, e3, decide_true, decide_false, Bool.not_true, Bool.not_false, Bool.false_eq_true, if_false, if_true, Option.bind_some]
          rw [stop (by simp [e3])]; rfl
      · simp only [e1, e2, decide_true, decide_false, Bool.not_true, Bool.not_false, Bool.false_eq_true, if_false, if_true, Option.bind_some]
        rw [stop (by simp [e1])]; rfl
    · simp only [e2, decide_true, decide_false, Bool.not_true, Bool.not_false, Bool.false_eq_true, if_false, if_true, Option.bind_some]
      rw [stop (by simp [e2])]; rfl
theorem SameFiles_eq {k M : Nat} {x y : List FileT} (hM : ∀ e ∈ x, e.2.1.length + 1 ≤ M ∧ e.2.1.length < 2 ^ 62) (hm : x.length < 2 ^ 62) (hk : x.length + M + 1 ≤ k) : synodref_SameFiles.f k x y = some (decide (x = y)) := by
  unfold synodref_SameFiles.f
  by_cases h : x.length = y.length
  · rw [if_pos (by omega)]
    exact sameF_loop x y hM h hm x.length 0 k (by omega) hk rfl
  · rw [if_neg (by omega)]
    have : x ≠ y := by rintro rfl; exact h rfl
    simp [this]
theorem files_small {n : Nat} {fs : FSt} (h : InvN n fs) : ∀ e ∈ filesM fs, e.2.1.length + 1 ≤ 16777217 ∧ e.2.1.length < 2 ^ 62 := fun e he => by
  obtain ⟨x, hx, rfl⟩ := List.mem_map.1 he
  have := Nat.le_trans (le_szF (getF_mem (keysS_some hx))) h.sz
  simp only at this
  simp only [fileM]
  omega
theorem filesM_len (fs : FSt) : (filesM fs).length = fs.length := by rw [filesM, List.length_map, keysS_len]
theorem SameFiles_M {n : Nat} {fs : FSt} (h : InvN n fs) (hn : n < 2 ^ 40) {k : Nat} (hk : n + 16777218 ≤ k) (y : List FileT) : synodref_SameFiles.f k (filesM fs) y = some (decide (filesM fs = y)) := by
  have hln := h.ln
  exact SameFiles_eq (M := 16777217) (files_small h) (by rw [filesM_len]; omega) (by rw [filesM_len]; omega)
/-! ### Whether operations are few -/
theorem few_loop {x : List OpD} (hx : x.length < 2 ^ 60) : ∀ (d i k : Nat) (z : Int), i + d = 400 → d + 1 ≤ k → ∃ s, synodlaw4_few.l0 x k z (i : Int) = some s
  | d, i, 0, z, _, hk => by omega
  | 0, i, k + 1, z, hd, _ => by
    simp only [synodlaw4_few.l0]
    rw [if_neg (by simp; omega)]
    exact ⟨_, rfl⟩
  | d + 1, i, k + 1, z, hd, hk => by
    simp only [synodlaw4_few.l0]
    by_cases hc : (i : Int) < (x.length : Int)
    · rw [if_pos (by simp; omega), if_pos (by omega), if_pos (by omega), if_pos (by omega), wi1 (by omega)]
      exact few_loop hx d (i + 1) k _ (by omega) (by omega)
    · rw [if_neg (by simp; omega)]
      exact ⟨_, rfl⟩
theorem few_eq {x : List OpD} (hx : x.length < 2 ^ 60) {k : Nat} (hk : 401 ≤ k) : ∃ b : Bool, synodlaw4_few.f k x = some b := by
  unfold synodlaw4_few.f
  obtain ⟨s, hs⟩ := few_loop hx 400 0 k 0 (by omega) (by omega)
  rw [show ((0 : Nat) : Int) = 0 from rfl] at hs
  rw [hs, Option.bind_some]
  exact ⟨_, rfl⟩
end Go.Proofs.Ytkkbgcocpkipjaa
