/- Disk: what the operations do, in plain words; they answer on every disk that operations have made. Conditions: as each says. -/
import Derived.Test.YtkkbgcocpkipjaaPlMap
import Derived.Test.YtkkbgcocpkipjaaG
import Derived.Test.YtkkbgcocpkipjaaPl1
namespace Go.Proofs.Ytkkbgcocpkipjaa
set_option linter.unusedVariables false
set_option linter.unusedSimpArgs false
set_option linter.unusedSectionVars false
open Go.RowKit
theorem getD_at' {α : Type} (l : List α) (d : α) (i : Nat) (h : i < l.length) : l.getD i d = l[i] := by simp [List.getD_eq_getElem?_getD, List.getElem?_eq_getElem h]
theorem drop_at {α : Type} (l : List α) (d : α) {i : Nat} (h : i < l.length) : l.drop i = l.getD i d :: l.drop (i + 1) := by rw [getD_at' _ _ _ h]; exact List.drop_eq_getElem_cons h
theorem wi1 {i : Nat} (h : i < 2 ^ 62) : IntKind.i64.wrap ((i : Int) + 1) = ((i + 1 : Nat) : Int) := by rw [w64 (by omega) (by omega)]; simp
/-! ### Names -/
def badC (c : UInt8) : Bool := ((((decide (((c.toNat : Int)) < (97 : Int))) || (decide ((122 : Int) < (c.toNat : Int)))) && ((decide ((c.toNat : Int) < (48 : Int))) || (decide ((57 : Int) < (c.toNat : Int))))) && (!decide ((c.toNat : Int) = (45 : Int)))) && (!decide ((c.toNat : Int) = (46 : Int)))
def nmB (x : List UInt8) : Bool := (x.all fun c => !badC c) && (decide ((0 : Int) < (x.length : Int)) && decide ((x.length : Int) ≤ (32 : Int)))
theorem named_loop (x : List UInt8) (hl : x.length < 2 ^ 62) : ∀ (d i k : Nat), i + d = x.length → d + 1 ≤ k → disk_named.l0 x k (i : Int) = some (if (x.drop i).all (fun c => !badC c) then .inl () else .inr false)
  | d, i, 0, _, hk => by omega
  | 0, i, k + 1, h, _ => by
    simp only [disk_named.l0]
    rw [if_neg (by omega), List.drop_of_length_le (by omega)]; rfl
  | d + 1, i, k + 1, h, hk => by
    simp only [disk_named.l0]
    rw [if_pos (by omega), if_pos (by omega), wi1 (by omega), named_loop x hl d (i + 1) k (by omega) (by omega), drop_at x 0 (i := i) (by omega)]
    simp only [Int.toNat_natCast, List.all_cons]
    obtain ⟨c, hc⟩ : ∃ c, x.getD i 0 = c := ⟨_, rfl⟩
    simp only [hc]
    have e : ((if ((decide (((c.toNat : Int)) < (97 : Int))) || (decide ((122 : Int) < (c.toNat : Int)))) = true then (some ((decide ((c.toNat : Int) < (48 : Int))) || (decide ((57 : Int) < (c.toNat : Int))))) else (some false)) : Option Bool) = some (((decide (((c.toNat : Int)) < (97 : Int))) || (decide ((122 : Int) < (c.toNat : Int)))) && ((decide ((c.toNat : Int) < (48 : Int))) || (decide ((57 : Int) < (c.toNat : Int))))) := by
      cases ((decide (((c.toNat : Int)) < (97 : Int))) || (decide ((122 : Int) < (c.toNat : Int)))) <;> rfl
    rw [e, Option.bind_some]
    show (if badC c = true then _ else _) = _
    cases badC c <;> rfl
theorem named_eq {x : List UInt8} {k : Nat} (hl : x.length < 2 ^ 62) (hk : x.length + 1 ≤ k) : disk_named.f k x = some (nmB x) := by
  unfold disk_named.f nmB
  have := named_loop x hl x.length 0 k (by omega) (by omega)
  rw [show ((0 : Nat) : Int) = 0 from rfl, List.drop_zero] at this
  rw [this]
  cases x.all fun c => !badC c <;> rfl
theorem nmB_len {x : List UInt8} (h : nmB x = true) : x.length ≤ 32 := by
  unfold nmB at h
  simp at h
  omega
/-! ### What a disk is -/
abbrev FSt := List (List UInt8 × (List UInt8 × Int))
abbrev DS := FSt × List UInt8 × Int × Bool
def szF (fs : FSt) : Nat := (fs.map fun p => p.2.1.length).sum
structure InvN (n : Nat) (fs : FSt) : Prop where
  nd : (fs.map (·.1)).Nodup
  sy : ∀ p ∈ fs, 0 ≤ p.2.2 ∧ p.2.2 ≤ (p.2.1.length : Int)
  nm : ∀ p ∈ fs, p.1.length ≤ 32
  sz : szF fs ≤ 16777216
  ln : fs.length ≤ n
theorem inv0 (n : Nat) : InvN n [] := ⟨by simp, by simp, by simp, by simp [szF], by simp⟩
def getF (fs : FSt) (x : List UInt8) : List UInt8 × Int := (mget fs x).getD ([], 0)
theorem getF_mem {fs : FSt} {x : List UInt8} (h : (mget fs x).isSome = true) : (x, getF fs x) ∈ fs := mget_mem _ _ _ (by rw [getF]; exact getD_some h)
theorem getF_of {fs : FSt} (h : (fs.map (·.1)).Nodup) {p : List UInt8 × (List UInt8 × Int)} (hp : p ∈ fs) : getF fs p.1 = p.2 := by
  rw [getF, mget_of_mem fs p.1 p.2 h hp]; rfl
theorem le_szF : ∀ {fs : FSt} {p : List UInt8 × (List UInt8 × Int)}, p ∈ fs → p.2.1.length ≤ szF fs
  | [], _, h => by cases h
  | q :: l, p, h => by
    rcases List.mem_cons.1 h with rfl | h
    · simp [szF]
    · have := le_szF h
      simp only [szF, List.map_cons, List.sum_cons] at this ⊢; omega
/-! ### Sizes -/
def lenAt (fs : FSt) (x : List UInt8) : Nat := (getF fs x).1.length
theorem runM_size (fs : FSt) : ∀ (l : List (List UInt8)) (s : Nat), (∀ x ∈ l, (mget fs x).isSome = true) → s + (l.map (lenAt fs)).sum < 2 ^ 62 →
    runM (fun (s : Int) (x : List UInt8) (v : List UInt8 × Int) => some (IntKind.i64.wrap (s + (v.1.length : Int)), v)) l (s : Int) fs = some (((s + (l.map (lenAt fs)).sum : Nat) : Int), fs)
  | [], s, _, _ => by simp [runM]
  | x :: l, s, h, hb => by
    have hx := h x (by simp)
    have hv : mget fs x = some (getF fs x) := by rw [getF]; exact getD_some hx
    simp only [List.map_cons, List.sum_cons] at hb ⊢
    have hle : (getF fs x).1.length = lenAt fs x := rfl
    rw [runM, hv, Option.bind_some]
    simp only [Option.bind_some]
    rw [mput_same hv, w64 (by omega) (by omega)]
    have := runM_size fs l (s + lenAt fs x) (fun y hy => h y (List.mem_cons_of_mem _ hy)) (by omega)
    rw [show (s : Int) + ((getF fs x).1.length : Int) = ((s + lenAt fs x : Nat) : Int) by rw [hle]; omega, this]
    congr 2
    omega
theorem sum_keys {fs : FSt} (h : (fs.map (·.1)).Nodup) : ((fs.map (·.1)).map (lenAt fs)).sum = szF fs := by
  unfold szF
  rw [List.map_map]
  congr 1
  refine List.map_congr_left fun p hp => ?_
  simp only [Function.comp, lenAt, getF_of h hp]
theorem keys_some {fs : FSt} {x : List UInt8} (h : x ∈ fs.map (·.1)) : (mget fs x).isSome = true := (mget_key fs x).1 h
theorem Size_eq {n : Nat} {fs : FSt} (h : InvN n fs) (l : List UInt8) (a : Int) (d : Bool) : disk_Disk_Size.f fs l a d = some (szF fs : Int) := by
  unfold disk_Disk_Size.f range0 rangeM
  have hsum := sum_keys h.nd
  have hsz := h.sz
  have h1 : ∀ m, m.Perm (fs.map (·.1)) → runM (fun (s : Int) (x : List UInt8) (v : List UInt8 × Int) => (some (IntKind.i64.wrap (s + (v.1.length : Int)))).map fun s' => (s', v)) m 0 fs = some ((szF fs : Int), fs) := fun m hm => by
    have hs : (m.map (lenAt fs)).sum = szF fs := by rw [← hsum]; exact (hm.map _).sum_nat
    have := runM_size fs m 0 (fun x hx => keys_some (hm.mem_iff.1 hx)) (by omega)
    rw [hs, Nat.zero_add] at this
    exact this
  rw [if_pos ⟨h.nd, fun m hm => by rw [h1 m (perms_perm hm), h1 _ (List.Perm.refl _)]⟩, h1 _ (List.Perm.refl _)]
  rfl
/-! ### What single operations do -/
def failsM (l : List UInt8) (a : Int) (d : Bool) : Bool × List UInt8 × Int × Bool := if a = 0 then (false, l, a, d) else (decide (IntKind.i64.wrap (a - 1) = 0), l, IntKind.i64.wrap (a - 1), decide (IntKind.i64.wrap (a - 1) = 0))
theorem fails_eq (fs : FSt) (l : List UInt8) (a : Int) (d : Bool) : disk_Disk_fails.f fs l a d = some (failsM l a d) := by
  unfold disk_Disk_fails.f failsM; split <;> rfl
def createM (fs : FSt) (l : List UInt8) (a : Int) (d : Bool) (x : List UInt8) : Int × DS :=
  if d = true then (11, fs, l, a, d) else if nmB x = false then (7, fs, l, a, d) else if (mget fs x).isSome = true then (9, fs, l, a, d) else if (256 : Int) ≤ (fs.length : Int) then (10, fs, l, a, d)
  else if (failsM l a d).1 = true then (11, fs, (failsM l a d).2) else (0, mput fs x ([], 0), (failsM l a d).2)
theorem Has_eq (fs : FSt) (l : List UInt8) (a : Int) (d : Bool) (x : List UInt8) : disk_Disk_Has.f fs l a d x = some (mget fs x).isSome := by
  unfold disk_Disk_Has.f; cases (mget fs x).isSome <;> rfl
theorem Create_eq (fs : FSt) (l : List UInt8) (a : Int) (d : Bool) (x : List UInt8) {k : Nat} (hl : x.length < 2 ^ 62) (hk : x.length + 1 ≤ k) : disk_Disk_Create.f k fs l a d x = some (createM fs l a d x) := by
  unfold disk_Disk_Create.f createM
  rw [named_eq hl hk, Has_eq, fails_eq]
  simp only [Option.bind_some]
  cases d <;> cases nmB x <;> cases (mget fs x).isSome <;> simp <;> (repeat' split) <;> rfl
def appendM (fs : FSt) (l : List UInt8) (a : Int) (d : Bool) (x b : List UInt8) : Int × DS :=
  if (mget fs x).isSome = true then (if d = true then (11, fs, l, a, d) else if 16777216 - (szF fs : Int) < (b.length : Int) then (10, fs, l, a, d)
    else if (failsM l a d).1 = true then (11, mput fs x ((getF fs x).1 ++ b.take (b.length / 2), (getF fs x).2), x, (failsM l a d).2.2) else (0, mput fs x ((getF fs x).1 ++ b, (getF fs x).2), x, (failsM l a d).2.2))
  else if d = true then (11, fs, l, a, d) else (8, fs, l, a, d)
theorem half_eq (b : List UInt8) (h : b.length < 2 ^ 62) : IntKind.i64.wrap (Int.tdiv (b.length : Int) 2) = ((b.length / 2 : Nat) : Int) := by
  have : Int.tdiv (b.length : Int) 2 = ((b.length / 2 : Nat) : Int) := by rw [Int.tdiv_eq_ediv_of_nonneg (by omega)]; omega
  rw [this, w64 (by omega) (by omega)]
theorem Append_eq {n : Nat} {fs : FSt} (h : InvN n fs) (l : List UInt8) (a : Int) (d : Bool) (x b : List UInt8) (hb : b.length < 2 ^ 40) : disk_Disk_Append.f fs l a d x b = some (appendM fs l a d x b) := by
  unfold disk_Disk_Append.f appendM
  rw [Size_eq h, fails_eq]
  have hsz := h.sz
  simp only [Option.bind_some]
  by_cases hm : (mget fs x).isSome = true
  · rw [if_pos hm, if_pos hm]
    cases d with
    | true => rfl
    | false =>
      have hlen : (getF fs x).1.length ≤ 16777216 := Nat.le_trans (le_szF (getF_mem hm)) hsz
      rw [w64 (n := 16777216 - (szF fs : Int)) (by omega) (by omega), half_eq b (by omega)]
      simp only [Bool.false_eq_true, if_false]
      by_cases hs : 16777216 - (szF fs : Int) < (b.length : Int)
      · rw [if_pos hs, if_pos hs]
      · rw [if_neg hs, if_neg hs]
        by_cases hf : (failsM l a false).1 = true
        · rw [if_pos hf, if_pos hf, if_pos ⟨by omega, by omega, by omega⟩, Option.bind_some]
          have ec : cut b (0 : Int) ((b.length / 2 : Nat) : Int) = b.take (b.length / 2) := by
            show (b.take ((b.length / 2 : Nat) : Int).toNat).drop 0 = _
            rw [Int.toNat_natCast, List.drop_zero]
          rw [ec]
          show (if ((getF fs x).1.length + (b.take (b.length / 2)).length) * 1 ≤ 140737488355328 then _ else _) = _
          rw [if_pos (by simp only [List.length_take]; omega)]
          rfl
        · rw [if_neg hf, if_neg hf, Option.bind_some]
          show (if ((getF fs x).1.length + b.length) * 1 ≤ 140737488355328 then _ else _) = _
          rw [if_pos (by omega)]
          rfl
  · rw [if_neg hm, if_neg hm]
    split <;> rfl
def syncM (fs : FSt) (l : List UInt8) (a : Int) (d : Bool) (x : List UInt8) : Int × DS :=
  if (mget fs x).isSome = true then (if d = true then (11, fs, l, a, d) else if (failsM l a d).1 = true then (11, fs, (failsM l a d).2) else (0, mput fs x ((getF fs x).1, ((getF fs x).1.length : Int)), (failsM l a d).2))
  else if d = true then (11, fs, l, a, d) else (8, fs, l, a, d)
theorem Sync_eq (fs : FSt) (l : List UInt8) (a : Int) (d : Bool) (x : List UInt8) : disk_Disk_Sync.f fs l a d x = some (syncM fs l a d x) := by
  unfold disk_Disk_Sync.f syncM
  rw [fails_eq]
  simp only [Option.bind_some]
  repeat' split
  all_goals first | rfl | simp_all
def cutM (fs : FSt) (l : List UInt8) (a : Int) (d : Bool) (x : List UInt8) (n : Int) : Int × DS :=
  if (mget fs x).isSome = true then (if d = true then (11, fs, l, a, d) else if n < 0 ∨ ((getF fs x).1.length : Int) < n then (1, fs, l, a, d) else if (failsM l a d).1 = true then (11, fs, (failsM l a d).2) else (0, mput fs x ((getF fs x).1.take n.toNat, min (getF fs x).2 n), (failsM l a d).2))
  else if d = true then (11, fs, l, a, d) else (8, fs, l, a, d)
theorem Cut_eq (fs : FSt) (l : List UInt8) (a : Int) (d : Bool) (x : List UInt8) (n : Int) : disk_Disk_Cut.f fs l a d x n = some (cutM fs l a d x n) := by
  unfold disk_Disk_Cut.f cutM
  have eF : (mget fs x).getD (([] : List UInt8), (0 : Int)) = getF fs x := rfl
  rw [fails_eq]
  simp only [eF]
  simp only [Option.bind_some]
  by_cases hm : (mget fs x).isSome = true
  · rw [if_pos hm, if_pos hm]
    cases d with
    | true => rfl
    | false =>
      simp only [Bool.false_eq_true, if_false]
      by_cases hn : n < 0 ∨ ((getF fs x).1.length : Int) < n
      · rw [if_pos hn, if_pos (by rcases hn with h | h <;> simp [h])]
      · have hn' : ¬ ((decide (n < (0 : Int))) || (decide (((getF fs x).1.length : Int) < n))) = true := by simpa using hn
        rw [if_neg hn, if_neg hn']
        split
        · rfl
        · have hb : 0 ≤ (0 : Int) ∧ (0 : Int) ≤ n ∧ n ≤ ((getF fs x).1.length : Int) := ⟨by omega, by omega, by omega⟩
          refine (if_pos hb).trans ?_
          have ec : cut (getF fs x).1 (0 : Int) n = (getF fs x).1.take n.toNat := by simp [cut]
          show some (0, mput fs x (cut (getF fs x).1 (0 : Int) n, min (getF fs x).2 n), _) = _
          rw [ec]
  · rw [if_neg hm, if_neg hm]
    split <;> rfl
def lateM (l x y : List UInt8) : List UInt8 := if l = x then y else if l = y then [] else l
def renameM (fs : FSt) (l : List UInt8) (a : Int) (d : Bool) (x y : List UInt8) : Int × DS :=
  if (mget fs x).isSome = true then (if d = true then (11, fs, l, a, d) else if nmB y = false then (7, fs, l, a, d) else if (failsM l a d).1 = true then (11, fs, (failsM l a d).2) else if x = y then (0, fs, (failsM l a d).2)
    else (0, mput (mdel fs x) y (getF fs x), lateM l x y, (failsM l a d).2.2))
  else if d = true then (11, fs, l, a, d) else (8, fs, l, a, d)
theorem fails_late (l : List UInt8) (a : Int) (d : Bool) : (failsM l a d).2.1 = l := by unfold failsM; split <;> rfl
theorem Rename_eq (fs : FSt) (l : List UInt8) (a : Int) (d : Bool) (x y : List UInt8) {k : Nat} (hl : y.length < 2 ^ 62) (hk : y.length + 1 ≤ k) : disk_Disk_Rename.f k fs l a d x y = some (renameM fs l a d x y) := by
  unfold disk_Disk_Rename.f renameM
  rw [fails_eq, named_eq hl hk]
  simp only [Option.bind_some]
  by_cases hm : (mget fs x).isSome = true
  · rw [if_pos hm, if_pos hm]
    cases d <;> cases nmB y <;> simp only [Bool.not_true, Bool.not_false, if_true, if_false, Bool.false_eq_true, Bool.true_eq_false, reduceCtorEq]
    split
    · rfl
    · split
      · rfl
      · rw [fails_late]
        have e : ((if l = x then (some y) else (if l = y then (some ([] : List UInt8)) else (some l))) : Option (List UInt8)) = some (lateM l x y) := by
          unfold lateM
          by_cases h1 : l = x
          · rw [if_pos h1, if_pos h1]
          · rw [if_neg h1, if_neg h1]
            by_cases h2 : l = y
            · rw [if_pos h2, if_pos h2]
            · rw [if_neg h2, if_neg h2]
        rw [e]; rfl
  · rw [if_neg hm, if_neg hm]
    split <;> rfl
def removeM (fs : FSt) (l : List UInt8) (a : Int) (d : Bool) (x : List UInt8) : Int × DS :=
  if d = true then (11, fs, l, a, d) else if (mget fs x).isSome = false then (8, fs, l, a, d) else if (failsM l a d).1 = true then (11, fs, (failsM l a d).2) else (0, mdel fs x, (if l = x then [] else l), (failsM l a d).2.2)
theorem Remove_eq (fs : FSt) (l : List UInt8) (a : Int) (d : Bool) (x : List UInt8) : disk_Disk_Remove.f fs l a d x = some (removeM fs l a d x) := by
  unfold disk_Disk_Remove.f removeM
  rw [fails_eq, Has_eq]
  simp only [Option.bind_some]
  cases d <;> cases (mget fs x).isSome <;> simp only [Bool.not_true, Bool.not_false, if_true, if_false, Bool.false_eq_true, Bool.true_eq_false, reduceCtorEq]
  split
  · rfl
  · rw [fails_late]
    split <;> rfl
/-! ### A crash -/
def crN (l : List UInt8) (keep : Int) (x : List UInt8) (v : List UInt8 × Int) : Int := if x = l then v.2 + min (max keep 0) ((v.1.length : Int) - v.2) else v.2
def crF (l : List UInt8) (keep : Int) (x : List UInt8) (v : List UInt8 × Int) : List UInt8 × Int := (v.1.take (crN l keep x v).toNat, crN l keep x v)
def crashM (fs : FSt) (l : List UInt8) (keep : Int) : FSt := fs.map fun p => (p.1, crF l keep p.1 p.2)
section
variable {α β : Type} [DecidableEq α]
theorem mput_map {x : α} {u : β} : ∀ {kvs : List (α × β)}, (kvs.map (·.1)).Nodup → (mget kvs x).isSome = true → mput kvs x u = kvs.map fun p => if p.1 = x then (p.1, u) else p
  | [], _, h => by simp [mget] at h
  | p :: l, hn, h => by
    rw [List.map_cons, List.nodup_cons] at hn
    rw [mget] at h
    rw [mput, List.map_cons]
    by_cases hp : p.1 = x
    · rw [if_pos hp, if_pos hp, hp]
      congr 1
      refine (List.map_id l).symm.trans (List.map_congr_left fun q hq => ?_)
      rw [if_neg (fun e => hn.1 (by rw [hp, ← e]; exact List.mem_map.2 ⟨q, hq, rfl⟩))]; rfl
    · rw [if_neg hp] at h
      rw [if_neg hp, if_neg hp, mput_map hn.2 h]
theorem runM_map {step : Unit → α → β → Option (Unit × β)} {g : α → β → β} : ∀ (l : List α) (kvs : List (α × β)), (kvs.map (·.1)).Nodup → l.Nodup → (∀ x ∈ l, ∃ v, mget kvs x = some v ∧ step () x v = some ((), g x v)) →
    runM step l () kvs = some ((), kvs.map fun p => if p.1 ∈ l then (p.1, g p.1 p.2) else p)
  | [], kvs, _, _, _ => by simp [runM]
  | x :: l, kvs, hn, hl, h => by
    obtain ⟨v, hv, hs⟩ := h x (by simp)
    rw [List.nodup_cons] at hl
    rw [runM, hv, Option.bind_some, hs, Option.bind_some]
    have hx : (mget kvs x).isSome = true := by rw [hv]; rfl
    have hk : ((mput kvs x (g x v)).map (·.1)).Nodup := mput_nodup hn
    rw [runM_map l (mput kvs x (g x v)) hk hl.2 (fun y hy => by
      obtain ⟨w, hw, hw2⟩ := h y (List.mem_cons_of_mem _ hy)
      refine ⟨w, ?_, hw2⟩
      rw [mget_mput, if_neg (fun e => hl.1 (by rw [e]; exact hy))]; exact hw)]
    congr 2
    rw [mput_map hn hx, List.map_map]
    refine List.map_congr_left fun p hp => ?_
    simp only [Function.comp]
    by_cases hpx : p.1 = x
    · have hpv : p.2 = v := by
        have h1 := mget_of_mem kvs p.1 p.2 hn hp
        rw [hpx, hv] at h1
        exact (Option.some.inj h1).symm
      rw [if_pos hpx]
      simp only [hpx, hl.1, if_false, List.mem_cons_self, if_true, hpv]
    · rw [if_neg hpx]
      simp only [List.mem_cons, hpx, false_or]
end
theorem crN_bd {l : List UInt8} {keep : Int} {x : List UInt8} {v : List UInt8 × Int} (h : 0 ≤ v.2 ∧ v.2 ≤ (v.1.length : Int)) : 0 ≤ crN l keep x v ∧ crN l keep x v ≤ (v.1.length : Int) ∧ v.2 ≤ crN l keep x v := by
  unfold crN
  split <;> omega
theorem Crash_eq {n : Nat} {fs : FSt} (h : InvN n fs) (l : List UInt8) (a : Int) (d : Bool) (keep : Int) : disk_Disk_Crash.f fs l a d keep = some (crashM fs l keep, [], 0, false) := by
  unfold disk_Disk_Crash.f rangeM
  have h1 : ∀ m, m.Perm (fs.map (·.1)) → runM (fun (s9v : Unit) (x4v : List UInt8) (v5v : List UInt8 × Int) => (if x4v = l then (some (IntKind.i64.wrap (v5v.2 + (min (max keep (0 : Int)) (IntKind.i64.wrap ((v5v.1.length : Int) - v5v.2)))))) else (some v5v.2)).bind fun s13v => (if 0 ≤ s13v ∧ s13v ≤ (v5v.1.length : Int) then (some ((), (List.take s13v.toNat v5v.1, s13v))) else none)) m () fs = some ((), crashM fs l keep) := fun m hm => by
    rw [runM_map (g := crF l keep) m fs h.nd (hm.nodup_iff.2 h.nd) fun x hx => ?_]
    · congr 2
      refine List.map_congr_left fun p hp => ?_
      rw [if_pos (hm.mem_iff.2 (List.mem_map.2 ⟨p, hp, rfl⟩))]
    · have hsome := keys_some (hm.mem_iff.1 hx)
      have hmem := getF_mem hsome
      have hsy := h.sy _ hmem
      have hlen : (getF fs x).1.length ≤ 16777216 := Nat.le_trans (le_szF hmem) h.sz
      simp only at hsy
      refine ⟨getF fs x, by rw [getF]; exact getD_some hsome, ?_⟩
      generalize getF fs x = v at hsy hlen
      have e : ((if x = l then (some (IntKind.i64.wrap (v.2 + (min (max keep (0 : Int)) (IntKind.i64.wrap ((v.1.length : Int) - v.2)))))) else (some v.2)) : Option Int) = some (crN l keep x v) := by
        unfold crN
        split
        · rw [w64 (n := (v.1.length : Int) - v.2) (by omega) (by omega), w64 (by omega) (by omega)]
        · rfl
      rw [e, Option.bind_some]
      have hb := crN_bd (l := l) (keep := keep) (x := x) hsy
      rw [if_pos ⟨hb.1, hb.2.1⟩]; rfl
  rw [if_pos ⟨h.nd, fun m hm => by rw [h1 m (perms_perm hm), h1 _ (List.Perm.refl _)]⟩, h1 _ (List.Perm.refl _)]
  rfl
end Go.Proofs.Ytkkbgcocpkipjaa
