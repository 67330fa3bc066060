/- Disk: disks that hold the same under unlike orders; a disk that is loaded. Conditions: as each says. -/
import Derived.Test.YtkkbgcocpkipjaaPlDkF
namespace Go.Proofs.Ytkkbgcocpkipjaa
set_option linter.unusedVariables false
set_option linter.unusedSimpArgs false
open Go.RowKit
/-! ### Names stay names -/
def Named (fs : FSt) : Prop := ∀ x ∈ fs.map (·.1), nmB x = true
theorem named_sub {fs gs : FSt} (h : Named fs) (hs : ∀ x, x ∈ gs.map (·.1) → x ∈ fs.map (·.1)) : Named gs := fun x hx => h x (hs x hx)
theorem named_mput {fs : FSt} (h : Named fs) {x : List UInt8} {v : List UInt8 × Int} (hx : nmB x = true) : Named (mput fs x v) := fun y hy => by
  rcases mem_mput_keys.1 hy with rfl | hy
  · exact hx
  · exact h y hy
theorem named_in {fs : FSt} (h : Named fs) {x : List UInt8} (hx : (mget fs x).isSome = true) : nmB x = true := h x ((mget_key fs x).2 hx)
theorem named_mdel {fs : FSt} (h : Named fs) (x : List UInt8) : Named (mdel fs x) := named_sub h fun y hy => ((mdel_sub fs x).map _).subset hy
theorem named_create {fs : FSt} (h : Named fs) (l : List UInt8) (a : Int) (d : Bool) (x : List UInt8) : Named (createM fs l a d x).2.1 := by
  unfold createM
  repeat' split
  all_goals first
    | exact h
    | exact named_mdel h _
    | (refine named_mput h (named_in h ?_); assumption)
    | (refine named_mput (named_mdel h _) ?_; simp_all; done)
    | (refine named_mput h ?_; simp_all; done)
theorem named_append {fs : FSt} (h : Named fs) (l : List UInt8) (a : Int) (d : Bool) (x b : List UInt8) : Named (appendM fs l a d x b).2.1 := by
  unfold appendM
  repeat' split
  all_goals first
    | exact h
    | exact named_mdel h _
    | (refine named_mput h (named_in h ?_); assumption)
    | (refine named_mput (named_mdel h _) ?_; simp_all; done)
    | (refine named_mput h ?_; simp_all; done)
theorem named_sync {fs : FSt} (h : Named fs) (l : List UInt8) (a : Int) (d : Bool) (x : List UInt8) : Named (syncM fs l a d x).2.1 := by
  unfold syncM
  repeat' split
  all_goals first
    | exact h
    | exact named_mdel h _
    | (refine named_mput h (named_in h ?_); assumption)
    | (refine named_mput (named_mdel h _) ?_; simp_all; done)
    | (refine named_mput h ?_; simp_all; done)
theorem named_cut {fs : FSt} (h : Named fs) (l : List UInt8) (a : Int) (d : Bool) (x : List UInt8) (n : Int) : Named (cutM fs l a d x n).2.1 := by
  unfold cutM
  repeat' split
  all_goals first
    | exact h
    | exact named_mdel h _
    | (refine named_mput h (named_in h ?_); assumption)
    | (refine named_mput (named_mdel h _) ?_; simp_all; done)
    | (refine named_mput h ?_; simp_all; done)
theorem named_rename {fs : FSt} (h : Named fs) (l : List UInt8) (a : Int) (d : Bool) (x y : List UInt8) : Named (renameM fs l a d x y).2.1 := by
  unfold renameM
  repeat' split
  all_goals first
    | exact h
    | exact named_mdel h _
    | (refine named_mput h (named_in h ?_); assumption)
    | (refine named_mput (named_mdel h _) ?_; simp_all; done)
    | (refine named_mput h ?_; simp_all; done)
theorem named_remove {fs : FSt} (h : Named fs) (l : List UInt8) (a : Int) (d : Bool) (x : List UInt8) : Named (removeM fs l a d x).2.1 := by
  unfold removeM
  repeat' split
  all_goals first
    | exact h
    | exact named_mdel h _
    | (refine named_mput h (named_in h ?_); assumption)
    | (refine named_mput (named_mdel h _) ?_; simp_all; done)
    | (refine named_mput h ?_; simp_all; done)
theorem named_told {s : DS} (h : Named s.1) (e : OpD) : Named (toldM s e).2.1 := by
  unfold toldM
  repeat' split
  all_goals first | exact named_create h _ _ _ _ | exact named_append h _ _ _ _ _ | exact named_sync h _ _ _ _ | exact named_cut h _ _ _ _ _ | exact named_rename h _ _ _ _ _ | exact named_remove h _ _ _ _ | exact named_sub h (fun x hx => by rw [crash_keys] at hx; exact hx) | exact h
theorem named_fold : ∀ (l : List OpD) {s : DS}, Named s.1 → Named (l.foldl tM s).1
  | [], s, h => h
  | e :: l, s, h => named_fold l (named_told h e)
theorem named_nil {fs : FSt} (h : Named fs) : (mget fs []).isSome = false := by
  cases hm : (mget fs []).isSome with
  | false => rfl
  | true => have := named_in h hm; simp [nmB] at this
/-! ### The same under another order -/
def Eqv (a b : FSt) : Prop := ∀ x, mget a x = mget b x
theorem Eqv.getF {a b : FSt} (h : Eqv a b) (x : List UInt8) : getF a x = getF b x := by unfold Go.Proofs.Ytkkbgcocpkipjaa.getF; rw [h x]
theorem Eqv.keys {a b : FSt} (h : Eqv a b) (ha : (a.map (·.1)).Nodup) (hb : (b.map (·.1)).Nodup) : (a.map (·.1)).Perm (b.map (·.1)) := mget_perm ha hb h
theorem Eqv.len {a b : FSt} (h : Eqv a b) (ha : (a.map (·.1)).Nodup) (hb : (b.map (·.1)).Nodup) : a.length = b.length := by simpa using (h.keys ha hb).length_eq
theorem Eqv.szF {a b : FSt} (h : Eqv a b) (ha : (a.map (·.1)).Nodup) (hb : (b.map (·.1)).Nodup) : szF a = szF b := by
  rw [← sum_keys ha, ← sum_keys hb]
  have e : lenAt a = lenAt b := by funext x; unfold lenAt; rw [h.getF]
  rw [e]
  exact ((h.keys ha hb).map _).sum_nat
theorem Eqv.mput {a b : FSt} (h : Eqv a b) (x : List UInt8) (v : List UInt8 × Int) : Eqv (mput a x v) (mput b x v) := fun z => by rw [mget_mput, mget_mput, h z]
theorem Eqv.mdel {a b : FSt} (h : Eqv a b) (ha : (a.map (·.1)).Nodup) (hb : (b.map (·.1)).Nodup) (x : List UInt8) : Eqv (mdel a x) (mdel b x) := fun z => by rw [mget_mdel _ _ _ ha, mget_mdel _ _ _ hb, h z]
theorem mget_crash (l : List UInt8) (keep : Int) (x : List UInt8) : ∀ fs : FSt, mget (crashM fs l keep) x = (mget fs x).map (crF l keep x)
  | [] => rfl
  | p :: fs => by
    have ih := mget_crash l keep x fs
    rw [crashM, List.map_cons, mget, mget]
    by_cases hp : p.1 = x
    · rw [if_pos hp, if_pos hp, hp]; rfl
    · rw [if_neg hp, if_neg hp]; exact ih
theorem Eqv.crash {a b : FSt} (h : Eqv a b) (l : List UInt8) (keep : Int) : Eqv (crashM a l keep) (crashM b l keep) := fun z => by rw [mget_crash, mget_crash, h z]
theorem Eqv.keysS {a b : FSt} (h : Eqv a b) (ha : (a.map (·.1)).Nodup) (hb : (b.map (·.1)).Nodup) : keysS a = keysS b := by
  refine strict_eq (keysS_strict ha) (keysS_strict hb) fun x => ?_
  rw [(keysS_perm a).mem_iff, (keysS_perm b).mem_iff]
  exact (h.keys ha hb).mem_iff
theorem Eqv.files {a b : FSt} (h : Eqv a b) (ha : (a.map (·.1)).Nodup) (hb : (b.map (·.1)).Nodup) : filesM a = filesM b := by
  unfold filesM
  rw [h.keysS ha hb]
  have : fileM a = fileM b := by funext x; unfold fileM; rw [h.getF]
  rw [this]
structure EqD (s t : DS) : Prop where
  fs : Eqv s.1 t.1
  rest : s.2 = t.2
theorem eqv_create {a b : FSt} (h : Eqv a b) (ha : (a.map (·.1)).Nodup) (hb : (b.map (·.1)).Nodup) (l : List UInt8) (r : Int) (d : Bool) (x : List UInt8) : (createM a l r d x).1 = (createM b l r d x).1 ∧ EqD (createM a l r d x).2 (createM b l r d x).2 := by
  have el := h.len ha hb
  have es := h.szF ha hb
  unfold createM
  simp only [h _, h.getF, el, es]
  repeat' split
  all_goals first
    | exact ⟨rfl, h, rfl⟩
    | exact ⟨rfl, h.mput _ _, rfl⟩
    | exact ⟨rfl, (h.mdel ha hb _).mput _ _, rfl⟩
    | exact ⟨rfl, h.mdel ha hb _, rfl⟩
theorem eqv_append {a b : FSt} (h : Eqv a b) (ha : (a.map (·.1)).Nodup) (hb : (b.map (·.1)).Nodup) (l : List UInt8) (r : Int) (d : Bool) (x c : List UInt8) : (appendM a l r d x c).1 = (appendM b l r d x c).1 ∧ EqD (appendM a l r d x c).2 (appendM b l r d x c).2 := by
  have el := h.len ha hb
  have es := h.szF ha hb
  unfold appendM
  simp only [h _, h.getF, el, es]
  repeat' split
  all_goals first
    | exact ⟨rfl, h, rfl⟩
    | exact ⟨rfl, h.mput _ _, rfl⟩
    | exact ⟨rfl, (h.mdel ha hb _).mput _ _, rfl⟩
    | exact ⟨rfl, h.mdel ha hb _, rfl⟩
theorem eqv_sync {a b : FSt} (h : Eqv a b) (ha : (a.map (·.1)).Nodup) (hb : (b.map (·.1)).Nodup) (l : List UInt8) (r : Int) (d : Bool) (x : List UInt8) : (syncM a l r d x).1 = (syncM b l r d x).1 ∧ EqD (syncM a l r d x).2 (syncM b l r d x).2 := by
  have el := h.len ha hb
  have es := h.szF ha hb
  unfold syncM
  simp only [h _, h.getF, el, es]
  repeat' split
  all_goals first
    | exact ⟨rfl, h, rfl⟩
    | exact ⟨rfl, h.mput _ _, rfl⟩
    | exact ⟨rfl, (h.mdel ha hb _).mput _ _, rfl⟩
    | exact ⟨rfl, h.mdel ha hb _, rfl⟩
theorem eqv_cut {a b : FSt} (h : Eqv a b) (ha : (a.map (·.1)).Nodup) (hb : (b.map (·.1)).Nodup) (l : List UInt8) (r : Int) (d : Bool) (x : List UInt8) (n : Int) : (cutM a l r d x n).1 = (cutM b l r d x n).1 ∧ EqD (cutM a l r d x n).2 (cutM b l r d x n).2 := by
  have el := h.len ha hb
  have es := h.szF ha hb
  unfold cutM
  simp only [h _, h.getF, el, es]
  repeat' split
  all_goals first
    | exact ⟨rfl, h, rfl⟩
    | exact ⟨rfl, h.mput _ _, rfl⟩
    | exact ⟨rfl, (h.mdel ha hb _).mput _ _, rfl⟩
    | exact ⟨rfl, h.mdel ha hb _, rfl⟩
theorem eqv_rename {a b : FSt} (h : Eqv a b) (ha : (a.map (·.1)).Nodup) (hb : (b.map (·.1)).Nodup) (l : List UInt8) (r : Int) (d : Bool) (x y : List UInt8) : (renameM a l r d x y).1 = (renameM b l r d x y).1 ∧ EqD (renameM a l r d x y).2 (renameM b l r d x y).2 := by
  have el := h.len ha hb
  have es := h.szF ha hb
  unfold renameM
  simp only [h _, h.getF, el, es]
  repeat' split
  all_goals first
    | exact ⟨rfl, h, rfl⟩
    | exact ⟨rfl, h.mput _ _, rfl⟩
    | exact ⟨rfl, (h.mdel ha hb _).mput _ _, rfl⟩
    | exact ⟨rfl, h.mdel ha hb _, rfl⟩
theorem eqv_remove {a b : FSt} (h : Eqv a b) (ha : (a.map (·.1)).Nodup) (hb : (b.map (·.1)).Nodup) (l : List UInt8) (r : Int) (d : Bool) (x : List UInt8) : (removeM a l r d x).1 = (removeM b l r d x).1 ∧ EqD (removeM a l r d x).2 (removeM b l r d x).2 := by
  have el := h.len ha hb
  have es := h.szF ha hb
  unfold removeM
  simp only [h _, h.getF, el, es]
  repeat' split
  all_goals first
    | exact ⟨rfl, h, rfl⟩
    | exact ⟨rfl, h.mput _ _, rfl⟩
    | exact ⟨rfl, (h.mdel ha hb _).mput _ _, rfl⟩
    | exact ⟨rfl, h.mdel ha hb _, rfl⟩
theorem told_eqv {s t : DS} (h : EqD s t) (hs : InvN 256 s.1) (ht : InvN 256 t.1) (e : OpD) : (toldM s e).1 = (toldM t e).1 ∧ EqD (toldM s e).2 (toldM t e).2 := by
  obtain ⟨a, l, r, d⟩ := s
  obtain ⟨b, l', r', d'⟩ := t
  obtain ⟨h1, h2⟩ := h
  simp only [Prod.mk.injEq] at h1 h2
  obtain ⟨rfl, rfl, rfl⟩ := h2
  unfold toldM
  simp only
  repeat' split
  all_goals first | exact eqv_create h1 hs.nd ht.nd _ _ _ _ | exact eqv_append h1 hs.nd ht.nd _ _ _ _ _ | exact eqv_sync h1 hs.nd ht.nd _ _ _ _ | exact eqv_cut h1 hs.nd ht.nd _ _ _ _ _ | exact eqv_rename h1 hs.nd ht.nd _ _ _ _ _ | exact eqv_remove h1 hs.nd ht.nd _ _ _ _ | exact ⟨rfl, h1.crash _ _, rfl⟩ | exact ⟨rfl, h1, rfl⟩
/-! ### Load -/
theorem mput_new {α β : Type} [DecidableEq α] {x : α} {v : β} : ∀ {l : List (α × β)}, (mget l x).isSome = false → mput l x v = l ++ [(x, v)]
  | [], _ => rfl
  | p :: l, h => by
    rw [mget] at h
    rw [mput]
    by_cases hp : p.1 = x
    · rw [if_pos hp] at h; cases h
    · rw [if_neg hp] at h
      rw [if_neg hp, mput_new h]; rfl
theorem mget_map_none {F : List UInt8 → List UInt8 × Int} {x : List UInt8} : ∀ {ks : List (List UInt8)}, x ∉ ks → (mget (ks.map fun x => (x, F x)) x).isSome = false
  | [], _ => rfl
  | y :: ks, h => by
    rw [List.map_cons, mget, if_neg (fun e => h (by rw [← e]; simp))]
    exact mget_map_none fun hx => h (List.mem_cons_of_mem _ hx)
theorem mget_map_some {F : List UInt8 → List UInt8 × Int} {x : List UInt8} : ∀ {ks : List (List UInt8)}, x ∈ ks → mget (ks.map fun x => (x, F x)) x = some (F x)
  | [], h => by cases h
  | y :: ks, h => by
    rw [List.map_cons, mget]
    by_cases hy : y = x
    · rw [if_pos hy, hy]
    · rw [if_neg hy]
      rcases List.mem_cons.1 h with h | h
      · exact absurd h.symm hy
      · exact mget_map_some h
theorem load_loop (ks : List (List UInt8)) (F : List UInt8 → List UInt8 × Int) (s1 : DS) (hn : ks.Nodup) (hk : ∀ x ∈ ks, nmB x = true ∧ 0 ≤ (F x).2 ∧ (F x).2 ≤ ((F x).1.length : Int) ∧ (F x).1.length < 2 ^ 40) (hl : ks.length < 2 ^ 40) : ∀ (d i k : Nat), i + d = ks.length → d + 40 ≤ k →
    disk_Load.l0 (ks.map fun x => (x, (F x).1, (F x).2)) s1 k (i : Int) ((ks.take i).map fun x => (x, F x)) = some (.inl (ks.map fun x => (x, F x)))
  | d, i, 0, _, hd => by omega
  | 0, i, k + 1, h, _ => by
    simp only [disk_Load.l0]
    rw [if_neg (by simp; omega), List.take_of_length_le (by omega)]
  | d + 1, i, k + 1, h, hd => by
    have hi : i < ks.length := by omega
    have hi' : i < (ks.map fun x => (x, (F x).1, (F x).2)).length := by simpa using hi
    have la : ((ks.map fun x => (x, (F x).1, (F x).2)).length : Int) = (ks.length : Int) := by simp
    simp only [disk_Load.l0]
    simp only [Int.toNat_natCast, getD_at' _ _ _ hi', List.getElem_map, la]
    obtain ⟨x, hx⟩ : ∃ x, ks[i] = x := ⟨_, rfl⟩
    have hmem : x ∈ ks := by rw [← hx]; exact List.getElem_mem hi
    obtain ⟨k1, k2, k3, k4⟩ := hk x hmem
    have hnew : x ∉ ks.take i := by
      intro hm
      obtain ⟨j, hj⟩ := List.mem_iff_getElem?.1 hm
      have hji : j < i := by have := (List.getElem?_eq_some_iff.1 hj).1; simp at this; omega
      have e1 : ks[j]'(by omega) = x := by rw [List.getElem?_take_of_lt hji] at hj; exact (List.getElem?_eq_some_iff.1 hj).2
      have := (List.pairwise_iff_getElem.1 hn) j i (by omega) hi hji
      exact this (e1.trans hx.symm)
    simp only [hx]
    have hlen := nmB_len k1
    rw [if_pos (by omega), if_pos (by omega), named_eq (by omega) (by omega), Option.bind_some, k1]
    simp only [Bool.not_true, Bool.false_eq_true, if_false]
    rw [Has_eq, Option.bind_some, mget_map_none hnew]
    simp only [Bool.false_eq_true, if_false]
    have hr : ¬ ((decide ((F x).2 < (0 : Int))) || (decide (((F x).1.length : Int) < (F x).2))) = true := by simp; omega
    rw [if_neg hr, fresh_eq k4, Option.bind_some, wi1 (by omega), mput_new (mget_map_none hnew)]
    have := load_loop ks F s1 hn hk hl d (i + 1) k (by omega) (by omega)
    rw [List.take_succ_eq_append_getElem hi, List.map_append, hx] at this
    exact this
theorem Load_eq {fs : FSt} (h : InvN 256 fs) (hn : Named fs) {k : Nat} (hk : 400 ≤ k) : disk_Load.f k (filesM fs) = some (true, (keysS fs).map (fun x => (x, getF fs x)), [], 0, false, 0) ∧ InvN 256 ((keysS fs).map fun x => (x, getF fs x)) ∧ Eqv ((keysS fs).map fun x => (x, getF fs x)) fs := by
  have hnd : (keysS fs).Nodup := (keysS_perm fs).nodup_iff.2 h.nd
  have hln := h.ln
  have hsz := h.sz
  have hks : ∀ x ∈ keysS fs, nmB x = true ∧ 0 ≤ (getF fs x).2 ∧ (getF fs x).2 ≤ ((getF fs x).1.length : Int) ∧ (getF fs x).1.length < 2 ^ 40 := fun x hx => by
    have hs := keysS_some hx
    have h1 := getF_sy h hs
    have h2 := Nat.le_trans (le_szF (getF_mem hs)) hsz
    simp only at h2
    exact ⟨named_in hn hs, h1.1, h1.2, by omega⟩
  have hkeys : (((keysS fs).map fun x => (x, getF fs x)).map (·.1)) = keysS fs := by rw [List.map_map]; exact List.map_id _
  have he : Eqv ((keysS fs).map fun x => (x, getF fs x)) fs := fun x => by
    by_cases hx : x ∈ keysS fs
    · rw [mget_map_some hx, getF]; exact (getD_some (keysS_some hx)).symm
    · have h1 := mget_map_none (F := getF fs) hx
      have h2 : (mget fs x).isSome = false := by
        cases hm : (mget fs x).isSome with
        | false => rfl
        | true => exact absurd ((keysS_perm fs).mem_iff.2 ((mget_key fs x).2 hm)) hx
      cases ha : mget ((keysS fs).map fun x => (x, getF fs x)) x with
      | some v => rw [ha] at h1; cases h1
      | none => cases hb : mget fs x with
        | some v => rw [hb] at h2; cases h2
        | none => rfl
  have hi : InvN 256 ((keysS fs).map fun x => (x, getF fs x)) := by
    have hnd' : (((keysS fs).map fun x => (x, getF fs x)).map (·.1)).Nodup := by rw [hkeys]; exact hnd
    refine ⟨hnd', fun p hp => ?_, fun p hp => ?_, by rw [he.szF hnd' h.nd]; exact hsz, by rw [he.len hnd' h.nd]; exact hln⟩
    · obtain ⟨x, hx, rfl⟩ := List.mem_map.1 hp; exact ⟨(hks x hx).2.1, (hks x hx).2.2.1⟩
    · obtain ⟨x, hx, rfl⟩ := List.mem_map.1 hp; exact nmB_len (hks x hx).1
  refine ⟨?_, hi, he⟩
  unfold disk_Load.f
  rw [show disk_New.f = some d0 from rfl, Option.bind_some]
  have hl := load_loop (keysS fs) (getF fs) d0 hnd hks (by rw [keysS_len]; omega) (keysS fs).length 0 k (by omega) (by rw [keysS_len]; omega)
  rw [show disk_Load.l0 (filesM fs) d0 k 0 d0.1 = _ from hl]
  simp only [orR]
  have hlen : ¬ (256 : Int) < ((filesM fs).length : Int) := by rw [filesM_len]; omega
  rw [if_neg hlen, Size_eq hi, he.szF hi.nd h.nd]
  simp only [Option.bind_some]
  rw [decide_eq_false (by omega)]
  rfl
end Go.Proofs.Ytkkbgcocpkipjaa
