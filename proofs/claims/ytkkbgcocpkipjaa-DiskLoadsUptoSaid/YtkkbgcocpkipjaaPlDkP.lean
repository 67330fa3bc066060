/- Disk: both disks, asked and told the same. Conditions: as each says. -/
import Derived.Test.YtkkbgcocpkipjaaPlDkH
namespace Go.Proofs.Ytkkbgcocpkipjaa
set_option linter.unusedVariables false
set_option linter.unusedSimpArgs false
set_option linter.unusedSectionVars false
open Go.RowKit
/-! ### What holds of every disk -/
def ArmOk (a : Int) : Prop := 0 ≤ a ∧ a < 9223372036854775808
structure Inv4 (s : DS) : Prop where
  inv : InvN 256 s.1
  nmd : Named s.1
  late : Late s.1 s.2.1
  arm : ArmOk s.2.2.1
theorem late_mput {fs : FSt} {l x : List UInt8} {v : List UInt8 × Int} (h : Late fs l) : Late (mput fs x v) l := by
  rcases h with h | h
  · exact .inl h
  · right; rw [mget_mput]; split
    · rfl
    · exact h
theorem late_put {fs : FSt} {x : List UInt8} {v : List UInt8 × Int} : Late (mput fs x v) x := by
  right; rw [mget_mput, if_pos rfl]; rfl
theorem fails_arm {l : List UInt8} {a : Int} {d : Bool} (h : ArmOk a) : ArmOk (failsM l a d).2.2.1 := by
  unfold failsM
  split
  · exact h
  · obtain ⟨h1, h2⟩ := h
    simp only
    rw [w64 (by omega) (by omega)]
    exact ⟨by omega, by omega⟩
theorem late_create {fs : FSt} {l : List UInt8} {a : Int} {d : Bool} {x : List UInt8} (h : Late fs l) : Late (createM fs l a d x).2.1 (createM fs l a d x).2.2.1 := by
  have hf := fails_late l a d
  unfold createM
  repeat' split
  all_goals first | exact h | (simp only [hf]; exact h) | (simp only [hf]; exact late_mput h)
theorem arm_create {fs : FSt} {l : List UInt8} {a : Int} {d : Bool} {x : List UInt8} (h : ArmOk a) : ArmOk (createM fs l a d x).2.2.2.1 := by
  unfold createM
  repeat' split
  all_goals first | exact h | exact fails_arm h
theorem late_append {fs : FSt} {l : List UInt8} {a : Int} {d : Bool} {x b : List UInt8} (h : Late fs l) : Late (appendM fs l a d x b).2.1 (appendM fs l a d x b).2.2.1 := by
  unfold appendM
  repeat' split
  all_goals first | exact h | exact late_put
theorem arm_append {fs : FSt} {l : List UInt8} {a : Int} {d : Bool} {x b : List UInt8} (h : ArmOk a) : ArmOk (appendM fs l a d x b).2.2.2.1 := by
  unfold appendM
  repeat' split
  all_goals first | exact h | exact fails_arm h
theorem late_sync {fs : FSt} {l : List UInt8} {a : Int} {d : Bool} {x : List UInt8} (h : Late fs l) : Late (syncM fs l a d x).2.1 (syncM fs l a d x).2.2.1 := by
  have hf := fails_late l a d
  unfold syncM
  repeat' split
  all_goals first | exact h | (simp only [hf]; exact h) | (simp only [hf]; exact late_mput h)
theorem arm_sync {fs : FSt} {l : List UInt8} {a : Int} {d : Bool} {x : List UInt8} (h : ArmOk a) : ArmOk (syncM fs l a d x).2.2.2.1 := by
  unfold syncM
  repeat' split
  all_goals first | exact h | exact fails_arm h
theorem late_cut {fs : FSt} {l : List UInt8} {a : Int} {d : Bool} {x : List UInt8} {n : Int} (h : Late fs l) : Late (cutM fs l a d x n).2.1 (cutM fs l a d x n).2.2.1 := by
  have hf := fails_late l a d
  unfold cutM
  repeat' split
  all_goals first | exact h | (simp only [hf]; exact h) | (simp only [hf]; exact late_mput h)
theorem arm_cut {fs : FSt} {l : List UInt8} {a : Int} {d : Bool} {x : List UInt8} {n : Int} (h : ArmOk a) : ArmOk (cutM fs l a d x n).2.2.2.1 := by
  unfold cutM
  repeat' split
  all_goals first | exact h | exact fails_arm h
theorem late_lateM {fs : FSt} (hn : (fs.map (·.1)).Nodup) {l x y : List UInt8} {v : List UInt8 × Int} (h : Late fs l) : Late (mput (mdel fs x) y v) (lateM l x y) := by
  unfold lateM
  by_cases h1 : l = x
  · rw [if_pos h1]; exact late_put
  · rw [if_neg h1]
    by_cases h2 : l = y
    · rw [if_pos h2]; exact .inl rfl
    · rw [if_neg h2]
      rcases h with h | h
      · exact .inl h
      · right
        rw [mget_mput, if_neg (fun e => h2 e.symm), mget_mdel _ _ _ hn, if_neg (fun e => h1 e.symm)]; exact h
theorem late_rename {fs : FSt} (hn : (fs.map (·.1)).Nodup) {l : List UInt8} {a : Int} {d : Bool} {x y : List UInt8} (h : Late fs l) : Late (renameM fs l a d x y).2.1 (renameM fs l a d x y).2.2.1 := by
  have hf := fails_late l a d
  unfold renameM
  repeat' split
  all_goals first | exact h | (simp only [hf]; exact h) | exact late_lateM hn h
theorem arm_rename {fs : FSt} {l : List UInt8} {a : Int} {d : Bool} {x y : List UInt8} (h : ArmOk a) : ArmOk (renameM fs l a d x y).2.2.2.1 := by
  unfold renameM
  repeat' split
  all_goals first | exact h | exact fails_arm h
theorem late_remove {fs : FSt} (hn : (fs.map (·.1)).Nodup) {l : List UInt8} {a : Int} {d : Bool} {x : List UInt8} (h : Late fs l) : Late (removeM fs l a d x).2.1 (removeM fs l a d x).2.2.1 := by
  have hf := fails_late l a d
  unfold removeM
  split
  · exact h
  split
  · exact h
  split
  · simp only [hf]; exact h
  · simp only
    by_cases h1 : l = x
    · rw [if_pos h1]; exact .inl rfl
    · rw [if_neg h1]
      rcases h with h | h
      · exact .inl h
      · right; rw [mget_mdel _ _ _ hn, if_neg (fun e => h1 e.symm)]; exact h
theorem arm_remove {fs : FSt} {l : List UInt8} {a : Int} {d : Bool} {x : List UInt8} (h : ArmOk a) : ArmOk (removeM fs l a d x).2.2.2.1 := by
  unfold removeM
  repeat' split
  all_goals first | exact h | exact fails_arm h
theorem arm_set {n : Int} (h : okI .i64 n) : ArmOk (max n 0) := by
  have h2 := h.2
  have e : IntKind.i64.max = 9223372036854775807 := by decide
  rw [e] at h2
  exact ⟨by omega, by omega⟩
theorem arm0 : ArmOk 0 := ⟨Int.le_refl 0, by decide⟩
theorem inv4_told {s : DS} (h : Inv4 s) {e : OpD} (he : okI .i64 e.2.1) : Inv4 (toldM s e).2 := by
  refine ⟨inv_told h.inv e, named_told h.nmd e, ?_, ?_⟩
  · unfold toldM
    split
    · exact late_create h.late
    split
    · exact late_append h.late
    split
    · exact late_sync h.late
    split
    · exact late_cut h.late
    split
    · exact late_rename h.inv.nd h.late
    split
    · exact late_remove h.inv.nd h.late
    split
    · exact h.late
    split
    · exact .inl rfl
    · exact h.late
  · unfold toldM
    split
    · exact arm_create h.arm
    split
    · exact arm_append h.arm
    split
    · exact arm_sync h.arm
    split
    · exact arm_cut h.arm
    split
    · exact arm_rename h.arm
    split
    · exact arm_remove h.arm
    split
    · exact arm_set he
    split
    · exact arm0
    · exact h.arm
theorem inv4_0 : Inv4 d0 := ⟨inv0 256, fun x hx => by simp [d0] at hx, .inl rfl, ⟨Int.le_refl 0, by decide⟩⟩
/-! ### What is lent -/
theorem Lent_eq {x : List UInt8} (h : x.length < 2 ^ 40) : synodref_Lent.f x = some (x, [201]) := by
  unfold synodref_Lent.f
  rw [rbytes_eq h, Option.bind_some, if_pos (by simp; omega), if_pos (by simp; omega)]
  simp
theorem Kept_eq {k : Nat} {x : List UInt8} (h : x.length < 2 ^ 40) (hk : x.length + 1 ≤ k) : synodref_Kept.f k x [201] x = some true := by
  unfold synodref_Kept.f
  rw [SameBytes_eq (by omega) hk, wi1 (by omega)]
  simp only [Option.bind_some, decide_true, Bool.and_self, if_true]
  have e2 : cut (x ++ [201]) (0 : Int) ((x.length + 1 : Nat) : Int) = x ++ [201] := by
    rw [cut_take, List.take_of_length_le (by simp)]
  rw [if_pos (by simp; omega), e2, if_pos (by simp; omega)]
  simp [List.getD_eq_getElem?_getD]
theorem does_l0 : ∀ (d i k : Nat) (x : List UInt8), i + d = x.length → x.length < 2 ^ 40 → d + 1 ≤ k → synodlaw4_Does.l0 k x (i : Int) = some ()
  | d, i, 0, _, _, _, hk => by omega
  | 0, i, k + 1, x, h, _, _ => by
    simp only [synodlaw4_Does.l0]
    rw [if_neg (by omega)]
  | d + 1, i, k + 1, x, h, hl, hk => by
    simp only [synodlaw4_Does.l0]
    rw [if_pos (by omega), if_pos (by omega), wi1 (by omega)]
    exact does_l0 d (i + 1) k _ (by rw [List.length_set]; omega) (by rw [List.length_set]; omega) (by omega)
theorem does_l1 : ∀ (d i k : Nat) (x : List UInt8), i + d = x.length → x.length < 2 ^ 40 → d + 1 ≤ k → synodlaw4_Does.l1 k x (i : Int) = some ()
  | d, i, 0, _, _, _, hk => by omega
  | 0, i, k + 1, x, h, _, _ => by
    simp only [synodlaw4_Does.l1]
    rw [if_neg (by omega)]
  | d + 1, i, k + 1, x, h, hl, hk => by
    simp only [synodlaw4_Does.l1]
    rw [if_pos (by omega), if_pos (by omega), wi1 (by omega)]
    exact does_l1 d (i + 1) k _ (by rw [List.length_set]; omega) (by rw [List.length_set]; omega) (by omega)
def bothR (t : DS) : Bool × FSt × List UInt8 × Int × Bool × List FileT × Int × Bool × List UInt8 := (true, t.1, t.2.1, t.2.2.1, t.2.2.2, filesM t.1, t.2.2.1, t.2.2.2, t.2.1)
theorem num_v (x : Int) : synodref_Num.v x = x := rfl
theorem does_eq {s : DS} (h : Inv4 s) {e : OpD} (he : smallD e) {k : Nat} (hk : 20000000 ≤ k) (hke : e.2.2.1.length + 300 ≤ k ∧ e.2.2.2.1.length + 300 ≤ k ∧ e.2.2.2.2.length + 300 ≤ k) :
    synodlaw4_Does.f k s.1 s.2.1 s.2.2.1 s.2.2.2 (filesM s.1) s.2.2.1 s.2.2.2 s.2.1 e.1 e.2.1 e.2.2.1 e.2.2.2.1 e.2.2.2.2 = some (bothR (toldM s e).2) := by
  obtain ⟨h1, h2, h3⟩ := he
  obtain ⟨hi, hN, hL, hA⟩ := h
  have hA0 := hA.1
  unfold synodlaw4_Does.f toldM
  by_cases c0 : e.1 = 0
  · rw [if_pos c0, if_pos c0, Create_eq _ _ _ _ _ (by omega) (by omega), Option.bind_some, rcreate_eq hi _ hA0 _ _ (by omega) (by omega), Option.bind_some, num_v]
    unfold outR bothR; simp
  rw [if_neg c0, if_neg c0]
  by_cases c1 : e.1 = 1
  · rw [if_pos c1, if_pos c1, Lent_eq h3, Option.bind_some, Append_eq hi _ _ _ _ _ h3, Option.bind_some, Kept_eq h3 (by omega), Option.bind_some]
    have h0 := does_l0 e.2.2.2.2.length 0 k e.2.2.2.2 (by omega) h3 (by omega)
    rw [show ((0 : Nat) : Int) = 0 from rfl] at h0
    simp only
    rw [h0, Option.bind_some, rappend_eq hi (by decide) _ hA0 _ _ _ h3 (by omega), Option.bind_some, num_v]
    unfold outR bothR; simp
  rw [if_neg c1, if_neg c1]
  by_cases c2 : e.1 = 2
  · rw [if_pos c2, if_pos c2, Sync_eq, Option.bind_some, rsync_eq hi (by decide) _ hA0 _ _ (by omega), Option.bind_some, num_v]
    unfold outR bothR; simp
  rw [if_neg c2, if_neg c2]
  by_cases c3 : e.1 = 3
  · rw [if_pos c3, if_pos c3, Cut_eq, Option.bind_some, rcut_eq hi (by decide) _ hA0 _ _ _ (by omega), Option.bind_some, num_v]
    unfold outR bothR; simp
  rw [if_neg c3, if_neg c3]
  by_cases c4 : e.1 = 4
  · rw [if_pos c4, if_pos c4, Rename_eq _ _ _ _ _ _ (by omega) (by omega), Option.bind_some, rrename_eq hi hN (by decide) hL hA0 _ _ _ (by omega) (by omega) (by omega), Option.bind_some, num_v]
    unfold outR bothR; simp
  rw [if_neg c4, if_neg c4]
  by_cases c5 : e.1 = 5
  · rw [if_pos c5, if_pos c5, Remove_eq, Option.bind_some, rremove_eq hi (by decide) _ hA0 _ _ (by omega), Option.bind_some, num_v]
    unfold outR bothR; simp
  rw [if_neg c5, if_neg c5]
  by_cases c6 : e.1 = 6
  · rw [if_pos c6, if_pos c6]; rfl
  rw [if_neg c6, if_neg c6]
  by_cases c7 : e.1 = 7
  · rw [if_pos c7, if_pos c7, Crash_eq hi, Option.bind_some, rcrash_eq hi (by decide) _ _ _ _ (by omega)]; rfl
  rw [if_neg c7, if_neg c7, Read_eq hi, Option.bind_some, rread_eq hi (by decide) _ _ _ _ (by omega), Option.bind_some, Has_eq]
  have hlen : (readM s.1 e.2.2.1).1.length ≤ 16777216 := by
    unfold readM
    split
    · rename_i hm; exact Nat.le_trans (le_szF (getF_mem hm)) hi.sz
    · simp
  have h0 := does_l1 (readM s.1 e.2.2.1).1.length 0 k (readM s.1 e.2.2.1).1 (by omega) (by omega) (by omega)
  rw [show ((0 : Nat) : Int) = 0 from rfl] at h0
  rw [SameBytes_eq (by omega) (by omega), Option.bind_some, h0, Option.bind_some, show ∀ x, synodref_Num.f x = some x from fun _ => rfl]
  have hb : ((mget s.1 e.2.2.1).isSome == decide ((readM s.1 e.2.2.1).2 = (0 : Int))) = true := by
    unfold readM
    cases (mget s.1 e.2.2.1).isSome <;> rfl
  simp only [decide_true, if_true, Option.bind_some, hb]
  rfl
/-! ### Same -/
theorem same_texts (x : List (List UInt8)) (hl : x.length < 2 ^ 40) : ∀ (d i k : Nat), i + d = x.length → d + 1 ≤ k → synodref_SameTexts.l0 x x k (i : Int) = some (.inl ())
  | d, i, 0, _, hk => by omega
  | 0, i, k + 1, h, _ => by
    simp only [synodref_SameTexts.l0]
    rw [if_neg (by omega)]
  | d + 1, i, k + 1, h, hk => by
    simp only [synodref_SameTexts.l0]
    rw [if_pos (by omega), if_pos (by omega), if_pos (by omega), if_pos trivial, wi1 (by omega)]
    exact same_texts x hl d (i + 1) k (by omega) (by omega)
theorem SameTexts_self {x : List (List UInt8)} (hl : x.length < 2 ^ 40) {k : Nat} (hk : x.length + 1 ≤ k) : synodref_SameTexts.f k x x = some true := by
  have := same_texts x hl x.length 0 k (by omega) hk
  rw [show ((0 : Nat) : Int) = 0 from rfl] at this
  unfold synodref_SameTexts.f
  rw [if_pos rfl, this]; rfl
theorem same_l1 (F : List FileT) (N : List (List UInt8)) (i : Nat) (hi : i < F.length) (hl : (F.getD i dz36).2.1.length < 2 ^ 40) : ∀ (d z k : Nat), z + d = (F.getD i dz36).2.1.length → d + 1 ≤ k → synodlaw4_Same.l1 (F, N, (i : Int)) k (z : Int) = some ()
  | d, z, 0, _, hk => by omega
  | 0, z, k + 1, h, _ => by
    simp only [synodlaw4_Same.l1]
    rw [if_pos (by omega), Int.toNat_natCast, if_neg (by omega)]
  | d + 1, z, k + 1, h, hk => by
    simp only [synodlaw4_Same.l1]
    rw [if_pos (by omega), Int.toNat_natCast, if_pos (by omega), if_pos (by omega), if_pos (by omega), wi1 (by omega)]
    exact same_l1 F N i hi hl d (z + 1) k (by omega) (by omega)
theorem same_l0 : ∀ (d i k : Nat) (F : List FileT) (N : List (List UInt8)), i + d = F.length → F.length = N.length → F.length < 2 ^ 40 → (∀ j, i ≤ j → (F.getD j dz36).2.1.length ≤ 16777216) → d + 16777300 ≤ k → synodlaw4_Same.l0 k F N (i : Int) = some ()
  | d, i, 0, _, _, _, _, _, _, hk => by omega
  | 0, i, k + 1, F, N, h, _, _, _, _ => by
    simp only [synodlaw4_Same.l0]
    rw [if_neg (by omega)]
  | d + 1, i, k + 1, F, N, h, hN, hl, hF, hk => by
    have hi : i < F.length := by omega
    have hd := hF i (Nat.le_refl i)
    have h1 := same_l1 F N i hi (by omega) (F.getD i dz36).2.1.length 0 k (by omega) (by omega)
    rw [show ((0 : Nat) : Int) = 0 from rfl] at h1
    simp only [synodlaw4_Same.l0]
    rw [if_pos (by omega), h1, Option.bind_some, Int.toNat_natCast, if_pos (by omega), if_pos (by simp only [List.length_cons, List.length_nil]; omega), if_pos (by omega), if_pos (by omega), Option.bind_some, wi1 (by omega)]
    refine same_l0 d (i + 1) k _ _ (by rw [List.length_set]; omega) (by rw [List.length_set, List.length_set]; exact hN) (by rw [List.length_set]; exact hl) (fun j hj => ?_) (by omega)
    rw [getD_set_ne (by omega)]
    exact hF j (by omega)
theorem filesM_at {n : Nat} {fs : FSt} (h : InvN n fs) (j : Nat) : ((filesM fs).getD j dz36).2.1.length ≤ 16777216 := by
  by_cases hj : j < (filesM fs).length
  · exact (filesM_mem h _ (getD_mem (d := dz36) hj)).2
  · rw [List.getD_eq_getElem?_getD, List.getElem?_eq_none (by omega)]; simp
theorem same_eq {fs : FSt} (h : InvN 256 fs) (l : List UInt8) (a : Int) (d : Bool) {k : Nat} (hk : 20000000 ≤ k) : synodlaw4_Same.f k fs l a d (filesM fs) a d l = some true := by
  have hln := h.ln
  have hfl := filesM_len fs
  have hkl := keysS_len fs
  have h0 := same_l0 (filesM fs).length 0 k (filesM fs) (keysS fs) (by omega) (by omega) (by omega) (fun j _ => filesM_at h j) (by omega)
  rw [show ((0 : Nat) : Int) = 0 from rfl] at h0
  unfold synodlaw4_Same.f
  rw [Files_eq h (by decide) _ _ _ (by omega), Option.bind_some, SameFiles_M h (by decide) (by omega), Option.bind_some, List_eq h (by decide), Option.bind_some, rlist_eq h (by decide) _ _ _ (by omega), Option.bind_some,
    SameTexts_self (by omega) (by omega), Option.bind_some, h0, Option.bind_some, Option.bind_some, SameFiles_M h (by decide) (by omega), Option.bind_some, Size_eq h, rsize_eq h (by decide) _ _ _ (by omega)]
  simp only [decide_true, Bool.and_self, Bool.true_and, if_true, Option.bind_some, beq_self_eq_true]
  show some ((d == d)) = _
  cases d <;> rfl
end Go.Proofs.Ytkkbgcocpkipjaa
