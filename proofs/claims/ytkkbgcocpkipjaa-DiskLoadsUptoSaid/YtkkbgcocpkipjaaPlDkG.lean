/- Disk: the document's disk does as the program's: its search, its sizes, Create, Append. Conditions: as each says. -/
import Derived.Test.YtkkbgcocpkipjaaPlDkE
import Derived.Test.YtkkbgcocpkipjaaPlSrt
namespace Go.Proofs.Ytkkbgcocpkipjaa
set_option linter.unusedVariables false
set_option linter.unusedSimpArgs false
set_option linter.unusedSectionVars false
open Go.RowKit
theorem filesM_get (fs : FSt) (z : List UInt8) : mget (filesM fs) z = mget fs z := by
  by_cases hx : z ∈ keysS fs
  · have : mget (filesM fs) z = some (getF fs z) := mget_map_some hx
    rw [this, getF]; exact (getD_some (keysS_some hx)).symm
  · have h1 : (mget (filesM fs) z).isSome = false := mget_map_none (F := getF fs) hx
    have h2 : (mget fs z).isSome = false := by
      cases hm : (mget fs z).isSome with
      | false => rfl
      | true => exact absurd ((keysS_perm fs).mem_iff.2 ((mget_key fs z).2 hm)) hx
    cases ha : mget (filesM fs) z with
    | some v => rw [ha] at h1; cases h1
    | none => cases hb : mget fs z with
      | some v => rw [hb] at h2; cases h2
      | none => rfl
theorem filesM_keys (fs : FSt) : (filesM fs).map (·.1) = keysS fs := by
  rw [filesM, List.map_map]; exact List.map_id _
theorem filesM_srt {fs : FSt} (h : (fs.map (·.1)).Nodup) : srt (filesM fs) := by unfold srt; rw [filesM_keys]; exact keysS_strict h
theorem filesM_put_new {fs : FSt} (hp : (fs.map (·.1)).Nodup) {x : List UInt8} {v : List UInt8 × Int} (hm : mget fs x = none) : filesM (mput fs x v) = insM (filesM fs) x v :=
  srt_eq (filesM_srt (mput_nodup hp)) (srt_insM _ _ _ (filesM_srt hp) (by rw [filesM_get]; exact hm)) fun z => by rw [filesM_get, mget_mput, mget_insM, filesM_get]
theorem filesM_put_old {fs : FSt} (hp : (fs.map (·.1)).Nodup) {x : List UInt8} {v : List UInt8 × Int} (hm : (mget fs x).isSome = true) : filesM (mput fs x v) = mput (filesM fs) x v :=
  srt_eq (filesM_srt (mput_nodup hp)) (srt_mput (filesM_srt hp) (by rw [filesM_get, hm])) fun z => by rw [filesM_get, mget_mput, mget_mput, filesM_get]
theorem filesM_del {fs : FSt} (hp : (fs.map (·.1)).Nodup) (x : List UInt8) : filesM (mdel fs x) = mdel (filesM fs) x :=
  srt_eq (filesM_srt (hp.sublist ((mdel_sub fs x).map _))) (srt_mdel (filesM_srt hp) x) fun z => by rw [filesM_get, mget_mdel _ _ _ hp, mget_mdel _ _ _ (srt_nodup (filesM_srt hp)), filesM_get]
theorem filesM_eqv (fs : FSt) : Eqv (filesM fs) fs := filesM_get fs
theorem filesM_sz {fs : FSt} (h : (fs.map (·.1)).Nodup) : szF (filesM fs) = szF fs := (filesM_eqv fs).szF (srt_nodup (filesM_srt h)) h
theorem filesM_low {fs : FSt} (h : (fs.map (·.1)).Nodup) {x : List UInt8} (hm : (mget fs x).isSome = true) : (filesM fs)[low (filesM fs) x]? = some (x, getF fs x) :=
  low_some (filesM_srt h) (by rw [filesM_get, getF]; exact getD_some hm)
theorem filesM_set {fs : FSt} (h : (fs.map (·.1)).Nodup) {x : List UInt8} {v : List UInt8 × Int} (hm : (mget fs x).isSome = true) : (filesM fs).set (low (filesM fs) x) (x, v) = filesM (mput fs x v) := by
  rw [filesM_put_old h hm, mput_eq _ _ _ _ (filesM_low h hm)]
/-! ### Its search -/
theorem rat_some {F : List FileT} (hl : F.length < 2 ^ 60) {x : List UInt8} {u : List UInt8 × Int} (hu : F[low F x]? = some (x, u)) : ∀ (d i k : Nat), i + d = low F x → d + 1 ≤ k → synodref4_Disk_at.l0 F x k (i : Int) = some (.inr ((low F x : Nat) : Int))
  | d, i, 0, _, hk => by omega
  | 0, i, k + 1, h, _ => by
    have hi : i = low F x := by omega
    have hlt := lt_of_get hu
    simp only [synodref4_Disk_at.l0]
    rw [if_pos (by omega), if_pos (by omega), Int.toNat_natCast, hi, getD_of hu, if_pos rfl]
  | d + 1, i, k + 1, h, hk => by
    have hlt := lt_of_get hu
    have hi : i < F.length := by omega
    simp only [synodref4_Disk_at.l0]
    have h1 := low_lt F x i _ (by omega) (get_of_lt hi dz36)
    have hne : ¬ (F.getD i dz36).1 = x := fun e => by rw [e] at h1; exact List.lt_irrefl x h1
    rw [if_pos (by omega), if_pos (by omega), Int.toNat_natCast, if_neg hne, wi1 (by omega)]
    exact rat_some hl hu d (i + 1) k (by omega) (by omega)
theorem rat_none {F : List FileT} (hl : F.length < 2 ^ 60) {x : List UInt8} (hx : mget F x = none) : ∀ (d i k : Nat), i + d = F.length → d + 1 ≤ k → synodref4_Disk_at.l0 F x k (i : Int) = some (.inl ())
  | d, i, 0, _, hk => by omega
  | 0, i, k + 1, h, _ => by
    simp only [synodref4_Disk_at.l0]
    rw [if_neg (by omega)]
  | d + 1, i, k + 1, h, hk => by
    have hi : i < F.length := by omega
    simp only [synodref4_Disk_at.l0]
    have hne : ¬ (F.getD i dz36).1 = x := fun e => by
      have : x ∈ F.map (·.1) := List.mem_map.2 ⟨_, getD_mem (d := dz36) hi, e⟩
      have := (mget_key F x).1 this
      rw [hx] at this; cases this
    rw [if_pos (by omega), if_pos (by omega), Int.toNat_natCast, if_neg hne, wi1 (by omega)]
    exact rat_none hl hx d (i + 1) k (by omega) (by omega)
def atM (fs : FSt) (x : List UInt8) : Int := if (mget fs x).isSome = true then ((low (filesM fs) x : Nat) : Int) else -1
theorem rat_eq {n : Nat} {fs : FSt} (h : InvN n fs) (hn : n < 2 ^ 40) (a : Int) (d : Bool) (l x : List UInt8) {k : Nat} (hk : n + 2 ≤ k) : synodref4_Disk_at.f k (filesM fs) a d l x = some (atM fs x) := by
  have hln := h.ln
  have hfl := filesM_len fs
  unfold synodref4_Disk_at.f atM
  cases hm : (mget fs x).isSome with
  | true =>
    have hlow := filesM_low h.nd hm
    have := rat_some (F := filesM fs) (by omega) hlow (low (filesM fs) x) 0 k (by omega) (by have := lt_of_get hlow; omega)
    rw [show ((0 : Nat) : Int) = 0 from rfl] at this
    rw [this]; simp [orR]
  | false =>
    have hx : mget (filesM fs) x = none := by
      rw [filesM_get]; cases hq : mget fs x with
      | none => rfl
      | some v => rw [hq] at hm; cases hm
    have := rat_none (F := filesM fs) (by omega) hx (filesM fs).length 0 k (by omega) (by omega)
    rw [show ((0 : Nat) : Int) = 0 from rfl] at this
    rw [this]; simp [orR]
theorem rsize_loop (F : List FileT) (hl : F.length < 2 ^ 60) (hs : szF F < 2 ^ 60) : ∀ (d i k z : Nat), i + d = F.length → d + 1 ≤ k → z + szF (F.drop i) < 2 ^ 61 → synodref4_Disk_Size.l0 F k (z : Int) (i : Int) = some (((z + szF (F.drop i) : Nat)) : Int)
  | d, i, 0, z, _, hk, _ => by omega
  | 0, i, k + 1, z, h, _, _ => by
    simp only [synodref4_Disk_Size.l0]
    rw [if_neg (by omega), List.drop_of_length_le (by omega)]; rfl
  | d + 1, i, k + 1, z, h, hk, hz => by
    have hi : i < F.length := by omega
    have ed := drop_at F dz36 hi
    rw [ed, szF_cons] at hz
    simp only [synodref4_Disk_Size.l0]
    rw [if_pos (by omega), if_pos (by omega), Int.toNat_natCast, wi1 (by omega), w64 (by omega) (by omega), ed, szF_cons]
    have := rsize_loop F hl hs d (i + 1) k (z + (F.getD i dz36).2.1.length) (by omega) (by omega) (by omega)
    rw [show (z : Int) + ((F.getD i dz36).2.1.length : Int) = ((z + (F.getD i dz36).2.1.length : Nat) : Int) by omega, this]
    congr 2; omega
theorem rsize_eq {n : Nat} {fs : FSt} (h : InvN n fs) (hn : n < 2 ^ 40) (a : Int) (d : Bool) (l : List UInt8) {k : Nat} (hk : n + 2 ≤ k) : synodref4_Disk_Size.f k (filesM fs) a d l = some (szF fs : Int) := by
  have hln := h.ln
  have hfl := filesM_len fs
  have hsz := h.sz
  have e := filesM_sz h.nd
  unfold synodref4_Disk_Size.f
  have := rsize_loop (filesM fs) (by omega) (by omega) (filesM fs).length 0 k 0 (by omega) (by omega) (by rw [List.drop_zero]; omega)
  rw [List.drop_zero, e, Nat.zero_add] at this
  rw [show synodref4_Disk_Size.l0 (filesM fs) k 0 0 = _ from this]; rfl
theorem rname_loop (x : List UInt8) (hl : x.length < 2 ^ 62) : ∀ (d i k : Nat), i + d = x.length → d + 1 ≤ k → synodref4_Name.l0 x k (i : Int) = some (if (x.drop i).all (fun c => !badC c) then .inl () else .inr false)
  | d, i, 0, _, hk => by omega
  | 0, i, k + 1, h, _ => by
    simp only [synodref4_Name.l0]
    rw [if_neg (by omega), List.drop_of_length_le (by omega)]; rfl
  | d + 1, i, k + 1, h, hk => by
    simp only [synodref4_Name.l0]
    rw [if_pos (by omega), if_pos (by omega), wi1 (by omega), rname_loop x hl d (i + 1) k (by omega) (by omega), drop_at x 0 (i := i) (by omega)]
    simp only [Int.toNat_natCast, List.all_cons]
    obtain ⟨c, hc⟩ : ∃ c, x.getD i 0 = c := ⟨_, rfl⟩
    simp only [hc]
    have e : ((if ((decide (((c.toNat : Int)) < (97 : Int))) || (decide ((122 : Int) < (c.toNat : Int)))) = true then (some ((decide ((c.toNat : Int) < (48 : Int))) || (decide ((57 : Int) < (c.toNat : Int))))) else (some false)) : Option Bool) = some (((decide (((c.toNat : Int)) < (97 : Int))) || (decide ((122 : Int) < (c.toNat : Int)))) && ((decide ((c.toNat : Int) < (48 : Int))) || (decide ((57 : Int) < (c.toNat : Int))))) := by
      cases ((decide (((c.toNat : Int)) < (97 : Int))) || (decide ((122 : Int) < (c.toNat : Int)))) <;> rfl
    rw [e, Option.bind_some]
    show (if badC c = true then _ else _) = _
    cases badC c <;> rfl
theorem rname_eq {x : List UInt8} {k : Nat} (hl : x.length < 2 ^ 62) (hk : x.length + 1 ≤ k) : synodref4_Name.f k x = some (nmB x) := by
  unfold synodref4_Name.f nmB
  have := rname_loop x hl x.length 0 k (by omega) (by omega)
  rw [show ((0 : Nat) : Int) = 0 from rfl, List.drop_zero] at this
  rw [this]
  have e : decide ((1 : Int) ≤ (x.length : Int)) = decide ((0 : Int) < (x.length : Int)) := by rw [decide_eq_decide]; omega
  rw [e]
  cases x.all fun c => !badC c <;> rfl
theorem rfails_eq (F : List FileT) {a : Int} (ha : 0 ≤ a) (d : Bool) (l : List UInt8) : synodref4_Disk_fails.f F a d l = some ((failsM l a d).1, (failsM l a d).2.2.1, (failsM l a d).2.2.2, l) := by
  unfold synodref4_Disk_fails.f failsM
  by_cases h : a = 0
  · rw [if_pos h, if_pos (by omega)]
  · rw [if_neg h, if_neg (by omega)]
/-! ### Create -/
theorem rput_loop (F : List FileT) (hl : F.length < 2 ^ 60) (x : List UInt8) : ∀ (d i k : Nat), i + d = low F x → d + 1 ≤ k → synodref4_Disk_put.l0 F x k (i : Int) = some ((low F x : Nat) : Int)
  | d, i, 0, _, hk => by omega
  | 0, i, k + 1, h, _ => by
    have hi : i = low F x := by omega
    simp only [synodref4_Disk_put.l0]
    have e : ((if (i : Int) < (F.length : Int) then (if 0 ≤ (i : Int) ∧ (i : Int) < (F.length : Int) then (some (Op.bytesLess ((F.getD (i : Int).toNat dz36).1) x)) else none) else (some false)) : Option Bool) = some false := by
      by_cases hlt : (i : Int) < (F.length : Int)
      · have := low_at F x _ (by rw [← hi]; exact get_of_lt (by omega) dz36)
        rw [if_pos hlt, if_pos ⟨by omega, hlt⟩, Int.toNat_natCast, bytesLess_iff, decide_eq_false this]
      · rw [if_neg hlt]
    rw [e, Option.bind_some, if_neg (by simp), hi]
  | d + 1, i, k + 1, h, hk => by
    have hle := low_le F x
    have hlt : (i : Int) < (F.length : Int) := by omega
    simp only [synodref4_Disk_put.l0]
    have := low_lt F x i _ (by omega) (get_of_lt (by omega) dz36)
    rw [if_pos hlt, if_pos ⟨by omega, hlt⟩, Int.toNat_natCast, bytesLess_iff, decide_eq_true this, Option.bind_some, if_pos rfl, wi1 (by omega)]
    exact rput_loop F hl x d (i + 1) k (by omega) (by omega)
theorem rput_eq (F : List FileT) (hl : F.length < 2 ^ 40) (a : Int) (d : Bool) (l x : List UInt8) (v : List UInt8 × Int) {k : Nat} (hk : F.length + 1 ≤ k) : synodref4_Disk_put.f k F a d l x v.1 v.2 = some (insM F x v, a, d, l) := by
  have hle := low_le F x
  unfold synodref4_Disk_put.f
  have := rput_loop F (by omega) x (low F x) 0 k (by omega) (by omega)
  rw [show ((0 : Nat) : Int) = 0 from rfl] at this
  rw [this, Option.bind_some, if_pos ⟨by omega, by omega, by omega⟩, cut_take, cut_drop F (low F x) F.length rfl, if_pos (by simp; omega), if_pos (by simp; omega), if_pos ⟨by omega, by omega, by omega⟩, if_pos (by simp; omega), insM_eq]
  simp
def outR (r : Int × DS) : Int × List FileT × Int × Bool × List UInt8 := (r.1, filesM r.2.1, r.2.2.2.1, r.2.2.2.2, r.2.2.1)
theorem rcreate_eq {fs : FSt} (h : InvN 256 fs) (l : List UInt8) {a : Int} (ha : 0 ≤ a) (d : Bool) (x : List UInt8) {k : Nat} (hl : x.length < 2 ^ 62) (hk : x.length + 300 ≤ k) : synodref4_Disk_Create.f k (filesM fs) a d l x = some (outR (createM fs l a d x)) := by
  have hln := h.ln
  have hfl := filesM_len fs
  unfold synodref4_Disk_Create.f createM
  rw [rname_eq hl (by omega), rat_eq h (by decide) _ _ _ _ (by omega), rfails_eq _ ha]
  simp only [Option.bind_some, hfl]
  have hf := fails_late l a d
  cases d with
  | true => rfl
  | false =>
    cases hn : nmB x with
    | false => rfl
    | true =>
      simp only [Bool.not_true, Bool.false_eq_true, if_false, Bool.true_eq_false]
      cases hm : (mget fs x).isSome with
      | true =>
        have e : (0 : Int) ≤ atM fs x := by unfold atM; rw [if_pos hm]; omega
        rw [if_pos e, if_pos rfl]; rfl
      | false =>
        have e : ¬ (0 : Int) ≤ atM fs x := by unfold atM; rw [hm]; simp
        rw [if_neg e]
        simp only [Bool.false_eq_true, if_false]
        by_cases h6 : (256 : Int) ≤ (fs.length : Int)
        · rw [if_pos h6, if_pos h6]; rfl
        · rw [if_neg h6, if_neg h6]
          by_cases h7 : (failsM l a false).1 = true
          · rw [if_pos h7, if_pos h7]
            unfold outR; simp only [hf]
          · rw [if_neg h7, if_neg h7]
            have := rput_eq (filesM fs) (by omega) (failsM l a false).2.2.1 (failsM l a false).2.2.2 l x ([], 0) (k := k) (by omega)
            simp only at this
            rw [this]
            have hx : mget fs x = none := by cases hq : mget fs x with
              | none => rfl
              | some v => rw [hq] at hm; cases hm
            unfold outR; simp only [hf, filesM_put_new h.nd hx, Option.bind_some]
theorem rbytes_eq {x : List UInt8} (h : x.length < 2 ^ 40) : synodref_Bytes.f x = some x := by
  unfold synodref_Bytes.f
  rw [if_pos (by simp; omega)]; rfl
theorem rappend_eq {n : Nat} {fs : FSt} (h : InvN n fs) (hn : n < 2 ^ 40) (l : List UInt8) {a : Int} (ha : 0 ≤ a) (d : Bool) (x b : List UInt8) (hb : b.length < 2 ^ 40) {k : Nat} (hk : n + 2 ≤ k) : synodref4_Disk_Append.f k (filesM fs) a d l x b = some (outR (appendM fs l a d x b)) := by
  have hsz := h.sz
  have hf := fails_late x a d
  have hf2 : (failsM x a d).1 = (failsM l a d).1 ∧ (failsM x a d).2.2 = (failsM l a d).2.2 := by unfold failsM; split <;> exact ⟨rfl, rfl⟩
  unfold synodref4_Disk_Append.f appendM
  rw [rat_eq h hn _ _ _ _ hk, rsize_eq h hn _ _ _ hk, rfails_eq _ ha, hf2.1, hf2.2]
  simp only [Option.bind_some]
  cases d with
  | true => cases (mget fs x).isSome <;> rfl
  | false =>
    cases hm : (mget fs x).isSome with
    | false =>
      have e : atM fs x < (0 : Int) := by unfold atM; rw [hm]; simp
      rw [if_pos e]; rfl
    | true =>
      have hat : atM fs x = ((low (filesM fs) x : Nat) : Int) := by unfold atM; rw [if_pos hm]
      have hlow := filesM_low h.nd hm
      have hlt := lt_of_get hlow
      have hlen : (getF fs x).1.length ≤ 16777216 := Nat.le_trans (le_szF (getF_mem hm)) hsz
      have c1 : 0 ≤ ((low (filesM fs) x : Nat) : Int) ∧ ((low (filesM fs) x : Nat) : Int) < ((filesM fs).length : Int) := by omega
      rw [hat, w64 (n := 16777216 - (szF fs : Int)) (by omega) (by omega), half_eq b (by omega)]
      simp only [Bool.false_eq_true, if_false, if_true]
      rw [if_neg (by omega)]
      by_cases hs : 16777216 - (szF fs : Int) < (b.length : Int)
      · rw [if_pos hs, if_pos hs]; rfl
      · rw [if_neg hs, if_neg hs]
        simp only [Int.toNat_natCast, getD_of hlow]
        rw [rbytes_eq (by omega)]
        simp only [Option.bind_some]
        by_cases h7 : (failsM l a false).1 = true
        · rw [if_pos h7, if_pos h7, if_pos c1, if_pos ⟨by omega, by omega, by omega⟩, cut_take, if_pos (by simp only [List.length_take]; omega)]
          simp only [c1, and_self, if_true]
          have := filesM_set h.nd (v := ((getF fs x).1 ++ b.take (b.length / 2), (getF fs x).2)) hm
          rw [this]; rfl
        · rw [if_neg h7, if_neg h7, if_pos c1, if_pos (by omega)]
          simp only [c1, and_self, if_true]
          have := filesM_set h.nd (v := ((getF fs x).1 ++ b, (getF fs x).2)) hm
          rw [this]; rfl
end Go.Proofs.Ytkkbgcocpkipjaa
