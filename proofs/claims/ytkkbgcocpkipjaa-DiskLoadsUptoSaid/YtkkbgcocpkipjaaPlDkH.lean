/- Disk: the document's disk does as the program's: Sync, Cut, Rename, Remove, Crash, Read, List. Conditions: as each says. -/
import Derived.Test.YtkkbgcocpkipjaaPlDkG
namespace Go.Proofs.Ytkkbgcocpkipjaa
set_option linter.unusedVariables false
set_option linter.unusedSimpArgs false
set_option linter.unusedSectionVars false
open Go.RowKit
theorem getD_set {F : List FileT} {i : Nat} (hi : i < F.length) (v d : FileT) : (F.set i v).getD i d = v := by
  rw [List.getD_eq_getElem?_getD, List.getElem?_set, if_pos rfl, if_pos hi]; rfl
theorem getD_set_ne {α : Type} {F : List α} {i j : Nat} (hi : i ≠ j) (v d : α) : (F.set i v).getD j d = F.getD j d := by
  rw [List.getD_eq_getElem?_getD, List.getElem?_set, if_neg hi, List.getD_eq_getElem?_getD]
theorem rsync_eq {n : Nat} {fs : FSt} (h : InvN n fs) (hn : n < 2 ^ 40) (l : List UInt8) {a : Int} (ha : 0 ≤ a) (d : Bool) (x : List UInt8) {k : Nat} (hk : n + 2 ≤ k) : synodref4_Disk_Sync.f k (filesM fs) a d l x = some (outR (syncM fs l a d x)) := by
  have hf := fails_late l a d
  unfold synodref4_Disk_Sync.f syncM
  rw [rat_eq h hn _ _ _ _ hk, rfails_eq _ ha]
  simp only [Option.bind_some]
  cases d with
  | true => cases (mget fs x).isSome <;> rfl
  | false =>
    cases hm : (mget fs x).isSome with
    | false =>
      have e : atM fs x < (0 : Int) := by unfold atM; rw [hm]; simp
      rw [if_pos e]; rfl
    | true =>
      have hat : atM fs x = ((low (filesM fs) x : Nat) : Int) := by unfold atM; rw [if_pos hm]
      have hlow := filesM_low h.nd hm
      have hlt := lt_of_get hlow
      have c1 : 0 ≤ ((low (filesM fs) x : Nat) : Int) ∧ ((low (filesM fs) x : Nat) : Int) < ((filesM fs).length : Int) := by omega
      rw [hat]
      simp only [Bool.false_eq_true, if_false, if_true]
      rw [if_neg (by omega)]
      by_cases h7 : (failsM l a false).1 = true
      · rw [if_pos h7, if_pos h7]; unfold outR; simp only [hf]
      · rw [if_neg h7, if_neg h7]
        simp only [Int.toNat_natCast, getD_of hlow, c1, and_self, if_true]
        have := filesM_set h.nd (v := ((getF fs x).1, ((getF fs x).1.length : Int))) hm
        rw [this]; unfold outR; simp only [hf]
theorem rcut_eq {n : Nat} {fs : FSt} (h : InvN n fs) (hn : n < 2 ^ 40) (l : List UInt8) {a : Int} (ha : 0 ≤ a) (d : Bool) (x : List UInt8) (m : Int) {k : Nat} (hk : n + 2 ≤ k) : synodref4_Disk_Cut.f k (filesM fs) a d l x m = some (outR (cutM fs l a d x m)) := by
  have hf := fails_late l a d
  have hsz := h.sz
  unfold synodref4_Disk_Cut.f cutM
  rw [rat_eq h hn _ _ _ _ hk, rfails_eq _ ha]
  simp only [Option.bind_some]
  cases d with
  | true => cases (mget fs x).isSome <;> rfl
  | false =>
    cases hm : (mget fs x).isSome with
    | false =>
      have e : atM fs x < (0 : Int) := by unfold atM; rw [hm]; simp
      rw [if_pos e]; rfl
    | true =>
      have hat : atM fs x = ((low (filesM fs) x : Nat) : Int) := by unfold atM; rw [if_pos hm]
      have hlow := filesM_low h.nd hm
      have hlt := lt_of_get hlow
      have hlen : (getF fs x).1.length ≤ 16777216 := Nat.le_trans (le_szF (getF_mem hm)) hsz
      have c1 : 0 ≤ ((low (filesM fs) x : Nat) : Int) ∧ ((low (filesM fs) x : Nat) : Int) < ((filesM fs).length : Int) := by omega
      have e1 : ((if m < (0 : Int) then (some true) else (if 0 ≤ ((low (filesM fs) x : Nat) : Int) ∧ ((low (filesM fs) x : Nat) : Int) < ((filesM fs).length : Int) then (some (decide (((((filesM fs).getD ((low (filesM fs) x : Nat) : Int).toNat dz36).2.1).length : Int) < m))) else none)) : Option Bool) = some (decide (m < 0 ∨ ((getF fs x).1.length : Int) < m)) := by
        simp only [Int.toNat_natCast, getD_of hlow, c1, and_self, if_true]
        by_cases hm0 : m < 0
        · rw [if_pos hm0]; simp [hm0]
        · rw [if_neg hm0]; simp [hm0]
      rw [hat, e1]
      simp only [Bool.false_eq_true, if_false, if_true, Option.bind_some, decide_eq_true_eq]
      rw [if_neg (by omega)]
      by_cases hr : m < 0 ∨ ((getF fs x).1.length : Int) < m
      · rw [if_pos hr, if_pos hr]; rfl
      · rw [if_neg hr, if_neg hr]
        by_cases h7 : (failsM l a false).1 = true
        · rw [if_pos h7, if_pos h7]; unfold outR; simp only [hf]
        · rw [if_neg h7, if_neg h7]
          have hr1 : 0 ≤ m := by omega
          have hr2 : m ≤ ((getF fs x).1.length : Int) := by omega
          have ec : cut (getF fs x).1 (0 : Int) m = (getF fs x).1.take m.toNat := by simp [cut]
          simp only [Int.toNat_natCast, getD_of hlow, c1, and_self, if_true, ec]
          rw [if_pos ⟨by omega, hr1, hr2⟩, rbytes_eq (by simp only [List.length_take]; omega)]
          simp only [Option.bind_some, getD_set hlt, List.set_set, List.length_set, c1, and_self, if_true]
          have := filesM_set h.nd (v := ((getF fs x).1.take m.toNat, min (getF fs x).2 m)) hm
          rw [this]; unfold outR; simp only [hf]
theorem rtake_eq {n : Nat} {fs : FSt} (h : InvN n fs) (hn : n < 2 ^ 40) (l : List UInt8) (a : Int) (d : Bool) {x : List UInt8} (hm : (mget fs x).isSome = true) :
    synodref4_Disk_take.f (filesM fs) a d l ((low (filesM fs) x : Nat) : Int) = some (x, (getF fs x).1, (getF fs x).2, filesM (mdel fs x), a, d, l) := by
  have hlow := filesM_low h.nd hm
  have hlt := lt_of_get hlow
  have hln := h.ln
  have hfl := filesM_len fs
  have hdel : filesM (mdel fs x) = (filesM fs).take (low (filesM fs) x) ++ (filesM fs).drop (low (filesM fs) x + 1) := by
    rw [filesM_del h.nd x]; exact mdel_eq _ _ _ hlow
  unfold synodref4_Disk_take.f
  have w : IntKind.i64.wrap (((low (filesM fs) x : Nat) : Int) + 1) = ((low (filesM fs) x + 1 : Nat) : Int) := wi1 (by omega)
  rw [w, cut_take, cut_drop _ _ _ rfl]
  simp only [Int.toNat_natCast, getD_of hlow, List.nil_append, List.length_nil, List.length_take, List.length_drop]
  rw [if_pos (by omega), if_pos (by omega), if_pos (by omega), if_pos (by omega), if_pos (by omega), hdel]
theorem at_low {fs : FSt} {x : List UInt8} (hm : (mget fs x).isSome = true) : atM fs x = ((low (filesM fs) x : Nat) : Int) := by unfold atM; rw [if_pos hm]
theorem rremove_eq {n : Nat} {fs : FSt} (h : InvN n fs) (hn : n < 2 ^ 40) (l : List UInt8) {a : Int} (ha : 0 ≤ a) (d : Bool) (x : List UInt8) {k : Nat} (hk : n + 2 ≤ k) : synodref4_Disk_Remove.f k (filesM fs) a d l x = some (outR (removeM fs l a d x)) := by
  have hf := fails_late l a d
  unfold synodref4_Disk_Remove.f removeM
  rw [rat_eq h hn _ _ _ _ hk, rfails_eq _ ha]
  simp only [Option.bind_some]
  cases d with
  | true => rfl
  | false =>
    cases hm : (mget fs x).isSome with
    | false =>
      have e : atM fs x < (0 : Int) := by unfold atM; rw [hm]; simp
      rw [if_pos e]; rfl
    | true =>
      rw [at_low hm, rtake_eq h hn _ _ _ hm]
      simp only [Bool.false_eq_true, if_false, if_true, Bool.true_eq_false, Option.bind_some]
      rw [if_neg (by omega)]
      by_cases h7 : (failsM l a false).1 = true
      · rw [if_pos h7, if_pos h7]; unfold outR; simp only [hf]
      · rw [if_neg h7, if_neg h7]
        unfold outR
        split <;> rfl
def Late (fs : FSt) (l : List UInt8) : Prop := l = [] ∨ (mget fs l).isSome = true
theorem nmB_ne {y : List UInt8} (h : nmB y = true) : y ≠ [] := by
  rintro rfl; simp [nmB] at h
theorem rrename_eq {n : Nat} {fs : FSt} (h : InvN n fs) (hN : Named fs) (hn : n < 2 ^ 40) {l : List UInt8} (hl : Late fs l) {a : Int} (ha : 0 ≤ a) (d : Bool) (x y : List UInt8) (hy : y.length < 2 ^ 62) {k : Nat} (hk : n + 2 ≤ k) (hky : y.length + 1 ≤ k) : synodref4_Disk_Rename.f k (filesM fs) a d l x y = some (outR (renameM fs l a d x y)) := by
  have hf := fails_late l a d
  have hln := h.ln
  unfold synodref4_Disk_Rename.f renameM
  rw [rat_eq h hn _ _ _ _ hk, rname_eq hy hky, rfails_eq _ ha]
  simp only [Option.bind_some]
  cases d with
  | true => cases (mget fs x).isSome <;> rfl
  | false =>
    cases hm : (mget fs x).isSome with
    | false =>
      have e : atM fs x < (0 : Int) := by unfold atM; rw [hm]; simp
      rw [if_pos e]; rfl
    | true =>
      simp only [Bool.false_eq_true, if_false, if_true]
      rw [at_low hm, if_neg (by omega)]
      cases hb : nmB y with
      | false => rfl
      | true =>
        simp only [Bool.not_true, Bool.false_eq_true, if_false, Bool.true_eq_false]
        by_cases h7 : (failsM l a false).1 = true
        · rw [if_pos h7, if_pos h7]; unfold outR; simp only [hf]
        · rw [if_neg h7, if_neg h7]
          by_cases hxy : x = y
          · rw [if_pos hxy, if_pos hxy]; unfold outR; simp only [hf]
          · rw [if_neg hxy, if_neg hxy, rat_eq h hn _ _ _ _ hk, at_low hm]
            simp only [Option.bind_some]
            rw [rtake_eq h hn _ _ _ hm]
            simp only [Option.bind_some]
            have hd := inv_mdel h x
            rw [rat_eq hd hn _ _ _ _ hk]
            simp only [Option.bind_some]
            have hyne := nmB_ne hb
            have hxne := nmB_ne (named_in hN hm)
            have hnd2 : ((mdel (mdel fs x) y).map (·.1)).Nodup := (inv_mdel hd y).nd
            have hmy : (mget (mdel fs x) y).isSome = (mget fs y).isSome := by rw [mget_mdel _ _ _ h.nd, if_neg hxy]
            have hput : ∀ gs : FSt, (gs.map (·.1)).Nodup → gs.length < 2 ^ 40 → Eqv gs (mdel (mdel fs x) y) → ∀ l' : List UInt8, synodref4_Disk_put.f k (filesM gs) (failsM l a false).2.2.1 (failsM l a false).2.2.2 l' y (getF fs x).1 (getF fs x).2 = some (filesM (mput (mdel fs x) y (getF fs x)), (failsM l a false).2.2.1, (failsM l a false).2.2.2, l') := fun gs hg hgl he l' => by
              have hgn : mget gs y = none := by rw [he y, mget_mdel _ _ _ hd.nd, if_pos rfl]
              have hlen : gs.length ≤ n := by
                rw [he.len hg hnd2]
                exact (inv_mdel hd y).ln
              rw [rput_eq (filesM gs) (by rw [filesM_len]; exact hgl) _ _ _ _ (getF fs x) (by rw [filesM_len]; omega), ← filesM_put_new hg hgn]
              have e : filesM (mput gs y (getF fs x)) = filesM (mput (mdel fs x) y (getF fs x)) := by
                refine Eqv.files (fun z => ?_) (mput_nodup hg) (mput_nodup hd.nd)
                rw [mget_mput, mget_mput, he z, mget_mdel _ _ _ hd.nd]
                by_cases hz : y = z
                · rw [if_pos hz, if_pos hz]
                · rw [if_neg hz, if_neg hz, if_neg hz]
              rw [e]
            cases hys : (mget fs y).isSome with
            | true =>
              rw [hys] at hmy
              rw [at_low hmy, if_pos (by omega)]
              rw [rtake_eq hd hn _ _ _ hmy]
              simp only [Option.bind_some]
              have hp := hput (mdel (mdel fs x) y) hnd2 (by have := (inv_mdel hd y).ln; omega) (fun _ => rfl)
              by_cases c1 : l = y
              · rw [if_pos c1, Option.bind_some]
                simp only
                rw [if_neg (fun e => hxne e.symm), Option.bind_some, hp, Option.bind_some]
                unfold outR lateM
                rw [if_neg (fun e => hxy (by rw [← e, c1])), if_pos c1]
              · rw [if_neg c1, Option.bind_some]
                simp only
                by_cases c2 : l = x
                · rw [if_pos c2, Option.bind_some, hp, Option.bind_some]
                  unfold outR lateM
                  rw [if_pos c2]
                · rw [if_neg c2, Option.bind_some, hp, Option.bind_some]
                  unfold outR lateM
                  rw [if_neg c2, if_neg c1]
            | false =>
              rw [hys] at hmy
              have e : ¬ (0 : Int) ≤ atM (mdel fs x) y := by unfold atM; rw [hmy]; simp
              rw [if_neg e, Option.bind_some]
              have hpe : Eqv (mdel fs x) (mdel (mdel fs x) y) := fun z => by
                rw [mget_mdel _ _ _ hd.nd]
                by_cases hz : y = z
                · rw [if_pos hz, ← hz]
                  cases hq : mget (mdel fs x) y with
                  | none => rfl
                  | some v => rw [hq] at hmy; cases hmy
                · rw [if_neg hz]
              have hp := hput (mdel fs x) hd.nd (by have := hd.ln; omega) hpe
              have c1 : l ≠ y := by
                rintro rfl
                rcases hl with h0 | h0
                · exact hyne h0
                · rw [hys] at h0; cases h0
              simp only
              by_cases c2 : l = x
              · rw [if_pos c2, Option.bind_some, hp, Option.bind_some]
                unfold outR lateM
                rw [if_pos c2]
              · rw [if_neg c2, Option.bind_some, hp, Option.bind_some]
                unfold outR lateM
                rw [if_neg c2, if_neg c1]
/-! ### A crash -/
def crG (l : List UInt8) (keep : Int) (p : FileT) : FileT := (p.1, crF l keep p.1 p.2)
theorem rcrash_loop (F : List FileT) (l : List UInt8) (keep : Int) (hF : ∀ p ∈ F, (0 ≤ p.2.2 ∧ p.2.2 ≤ (p.2.1.length : Int)) ∧ p.2.1.length ≤ 16777216) (hl : F.length < 2 ^ 40) : ∀ (d i k : Nat), i + d = F.length → d + 1 ≤ k →
    synodref4_Disk_Crash.l0 l keep k (i : Int) ((F.take i).map (crG l keep) ++ F.drop i) = some (F.map (crG l keep))
  | d, i, 0, _, hk => by omega
  | 0, i, k + 1, h, _ => by
    simp only [synodref4_Disk_Crash.l0]
    rw [List.take_of_length_le (by omega), List.drop_of_length_le (by omega), List.append_nil, if_neg (by rw [List.length_map]; omega)]
  | d + 1, i, k + 1, h, hk => by
    have hi : i < F.length := by omega
    have hA : ((F.take i).map (crG l keep)).length = i := by rw [List.length_map, List.length_take]; omega
    obtain ⟨A, eA⟩ : ∃ A, (F.take i).map (crG l keep) = A := ⟨_, rfl⟩
    obtain ⟨p, ep⟩ : ∃ p, F.getD i dz36 = p := ⟨_, rfl⟩
    have hp := hF p (by rw [← ep]; exact getD_mem hi)
    have hnext : (F.take (i + 1)).map (crG l keep) = A ++ [crG l keep p] := by
      rw [List.take_add_one, List.map_append, eA, get_of_lt hi dz36, ep]; rfl
    have ih := rcrash_loop F l keep hF hl d (i + 1) k (by omega) (by omega)
    rw [hnext, List.append_assoc] at ih
    rw [eA] at hA
    rw [eA, drop_at F dz36 hi, ep]
    have hlen : (A ++ p :: F.drop (i + 1)).length = F.length := by rw [List.length_append, List.length_cons, List.length_drop]; omega
    have hget : (A ++ p :: F.drop (i + 1)).getD i dz36 = p := by
      rw [List.getD_eq_getElem?_getD, List.getElem?_append_right (by omega), hA, Nat.sub_self]; rfl
    have hset : ∀ v, (A ++ p :: F.drop (i + 1)).set i v = A ++ v :: F.drop (i + 1) := fun v => by
      rw [List.set_append, if_neg (by omega), hA, Nat.sub_self]; rfl
    have hget2 : ∀ v : FileT, (A ++ v :: F.drop (i + 1)).getD i dz36 = v := fun v => by
      rw [List.getD_eq_getElem?_getD, List.getElem?_append_right (by omega), hA, Nat.sub_self]; rfl
    have hset2 : ∀ u v : FileT, (A ++ u :: F.drop (i + 1)).set i v = A ++ v :: F.drop (i + 1) := fun u v => by
      rw [List.set_append, if_neg (by omega), hA, Nat.sub_self]; rfl
    have hlen2 : ∀ v : FileT, (A ++ v :: F.drop (i + 1)).length = F.length := fun v => by rw [List.length_append, List.length_cons, List.length_drop]; omega
    have c1 : 0 ≤ (i : Int) ∧ (i : Int) < (F.length : Int) := by omega
    have hb := crN_bd (l := l) (keep := keep) (x := p.1) (v := p.2) hp.1
    simp only [synodref4_Disk_Crash.l0]
    simp only [Int.toNat_natCast, hlen, hget, c1, and_self, if_true, hset, hget2, hset2, hlen2]
    have e : ((if p.1 = l then (some (IntKind.i64.wrap (p.2.2 + (min (max keep (0 : Int)) (IntKind.i64.wrap ((p.2.1.length : Int) - p.2.2)))))) else (some p.2.2)) : Option Int) = some (crN l keep p.1 p.2) := by
      unfold crN
      split
      · rw [w64 (n := (p.2.1.length : Int) - p.2.2) (by omega) (by omega), w64 (by omega) (by omega)]
      · rfl
    have ec : cut p.2.1 (0 : Int) (crN l keep p.1 p.2) = p.2.1.take (crN l keep p.1 p.2).toNat := by simp [cut]
    rw [e, Option.bind_some, if_pos ⟨by omega, hb.1, hb.2.1⟩, ec, rbytes_eq (by simp only [List.length_take]; omega), Option.bind_some, wi1 (by omega)]
    exact ih
theorem filesM_crash {fs : FSt} (l : List UInt8) (keep : Int) : filesM (crashM fs l keep) = (filesM fs).map (crG l keep) := by
  have hk : keysS (crashM fs l keep) = keysS fs := by unfold keysS; rw [crash_keys]
  unfold filesM
  rw [hk, List.map_map]
  refine List.map_congr_left fun x hx => ?_
  have hs := keysS_some hx
  unfold fileM crG Function.comp
  have : getF (crashM fs l keep) x = crF l keep x (getF fs x) := by
    unfold getF
    rw [mget_crash]
    cases hq : mget fs x with
    | none => rw [hq] at hs; cases hs
    | some v => rfl
  rw [this]
theorem filesM_mem {n : Nat} {fs : FSt} (h : InvN n fs) : ∀ p ∈ filesM fs, (0 ≤ p.2.2 ∧ p.2.2 ≤ (p.2.1.length : Int)) ∧ p.2.1.length ≤ 16777216 := fun p hp => by
  obtain ⟨x, hx, rfl⟩ := List.mem_map.1 hp
  have hs := keysS_some hx
  have h1 := getF_sy h hs
  have h2 := Nat.le_trans (le_szF (getF_mem hs)) h.sz
  exact ⟨h1, h2⟩
theorem rcrash_eq {n : Nat} {fs : FSt} (h : InvN n fs) (hn : n < 2 ^ 40) (l : List UInt8) (a : Int) (d : Bool) (keep : Int) {k : Nat} (hk : n + 1 ≤ k) : synodref4_Disk_Crash.f k (filesM fs) a d l keep = some (filesM (crashM fs l keep), 0, false, []) := by
  have hfl := filesM_len fs
  have hln := h.ln
  have := rcrash_loop (filesM fs) l keep (filesM_mem h) (by omega) (filesM fs).length 0 k (by omega) (by omega)
  rw [show ((0 : Nat) : Int) = 0 from rfl, List.take_zero, List.map_nil, List.nil_append, List.drop_zero] at this
  unfold synodref4_Disk_Crash.f
  rw [this, Option.bind_some, filesM_crash]
/-! ### What is asked -/
def readM (fs : FSt) (x : List UInt8) : List UInt8 × Int := if (mget fs x).isSome = true then ((getF fs x).1, 0) else ([], 8)
theorem Read_eq {n : Nat} {fs : FSt} (h : InvN n fs) (l : List UInt8) (a : Int) (d : Bool) (x : List UInt8) : disk_Disk_Read.f fs l a d x = some (readM fs x) := by
  unfold disk_Disk_Read.f readM
  have eF : (mget fs x).getD (([] : List UInt8), (0 : Int)) = getF fs x := rfl
  rw [eF]
  by_cases hm : (mget fs x).isSome = true
  · have hlen : (getF fs x).1.length ≤ 16777216 := Nat.le_trans (le_szF (getF_mem hm)) h.sz
    rw [if_pos hm, if_pos hm, fresh_eq (by omega)]; rfl
  · rw [if_neg hm, if_neg hm]
theorem rread_eq {n : Nat} {fs : FSt} (h : InvN n fs) (hn : n < 2 ^ 40) (l : List UInt8) (a : Int) (d : Bool) (x : List UInt8) {k : Nat} (hk : n + 2 ≤ k) : synodref4_Disk_Read.f k (filesM fs) a d l x = some (readM fs x) := by
  unfold synodref4_Disk_Read.f readM
  rw [rat_eq h hn _ _ _ _ hk, Option.bind_some]
  cases hm : (mget fs x).isSome with
  | false =>
    have e : atM fs x < (0 : Int) := by unfold atM; rw [hm]; simp
    rw [if_pos e]; rfl
  | true =>
    have hlow := filesM_low h.nd hm
    have hlt := lt_of_get hlow
    have hlen : (getF fs x).1.length ≤ 16777216 := Nat.le_trans (le_szF (getF_mem hm)) h.sz
    rw [at_low hm, if_neg (by omega), if_pos (by omega), Int.toNat_natCast, getD_of hlow, rbytes_eq (by simp only; omega)]; rfl
theorem rlist_loop (F : List FileT) (hl : F.length < 2 ^ 40) : ∀ (d i k : Nat) (acc : List (List UInt8)), i + d = F.length → d + 1 ≤ k → acc.length + d < 2 ^ 41 → synodref4_Disk_List.l0 F k acc (i : Int) = some (acc ++ (F.drop i).map (·.1))
  | d, i, 0, acc, _, hk, _ => by omega
  | 0, i, k + 1, acc, h, _, _ => by
    simp only [synodref4_Disk_List.l0]
    rw [if_neg (by omega), List.drop_of_length_le (by omega)]; simp
  | d + 1, i, k + 1, acc, h, hk, ha => by
    have hi : i < F.length := by omega
    simp only [synodref4_Disk_List.l0]
    rw [if_pos (by omega), if_pos (by omega), wi1 (by omega), Int.toNat_natCast, drop_at F dz36 hi, if_pos (by simp; omega)]
    rw [rlist_loop F hl d (i + 1) k _ (by omega) (by omega) (by simp; omega)]
    simp
theorem rlist_eq {n : Nat} {fs : FSt} (h : InvN n fs) (hn : n < 2 ^ 40) (l : List UInt8) (a : Int) (d : Bool) {k : Nat} (hk : n + 1 ≤ k) : synodref4_Disk_List.f k (filesM fs) a d l = some (keysS fs) := by
  have hfl := filesM_len fs
  have hln := h.ln
  have := rlist_loop (filesM fs) (by omega) (filesM fs).length 0 k [] (by omega) (by omega) (by simp; omega)
  rw [show ((0 : Nat) : Int) = 0 from rfl, List.drop_zero, List.nil_append, filesM_keys] at this
  unfold synodref4_Disk_List.f
  rw [this]; rfl
end Go.Proofs.Ytkkbgcocpkipjaa
