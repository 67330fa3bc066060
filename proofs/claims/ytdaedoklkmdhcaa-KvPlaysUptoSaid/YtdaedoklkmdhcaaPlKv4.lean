/- Kv: the document's store does as the program's. Conditions: as each says. -/
import Derived.Test.YtdaedoklkmdhcaaPlKv3

namespace Go.Proofs.Ytdaedoklkmdhcaa
set_option linter.unusedVariables false
set_option linter.unusedSimpArgs false
set_option linter.unusedSectionVars false
open Go.RowKit
theorem bytesLess_iff : ∀ (l m : List UInt8), Op.bytesLess l m = decide (l < m)
  | [], [] => by simp [Op.bytesLess]
  | [], b :: m => by simp [Op.bytesLess]
  | a :: l, [] => by simp [Op.bytesLess]
  | a :: l, b :: m => by
    simp only [Op.bytesLess]
    rw [Bool.eq_iff_iff, decide_eq_true_eq, List.cons_lt_cons_iff]
    simp [bytesLess_iff l m]
theorem rwithin (x l m : Int) : synodref3_within.f x l m = some (decide (l ≤ x ∧ x ≤ m)) := by
  unfold synodref3_within.f; congr 1; rw [Bool.eq_iff_iff]; simp
theorem rwithin_rg (x l : Int) : synodref3_within.f x l 4611686018427387904 = some (decide (rg x l)) := rwithin x l _
/-! ### Checks -/
theorem rC (o c s : Int) (k v w : List UInt8) : synodref3_CheckCommand.f o c s k v w = some (chkC o c s k v w) := by
  rw [← cC]
  unfold synodref3_CheckCommand.f codec_Commands_Check.f
  rw [rwithin_rg, rwithin_rg, rwithin, cwithin, cwithin]
  simp only [Option.bind_some]
  have e : (!decide (2 ≤ o ∧ o ≤ 4)) = (((!decide (o = (2 : Int))) && (!decide (o = (3 : Int)))) && (!decide (o = (4 : Int)))) := by
    rw [Bool.eq_iff_iff]; simp; omega
  rw [e]
theorem cut_take {α : Type} (l : List α) (n : Nat) : cut l (0 : Int) (n : Int) = l.take n := by simp [cut]
theorem cut_drop {α : Type} (l : List α) (n : Nat) (m : Nat) (hm : m = l.length) : cut l (n : Int) (m : Int) = l.drop n := by
  subst hm
  unfold cut
  rw [List.take_of_length_le (by simp <;> omega)]
  simp
theorem getD_of {α : Type} {l : List α} {i : Nat} {x : α} (h : l[i]? = some x) (d : α) : l.getD i d = x := by rw [List.getD_eq_getElem?_getD, h]; rfl
theorem lt_of_get {α : Type} {l : List α} {i : Nat} {x : α} (h : l[i]? = some x) : i < l.length := (List.getElem?_eq_some_iff.1 h).1
theorem get_of_lt {α : Type} {l : List α} {i : Nat} (h : i < l.length) (d : α) : l[i]? = some (l.getD i d) := by rw [List.getD_eq_getElem?_getD, List.getElem?_eq_getElem h]; rfl
theorem at_loop (P : PP) (hP : P.length ≤ 1000) (ky : List UInt8) : ∀ (d i k : Nat), i + d = low P ky → d + 1 ≤ k → synodref11_Store_at.l0 P ky k (i : Int) = some ((low P ky : Nat) : Int)
  | d, i, 0, _, hk => by omega
  | 0, i, k + 1, hi, _ => by
    simp only [synodref11_Store_at.l0]
    have hi : i = low P ky := by omega
    have e : (if (i : Int) < (P.length : Int) then (if 0 ≤ (i : Int) ∧ (i : Int) < (P.length : Int) then (some (Op.bytesLess ((P.getD (i : Int).toNat (([] : List UInt8), ([] : List UInt8))).1) ky)) else none) else (some false)) = some false := by
      by_cases h : (i : Int) < (P.length : Int)
      · rw [if_pos h, if_pos ⟨by omega, h⟩, Int.toNat_natCast]
        have := low_at P ky _ (by rw [← hi]; exact get_of_lt (by omega) (([] : List UInt8), ([] : List UInt8)))
        rw [bytesLess_iff, decide_eq_false this]
      · rw [if_neg h]
    rw [e, Option.bind_some, if_neg (by simp), hi]
  | d + 1, i, k + 1, hi, hk => by
    simp only [synodref11_Store_at.l0]
    have hle := low_le P ky
    have hlt : (i : Int) < (P.length : Int) := by omega
    have := low_lt P ky i _ (by omega) (get_of_lt (by omega) (([] : List UInt8), ([] : List UInt8)))
    rw [if_pos hlt, if_pos ⟨by omega, hlt⟩, Int.toNat_natCast, bytesLess_iff, decide_eq_true this, Option.bind_some, if_pos rfl, inc64 i 2000 (by omega) (by decide)]
    exact at_loop P hP ky d (i + 1) k (by omega) (by omega)
theorem at_eq {P : PP} (hs : srt P) (hP : P.length ≤ 1000) (S : List Sess) (ky : List UInt8) {k : Nat} (hk : 2000 ≤ k) : synodref11_Store_at.f k P S ky = some (((low P ky : Nat) : Int), (mget P ky).isSome) := by
  unfold synodref11_Store_at.f
  have hle := low_le P ky
  have e0 := at_loop P hP ky (low P ky) 0 k (by omega) (by omega)
  rw [show ((0 : Nat) : Int) = 0 from rfl] at e0
  rw [e0, Option.bind_some]
  have e : (if ((low P ky : Nat) : Int) < (P.length : Int) then (if 0 ≤ ((low P ky : Nat) : Int) ∧ ((low P ky : Nat) : Int) < (P.length : Int) then (some (decide (((P.getD ((low P ky : Nat) : Int).toNat (([] : List UInt8), ([] : List UInt8))).1) = ky))) else none) else (some false)) = some (mget P ky).isSome := by
    rw [low_get P ky hs]
    by_cases h : ((low P ky : Nat) : Int) < (P.length : Int)
    · rw [if_pos h, if_pos ⟨by omega, h⟩, Int.toNat_natCast, get_of_lt (by omega) (([] : List UInt8), ([] : List UInt8)), Option.bind_some]
      split
      · rename_i h1; rw [decide_eq_true h1]; rfl
      · rename_i h1; rw [decide_eq_false h1]; rfl
    · rw [if_neg h, List.getElem?_eq_none (by omega)]; rfl
  rw [e, Option.bind_some]
theorem canP_put_new {p : PP} (hp : (p.map (·.1)).Nodup) {k v : List UInt8} (hm : mget p k = none) : canP (mput p k v) = insM (canP p) k v :=
  srt_eq (canP_srt (mput_nodup hp)) (srt_insM _ _ _ (canP_srt hp) (by rw [canP_get]; exact hm)) fun z => by rw [canP_get, mget_mput, mget_insM, canP_get]
theorem canP_put_old {p : PP} (hp : (p.map (·.1)).Nodup) {k v u : List UInt8} (hm : mget p k = some u) : canP (mput p k v) = mput (canP p) k v :=
  srt_eq (canP_srt (mput_nodup hp)) (srt_mput (canP_srt hp) (by rw [canP_get, hm]; rfl)) fun z => by rw [canP_get, mget_mput, mget_mput, canP_get]
theorem canP_del {p : PP} (hp : (p.map (·.1)).Nodup) (k : List UInt8) : canP (mdel p k) = mdel (canP p) k :=
  srt_eq (canP_srt (hp.sublist ((mdel_sub p k).map _))) (srt_mdel (canP_srt hp) k) fun z => by rw [canP_get, mget_mdel _ _ _ hp, mget_mdel _ _ _ (srt_nodup (canP_srt hp)), canP_get]
theorem refdoes_eq {p : PP} {s : SS} (h : Inv p s) (S : List Sess) {o : Int} (ho : o = 2 ∨ o = 3 ∨ o = 4) (c q : Int) (ky v w : List UInt8) {k : Nat} (hk : 2000 ≤ k) :
    synodref11_Store_does.f k (canP p) S o c q ky v w = some ((opV p o ky v w).1, (opV p o ky v w).2.1, canP (opV p o ky v w).2.2, S) := by
  have hs := canP_srt h.pk
  have hl : (canP p).length = p.length := canP_len
  have hpl := h.pl
  have hle := low_le (canP p) ky
  unfold synodref11_Store_does.f
  rw [at_eq hs (by omega) S ky hk, Option.bind_some, canP_get]
  cases hm : mget p ky with
  | none =>
    have hop : opV p o ky v w = if o = 2 then (if 128 ≤ p.length then (5, [], p) else (1, [], mput p ky v)) else (2, [], p) := by unfold opV; rw [hm]
    rw [hop]
    simp only [Option.isSome_none, Bool.not_false, Bool.and_true, decide_eq_true_eq]
    by_cases h2 : o = 2
    · rw [if_pos h2, if_pos h2, hl]
      by_cases h3 : 128 ≤ p.length
      · rw [if_pos (by omega), if_pos h3]
      · rw [if_neg (by omega), if_neg h3]
        rw [if_pos ⟨by omega, by omega, by omega⟩, cut_take, cut_drop _ _ _ (by rw [hl])]
        rw [if_pos (by simp; omega), if_pos (by simp; omega), if_pos ⟨by omega, by omega, by omega⟩, if_pos (by simp; omega)]
        rw [canP_put_new h.pk hm, insM_eq]; simp
    · rw [if_neg h2, if_neg h2, if_pos trivial]
  | some u =>
    have hop : opV p o ky v w = if o = 2 then (1, [], mput p ky v) else if o = 3 then (1, [], mdel p ky) else if u = w then (1, [], mput p ky v) else (3, u, p) := by unfold opV; rw [hm]
    have hlow := low_some hs (by rw [canP_get]; exact hm : mget (canP p) ky = some u)
    have hlt := lt_of_get hlow
    have hput : (canP p).set (low (canP p) ky) (ky, v) = canP (mput p ky v) := by rw [canP_put_old h.pk hm, mput_eq _ _ _ _ hlow]
    rw [hop]
    simp only [Option.isSome_some, Bool.not_true, Bool.and_false, Bool.false_eq_true, if_false, Int.toNat_natCast, getD_of hlow]
    have hb : 0 ≤ ((low (canP p) ky : Nat) : Int) ∧ ((low (canP p) ky : Nat) : Int) < ((canP p).length : Int) := by omega
    rcases ho with ho | ho | ho
    · subst ho
      simp [hb, hput]
    · subst ho
      rw [if_pos rfl, if_pos ⟨by omega, by omega, by omega⟩, cut_take, inc64 _ 2000 (by omega) (by decide), cut_drop _ _ _ rfl]
      rw [if_pos (by simp; omega), if_pos ⟨by omega, by omega, by omega⟩, if_pos (by simp; omega)]
      rw [if_neg (by decide), if_pos rfl, canP_del h.pk, mdel_eq _ _ _ hlow]; simp
    · subst ho
      simp [hb, hput]
      by_cases hu : u = w
      · simp [hu]
      · simp [hu]
def mS (L : List Sess) : List (Int × Sess) := L.map fun x => (x.1, x)
theorem mS_get (L : List Sess) (i : Nat) : (mS L)[i]? = (L[i]?).map fun x => (x.1, x) := by unfold mS; rw [List.getElem?_map]
theorem mS_len (L : List Sess) : (mS L).length = L.length := List.length_map _
theorem do_loop (L : List Sess) (hL : L.length ≤ 1000) (c : Int) : ∀ (d i k : Nat), i + d = low (mS L) c → d + 1 ≤ k → synodref11_Store_Do.l0 L c k (i : Int) = some ((low (mS L) c : Nat) : Int)
  | d, i, 0, _, hk => by omega
  | 0, i, k + 1, hi, _ => by
    simp only [synodref11_Store_Do.l0]
    have hi : i = low (mS L) c := by omega
    have e : (if (i : Int) < (L.length : Int) then (if 0 ≤ (i : Int) ∧ (i : Int) < (L.length : Int) then (some (decide ((L.getD (i : Int).toNat ((0 : Int), (0 : Int), (0 : Int), ([] : List UInt8))).1 < c))) else none) else (some false)) = some false := by
      by_cases h : (i : Int) < (L.length : Int)
      · rw [if_pos h, if_pos ⟨by omega, h⟩, Int.toNat_natCast]
        have := low_at (mS L) c _ (by rw [← hi, mS_get, get_of_lt (by omega) ((0 : Int), (0 : Int), (0 : Int), ([] : List UInt8))]; rfl)
        rw [decide_eq_false this]
      · rw [if_neg h]
    rw [e, Option.bind_some, if_neg (by simp), hi]
  | d + 1, i, k + 1, hi, hk => by
    simp only [synodref11_Store_Do.l0]
    have hle := low_le (mS L) c
    rw [mS_len] at hle
    have hlt : (i : Int) < (L.length : Int) := by omega
    have := low_lt (mS L) c i _ (by omega) (by rw [mS_get, get_of_lt (by omega) ((0 : Int), (0 : Int), (0 : Int), ([] : List UInt8))]; rfl)
    rw [if_pos hlt, if_pos ⟨by omega, hlt⟩, Int.toNat_natCast, decide_eq_true this, Option.bind_some, if_pos rfl, inc64 i 2000 (by omega) (by decide)]
    exact do_loop L hL c d (i + 1) k (by omega) (by omega)
theorem canM_put_new {s : SS} (hp : (s.map (·.1)).Nodup) {c : Int} {x : Sess} (hm : mget s c = none) : canM (mput s c x) = insM (canM s) c x :=
  srt_eq (canM_srt (mput_nodup hp)) (srt_insM _ _ _ (canM_srt hp) (by rw [canM_get]; exact hm)) fun z => by rw [canM_get, mget_mput, mget_insM, canM_get]
theorem canM_put_old {s : SS} (hp : (s.map (·.1)).Nodup) {c : Int} {x y : Sess} (hm : mget s c = some y) : canM (mput s c x) = mput (canM s) c x :=
  srt_eq (canM_srt (mput_nodup hp)) (srt_mput (canM_srt hp) (by rw [canM_get, hm]; rfl)) fun z => by rw [canM_get, mget_mput, mget_mput, canM_get]
theorem refDo_eq {p : PP} {s : SS} (h : Inv p s) (o c q : Int) (ky v w : List UInt8) {k : Nat} (hk : 3000 ≤ k) :
    synodref11_Store_Do.f k (canP p) (canS s) o c q ky v w = some ((doV p s o c q ky v w).1, (doV p s o c q ky v w).2.1, (doV p s o c q ky v w).2.2.1, canP (doV p s o c q ky v w).2.2.2.1, canS (doV p s o c q ky v w).2.2.2.2) := by
  have hM : mS (canS s) = canM s := (canM_S h).symm
  have hs := canM_srt h.sk
  have hl := canS_len s
  have hsl := h.sl
  unfold synodref11_Store_Do.f doV
  rw [rC, Option.bind_some]
  by_cases h0 : chkC o c q ky v w = 0
  · rw [if_pos h0, if_pos h0]
    have ho := (chkC_ok h0).1
    have e0 := do_loop (canS s) (by omega) c (low (mS (canS s)) c) 0 k (by omega) (by have := low_le (mS (canS s)) c; rw [mS_len] at this; omega)
    rw [show ((0 : Nat) : Int) = 0 from rfl, hM] at e0
    have hle := low_le (canM s) c
    have hMl : (canM s).length = s.length := by rw [← hM, mS_len, hl]
    rw [e0, Option.bind_some]
    have hget : ∀ x, (canM s)[low (canM s) c]? = some (c, x) → (canS s)[low (canM s) c]? = some x := by
      intro x hx
      rw [canS_M, List.getElem?_map, hx]; rfl
    obtain ⟨i, hi⟩ : ∃ i, i = low (canM s) c := ⟨_, rfl⟩
    rw [← hi] at hget ⊢
    cases hm : mget s c with
    | none =>
      have e1 : (if (i : Int) < ((canS s).length : Int) then (if 0 ≤ (i : Int) ∧ (i : Int) < ((canS s).length : Int) then (some (decide (((canS s).getD (i : Int).toNat ((0 : Int), (0 : Int), (0 : Int), ([] : List UInt8))).1 = c))) else none) else (some false)) = some false := by
        by_cases hlt : (i : Int) < ((canS s).length : Int)
        · rw [if_pos hlt, if_pos ⟨by omega, hlt⟩, Int.toNat_natCast]
          have := low_none hs (by rw [canM_get]; exact hm : mget (canM s) c = none) _ (by rw [← hM, mS_get, hM, ← hi, get_of_lt (by omega) ((0 : Int), (0 : Int), (0 : Int), ([] : List UInt8))]; rfl)
          rw [decide_eq_false this]
        · rw [if_neg hlt]
      rw [e1, Option.bind_some]
      simp only [Bool.false_eq_true, if_false, Option.bind_some, Bool.not_false, Bool.true_and, decide_eq_true_eq, if_true]
      by_cases h32 : 32 ≤ s.length
      · rw [if_pos (by omega), if_pos h32, h0]
      · rw [if_neg (by omega), if_neg h32, refdoes_eq h _ ho _ _ _ _ _ (by omega), Option.bind_some]
        simp only
        have hil : i ≤ (canS s).length := by omega
        rw [if_pos ⟨by omega, by omega, by omega⟩, cut_take, cut_drop _ _ _ rfl, if_pos (by simp; omega), if_pos (by simp; omega), if_pos ⟨by omega, by omega, by omega⟩, if_pos (by simp; omega), Option.bind_some]
        rw [if_pos (by simp; omega), Int.toNat_natCast, h0]
        unfold runV
        simp only
        rw [canS_M (mput _ _ _), canM_put_new h.sk hm, insM_eq, ← hi, canS_M]
        congr 5
        have hti : ((canM s).map (·.2)).take i = ((canM s).take i).map (·.2) := List.map_take.symm
        have hdi : ((canM s).map (·.2)).drop i = ((canM s).drop i).map (·.2) := List.map_drop.symm
        rw [hti, hdi]
        have hlen : (((canM s).take i).map (·.2)).length = i := by rw [List.length_map, List.length_take]; omega
        simp only [List.nil_append, List.append_assoc, List.singleton_append, List.map_append, List.map_cons]
        rw [List.set_append_right _ _ (by omega), hlen, Nat.sub_self, List.set_cons_zero]
    | some x =>
      have hx := low_some hs (by rw [canM_get]; exact hm : mget (canM s) c = some x)
      rw [← hi] at hx
      have hx2 := hget x hx
      have hlt := lt_of_get hx2
      have hxc : x.1 = c := (h.se _ (mget_mem _ _ _ hm)).1
      have hb : 0 ≤ (i : Int) ∧ (i : Int) < ((canS s).length : Int) := by omega
      rw [if_pos hb.2]
      simp only [if_pos hb, Int.toNat_natCast, getD_of hx2]
      rw [decide_eq_true hxc, Option.bind_some, if_pos rfl, Option.bind_some]
      by_cases hq : q = x.2.1
      · rw [decide_eq_true hq, if_pos rfl, if_pos hq, h0]
      · rw [decide_eq_false hq, if_neg (by simp), if_pos rfl, Option.bind_some, if_neg hq]
        by_cases hq2 : q < x.2.1
        · rw [decide_eq_true hq2, if_pos rfl, if_pos hq2, h0]
        · rw [decide_eq_false hq2, if_neg (by simp), if_neg (by simp), if_neg hq2, refdoes_eq h _ ho _ _ _ _ _ (by omega), Option.bind_some]
          simp only [Bool.not_true, Bool.false_eq_true, if_false, Option.bind_some]
          rw [h0]
          try rw [if_pos hb]
          unfold runV
          simp only
          rw [canS_M (mput _ _ _), canM_put_old h.sk hm, mput_eq _ _ x _ (by rw [← hi]; exact hx), ← hi, canS_M, List.map_set]
  · rw [if_neg h0, if_neg h0]
end Go.Proofs.Ytdaedoklkmdhcaa
