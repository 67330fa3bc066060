/- Kv: what is done twice; what has been seen. Conditions: as each says. -/
import Derived.Test.YtdaedoklkmdhcaaGreatPlKv1
namespace Go.Proofs.YtdaedoklkmdhcaaGreat
set_option linter.unusedVariables false
set_option linter.unusedSimpArgs false
open Go.RowKit
def chkD (c : Cmd) : Int := chkC c.1 c.2.1 c.2.2.1 c.2.2.2.1 c.2.2.2.2.1 c.2.2.2.2.2
def doC (st : PP × SS) (c : Cmd) : Int × List UInt8 × Int × PP × SS := doV st.1 st.2 c.1 c.2.1 c.2.2.1 c.2.2.2.1 c.2.2.2.2.1 c.2.2.2.2.2
def stC (st : PP × SS) (c : Cmd) : PP × SS := (doC st c).2.2.2
theorem doC_def (st : PP × SS) (c : Cmd) : doC st c = (if chkD c = 0 then (match mget st.2 c.2.1 with
    | some x => if c.2.2.1 = x.2.1 then (x.2.2.1, x.2.2.2, 0, st.1, st.2) else if c.2.2.1 < x.2.1 then (4, [], 0, st.1, st.2) else runV st.1 st.2 c.1 c.2.1 c.2.2.1 c.2.2.2.1 c.2.2.2.2.1 c.2.2.2.2.2
    | none => if 32 ≤ st.2.length then (5, [], 0, st.1, st.2) else runV st.1 st.2 c.1 c.2.1 c.2.2.1 c.2.2.2.1 c.2.2.2.2.1 c.2.2.2.2.2) else (0, [], chkD c, st.1, st.2)) := rfl
theorem doC_same {st : PP × SS} {c : Cmd} (h : chkD c ≠ 0) : doC st c = (0, [], chkD c, st.1, st.2) := by
  rw [doC_def, if_neg h]
theorem doC_err (st : PP × SS) (c : Cmd) : (doC st c).2.2.1 = chkD c := by
  rw [doC_def]
  by_cases h : chkD c = 0
  · rw [if_pos h, h]
    split <;> (repeat' split) <;> rfl
  · rw [if_neg h]
theorem doC_old {st : PP × SS} {c : Cmd} {x : Sess} (h : chkD c = 0) (hx : mget st.2 c.2.1 = some x) (hq : c.2.2.1 < x.2.1) : doC st c = (4, [], 0, st.1, st.2) := by
  rw [doC_def, if_pos h]; simp only [hx]; rw [if_neg (by omega), if_pos hq]
theorem doC_again {st : PP × SS} {c : Cmd} {x : Sess} (h : chkD c = 0) (hx : mget st.2 c.2.1 = some x) (hq : c.2.2.1 = x.2.1) : doC st c = (x.2.2.1, x.2.2.2, 0, st.1, st.2) := by
  rw [doC_def, if_pos h]; simp only [hx]; rw [if_pos hq]
theorem doC_full {st : PP × SS} {c : Cmd} (h : chkD c = 0) (hx : mget st.2 c.2.1 = none) (hq : 32 ≤ st.2.length) : doC st c = (5, [], 0, st.1, st.2) := by
  rw [doC_def, if_pos h]; simp only [hx]; rw [if_pos hq]
def runs (st : PP × SS) (c : Cmd) : Prop := chkD c = 0 ∧ ((mget st.2 c.2.1 = none ∧ st.2.length < 32) ∨ ∃ x, mget st.2 c.2.1 = some x ∧ x.2.1 < c.2.2.1)
def opC (p : PP) (c : Cmd) : Int × List UInt8 × PP := opV p c.1 c.2.2.2.1 c.2.2.2.2.1 c.2.2.2.2.2
theorem doC_run {st : PP × SS} {c : Cmd} (h : runs st c) : doC st c = ((opC st.1 c).1, (opC st.1 c).2.1, 0, (opC st.1 c).2.2, mput st.2 c.2.1 (c.2.1, c.2.2.1, (opC st.1 c).1, (opC st.1 c).2.1)) := by
  obtain ⟨h0, h | ⟨x, hx, hq⟩⟩ := h
  · rw [doC_def, if_pos h0]; simp only [h.1]; rw [if_neg (by omega)]; rfl
  · rw [doC_def, if_pos h0]; simp only [hx]; rw [if_neg (by omega), if_neg (by omega)]; rfl
def seen (s : SS) (c : Cmd) : Prop := chkD c ≠ 0 ∨ (∃ x, mget s c.2.1 = some x ∧ c.2.2.1 ≤ x.2.1) ∨ (mget s c.2.1 = none ∧ 32 ≤ s.length)
theorem seen_or_runs (st : PP × SS) (c : Cmd) : seen st.2 c ∨ runs st c := by
  unfold seen runs
  by_cases h : chkD c = 0
  · cases hm : mget st.2 c.2.1 with
    | none =>
      by_cases hs : 32 ≤ st.2.length
      · exact .inl (.inr (.inr ⟨rfl, hs⟩))
      · exact .inr ⟨h, .inl ⟨rfl, by omega⟩⟩
    | some x =>
      by_cases hq : c.2.2.1 ≤ x.2.1
      · exact .inl (.inr (.inl ⟨x, rfl, hq⟩))
      · exact .inr ⟨h, .inr ⟨x, rfl, by omega⟩⟩
  · exact .inl (.inl h)
theorem stC_seen {st : PP × SS} {c : Cmd} (h : seen st.2 c) : stC st c = st := by
  unfold stC
  by_cases h0 : chkD c = 0
  · rcases h with h | ⟨x, hx, hq⟩ | ⟨hm, hs⟩
    · exact absurd h0 h
    · rcases Int.lt_or_eq_of_le hq with hq | hq
      · rw [doC_old h0 hx hq]
      · rw [doC_again h0 hx hq]
    · rw [doC_full h0 hm hs]
  · rw [doC_same h0]
theorem stC_run {st : PP × SS} {c : Cmd} (h : runs st c) : stC st c = ((opC st.1 c).2.2, mput st.2 c.2.1 (c.2.1, c.2.2.1, (opC st.1 c).1, (opC st.1 c).2.1)) := by
  unfold stC; rw [doC_run h]
theorem seen_do (st : PP × SS) (c : Cmd) : seen (stC st c).2 c := by
  rcases seen_or_runs st c with h | h
  · rw [stC_seen h]; exact h
  · rw [stC_run h]
    exact .inr (.inl ⟨_, by rw [mget_mput, if_pos rfl], Int.le_refl _⟩)
theorem seen_mono {st : PP × SS} {c : Cmd} (h : seen st.2 c) (d : Cmd) : seen (stC st d).2 c := by
  rcases seen_or_runs st d with hd | hd
  · rw [stC_seen hd]; exact h
  · rw [stC_run hd]
    simp only [seen]
    rcases h with h | ⟨x, hx, hq⟩ | ⟨hm, hs⟩
    · exact .inl h
    · by_cases e : d.2.1 = c.2.1
      · refine .inr (.inl ⟨_, by rw [mget_mput, if_pos e], ?_⟩)
        rcases hd.2 with hd | ⟨y, hy, hq2⟩
        · rw [e, hx] at hd; exact absurd hd.1 (by simp)
        · rw [e, hx] at hy; injection hy with hy; subst hy; show c.2.2.1 ≤ d.2.2.1; omega
      · exact .inr (.inl ⟨x, by rw [mget_mput, if_neg e]; exact hx, hq⟩)
    · rcases hd.2 with hd | ⟨y, hy, hq2⟩
      · omega
      · have e : d.2.1 ≠ c.2.1 := fun e => by rw [e, hm] at hy; simp at hy
        refine .inr (.inr ⟨by rw [mget_mput, if_neg e]; exact hm, ?_⟩)
        rw [mput_len_in, hy]; exact hs
theorem doC_twice (st : PP × SS) (c : Cmd) : doC (stC st c) c = doC st c := by
  rcases seen_or_runs st c with h | h
  · rw [stC_seen h]
  · rw [doC_run h, stC_run h]
    rw [doC_again (st := (_, _)) h.1 (x := (c.2.1, c.2.2.1, (opC st.1 c).1, (opC st.1 c).2.1)) (by rw [mget_mput, if_pos rfl]) rfl]
theorem stC_inv {st : PP × SS} (h : Inv st.1 st.2) (c : Cmd) : Inv (stC st c).1 (stC st c).2 := Do_inv h _ _ _ _ _ _
def stL (st : PP × SS) (l : List Cmd) : PP × SS := l.foldl stC st
theorem stL_inv : ∀ (l : List Cmd) (st : PP × SS), Inv st.1 st.2 → Inv (stL st l).1 (stL st l).2
  | [], st, h => h
  | c :: l, st, h => stL_inv l (stC st c) (stC_inv h c)
theorem stL_seen_mono : ∀ (l : List Cmd) (st : PP × SS) (c : Cmd), seen st.2 c → seen (stL st l).2 c
  | [], st, c, h => h
  | d :: l, st, c, h => stL_seen_mono l (stC st d) c (seen_mono h d)
theorem stL_seen : ∀ (l : List Cmd) (st : PP × SS) (c : Cmd), c ∈ l → seen (stL st l).2 c
  | d :: l, st, c, h => by
    rcases List.mem_cons.1 h with h | h
    · subst h; exact stL_seen_mono l _ c (seen_do st c)
    · exact stL_seen l (stC st d) c h
theorem stL_drop (l : List Cmd) (st : PP × SS) (i : Nat) (h : i < l.length) : stL st (l.drop i) = stL (stC st (l.getD i dCm)) (l.drop (i + 1)) := by
  rw [getD_drop_cons l i dCm h]; rfl
theorem DoC_eq (st : PP × SS) (c : Cmd) : kv_Store_Do.f st.1 st.2 c.1 c.2.1 c.2.2.1 c.2.2.2.1 c.2.2.2.2.1 c.2.2.2.2.2 = some (doC st c) := Do_eq _ _ _ _ _ _ _ _
def repC (st : PP × SS) (c : Cmd) : Int × List UInt8 := ((doC st c).1, (doC st c).2.1)
def repL : PP × SS → List Cmd → List (Int × List UInt8)
  | _, [] => []
  | st, c :: l => repC st c :: repL (stC st c) l
theorem canS_get {p : PP} {s : SS} (h : Inv p s) {x : Sess} (hx : x ∈ canS s) : mget s x.1 = some x := mget_of_mem s x.1 x h.sk (canS_in h x hx)
end Go.Proofs.YtdaedoklkmdhcaaGreat
