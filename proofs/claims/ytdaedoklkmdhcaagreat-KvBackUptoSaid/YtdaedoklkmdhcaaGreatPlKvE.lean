/- Kv: stores that tell the same do the same. Conditions: as each says. -/
import Derived.Test.YtdaedoklkmdhcaaGreatPlKv2
namespace Go.Proofs.YtdaedoklkmdhcaaGreat
set_option linter.unusedVariables false
set_option linter.unusedSimpArgs false
open Go.RowKit
theorem strictI_eq : ∀ {l m : List Int}, l.Pairwise (· < ·) → m.Pairwise (· < ·) → (∀ x, x ∈ l ↔ x ∈ m) → l = m
  | [], [], _, _, _ => rfl
  | [], b :: m, _, _, h => absurd ((h b).2 (by simp)) (by simp)
  | a :: l, [], _, _, h => absurd ((h a).1 (by simp)) (by simp)
  | a :: l, b :: m, hl, hm, h => by
    have hl' := List.pairwise_cons.1 hl
    have hm' := List.pairwise_cons.1 hm
    have hab : a = b := by
      have h1 := (h a).1 (by simp)
      have h2 := (h b).2 (by simp)
      simp only [List.mem_cons] at h1 h2
      rcases h1 with h1 | h1
      · exact h1
      · rcases h2 with h2 | h2
        · exact h2.symm
        · have := hl'.1 b h2; have := hm'.1 a h1; omega
    subst hab
    refine congrArg _ (strictI_eq hl'.2 hm'.2 fun x => ?_)
    have hx := h x
    simp only [List.mem_cons] at hx
    constructor
    · intro hx'
      rcases hx.1 (.inr hx') with e | e
      · subst e; have := hl'.1 x hx'; omega
      · exact e
    · intro hx'
      rcases hx.2 (.inr hx') with e | e
      · subst e; have := hm'.1 x hx'; omega
      · exact e
theorem keysS_ext {p q : PP} (hp : (p.map (·.1)).Nodup) (hq : (q.map (·.1)).Nodup) (h : ∀ k, mget p k = mget q k) : keysS p = keysS q := by
  refine strict_eq (keysS_strict hp) (keysS_strict hq) fun x => ?_
  rw [(keysS_perm p).mem_iff, (keysS_perm q).mem_iff, mget_key, mget_key, h]
theorem keysI_ext {p q : SS} (hp : (p.map (·.1)).Nodup) (hq : (q.map (·.1)).Nodup) (h : ∀ k, mget p k = mget q k) : keysI p = keysI q := by
  refine strictI_eq (keysI_strict hp) (keysI_strict hq) fun x => ?_
  rw [(keysI_perm p).mem_iff, (keysI_perm q).mem_iff, mget_key, mget_key, h]
theorem snapV_ext {u v : PP × SS} (hu : Inv u.1 u.2) (hv : Inv v.1 v.2) (h1 : ∀ k, mget u.1 k = mget v.1 k) (h2 : ∀ c, mget u.2 c = mget v.2 c) : snapV u.1 u.2 = snapV v.1 v.2 := by
  have e1 : u.1.length = v.1.length := by have := (mget_perm hu.pk hv.pk h1).length_eq; simpa using this
  have e2 : u.2.length = v.2.length := by have := (mget_perm hu.sk hv.sk h2).length_eq; simpa using this
  have e3 : canP u.1 = canP v.1 := by
    unfold canP; rw [keysS_ext hu.pk hv.pk h1]; exact List.map_congr_left fun k _ => by rw [h1]
  have e4 : canS u.2 = canS v.2 := by
    unfold canS; rw [keysI_ext hu.sk hv.sk h2]; exact List.map_congr_left fun k _ => by rw [h2]
  unfold snapV; rw [e1, e2, e3, e4]
def Eqv (u v : PP × SS) : Prop := (∀ k, mget u.1 k = mget v.1 k) ∧ (∀ c, mget u.2 c = mget v.2 c)
theorem Eqv.lens {u v : PP × SS} (hu : Inv u.1 u.2) (hv : Inv v.1 v.2) (h : Eqv u v) : u.1.length = v.1.length ∧ u.2.length = v.2.length := by
  have e1 := (mget_perm hu.pk hv.pk h.1).length_eq
  have e2 := (mget_perm hu.sk hv.sk h.2).length_eq
  exact ⟨by simpa using e1, by simpa using e2⟩
theorem opC_ext {p p' : PP} (hp : (p.map (·.1)).Nodup) (hp' : (p'.map (·.1)).Nodup) (c : Cmd) (h : ∀ k, mget p k = mget p' k) (hl : p.length = p'.length) :
    (opC p c).1 = (opC p' c).1 ∧ (opC p c).2.1 = (opC p' c).2.1 ∧ ∀ z, mget (opC p c).2.2 z = mget (opC p' c).2.2 z := by
  unfold opC opV
  rw [← h, hl]
  split
  · split
    · split
      · exact ⟨rfl, rfl, h⟩
      · exact ⟨rfl, rfl, fun z => by simp only [mget_mput, h]⟩
    · exact ⟨rfl, rfl, h⟩
  · split
    · exact ⟨rfl, rfl, fun z => by simp only [mget_mput, h]⟩
    · split
      · exact ⟨rfl, rfl, fun z => by simp only [mget_mdel _ _ _ hp, mget_mdel _ _ _ hp', h]⟩
      · split
        · exact ⟨rfl, rfl, fun z => by simp only [mget_mput, h]⟩
        · exact ⟨rfl, rfl, h⟩
theorem doC_ext {u v : PP × SS} (hu : Inv u.1 u.2) (hv : Inv v.1 v.2) (h : Eqv u v) (c : Cmd) : repC u c = repC v c ∧ Eqv (stC u c) (stC v c) := by
  obtain ⟨l1, l2⟩ := Eqv.lens hu hv h
  unfold repC
  by_cases h0 : chkD c = 0
  · rcases seen_or_runs u c with hs | hs
    · have hs' : seen v.2 c := by
        rcases hs with hs | ⟨x, hx, hq⟩ | ⟨hm, hs⟩
        · exact .inl hs
        · exact .inr (.inl ⟨x, by rw [← h.2]; exact hx, hq⟩)
        · exact .inr (.inr ⟨by rw [← h.2]; exact hm, by omega⟩)
      rw [stC_seen hs, stC_seen hs']
      refine ⟨?_, h⟩
      rcases hs with hs | ⟨x, hx, hq⟩ | ⟨hm, hs⟩
      · exact absurd h0 hs
      · have hx' : mget v.2 c.2.1 = some x := by rw [← h.2]; exact hx
        rcases Int.lt_or_eq_of_le hq with hq | hq
        · rw [doC_old h0 hx hq, doC_old h0 hx' hq]
        · rw [doC_again h0 hx hq, doC_again h0 hx' hq]
      · rw [doC_full h0 hm hs, doC_full h0 (by rw [← h.2]; exact hm) (by omega)]
    · have hs' : runs v c := by
        refine ⟨h0, ?_⟩
        rcases hs.2 with ⟨hm, hl⟩ | ⟨x, hx, hq⟩
        · exact .inl ⟨by rw [← h.2]; exact hm, by omega⟩
        · exact .inr ⟨x, by rw [← h.2]; exact hx, hq⟩
      obtain ⟨e1, e2, e3⟩ := opC_ext hu.pk hv.pk c h.1 l1
      rw [doC_run hs, doC_run hs', stC_run hs, stC_run hs']
      exact ⟨by rw [e1, e2], e3, fun z => by simp only [mget_mput, h.2, e1, e2]⟩
  · rw [doC_same h0, doC_same h0, stC_seen (.inl h0), stC_seen (.inl h0)]
    exact ⟨rfl, h⟩
theorem stL_ext : ∀ (l : List Cmd) (u v : PP × SS), Inv u.1 u.2 → Inv v.1 v.2 → Eqv u v → repL u l = repL v l ∧ Eqv (stL u l) (stL v l)
  | [], u, v, _, _, h => ⟨rfl, h⟩
  | c :: l, u, v, hu, hv, h => by
    obtain ⟨h1, h2⟩ := doC_ext hu hv h c
    have ih := stL_ext l (stC u c) (stC v c) (stC_inv hu c) (stC_inv hv c) h2
    exact ⟨by simp only [repL, h1, ih.1], ih.2⟩
end Go.Proofs.YtdaedoklkmdhcaaGreat
