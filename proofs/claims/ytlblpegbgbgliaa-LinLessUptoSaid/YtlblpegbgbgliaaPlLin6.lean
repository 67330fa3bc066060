/- Histories: what the judgement does not hang on. Conditions: as each says. -/
import Derived.Test.YtlblpegbgbgliaaPlLin5
namespace Go.Proofs.Ytlblpegbgbgliaa
set_option linter.unusedVariables false
set_option linter.unusedSimpArgs false
open Go.RowKit
section
variable {x y : OpT} (h : x.2.2 = y.2.2)
include h
theorem isO_congr : isO x = isO y := by unfold isO oBack; rw [h]
theorem cnt_congr : cnt x = cnt y := by unfold cnt; simp only [oBack, oKind, oCode, h]
theorem bad_congr : bad x = bad y := by unfold bad; simp only [oBack, oKind, oCode, oCall, oRv, h]
theorem stp_congr (t : Bool) (v : List UInt8) : stp t v x = stp t v y := by unfold stp; simp only [oKind, oVal, oOld, h]
theorem okR_congr (r : Int × List UInt8) : okR x r = okR y r := by unfold okR; rw [isO_congr h]; simp only [oCode, oRv, h]
theorem kp_congr (key : List UInt8) : kp key x = kp key y := by unfold kp; rw [cnt_congr h]; simp only [oKey, h]
end
theorem prec_congr {x y x' y' : OpT} (h : x.2.2 = x'.2.2) (g : y.2.2 = y'.2.2) : prec x y ↔ prec x' y' := by
  unfold prec
  rw [isO_congr g]
  simp only [oBack, oCall, h, g]
section
variable {f : OpT → OpT} (hf : ∀ x, (f x).2.2 = x.2.2)
include hf
theorem run_map : ∀ (L : List OpT) (t : Bool) (v : List UInt8), run t v (L.map f) ↔ run t v L
  | [], _, _ => Iff.rfl
  | x :: L, t, v => by
    simp only [List.map_cons, run]
    rw [stp_congr (hf x), okR_congr (hf x), run_map L]
theorem LinP.map {L : List OpT} (h : LinP L) : LinP (L.map f) := by
  obtain ⟨M, R, h1, h2, h3, h4, h5⟩ := h
  refine ⟨M.map f, R.map f, ?_, ?_, (run_map hf M _ _).2 h3, ?_, ?_⟩
  · rw [← List.map_append]; exact h1.map f
  · intro x hx
    obtain ⟨y, hy, rfl⟩ := List.mem_map.1 hx
    rw [isO_congr (hf y)]; exact h2 y hy
  · exact List.pairwise_map.2 (h4.imp fun {a b} hp => (prec_congr (hf a) (hf b)).2 hp)
  · intro x hx
    obtain ⟨y, hy, rfl⟩ := List.mem_map.1 hx
    exact (prec_congr (hf y) (hf y)).2 (h5 y hy)
theorem LinP.unmap {L : List OpT} (h : LinP (L.map f)) : LinP L := by
  obtain ⟨M, R, h1, h2, h3, h4, h5⟩ := h
  obtain ⟨p, p1, p2⟩ := perm_idx op0 h1
  rw [List.length_map] at p1
  have hL : L.Perm (p.map fun i => L.getD i op0) := by
    have := p1.map fun i => L.getD i op0
    rw [range_at] at this
    exact this.symm
  have hN : (p.map fun i => L.getD i op0).map f = M ++ R := by
    rw [p2, List.map_map]
    refine List.map_congr_left fun i hi => ?_
    have hi' : i < L.length := List.mem_range.1 (p1.mem_iff.1 hi)
    simp [hi']
  generalize (p.map fun i => L.getD i op0) = N at hL hN
  have hM : (N.take M.length).map f = M := by rw [List.map_take, hN, List.take_left']; rfl
  have hR : (N.drop M.length).map f = R := by rw [List.map_drop, hN, List.drop_left']; rfl
  refine ⟨N.take M.length, N.drop M.length, by rw [List.take_append_drop]; exact hL, ?_, ?_, ?_, ?_⟩
  · intro x hx
    rw [← isO_congr (hf x)]
    exact h2 _ (by rw [← hR]; exact List.mem_map_of_mem hx)
  · rw [← run_map hf, hM]; exact h3
  · rw [← hM] at h4
    exact (List.pairwise_map.1 h4).imp fun {a b} hp => (prec_congr (hf a) (hf b)).1 hp
  · intro x hx
    exact (prec_congr (hf x) (hf x)).1 (h5 _ (by rw [← hM]; exact List.mem_map_of_mem hx))
end
def nf (x : OpT) : OpT := (0, 0, x.2.2)
theorem nf_eq (x : OpT) : (nf x).2.2 = x.2.2 := rfl
theorem filter_nf (L : List OpT) (key : List UInt8) : (L.map nf).filter (kp key) = (L.filter (kp key)).map nf := by
  rw [List.filter_map]
  refine congrArg _ (List.filter_congr fun x _ => ?_)
  exact kp_congr (nf_eq x) key
theorem perm_nf {h t : List OpT} (hp : (t.map (·.2.2)).Perm (h.map (·.2.2))) : (t.map nf).Perm (h.map nf) := by
  have := hp.map fun y => (((0 : Int), (0 : Int), y) : OpT)
  rw [List.map_map, List.map_map] at this
  exact this
theorem judged_perm {h t : List OpT} (hp : (t.map (·.2.2)).Perm (h.map (·.2.2))) (hj : Judged h) : Judged t := by
  intro key
  have h1 := (hj key).map nf_eq
  rw [← filter_nf] at h1
  have h2 := h1.perm ((perm_nf hp).filter (kp key))
  rw [filter_nf] at h2
  exact h2.unmap nf_eq
theorem mem_perm {h t : List OpT} (hp : (t.map (·.2.2)).Perm (h.map (·.2.2))) {x : OpT} (hx : x ∈ t) : ∃ y ∈ h, x.2.2 = y.2.2 := by
  have := hp.mem_iff.1 (List.mem_map_of_mem (f := (·.2.2)) hx)
  obtain ⟨y, hy, e⟩ := List.mem_map.1 this
  exact ⟨y, hy, e.symm⟩
theorem valid_perm {h t : List OpT} (hp : (t.map (·.2.2)).Perm (h.map (·.2.2))) (hv : validL h = 0) : validL t = 0 := by
  obtain ⟨a, b, c⟩ := (validL_iff h).1 hv
  have hl := hp.length_eq
  rw [List.length_map, List.length_map] at hl
  refine (validL_iff t).2 ⟨by omega, fun x hx => ?_, fun key => ?_⟩
  · obtain ⟨y, hy, e⟩ := mem_perm hp hx
    rw [bad_congr e]; exact b y hy
  · have := ((perm_nf hp).filter (kp key)).length_eq
    rw [filter_nf, filter_nf, List.length_map, List.length_map] at this
    rw [this]; exact c key
theorem filter_cnt (h : List OpT) (key : List UInt8) : (h.filter cnt).filter (kp key) = h.filter (kp key) := by
  rw [List.filter_filter]
  refine List.filter_congr fun x _ => ?_
  unfold kp
  cases cnt x <;> simp
theorem judged_less (h : List OpT) : Judged (h.filter cnt) ↔ Judged h := by
  unfold Judged
  simp only [filter_cnt]
theorem valid_sub {h t : List OpT} (hs : t.Sublist h) (hv : validL h = 0) : validL t = 0 := by
  obtain ⟨a, b, c⟩ := (validL_iff h).1 hv
  refine (validL_iff t).2 ⟨Nat.le_trans hs.length_le a, fun x hx => b x (hs.subset hx), fun key => Nat.le_trans (hs.filter _).length_le (c key)⟩
end Go.Proofs.Ytlblpegbgbgliaa
