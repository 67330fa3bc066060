/- The row of the law SnapPlays, out of its pure law and the printed walk. Conditions: none. -/
import Derived.Test.YtjkjlggbikeliaaGreatDoorM8
import Derived.Test.YtjkjlggbikeliaaGreatDoorRows
import Derived.ProofKit
import Derived.OpenShut
import Derived.ShutString
import Derived.ChangeOld
import Derived.SizedLaws
import Derived.Deep.CondSized
import Derived.JoinedCond
import Derived.Lib.ItoaMem
import Derived.Lib.Repeat
import Derived.Lib.SlTrimSet
import Derived.Lib.LaidTab
import Derived.Deep.DeepHandedRow
import Derived.Lay
import Derived.MakeChecks
import Derived.Test.YtjkjlggbikeliaaGreatDoorCards
import Derived.Test.YtjkjlggbikeliaaGreatDoorTie
namespace Go.Proofs.YtjkjlggbikeliaaGreatDoor
set_option linter.unusedVariables false
set_option linter.unusedSimpArgs false
open Go.RowKit
theorem qI (p : List UInt8 × (List UInt8 × Int)) (fs : FSt) (x : List UInt8) : bw (p :: fs) x = if p.1 = x then p.2 else bw fs x := by
  unfold bw; rw [ay]; split <;> rfl
theorem gW (p : List UInt8 × (List UInt8 × Int)) (fs : FSt) : szF (p :: fs) = p.2.1.length + szF fs := by simp [szF]
theorem jz (x : List UInt8) (v : List UInt8 × Int) : ∀ fs : FSt, szF (bk fs x v) + (bw fs x).1.length = szF fs + v.1.length
  | [] => by simp [bk, szF, bw, ay]
  | p :: fs => by
    have ih := jz x v fs
    rw [qI, bk]
    by_cases h : p.1 = x
    · rw [if_pos h, if_pos h, gW, gW]; simp only; omega
    · rw [if_neg h, if_neg h, gW, gW]; omega
theorem oC (x : List UInt8) : ∀ fs : FSt, szF (bU fs x) + (bw fs x).1.length = szF fs
  | [] => by simp [bU, szF, bw, ay]
  | p :: fs => by
    have ih := oC x fs
    rw [qI, bU]
    by_cases h : p.1 = x
    · rw [if_pos h, if_pos h, gW]; omega
    · rw [if_neg h, if_neg h, gW, gW]; omega
theorem kc {n : Nat} {fs : FSt} (h : cx n fs) {x : List UInt8} {v : List UInt8 × Int} (hx : x.length ≤ 32) (hv : 0 ≤ v.2 ∧ v.2 ≤ (v.1.length : Int)) (hs : szF (bk fs x v) ≤ 16777216) (hl : (bk fs x v).length ≤ n) : cx n (bk fs x v) := by
  refine ⟨jj h.nd, fun p hp => ?_, fun p hp => ?_, hs, hl⟩
  · rcases oD _ _ _ _ hp with rfl | hp
    · exact hv
    · exact h.sy p hp
  · rcases oD _ _ _ _ hp with rfl | hp
    · exact hx
    · exact h.nm p hp
theorem kd {n : Nat} {fs : FSt} (h : cx n fs) (x : List UInt8) : cx n (bU fs x) := by
  have hsub := kX fs x
  refine ⟨(hsub.map _).nodup h.nd, fun p hp => h.sy p (hsub.subset hp), fun p hp => h.nm p (hsub.subset hp), ?_, Nat.le_trans hsub.length_le h.ln⟩
  have := oC x fs
  have := h.sz
  omega
theorem qJ (l : List UInt8) (keep : Int) : ∀ fs : FSt, szF (gf fs l keep) ≤ szF fs
  | [] => Nat.le_refl _
  | p :: fs => by
    have ih := qJ l keep fs
    rw [gf, List.map_cons, gW, gW]
    have e : (crF l keep p.1 p.2).1.length ≤ p.2.1.length := by simp only [crF, List.length_take]; omega
    have : szF (fs.map fun p => (p.1, crF l keep p.1 p.2)) ≤ szF fs := ih
    simp only
    omega
theorem mg (fs : FSt) (l : List UInt8) (keep : Int) : (gf fs l keep).map (·.1) = fs.map (·.1) := by
  rw [gf, List.map_map]; rfl
theorem wG {n : Nat} {fs : FSt} (h : cx n fs) (l : List UInt8) (keep : Int) : cx n (gf fs l keep) := by
  refine ⟨by rw [mg]; exact h.nd, fun p hp => ?_, fun p hp => ?_, Nat.le_trans (qJ l keep fs) h.sz, by rw [gf, List.length_map]; exact h.ln⟩
  · obtain ⟨q, hq, rfl⟩ := List.mem_map.1 hp
    have := sH (l := l) (keep := keep) (x := q.1) (h.sy q hq)
    simp only [crF, List.length_take]
    omega
  · obtain ⟨q, hq, rfl⟩ := List.mem_map.1 hp
    exact h.nm q hq
theorem kw {n : Nat} {fs : FSt} (h : cx n fs) {x : List UInt8} (hm : (ay fs x).isSome = true) : x.length ≤ 32 := h.nm _ (gg hm)
theorem lU {n : Nat} {fs : FSt} (h : cx n fs) {x : List UInt8} (hm : (ay fs x).isSome = true) : 0 ≤ (bw fs x).2 ∧ (bw fs x).2 ≤ ((bw fs x).1.length : Int) := h.sy _ (gg hm)
theorem kt {fs : FSt} {x : List UInt8} {v : List UInt8 × Int} (hm : (ay fs x).isSome = true) : (bk fs x v).length = fs.length := by rw [lD, if_pos hm]
theorem oW {fs : FSt} (h : cx 256 fs) (l : List UInt8) (a : Int) (d : Bool) (x : List UInt8) : cx 256 (dZ fs l a d x).2.1 := by
  unfold dZ
  repeat' split
  all_goals try exact h
  rename_i h1 h2 h3 h4 h5
  have hs := jz x ([], 0) fs
  have hsz := h.sz
  refine kc h (uy (by simpa using h2)) (by simp) ?_ ?_
  · simp only [List.length_nil] at hs; omega
  · have := lD fs x (([] : List UInt8), (0 : Int))
    rw [if_neg h3] at this
    rw [this]; omega
theorem oX {n : Nat} {fs : FSt} (h : cx n fs) (l : List UInt8) (a : Int) (d : Bool) (x b : List UInt8) : cx n (ea fs l a d x b).2.1 := by
  unfold ea
  have hsz := h.sz
  repeat' split
  all_goals try exact h
  · rename_i hm hd hs hf
    have hb := lU h hm
    have h1 := jz x ((bw fs x).1 ++ b.take (b.length / 2), (bw fs x).2) fs
    simp only [List.length_append, List.length_take] at h1
    refine kc h (kw h hm) ⟨hb.1, ?_⟩ (by omega) (by rw [kt hm]; exact h.ln)
    simp only [List.length_append, List.length_take]; omega
  · rename_i hm hd hs hf
    have hb := lU h hm
    have h1 := jz x ((bw fs x).1 ++ b, (bw fs x).2) fs
    simp only [List.length_append] at h1
    refine kc h (kw h hm) ⟨hb.1, ?_⟩ (by omega) (by rw [kt hm]; exact h.ln)
    simp only [List.length_append]; omega
theorem xC {n : Nat} {fs : FSt} (h : cx n fs) (l : List UInt8) (a : Int) (d : Bool) (x : List UInt8) : cx n (gc fs l a d x).2.1 := by
  unfold gc
  have hsz := h.sz
  repeat' split
  all_goals try exact h
  rename_i hm hd hf
  have h1 := jz x ((bw fs x).1, ((bw fs x).1.length : Int)) fs
  simp only at h1
  exact kc h (kw h hm) ⟨by simp, by simp⟩ (by omega) (by rw [kt hm]; exact h.ln)
theorem yF {n : Nat} {fs : FSt} (h : cx n fs) (l : List UInt8) (a : Int) (d : Bool) (x : List UInt8) (m : Int) : cx n (jM fs l a d x m).2.1 := by
  unfold jM
  have hsz := h.sz
  repeat' split
  all_goals try exact h
  rename_i hm hd hr hf
  have hb := lU h hm
  have h1 := jz x ((bw fs x).1.take m.toNat, min (bw fs x).2 m) fs
  simp only [List.length_take] at h1
  refine kc h (kw h hm) ⟨?_, ?_⟩ (by omega) (by rw [kt hm]; exact h.ln)
  · simp only; omega
  · simp only [List.length_take]; omega
theorem vC {n : Nat} {fs : FSt} (h : cx n fs) (l : List UInt8) (a : Int) (d : Bool) (x y : List UInt8) : cx n (eM fs l a d x y).2.1 := by
  unfold eM
  have hsz := h.sz
  repeat' split
  all_goals try exact h
  rename_i hm hd hy hf he
  have h1 := jz y (bw fs x) (bU fs x)
  have h2 := oC x fs
  have h3 := sI fs x hm
  have h4 := tv (l := bU fs x) (x := y) (y := bw fs x)
  have h5 := h.ln
  exact kc (kd h x) (uy (by simpa using hy)) (lU h hm) (by omega) (by omega)
theorem oV {n : Nat} {fs : FSt} (h : cx n fs) (l : List UInt8) (a : Int) (d : Bool) (x : List UInt8) : cx n (fl fs l a d x).2.1 := by
  unfold fl
  repeat' split
  all_goals first | exact h | exact kd h x
/-! ### An operation -/
abbrev OpD := Int × Int × List UInt8 × List UInt8 × List UInt8
def km (s : DS) (e : OpD) : Int × DS :=
  if e.1 = 0 then dZ s.1 s.2.1 s.2.2.1 s.2.2.2 e.2.2.1 else if e.1 = 1 then ea s.1 s.2.1 s.2.2.1 s.2.2.2 e.2.2.1 e.2.2.2.2 else if e.1 = 2 then gc s.1 s.2.1 s.2.2.1 s.2.2.2 e.2.2.1
  else if e.1 = 3 then jM s.1 s.2.1 s.2.2.1 s.2.2.2 e.2.2.1 e.2.1 else if e.1 = 4 then eM s.1 s.2.1 s.2.2.1 s.2.2.2 e.2.2.1 e.2.2.2.1 else if e.1 = 5 then fl s.1 s.2.1 s.2.2.1 s.2.2.2 e.2.2.1
  else if e.1 = 6 then (0, s.1, s.2.1, max e.2.1 0, s.2.2.2) else if e.1 = 7 then (0, gf s.1 s.2.1 e.2.1, [], 0, false) else (0, s)
def wu (e : OpD) : Prop := e.2.2.1.length < 2 ^ 40 ∧ e.2.2.2.1.length < 2 ^ 40 ∧ e.2.2.2.2.length < 2 ^ 40
theorem xr {s : DS} (h : cx 256 s.1) (e : OpD) : cx 256 (km s e).2.1 := by
  unfold km
  repeat' split
  all_goals first | exact oW h _ _ _ _ | exact oX h _ _ _ _ _ | exact xC h _ _ _ _ | exact yF h _ _ _ _ _ | exact vC h _ _ _ _ _ | exact oV h _ _ _ _ | exact wG h _ _ | exact h
def d0 : DS := ([], [], 0, false)
theorem ma {α : Type} {l : List α} {d : α} {i : Nat} (h : i < l.length) : l.getD i d ∈ l := by rw [ke _ _ _ h]; exact List.getElem_mem h
/-! ### The files -/
abbrev fj := List UInt8 × List UInt8 × Int
def lm (fs : FSt) (x : List UInt8) : fj := (x, (bw fs x).1, (bw fs x).2)
def aR (fs : FSt) : List fj := (dz fs).map (lm fs)
theorem ix (fs : FSt) : (dz fs).length = fs.length := by rw [(ji fs).length_eq, List.length_map]
theorem iC {fs : FSt} {x : List UInt8} (h : x ∈ dz fs) : (ay fs x).isSome = true := nh ((ji fs).mem_iff.1 h)
theorem pQ {n : Nat} {fs : FSt} (h : cx n fs) (hn : n < 2 ^ 40) (l : List UInt8) (a : Int) (d : Bool) : dT.f fs l a d = some (dz fs) := by
  unfold dT.f gS.f cC.f
  have := h.ln
  rw [Option.bind_some, if_pos ⟨h.nd, by omega, fun p hp => by have := h.nm p hp; omega⟩]; rfl
theorem sJ {x : List UInt8} (h : x.length < 2 ^ 40) : gN.f x = some x := by
  unfold gN.f
  rw [if_pos ⟨by omega, by omega, by omega⟩, if_pos (by simp; omega)]; rfl
theorem px {fs : FSt} (h : szF fs ≤ 16777216) (s : List (List UInt8)) (hs : ∀ x ∈ s, (ay fs x).isSome = true) (hl : s.length < 2 ^ 40) : ∀ (d i k : Nat) (acc : List fj), i + d = s.length → d + 1 ≤ k → acc.length + d < 2 ^ 41 → cp.l0 fs s k acc (i : Int) = some (acc ++ (s.drop i).map (lm fs))
  | d, i, 0, acc, _, hk, _ => by omega
  | 0, i, k + 1, acc, h, _, _ => by
    simp only [cp.l0]
    rw [if_neg (by omega), List.drop_of_length_le (by omega)]; simp
  | d + 1, i, k + 1, acc, h', hk, ha => by
    have hi : i < s.length := by omega
    simp only [cp.l0]
    rw [if_pos (by omega), if_pos (by omega), wi1 (by omega), Int.toNat_natCast, kU s [] hi]
    have hm := hs _ (ma (d := []) hi)
    obtain ⟨x, hx⟩ : ∃ x, s.getD i ([] : List UInt8) = x := ⟨_, rfl⟩
    rw [hx] at hm
    simp only [hx]
    have eF : (ay fs x).getD (([] : List UInt8), (0 : Int)) = bw fs x := rfl
    have hlen := Nat.le_trans (iJ (gg hm)) h
    simp only at hlen
    simp only [eF]
    rw [if_pos hm, sJ (by omega), Option.bind_some, if_pos (by simp; omega)]
    rw [px h s hs hl d (i + 1) k _ (by omega) (by omega) (by simp; omega)]
    simp [lm]
theorem xu {n : Nat} {fs : FSt} (h : cx n fs) (hn : n < 2 ^ 40) (l : List UInt8) (a : Int) (d : Bool) {k : Nat} (hk : n + 1 ≤ k) : cp.f k fs l a d = some (aR fs) := by
  unfold cp.f
  have hln := h.ln
  rw [pQ h hn, Option.bind_some]
  have := px h.sz (dz fs) (fun x hx => iC hx) (by rw [ix]; omega) (dz fs).length 0 k [] (by omega) (by rw [ix]; omega) (by rw [ix]; simp; omega)
  rw [show ((0 : Nat) : Int) = 0 from rfl] at this
  rw [this]; rfl
/-! ### Whether files are the same -/
theorem qK (x y : List UInt8) (hl : x.length = y.length) (hm : x.length < 2 ^ 62) : ∀ (d i k : Nat), i + d = x.length → d + 1 ≤ k → x.take i = y.take i → (orR (bn.l0 x y k (i : Int)) fun _ => some true) = some (decide (x = y))
  | d, i, 0, _, hk, _ => by omega
  | 0, i, k + 1, h, _, ht => by
    simp only [bn.l0]
    rw [if_neg (by omega)]
    rw [List.take_of_length_le (by omega), List.take_of_length_le (by omega)] at ht
    simp [orR, ht]
  | d + 1, i, k + 1, h, hk, ht => by
    have hix : i < x.length := by omega
    have hiy : i < y.length := by omega
    simp only [bn.l0]
    rw [if_pos (by omega), if_pos (by omega), if_pos (by omega), wi1 (by omega)]
    simp only [Int.toNat_natCast, ke x 0 i hix, ke y 0 i hiy]
    by_cases he : x[i] = y[i]
    · rw [if_pos (by rw [he])]
      exact qK x y hl hm d (i + 1) k (by omega) (by omega) (by rw [List.take_succ_eq_append_getElem hix, List.take_succ_eq_append_getElem hiy, ht, he])
    · rw [if_neg (by intro z; exact he (UInt8.toNat_inj.1 (by omega)))]
      have : x ≠ y := by rintro rfl; exact he rfl
      simp [orR, this]
theorem jP {k : Nat} {x y : List UInt8} (hm : x.length < 2 ^ 62) (hk : x.length + 1 ≤ k) : bn.f k x y = some (decide (x = y)) := by
  unfold bn.f
  by_cases h : x.length = y.length
  · rw [if_pos (by omega)]
    exact qK x y h hm x.length 0 k (by omega) hk rfl
  · rw [if_neg (by omega)]
    have : x ≠ y := by rintro rfl; exact h rfl
    simp [this]
theorem pz (x y : List fj) {M : Nat} (hM : ∀ e ∈ x, e.2.1.length + 1 ≤ M ∧ e.2.1.length < 2 ^ 62) (hl : x.length = y.length) (hm : x.length < 2 ^ 62) : ∀ (d i k : Nat), i + d = x.length → d + M + 1 ≤ k → x.take i = y.take i → (orR (bA.l0 x y k (i : Int)) fun _ => some true) = some (decide (x = y))
  | d, i, 0, _, hk, _ => by omega
  | 0, i, k + 1, h, _, ht => by
    simp only [bA.l0]
    rw [if_neg (by omega)]
    rw [List.take_of_length_le (by omega), List.take_of_length_le (by omega)] at ht
    simp [orR, ht]
  | d + 1, i, k + 1, h, hk, ht => by
    have hix : i < x.length := by omega
    have hiy : i < y.length := by omega
    have hb := hM _ (List.getElem_mem hix)
    simp only [bA.l0]
    simp only [Int.toNat_natCast, ke x _ i hix, ke y _ i hiy]
    obtain ⟨u, hu⟩ : ∃ u, x[i] = u := ⟨_, rfl⟩
    obtain ⟨v, hv⟩ : ∃ v, y[i] = v := ⟨_, rfl⟩
    simp only [hu, hv] at hb ⊢
    have c1 : 0 ≤ (i : Int) ∧ (i : Int) < (x.length : Int) := by omega
    have c2 : 0 ≤ (i : Int) ∧ (i : Int) < (y.length : Int) := by omega
    rw [if_pos (by omega), if_pos c1, if_pos c2, wi1 (by omega), jP hb.2 (by omega), Option.bind_some]
    simp only [c1, c2, if_true]
    have goOn : u = v → (orR (bA.l0 x y k ((i + 1 : Nat) : Int)) fun _ => some true) = some (decide (x = y)) := fun e =>
      pz x y hM hl hm d (i + 1) k (by omega) (by omega) (by rw [List.take_succ_eq_append_getElem hix, List.take_succ_eq_append_getElem hiy, ht, hu, hv, e])
    have stop : u ≠ v → decide (x = y) = false := fun e => decide_eq_false (by rintro rfl; exact e (hu.symm.trans hv))
    obtain ⟨u1, u2, u3⟩ := u
    obtain ⟨v1, v2, v3⟩ := v
    simp only at goOn stop ⊢
    by_cases e2 : u2 = v2
    · by_cases e1 : u1 = v1
      · by_cases e3 : u3 = v3
        · simp only [e1, e2, e3, decide_true, Bool.not_true, Bool.false_eq_true, if_false, if_true, Option.bind_some]
          exact goOn (by rw [e1, e2, e3])
        · simp only [e1, e2, e3, decide_true, decide_false, Bool.not_true, Bool.not_false, Bool.false_eq_true, if_false, if_true, Option.bind_some]
          rw [stop (by simp [e3])]; rfl
      · simp only [e1, e2, decide_true, decide_false, Bool.not_true, Bool.not_false, Bool.false_eq_true, if_false, if_true, Option.bind_some]
        rw [stop (by simp [e1])]; rfl
    · simp only [e2, decide_true, decide_false, Bool.not_true, Bool.not_false, Bool.false_eq_true, if_false, if_true, Option.bind_some]
      rw [stop (by simp [e2])]; rfl
theorem sK {k M : Nat} {x y : List fj} (hM : ∀ e ∈ x, e.2.1.length + 1 ≤ M ∧ e.2.1.length < 2 ^ 62) (hm : x.length < 2 ^ 62) (hk : x.length + M + 1 ≤ k) : bA.f k x y = some (decide (x = y)) := by
  unfold bA.f
  by_cases h : x.length = y.length
  · rw [if_pos (by omega)]
    exact pz x y hM h hm x.length 0 k (by omega) hk rfl
  · rw [if_neg (by omega)]
    have : x ≠ y := by rintro rfl; exact h rfl
    simp [this]
theorem tw {n : Nat} {fs : FSt} (h : cx n fs) : ∀ e ∈ aR fs, e.2.1.length + 1 ≤ 16777217 ∧ e.2.1.length < 2 ^ 62 := fun e he => by
  obtain ⟨x, hx, rfl⟩ := List.mem_map.1 he
  have := Nat.le_trans (iJ (gg (iC hx))) h.sz
  simp only at this
  simp only [lm]
  omega
theorem fJ (fs : FSt) : (aR fs).length = fs.length := by rw [aR, List.length_map, ix]
theorem nS {n : Nat} {fs : FSt} (h : cx n fs) (hn : n < 2 ^ 40) {k : Nat} (hk : n + 16777218 ≤ k) (y : List fj) : bA.f k (aR fs) y = some (decide (aR fs = y)) := by
  have hln := h.ln
  exact sK (M := 16777217) (tw h) (by rw [fJ]; omega) (by rw [fJ]; omega)
/-! ### Whether operations are few -/
end Go.Proofs.YtjkjlggbikeliaaGreatDoor

namespace Go.Proofs.YtjkjlggbikeliaaGreatDoor
set_option linter.unusedVariables false
set_option linter.unusedSimpArgs false
open Go.RowKit Go.ChangeShapes Go.WideShapes Go.ChangeAt

def jp (W : World) : HA := fun h => ∀ i, i < W.heap.size → h i = W.heap[i]?
theorem wq (W : World) : Sat W ([] ++ [jp W]) W := ⟨rfl, rfl, rfl, Nat.le_refl _, jZ (fun _ _ => rfl)⟩
theorem xo {W w : World} {l : List HA} (s : Sat W l w) (k : Nat) (hk : l[k]? = some (jp W)) : Below W.heap.size W w := by
  obtain ⟨a, ha, hz⟩ := s.at hk
  refine ⟨s.os, s.tape, s.output, s.size, fun i hi => ?_⟩
  have h1 := ha i hi
  obtain ⟨o, ho⟩ : ∃ o, W.heap[i]? = some o := ⟨_, Array.getElem?_eq_getElem hi⟩
  rw [ho] at h1
  rw [hz i o h1, ho]
theorem vN {P : Program} {W : World} {f : FuncId} {args : List Value} {R Y : Type} {o : Option R} {val : R → Y → Value} {r : R}
    (h : Fn P W f args [] (jp W) o val (fun _ _ => [])) (hs : o = some r) (hv : ∀ y, val r y = .bool true) :
    Calls P f args.toArray W fun e w' => e = .returned (.bool true) ∧ Below W.heap.size W w' := by
  refine (h r hs W (wq W)).mono ?_
  rintro e w' ⟨y, rfl, s⟩
  exact ⟨by rw [hv], xo s 0 rfl⟩
theorem rY {W : World} {x : Addr} {cs : List Value} (h : ∀ j v, cs[j]? = some v → W.cell? (x.add j) = some v) : Rd (jp W) (some x) cs := by
  cases cs with
  | nil => exact .inl rfl
  | cons v vs =>
    right
    have h0 := h 0 v rfl
    have hsp : x.spot = none := by
      have e : (x.add 0).spot = x.spot ∨ x.spot ≠ none := by cases hx : x.spot <;> simp [Addr.add, hx]
      refine Classical.byContradiction fun hne => ?_
      obtain ⟨s, hs⟩ := Option.ne_none_iff_exists'.1 hne
      unfold World.cell? at h0
      simp only [Addr.add, hs] at h0
      split at h0 <;> simp_all
    obtain ⟨b, off, sp⟩ := x
    simp only at hsp
    subst hsp
    have hadd : ∀ j, (⟨b, off, none⟩ : Addr).add j = ⟨b, off + j, none⟩ := fun j => by unfold Addr.add; split <;> simp_all
    simp only [hadd] at h
    refine ⟨b, off, rfl, fun g hg => ?_⟩
    have h0 := h 0 v rfl
    unfold World.cell? at h0
    simp only at h0
    split at h0
    · rename_i c T fz hb
      have hlt : b < W.heap.size := (Array.getElem?_eq_some_iff.1 hb).1
      refine ⟨c, T, fz, by rw [hg b hlt, hb], fun j v hj => ?_⟩
      have := h j v hj
      simpa [World.cell?, hb] using this
    · simp at h0
theorem uI {H : Type} {P : Program} {ts : List TypeId} {ds : List (DataW H)} (h : (DataW.weightsEach P ts ds).all (· ≤ reachBytes) = true) {j : Nat} {t : TypeId} {d : DataW H} (ht : ts[j]? = some t) (hd : ds[j]? = some d) : ∀ n ∈ d.weights P t, n ≤ reachBytes := fun n hn => by
  have := List.all_eq_true.1 h n (DataW.weights_mem_each ht hd n hn)
  simpa using this
theorem uZ {H : Type} {enc : TypeId × Value → H} {P : Program} {W : World} {held : Bool} {t e : TypeId} {fuel : Nat} {cs : List Value} {x : DataW H × List MemPlace} (ht : P.underlying t = some (.slice e)) (he : P.underlying e = some (.int .u8)) (hc : P.cellsOf e = 1)
    (hB : P.bytesOf e = 1)
    (h : DataW.trod enc P W 0 (fun _ => true) held fuel t cs = some x) (hw : ∀ n ∈ x.1.weights P t, n ≤ reachBytes) : ∃ a c l, cs = [.slice a l.length c] ∧ Rd (jp W) a (ao l) ∧ l.length ≤ c ∧ c ≤ maxLen ∧ l.length ≤ reachBytes := by
  rcases open_ints ht he hc h with ⟨hcs, _⟩ | ⟨x, l, c, zs, hcs, _, hl, hm, hz, rfl, hcell, hwz⟩
  · exact ⟨none, 0, [], hcs, .inl rfl, Nat.le_refl _, Nat.zero_le _, Nat.zero_le _⟩
  · have hz : zs.length = c := by simpa using hz
    have hlen : ((zs.take l).map cS).length = l := by simp; omega
    have hsz : l ≤ reachBytes := by
      have := hw (((lits (H := H) .u8 (zs.take l)).length + (lits (H := H) .u8 (zs.drop l)).length) * P.bytesOf e) (by simp [DataW.weights, ht])
      rw [hB] at this
      simp [lits] at this
      omega
    refine ⟨some x, c, (zs.take l).map cS, by rw [hcs, hlen], rY ?_, by rw [hlen]; exact hl, hm, by rw [hlen]; exact hsz⟩
    intro j v hj
    unfold ao at hj
    rw [List.getElem?_map, List.getElem?_map, List.getElem?_take] at hj
    split at hj
    · rename_i hjl
      obtain ⟨n, hn⟩ : ∃ n, zs[j]? = some n := ⟨_, List.getElem?_eq_getElem (by omega)⟩
      rw [hn] at hj
      simp only [Option.map_some, Option.some.injEq] at hj
      rw [hcell j (by omega), ← hj]
      have hw := hwz n (List.mem_of_getElem? hn)
      have hr' : 0 ≤ n ∧ n ≤ 255 := by simpa [Lit.wf, IntKind.min, IntKind.max, IntKind.signed, IntKind.bits] using hw
      have hr : 0 ≤ n ∧ n < 256 := ⟨hr'.1, by omega⟩
      rw [gl hr.1 hr.2]
      simp [List.getD_eq_getElem?_getD, hn]
    · simp at hj
end Go.Proofs.YtjkjlggbikeliaaGreatDoor

namespace Go.Proofs.YtjkjlggbikeliaaGreatDoor
set_option linter.unusedVariables false
set_option linter.unusedSimpArgs false
open Go.RowKit Go.ChangeShapes Go.WideShapes Go.ChangeAt
section
variable {H : Type} {enc : TypeId × Value → H} {P : Program} {W : World} {held : Bool} {α β : Type}
def nM (enc : TypeId × Value → H) (P : Program) (W : World) (held : Bool) (t : TypeId) (V : α → List Value → Prop) (Ok : α → Prop) : Prop :=
  ∀ fuel cs x, DataW.trod enc P W 0 (fun _ => true) held fuel t cs = some x → (∀ n ∈ x.1.weights P t, n ≤ reachBytes) → ∃ y, V y cs ∧ one cs ∧ cs.length = P.cellsOf t ∧ Ok y
theorem nM.map {t : TypeId} {V : α → List Value → Prop} {V' : β → List Value → Prop} {Ok : α → Prop} {Ok' : β → Prop} (f : α → β) (h : nM enc P W held t V Ok) (hV : ∀ x r, V x r → V' (f x) r) (hO : ∀ x, Ok x → Ok' (f x)) : nM enc P W held t V' Ok' := fun fuel cs x h1 h2 =>
  let ⟨y, a, b, c, d⟩ := h fuel cs x h1 h2; ⟨f y, hV _ _ a, b, c, hO _ d⟩
theorem nM.mono {t : TypeId} {V V' : α → List Value → Prop} {Ok Ok' : α → Prop} (h : nM enc P W held t V Ok) (hV : ∀ x r, V x r → V' x r) (hO : ∀ x, Ok x → Ok' x) : nM enc P W held t V' Ok' := fun fuel cs x h1 h2 =>
  let ⟨y, a, b, c, d⟩ := h fuel cs x h1 h2; ⟨y, hV _ _ a, b, c, hO _ d⟩
theorem lP {e : TypeId} : ∀ {ds : List (DataW H)} {d : DataW H}, d ∈ ds → ∀ n ∈ d.weights P e, n ∈ DataW.weightsAll P e ds
  | d' :: ds, d, h, n, hn => by
    simp only [DataW.weightsAll, List.mem_append]
    rcases List.mem_cons.1 h with rfl | h
    · exact .inl hn
    · exact .inr (lP h n hn)
theorem vb {W : World} {a : Addr} {n : Nat} {cs : List Value} (h : W.cells? 0 a n = some cs) : cs.length = n ∧ ∀ j v, cs[j]? = some v → W.cell? (a.add j) = some v := by
  unfold World.cells? at h
  rw [if_pos (Nat.zero_le _)] at h
  have hl := mapM_some_length h
  have hl : cs.length = n := by simpa using hl
  refine ⟨hl, fun j v hj => ?_⟩
  have hjn : j < n := by have := (List.getElem?_eq_some_iff.1 hj).1; omega
  have := mapM_some_get h j j (by simp [hjn])
  rw [this, hj]
/-! Structs: their fields, one behind the other. -/
def vc (enc : TypeId × Value → H) (P : Program) (W : World) (held : Bool) (fuel : Nat) : List TypeId → List Value → List (DataW H × List MemPlace) → Prop
  | [], cs, xs => cs = [] ∧ xs = []
  | t :: ts, cs, xs => ∃ c1 c2 x r, cs = c1 ++ c2 ∧ xs = x :: r ∧ DataW.trod enc P W 0 (fun _ => true) held fuel t c1 = some x ∧ vc enc P W held fuel ts c2 r
def re (P : Program) : Nat → List Field → Bool
  | _, [] => true
  | k, f :: fs => Nat.beq f.offset k && re P (k + P.cellsOf f.type) fs
def rZ (P : Program) : List Field → Nat
  | [] => 0
  | f :: fs => P.cellsOf f.type + rZ P fs
theorem sa (fuel : Nat) : ∀ (fs : List Field) (k : Nat) (cs : List Value) (xs : List (DataW H × List MemPlace)), re P k fs = true → cs.length = k + rZ P fs → xs.length = fs.length →
    (∀ (i : Nat) (f : Field), fs[i]? = some f → DataW.trod enc P W 0 (fun _ => true) held fuel f.type ((cs.drop f.offset).take (P.cellsOf f.type)) = xs[i]?) → vc enc P W held fuel (fs.map (·.type)) (cs.drop k) xs
  | [], k, cs, xs, _, hl, hx, _ => by
    have : xs = [] := List.eq_nil_of_length_eq_zero (by simpa using hx)
    exact ⟨by rw [List.drop_of_length_le (by simp [rZ] at hl; omega)], this⟩
  | f :: fs, k, cs, [], _, _, hx, _ => by simp at hx
  | f :: fs, k, cs, x :: xs, hlaid, hl, hx, h => by
    simp only [re, Bool.and_eq_true] at hlaid
    have hoff : f.offset = k := Nat.eq_of_beq_eq_true hlaid.1
    simp only [rZ] at hl
    have h0 := h 0 f rfl
    rw [hoff] at h0
    refine ⟨(cs.drop k).take (P.cellsOf f.type), (cs.drop k).drop (P.cellsOf f.type), x, xs, (List.take_append_drop _ _).symm, rfl, by simpa using h0, ?_⟩
    have := sa fuel fs (k + P.cellsOf f.type) cs xs hlaid.2 (by omega) (by simpa using hx) (fun i g hg => by simpa using h (i + 1) g (by simpa using hg))
    rw [List.drop_drop]
    exact this
end
end Go.Proofs.YtjkjlggbikeliaaGreatDoor

namespace Go.Proofs.YtjkjlggbikeliaaGreatDoor
set_option linter.unusedVariables false
set_option linter.unusedSimpArgs false
open Go.RowKit Go.ChangeShapes Go.WideShapes Go.ChangeAt
class Mu (α : Type) where
  mu : α → Nat
instance : Mu Int := ⟨fun _ => 1⟩
instance : Mu Bool := ⟨fun _ => 1⟩
instance : Mu UInt8 := ⟨fun _ => 1⟩
instance {α β : Type} [Mu α] [Mu β] : Mu (α × β) := ⟨fun x => Mu.mu x.1 + Mu.mu x.2⟩
instance {α : Type} [Mu α] : Mu (List α) := ⟨fun l => (l.map Mu.mu).sum + 1⟩
theorem ik {α β : Type} [Mu α] [Mu β] (x : α) (y : β) : Mu.mu (x, y) = Mu.mu x + Mu.mu y := rfl
theorem lO {α : Type} [Mu α] (l : List α) : Mu.mu l = (l.map Mu.mu).sum + 1 := rfl
theorem ud {α : Type} [Mu α] (x : α) (l : List α) : Mu.mu (x :: l) = Mu.mu x + Mu.mu l := by simp [lO]; omega
theorem jY (l : List UInt8) : Mu.mu l = l.length + 1 := by
  have : ∀ l : List UInt8, (l.map Mu.mu).sum = l.length := by
    intro l
    induction l with
    | nil => rfl
    | cons x l ih =>
      simp only [List.map_cons, List.sum_cons, ih, List.length_cons]
      show 1 + _ = _
      omega
  rw [lO, this]
theorem ld {H : Type} (d : DataW H) : 1 ≤ Rows.uptoBulk d := by
  cases d with
  | lit l => cases l <;> simp [Rows.uptoBulk]
  | nil => simp [Rows.uptoBulk]
  | ptr d => simp [Rows.uptoBulk]
  | slice elems spare => simp [Rows.uptoBulk]
  | agg parts => simp [Rows.uptoBulk]
  | iface t d => simp [Rows.uptoBulk]
  | map entries => simp [Rows.uptoBulk]
  | held h => simp [Rows.uptoBulk]
theorem rX {H : Type} : ∀ l : List (DataW H), l.length ≤ Rows.uptoBulkAll l
  | [] => by simp
  | d :: l => by have := rX l; have := ld d; simp [Rows.uptoBulkAll]; omega
section
variable {H : Type} {enc : TypeId × Value → H} {P : Program} {W : World} {held : Bool} {α β : Type} [Mu α] [Mu β]
def gF (enc : TypeId × Value → H) (P : Program) (W : World) (held : Bool) (t : TypeId) (V : α → List Value → Prop) (Ok : α → Prop) : Prop :=
  ∀ fuel cs x, DataW.trod enc P W 0 (fun _ => true) held fuel t cs = some x → (∀ n ∈ x.1.weights P t, n ≤ reachBytes) → ∃ y, V y cs ∧ one cs ∧ cs.length = P.cellsOf t ∧ Ok y ∧ Mu.mu y ≤ Rows.uptoBulk x.1
theorem gF.mono {t : TypeId} {V V' : α → List Value → Prop} {Ok Ok' : α → Prop} (h : gF enc P W held t V Ok) (hV : ∀ x r, V x r → V' x r) (hO : ∀ x, Ok x → Ok' x) : gF enc P W held t V' Ok' := fun fuel cs x h1 h2 =>
  let ⟨y, a, b, c, d⟩ := h fuel cs x h1 h2; ⟨y, hV _ _ a, b, c, hO _ d.1, d.2⟩
theorem gF.map {α β : Type} [Mu α] [Mu β] {H : Type} {enc : TypeId × Value → H} {P : Program} {W : World} {held : Bool} {t : TypeId} {V : α → List Value → Prop} {V' : β → List Value → Prop} {Ok : α → Prop} {Ok' : β → Prop} (f : α → β) (h : gF enc P W held t V Ok) (hV : ∀ x r, V x r → V' (f x) r) (hO : ∀ x, Ok x → Ok' (f x)) (hM : ∀ x, Mu.mu (f x) = Mu.mu x) : gF enc P W held t V' Ok' := fun fuel cs x h1 h2 =>
  let ⟨y, a, b, c, d⟩ := h fuel cs x h1 h2; ⟨f y, hV _ _ a, b, c, hO _ d.1, by rw [hM]; exact d.2⟩
theorem jh {t : TypeId} {k : IntKind} (ht : P.underlying t = some (.int k)) (hc : P.cellsOf t = 1) : gF enc P W held t (fun x r => r = [.int k x]) (okI k) := by
  intro fuel cs x h _
  cases fuel with
  | zero => simp [DataW.trod] at h
  | succ n =>
    unfold DataW.trod at h
    rw [ht] at h
    split at h <;> simp_all
    rename_i k' m
    obtain ⟨rfl, h1⟩ := h.1
    refine ⟨aY rfl, ?_, ?_⟩
    · simpa [Lit.wf, okI] using h1
    · first | exact ld _ | (rw [← h.2]; exact ld _)
theorem oH {t : TypeId} (ht : P.underlying t = some .string) (hc : P.cellsOf t = 1) : gF enc P W held t (fun x r => r = [str x]) (fun x => x.length ≤ reachBytes) := by
  intro fuel cs x h hw
  cases fuel with
  | zero => simp [DataW.trod] at h
  | succ n =>
    unfold DataW.trod at h
    rw [ht] at h
    split at h <;> simp_all
    rename_i s
    obtain ⟨h1, rfl⟩ := h
    refine ⟨s.data.toList, ?_, aY rfl, ?_, ?_⟩
    · simp [str]
    · exact hw s.data.toList.length (by simp [DataW.weights])
    · rw [jY]; simp [Rows.uptoBulk]
theorem mD {t e : TypeId} (ht : P.underlying t = some (.slice e)) (he : P.underlying e = some (.int .u8)) (hc : P.cellsOf e = 1) (hB : P.bytesOf e = 1) (hct : P.cellsOf t = 1) :
    gF enc P W held t (fun x r => ∃ a c, r = [.slice a x.length c] ∧ Rd (jp W) a (ao x) ∧ x.length ≤ c ∧ c ≤ maxLen) (fun x => x.length ≤ reachBytes) := by
  intro fuel cs x h hw
  obtain ⟨a, c, l, h1, h2, h3, h4, h5⟩ := uZ ht he hc hB h hw
  refine ⟨l, ⟨a, c, h1, h2, h3, h4⟩, by rw [h1]; exact aY rfl, by rw [h1, hct]; rfl, h5, ?_⟩
  rw [jY]
  rcases open_ints ht he hc h with ⟨hcs, rfl⟩ | ⟨y, n, c', zs, hcs, _, hl, hm, hz, rfl, hcell, hwz⟩
  · rw [h1] at hcs
    have : l.length = 0 := by simp only [List.cons.injEq, Value.slice.injEq] at hcs; exact hcs.1.2.1
    rw [this]
    exact ld _
  · rw [h1] at hcs
    have e1 : l.length = n := by simp only [List.cons.injEq, Value.slice.injEq] at hcs; exact hcs.1.2.1
    have hz : zs.length = c' := by simpa using hz
    have := rX (lits (H := H) .u8 (zs.take n))
    have e2 : (lits (H := H) .u8 (zs.take n)).length = n := by simp [lits]; omega
    simp only [Rows.uptoBulk]
    omega
theorem tb {t e : TypeId} {n B : Nat} {V : α → List Value → Prop} {Ok : α → Prop} (ht : P.underlying t = some (.slice e)) (hn : P.cellsOf e = n) (hB : P.bytesOf e = B) (hct : P.cellsOf t = 1) (hel : gF enc P W held e V Ok) :
    gF enc P W held t (fun (xs : List α) r => ∃ a c, r = [.slice a xs.length c] ∧ RdV (jp W) n V a xs ∧ xs.length ≤ c ∧ c ≤ maxLen) (fun xs => xs.length * B ≤ reachBytes ∧ ∀ y ∈ xs, Ok y) := by
  intro fuel cs x h hw
  rcases DataW.trod_slice ht h with ⟨hcs, _⟩ | ⟨a, len, cap, elems, rest, m, _, rfl, rfl, hb, hl, hm, hlen, he2, _, _⟩
  · exact ⟨[], ⟨none, 0, hcs, RdV.nil, Nat.le_refl _, Nat.zero_le _⟩, by rw [hcs]; exact aY rfl, by rw [hcs, hct]; rfl, ⟨by simp, by simp⟩, by rw [lO]; exact ld _⟩
  · subst hn
    have hsz : len * B ≤ reachBytes := by
      have := hw (((elems.map (·.1)).length + (rest.map (·.1)).length) * P.bytesOf e) (by simp [DataW.weights, ht])
      rw [hB] at this
      simp only [List.length_map, hlen] at this
      exact Nat.le_trans (Nat.mul_le_mul_right _ (Nat.le_add_right _ _)) this
    have each : ∀ i, i < len → ∃ y r, V y r ∧ one r ∧ r.length = P.cellsOf e ∧ (Ok y ∧ ∀ q, elems[i]? = some q → Mu.mu y ≤ Rows.uptoBulk q.1) ∧ ∀ j v, r[j]? = some v → W.cell? (a.add (i * P.cellsOf e + j)) = some v := by
      intro i hi
      have h1 := he2 i hi
      obtain ⟨q, hq⟩ : ∃ q, elems[i]? = some q := ⟨_, List.getElem?_eq_getElem (by omega)⟩
      rw [hq] at h1
      obtain ⟨r, hr, htr⟩ := Option.bind_eq_some_iff.1 h1
      obtain ⟨hrl, hrc⟩ := vb hr
      obtain ⟨y, v1, v2, v3, v4⟩ := hel _ r q htr (fun n hn => hw n (by
        simp only [DataW.weights, ht, List.mem_cons, List.mem_append]
        exact .inr (.inl (lP (List.mem_map_of_mem (List.mem_of_getElem? hq)) n hn))))
      refine ⟨y, r, v1, v2, hrl, ⟨v4.1, fun q' hq' => by rw [hq] at hq'; cases hq'; exact v4.2⟩, fun j v hj => ?_⟩
      have := hrc j v hj
      have hadd : (a.add (i * P.cellsOf e)).add j = a.add (i * P.cellsOf e + j) := by
        by_cases h1 : i * P.cellsOf e = 0 <;> by_cases h2 : j = 0 <;> simp [Addr.add, h1, h2, Nat.add_assoc]
      rwa [hadd] at this
    have build : ∀ d i, i + d = len → ∃ xs rs, bE (P.cellsOf e) V xs rs ∧ xs.length = d ∧ ((∀ y ∈ xs, Ok y) ∧ (xs.map Mu.mu).sum ≤ Rows.uptoBulkAll ((elems.drop i).map (·.1))) ∧ ∀ j v, rs.flatten[j]? = some v → W.cell? (a.add (i * P.cellsOf e + j)) = some v := by
      intro d
      induction d with
      | zero => intro i hi; exact ⟨[], [], trivial, rfl, ⟨by simp, by simp⟩, by simp⟩
      | succ d ih =>
        intro i hi
        obtain ⟨y, r, v1, v2, v3, v4, v5⟩ := each i (by omega)
        obtain ⟨xs, rs, w1, w2, w3, w4⟩ := ih (i + 1) (by omega)
        refine ⟨y :: xs, r :: rs, ⟨⟨v3, v2, v1⟩, w1⟩, by simp [w2], ⟨?_, ?_⟩, fun j v hj => ?_⟩
        · intro z hz
          rcases List.mem_cons.1 hz with rfl | hz
          · exact v4.1
          · exact w3.1 z hz
        · obtain ⟨q, hq⟩ : ∃ q, elems[i]? = some q := ⟨_, List.getElem?_eq_getElem (by omega)⟩
          have h1 := v4.2 q hq
          have h2 := w3.2
          obtain ⟨hi', hq'⟩ := List.getElem?_eq_some_iff.1 hq
          rw [List.drop_eq_getElem_cons hi', hq']
          simp only [List.map_cons, List.sum_cons, Rows.uptoBulkAll]
          omega
        · simp only [List.flatten_cons] at hj
          by_cases hjl : j < r.length
          · rw [List.getElem?_append_left hjl] at hj; exact v5 j v hj
          · rw [List.getElem?_append_right (by omega)] at hj
            have := w4 _ v hj
            rw [v3, Nat.add_mul] at this
            have e1 : i * P.cellsOf e + 1 * P.cellsOf e + (j - P.cellsOf e) = i * P.cellsOf e + j := by omega
            rwa [e1] at this
    obtain ⟨xs, rs, w1, w2, w3, w4⟩ := build len 0 (by omega)
    refine ⟨xs, ⟨some a, cap, by rw [w2], ⟨rs, w1, rY fun j v hj => ?_⟩, by rw [w2]; exact hl, hm⟩, aY rfl, by rw [hct]; rfl, ⟨by rw [w2]; exact hsz, w3.1⟩, by have h2 := w3.2; simp only [List.drop_zero] at h2; rw [lO]; simp only [Rows.uptoBulk]; omega⟩
    have := w4 j v hj
    simpa using this
def nA (enc : TypeId × Value → H) (P : Program) (W : World) (held : Bool) (ts : List TypeId) (V : α → List Value → Prop) (Ok : α → Prop) : Prop :=
  ∀ fuel cs xs, vc enc P W held fuel ts cs xs → (∀ n ∈ DataW.weightsEach P ts (xs.map (·.1)), n ≤ reachBytes) → ∃ y, V y cs ∧ one cs ∧ Ok y ∧ Mu.mu y ≤ Rows.uptoBulkAll (xs.map (·.1))
theorem lz {t : TypeId} {V : α → List Value → Prop} {Ok : α → Prop} (h : gF enc P W held t V Ok) : nA enc P W held [t] V Ok := by
  rintro fuel cs xs ⟨c1, c2, x, r, rfl, rfl, h1, rfl, rfl⟩ hw
  obtain ⟨y, a, b, c, d⟩ := h fuel c1 x h1 (fun n hn => hw n (by simp [DataW.weightsEach]; exact hn))
  exact ⟨y, by simpa using a, by simpa using b, d.1, by simp only [List.map_cons, List.map_nil, Rows.uptoBulkAll]; exact d.2⟩
theorem fG {t : TypeId} {ts : List TypeId} {V : α → List Value → Prop} {Ok : α → Prop} {V2 : β → List Value → Prop} {Ok2 : β → Prop} (h : gF enc P W held t V Ok) (h2 : nA enc P W held ts V2 Ok2) :
    nA enc P W held (t :: ts) (fun (x : α × β) cs => ∃ c1 c2, cs = c1 ++ c2 ∧ V x.1 c1 ∧ V2 x.2 c2) (fun x => Ok x.1 ∧ Ok2 x.2) := by
  rintro fuel cs xs ⟨c1, c2, x, r, rfl, rfl, h1, h3⟩ hw
  obtain ⟨y, a, b, c, d⟩ := h fuel c1 x h1 (fun n hn => hw n (by simp only [List.map_cons, DataW.weightsEach, List.mem_append]; exact .inl hn))
  obtain ⟨z, a2, b2, d2⟩ := h2 fuel c2 r h3 (fun n hn => hw n (by simp only [List.map_cons, DataW.weightsEach, List.mem_append]; exact .inr hn))
  exact ⟨(y, z), ⟨c1, c2, rfl, a, a2⟩, vd b b2, ⟨d.1, d2.1⟩, by have h4 := d.2; have h5 := d2.2; simp only [List.map_cons, Rows.uptoBulkAll, ik]; omega⟩
theorem kB {t : TypeId} {fs : Array Field} {V : α → List Value → Prop} {Ok : α → Prop} (ht : P.underlying t = some (.struct fs)) (hlaid : re P 0 fs.toList = true) (hsum : rZ P fs.toList = P.cellsOf t) {ts : List TypeId} (hts : fs.toList.map (·.type) = ts) (h : nA enc P W held ts V Ok) : gF enc P W held t V Ok := by
  intro fuel cs x hx hw
  obtain ⟨xs, n, rfl, rfl, hl, hxl, hf⟩ := DataW.trod_struct ht hx
  have := sa n fs.toList 0 cs xs hlaid (by rw [hl]; omega) (by simpa using hxl) (fun i f hi => hf i f (by simpa using hi))
  rw [hts] at this
  obtain ⟨y, a, b, c⟩ := h n cs xs (by simpa using this) (fun n hn => hw n (by simp only [DataW.weights, ht, hts]; exact hn))
  exact ⟨y, a, b, hl, c.1, by have h4 := c.2; simp only [Rows.uptoBulk]; omega⟩
end
end Go.Proofs.YtjkjlggbikeliaaGreatDoor

namespace Go.Proofs.YtjkjlggbikeliaaGreatDoor
set_option linter.unusedVariables false
set_option linter.unusedSimpArgs false
open Go.RowKit
theorem zC {α : Type} [Mu α] {l : List α} {x : α} (h : x ∈ l) : Mu.mu x ≤ Mu.mu l := by
  induction l with
  | nil => cases h
  | cons y l ih =>
    rw [ud]
    rcases List.mem_cons.1 h with rfl | h
    · have := lO l; omega
    · have := ih h; omega
theorem zD {α : Type} [Mu α] {l : List α} (h : ∀ x : α, 1 ≤ Mu.mu x) : l.length ≤ Mu.mu l := by
  induction l with
  | nil => simp
  | cons y l ih => rw [ud, List.length_cons]; have := h y; omega
end Go.Proofs.YtjkjlggbikeliaaGreatDoor

namespace Go.Proofs.YtjkjlggbikeliaaGreatDoor
set_option linter.unusedVariables false
set_option linter.unusedSimpArgs false
open Go.RowKit
/-! ### Names stay names -/
def fN (fs : FSt) : Prop := ∀ x ∈ fs.map (·.1), nmB x = true
theorem qs {fs gs : FSt} (h : fN fs) (hs : ∀ x, x ∈ gs.map (·.1) → x ∈ fs.map (·.1)) : fN gs := fun x hx => h x (hs x hx)
theorem dD {fs : FSt} (h : fN fs) {x : List UInt8} {v : List UInt8 × Int} (hx : nmB x = true) : fN (bk fs x v) := fun y hy => by
  rcases qU.1 hy with rfl | hy
  · exact hx
  · exact h y hy
theorem jx {fs : FSt} (h : fN fs) {x : List UInt8} (hx : (ay fs x).isSome = true) : nmB x = true := h x ((iD fs x).2 hx)
theorem fv {fs : FSt} (h : fN fs) (x : List UInt8) : fN (bU fs x) := qs h fun y hy => ((kX fs x).map _).subset hy
theorem rS {fs : FSt} (h : fN fs) (l : List UInt8) (a : Int) (d : Bool) (x : List UInt8) : fN (dZ fs l a d x).2.1 := by
  unfold dZ
  repeat' split
  all_goals first
    | exact h
    | exact fv h _
    | (refine dD h (jx h ?_); assumption)
    | (refine dD (fv h _) ?_; simp_all; done)
    | (refine dD h ?_; simp_all; done)
theorem rT {fs : FSt} (h : fN fs) (l : List UInt8) (a : Int) (d : Bool) (x b : List UInt8) : fN (ea fs l a d x b).2.1 := by
  unfold ea
  repeat' split
  all_goals first
    | exact h
    | exact fv h _
    | (refine dD h (jx h ?_); assumption)
    | (refine dD (fv h _) ?_; simp_all; done)
    | (refine dD h ?_; simp_all; done)
theorem uW {fs : FSt} (h : fN fs) (l : List UInt8) (a : Int) (d : Bool) (x : List UInt8) : fN (gc fs l a d x).2.1 := by
  unfold gc
  repeat' split
  all_goals first
    | exact h
    | exact fv h _
    | (refine dD h (jx h ?_); assumption)
    | (refine dD (fv h _) ?_; simp_all; done)
    | (refine dD h ?_; simp_all; done)
theorem we {fs : FSt} (h : fN fs) (l : List UInt8) (a : Int) (d : Bool) (x : List UInt8) (n : Int) : fN (jM fs l a d x n).2.1 := by
  unfold jM
  repeat' split
  all_goals first
    | exact h
    | exact fv h _
    | (refine dD h (jx h ?_); assumption)
    | (refine dD (fv h _) ?_; simp_all; done)
    | (refine dD h ?_; simp_all; done)
theorem rU {fs : FSt} (h : fN fs) (l : List UInt8) (a : Int) (d : Bool) (x y : List UInt8) : fN (eM fs l a d x y).2.1 := by
  unfold eM
  repeat' split
  all_goals first
    | exact h
    | exact fv h _
    | (refine dD h (jx h ?_); assumption)
    | (refine dD (fv h _) ?_; simp_all; done)
    | (refine dD h ?_; simp_all; done)
theorem rV {fs : FSt} (h : fN fs) (l : List UInt8) (a : Int) (d : Bool) (x : List UInt8) : fN (fl fs l a d x).2.1 := by
  unfold fl
  repeat' split
  all_goals first
    | exact h
    | exact fv h _
    | (refine dD h (jx h ?_); assumption)
    | (refine dD (fv h _) ?_; simp_all; done)
    | (refine dD h ?_; simp_all; done)
theorem uX {s : DS} (h : fN s.1) (e : OpD) : fN (km s e).2.1 := by
  unfold km
  repeat' split
  all_goals first | exact rS h _ _ _ _ | exact rT h _ _ _ _ _ | exact uW h _ _ _ _ | exact we h _ _ _ _ _ | exact rU h _ _ _ _ _ | exact rV h _ _ _ _ | exact qs h (fun x hx => by rw [mg] at hx; exact hx) | exact h
/-! ### The same under another order -/
def Eqv (a b : FSt) : Prop := ∀ x, ay a x = ay b x
theorem Eqv.getF {a b : FSt} (h : Eqv a b) (x : List UInt8) : bw a x = bw b x := by unfold Go.Proofs.YtjkjlggbikeliaaGreatDoor.bw; rw [h x]
theorem Eqv.keys {a b : FSt} (h : Eqv a b) (ha : (a.map (·.1)).Nodup) (hb : (b.map (·.1)).Nodup) : (a.map (·.1)).Perm (b.map (·.1)) := wg ha hb h
theorem Eqv.len {a b : FSt} (h : Eqv a b) (ha : (a.map (·.1)).Nodup) (hb : (b.map (·.1)).Nodup) : a.length = b.length := by simpa using (h.keys ha hb).length_eq
theorem Eqv.szF {a b : FSt} (h : Eqv a b) (ha : (a.map (·.1)).Nodup) (hb : (b.map (·.1)).Nodup) : szF a = szF b := by
  rw [← ou ha, ← ou hb]
  have e : jN a = jN b := by funext x; unfold jN; rw [h.getF]
  rw [e]
  exact ((h.keys ha hb).map _).sum_nat
theorem Eqv.mput {a b : FSt} (h : Eqv a b) (x : List UInt8) (v : List UInt8 × Int) : Eqv (bk a x v) (bk b x v) := fun z => by rw [fW, fW, h z]
theorem Eqv.mdel {a b : FSt} (h : Eqv a b) (ha : (a.map (·.1)).Nodup) (hb : (b.map (·.1)).Nodup) (x : List UInt8) : Eqv (bU a x) (bU b x) := fun z => by rw [gm _ _ _ ha, gm _ _ _ hb, h z]
theorem kN (l : List UInt8) (keep : Int) (x : List UInt8) : ∀ fs : FSt, ay (gf fs l keep) x = (ay fs x).map (crF l keep x)
  | [] => rfl
  | p :: fs => by
    have ih := kN l keep x fs
    rw [gf, List.map_cons, ay, ay]
    by_cases hp : p.1 = x
    · rw [if_pos hp, if_pos hp, hp]; rfl
    · rw [if_neg hp, if_neg hp]; exact ih
theorem Eqv.crash {a b : FSt} (h : Eqv a b) (l : List UInt8) (keep : Int) : Eqv (gf a l keep) (gf b l keep) := fun z => by rw [kN, kN, h z]
theorem Eqv.keysS {a b : FSt} (h : Eqv a b) (ha : (a.map (·.1)).Nodup) (hb : (b.map (·.1)).Nodup) : dz a = dz b := by
  refine qt (kW ha) (kW hb) fun x => ?_
  rw [(ji a).mem_iff, (ji b).mem_iff]
  exact (h.keys ha hb).mem_iff
theorem Eqv.files {a b : FSt} (h : Eqv a b) (ha : (a.map (·.1)).Nodup) (hb : (b.map (·.1)).Nodup) : aR a = aR b := by
  unfold aR
  rw [h.keysS ha hb]
  have : lm a = lm b := by funext x; unfold lm; rw [h.getF]
  rw [this]
structure EqD (s t : DS) : Prop where
  fs : Eqv s.1 t.1
  rest : s.2 = t.2
/-! ### Load -/
theorem mA {F : List UInt8 → List UInt8 × Int} {x : List UInt8} : ∀ {ks : List (List UInt8)}, x ∉ ks → (ay (ks.map fun x => (x, F x)) x).isSome = false
  | [], _ => rfl
  | y :: ks, h => by
    rw [List.map_cons, ay, if_neg (fun e => h (by rw [← e]; simp))]
    exact mA fun hx => h (List.mem_cons_of_mem _ hx)
theorem mz {F : List UInt8 → List UInt8 × Int} {x : List UInt8} : ∀ {ks : List (List UInt8)}, x ∈ ks → ay (ks.map fun x => (x, F x)) x = some (F x)
  | [], h => by cases h
  | y :: ks, h => by
    rw [List.map_cons, ay]
    by_cases hy : y = x
    · rw [if_pos hy, hy]
    · rw [if_neg hy]
      rcases List.mem_cons.1 h with h | h
      · exact absurd h.symm hy
      · exact mz h
end Go.Proofs.YtjkjlggbikeliaaGreatDoor

namespace Go.Proofs.YtjkjlggbikeliaaGreatDoor
set_option linter.unusedVariables false
set_option linter.unusedSimpArgs false
set_option linter.unusedSectionVars false
open Go.RowKit
class jd (κ : Type) [LT κ] : Prop where
  irr : ∀ a : κ, ¬ a < a
  trans : ∀ a b c : κ, a < b → b < c → a < c
  tri : ∀ a b : κ, ¬ a < b → a ≠ b → b < a
instance : jd Int := ⟨fun a => Int.lt_irrefl a, fun a b c h1 h2 => Int.lt_trans h1 h2, fun a b h1 h2 => by omega⟩
instance : jd (List UInt8) := ⟨fun a => List.lt_irrefl a, fun a b c h1 h2 => List.lt_trans h1 h2, fun a b h1 h2 => by
  rcases List.le_total a b with h | h
  · rcases List.le_iff_lt_or_eq.1 h with h | h
    · exact absurd h h1
    · exact absurd h h2
  · rcases List.le_iff_lt_or_eq.1 h with h | h
    · exact h
    · exact absurd h.symm h2⟩
section
variable {κ β : Type} [DecidableEq κ] [LT κ] [DecidableRel (α := κ) (· < ·)] [jd κ]
def srt (M : List (κ × β)) : Prop := (M.map (·.1)).Pairwise (· < ·)
theorem kf {p : κ × β} {l : List (κ × β)} : srt (p :: l) ↔ (∀ q ∈ l, p.1 < q.1) ∧ srt l := by
  unfold srt
  rw [List.map_cons, List.pairwise_cons]
  constructor
  · exact fun h => ⟨fun q hq => h.1 _ (List.mem_map_of_mem hq), h.2⟩
  · refine fun h => ⟨fun x hx => ?_, h.2⟩
    obtain ⟨q, hq, rfl⟩ := List.mem_map.1 hx
    exact h.1 q hq
theorem qc {M : List (κ × β)} (h : srt M) : (M.map (·.1)).Nodup :=
  List.Pairwise.imp (R := fun a b => a < b) (fun {a b} hab (e : a = b) => jd.irr b (by rw [e] at hab; exact hab)) h
def low : List (κ × β) → κ → Nat
  | [], _ => 0
  | p :: l, k => if p.1 < k then low l k + 1 else 0
theorem rC : ∀ (M : List (κ × β)) (k : κ), low M k ≤ M.length
  | [], k => Nat.le_refl _
  | p :: l, k => by
    unfold low; split
    · have := rC l k; simp; omega
    · simp
theorem ry : ∀ (M : List (κ × β)) (k : κ) (i : Nat) (p : κ × β), i < low M k → M[i]? = some p → p.1 < k
  | [], k, i, p, h, _ => by simp [low] at h
  | q :: l, k, i, p, h, e => by
    unfold low at h; split at h
    · cases i with
      | zero => simp at e; subst e; assumption
      | succ i => exact ry l k i p (by omega) (by simpa using e)
    · omega
theorem vS : ∀ (M : List (κ × β)) (k : κ) (p : κ × β), M[low M k]? = some p → ¬ p.1 < k
  | [], k, p, h => by simp at h
  | q :: l, k, p, h => by
    unfold low at h; split at h
    · exact vS l k p (by simpa using h)
    · simp at h; subst h; assumption
theorem uz : ∀ (M : List (κ × β)) (k : κ), srt M → ay M k = (M[low M k]?).bind fun p => if p.1 = k then some p.2 else none
  | [], k, _ => by simp [ay, low]
  | q :: l, k, h => by
    rw [kf] at h
    unfold low
    by_cases hq : q.1 < k
    · have hne : q.1 ≠ k := fun e => jd.irr k (by rw [e] at hq; exact hq)
      rw [if_pos hq]; simp only [ay, if_neg hne, List.getElem?_cons_succ]; exact uz l k h.2
    · rw [if_neg hq]
      by_cases he : q.1 = k
      · simp [ay, he]
      · simp only [ay, if_neg he, List.getElem?_cons_zero, Option.bind_some]
        have hk := jd.tri _ _ hq he
        cases hm : ay l k with
        | none => rfl
        | some y =>
          have := h.1 _ (jA l k y hm)
          exact absurd (jd.trans _ _ _ hk this) (jd.irr k)
def jU : List (κ × β) → κ → β → List (κ × β)
  | [], k, v => [(k, v)]
  | p :: l, k, v => if p.1 < k then p :: jU l k v else (k, v) :: p :: l
theorem pM : ∀ (M : List (κ × β)) (k : κ) (v : β), jU M k v = M.take (low M k) ++ (k, v) :: M.drop (low M k)
  | [], k, v => by simp [jU, low]
  | p :: l, k, v => by
    unfold jU low; split
    · rw [pM l k v]; simp
    · simp
theorem xD {M : List (κ × β)} {k : κ} {v : β} {q : κ × β} (h : q ∈ jU M k v) : q = (k, v) ∨ q ∈ M := by
  rw [pM] at h
  rcases List.mem_append.1 h with h | h
  · exact .inr (List.mem_of_mem_take h)
  · rcases List.mem_cons.1 h with h | h
    · exact .inl h
    · exact .inr (List.mem_of_mem_drop h)
theorem qb : ∀ (M : List (κ × β)) (k : κ) (v : β) (z : κ), ay (jU M k v) z = if k = z then some v else ay M z
  | [], k, v, z => by simp [jU, ay]
  | p :: l, k, v, z => by
    unfold jU
    split
    · rename_i hp
      simp only [ay]
      by_cases hz : p.1 = z
      · have hne : ¬ k = z := fun e => jd.irr z (by rw [hz, e] at hp; exact hp)
        rw [if_pos hz, if_neg hne, if_pos hz]
      · rw [if_neg hz, qb l k v z, if_neg hz]
    · simp only [ay]
theorem rv : ∀ (M : List (κ × β)) (k : κ) (v : β), srt M → ay M k = none → srt (jU M k v)
  | [], k, v, _, _ => by simp [jU, srt]
  | p :: l, k, v, h, hm => by
    have h' := kf.1 h
    have hne : p.1 ≠ k := fun e => by simp [ay, e] at hm
    simp only [ay, if_neg hne] at hm
    unfold jU
    split
    · rename_i hp
      refine kf.2 ⟨fun q hq => ?_, rv l k v h'.2 hm⟩
      rcases xD hq with e | e
      · subst e; exact hp
      · exact h'.1 q e
    · rename_i hp
      have hk := jd.tri _ _ hp hne
      refine kf.2 ⟨fun q hq => ?_, h⟩
      rcases List.mem_cons.1 hq with e | e
      · subst e; exact hk
      · exact jd.trans _ _ _ hk (h'.1 q e)
theorem uA : ∀ (M : List (κ × β)) (k : κ) (u : β), M[low M k]? = some (k, u) → bU M k = M.take (low M k) ++ M.drop (low M k + 1)
  | [], k, u, h => by simp at h
  | p :: l, k, u, h => by
    unfold low at h ⊢
    split at h
    · rename_i hp
      have hne : p.1 ≠ k := fun e => jd.irr k (by rw [e] at hp; exact hp)
      simp only [bU, if_neg hne, if_pos hp]
      rw [uA l k u (by simpa using h)]; simp
    · rename_i hp
      rw [if_neg hp]
      simp at h
      subst h
      simp [bU]
theorem tG : ∀ (M : List (κ × β)) (k : κ) (u v : β), M[low M k]? = some (k, u) → bk M k v = M.set (low M k) (k, v)
  | [], k, u, v, h => by simp at h
  | p :: l, k, u, v, h => by
    unfold low at h ⊢
    split at h
    · rename_i hp
      have hne : p.1 ≠ k := fun e => jd.irr k (by rw [e] at hp; exact hp)
      simp only [bk, if_neg hne, if_pos hp]
      rw [tG l k u v (by simpa using h)]; simp
    · rename_i hp
      rw [if_neg hp]
      simp at h
      subst h
      simp [bk]
theorem wW {M : List (κ × β)} {k : κ} {u : β} (h : srt M) (hm : ay M k = some u) : M[low M k]? = some (k, u) := by
  rw [uz M k h] at hm
  cases hp : M[low M k]? with
  | none => rw [hp] at hm; simp at hm
  | some p =>
    rw [hp, Option.bind_some] at hm
    split at hm
    · rename_i e; injection hm with hm; rw [← e, ← hm]
    · cases hm
theorem wV {M : List (κ × β)} (h : srt M) (k : κ) : srt (bU M k) := List.Pairwise.sublist ((kX M k).map _) h
theorem wU {M : List (κ × β)} (h : srt M) {k : κ} {v : β} (hm : (ay M k).isSome = true) : srt (bk M k v) := by
  unfold srt at *
  rw [kA, if_pos ((iD M k).2 hm)]; exact h
theorem oL : ∀ {M N : List (κ × β)}, srt M → srt N → (∀ k, ay M k = ay N k) → M = N
  | [], [], _, _, _ => rfl
  | [], q :: N, _, _, h => by have := h q.1; simp [ay] at this
  | p :: M, [], _, _, h => by have := h p.1; simp [ay] at this
  | p :: M, q :: N, hM, hN, h => by
    have hM' := kf.1 hM
    have hN' := kf.1 hN
    have hpq : p.1 = q.1 := by
      apply Classical.byContradiction; intro hne
      have h1 : ay (q :: N) p.1 = some p.2 := by rw [← h]; simp [ay]
      have h2 : ay (p :: M) q.1 = some q.2 := by rw [h]; simp [ay]
      simp only [ay, if_neg (Ne.symm hne)] at h1
      simp only [ay, if_neg hne] at h2
      exact jd.irr _ (jd.trans _ _ _ (hM'.1 _ (jA M q.1 q.2 h2)) (hN'.1 _ (jA N p.1 p.2 h1)))
    have hv : p.2 = q.2 := by have := h p.1; simpa [ay, hpq] using this
    have : p = q := Prod.ext hpq hv
    subst this
    refine congrArg _ (oL hM'.2 hN'.2 fun k => ?_)
    by_cases hk : p.1 = k
    · have a : ay M k = none := by
        cases hm : ay M k with
        | none => rfl
        | some y => have := hM'.1 _ (jA M k y hm); rw [hk] at this; exact absurd this (jd.irr k)
      have b : ay N k = none := by
        cases hm : ay N k with
        | none => rfl
        | some y => have := hN'.1 _ (jA N k y hm); rw [hk] at this; exact absurd this (jd.irr k)
      rw [a, b]
    · have := h k; simpa only [ay, if_neg hk] using this
end
theorem kC : ∀ (l m : List UInt8), Op.bytesLess l m = decide (l < m)
  | [], [] => by simp [Op.bytesLess]
  | [], b :: m => by simp [Op.bytesLess]
  | a :: l, [] => by simp [Op.bytesLess]
  | a :: l, b :: m => by
    simp only [Op.bytesLess]
    rw [Bool.eq_iff_iff, decide_eq_true_eq, List.cons_lt_cons_iff]
    simp [kC l m]
theorem mc {α : Type} (l : List α) (n : Nat) : cut l (0 : Int) (n : Int) = l.take n := by simp [cut]
theorem rD {α : Type} (l : List α) (n : Nat) (m : Nat) (hm : m = l.length) : cut l (n : Int) (m : Int) = l.drop n := by
  subst hm
  unfold cut
  rw [List.take_of_length_le (by simp <;> omega)]
  simp
theorem jV {α : Type} {l : List α} {i : Nat} {x : α} (h : l[i]? = some x) (d : α) : l.getD i d = x := by rw [List.getD_eq_getElem?_getD, h]; rfl
theorem iw {α : Type} {l : List α} {i : Nat} {x : α} (h : l[i]? = some x) : i < l.length := (List.getElem?_eq_some_iff.1 h).1
theorem ll {α : Type} {l : List α} {i : Nat} (h : i < l.length) (d : α) : l[i]? = some (l.getD i d) := by rw [List.getD_eq_getElem?_getD, List.getElem?_eq_getElem h]; rfl
end Go.Proofs.YtjkjlggbikeliaaGreatDoor

namespace Go.Proofs.YtjkjlggbikeliaaGreatDoor
set_option linter.unusedVariables false
set_option linter.unusedSimpArgs false
set_option linter.unusedSectionVars false
open Go.RowKit
theorem fI (fs : FSt) (z : List UInt8) : ay (aR fs) z = ay fs z := by
  by_cases hx : z ∈ dz fs
  · have : ay (aR fs) z = some (bw fs z) := mz hx
    rw [this, bw]; exact (ew (iC hx)).symm
  · have h1 : (ay (aR fs) z).isSome = false := mA (F := bw fs) hx
    have h2 : (ay fs z).isSome = false := by
      cases hm : (ay fs z).isSome with
      | false => rfl
      | true => exact absurd ((ji fs).mem_iff.2 ((iD fs z).2 hm)) hx
    cases ha : ay (aR fs) z with
    | some v => rw [ha] at h1; cases h1
    | none => cases hb : ay fs z with
      | some v => rw [hb] at h2; cases h2
      | none => rfl
theorem nN (fs : FSt) : (aR fs).map (·.1) = dz fs := by
  rw [aR, List.map_map]; exact List.map_id _
theorem gJ {fs : FSt} (h : (fs.map (·.1)).Nodup) : srt (aR fs) := by unfold srt; rw [nN]; exact kW h
theorem lI {fs : FSt} (hp : (fs.map (·.1)).Nodup) {x : List UInt8} {v : List UInt8 × Int} (hm : ay fs x = none) : aR (bk fs x v) = jU (aR fs) x v :=
  oL (gJ (jj hp)) (rv _ _ _ (gJ hp) (by rw [fI]; exact hm)) fun z => by rw [fI, fW, qb, fI]
theorem pL {fs : FSt} (hp : (fs.map (·.1)).Nodup) {x : List UInt8} {v : List UInt8 × Int} (hm : (ay fs x).isSome = true) : aR (bk fs x v) = bk (aR fs) x v :=
  oL (gJ (jj hp)) (wU (gJ hp) (by rw [fI, hm])) fun z => by rw [fI, fW, fW, fI]
theorem uN {fs : FSt} (hp : (fs.map (·.1)).Nodup) (x : List UInt8) : aR (bU fs x) = bU (aR fs) x :=
  oL (gJ (hp.sublist ((kX fs x).map _))) (wV (gJ hp) x) fun z => by rw [fI, gm _ _ _ hp, gm _ _ _ (qc (gJ hp)), fI]
theorem uO (fs : FSt) : Eqv (aR fs) fs := fI fs
theorem vR {fs : FSt} (h : (fs.map (·.1)).Nodup) : szF (aR fs) = szF fs := (uO fs).szF (qc (gJ h)) h
theorem iE {fs : FSt} (h : (fs.map (·.1)).Nodup) {x : List UInt8} (hm : (ay fs x).isSome = true) : (aR fs)[low (aR fs) x]? = some (x, bw fs x) :=
  wW (gJ h) (by rw [fI, bw]; exact ew hm)
theorem kI {fs : FSt} (h : (fs.map (·.1)).Nodup) {x : List UInt8} {v : List UInt8 × Int} (hm : (ay fs x).isSome = true) : (aR fs).set (low (aR fs) x) (x, v) = aR (bk fs x v) := by
  rw [pL h hm, tG _ _ _ _ (iE h hm)]
/-! ### Its search -/
theorem rx {F : List fj} (hl : F.length < 2 ^ 60) {x : List UInt8} {u : List UInt8 × Int} (hu : F[low F x]? = some (x, u)) : ∀ (d i k : Nat), i + d = low F x → d + 1 ≤ k → aU.l0 F x k (i : Int) = some (.inr ((low F x : Nat) : Int))
  | d, i, 0, _, hk => by omega
  | 0, i, k + 1, h, _ => by
    have hi : i = low F x := by omega
    have hlt := iw hu
    simp only [aU.l0]
    rw [if_pos (by omega), if_pos (by omega), Int.toNat_natCast, hi, jV hu, if_pos rfl]
  | d + 1, i, k + 1, h, hk => by
    have hlt := iw hu
    have hi : i < F.length := by omega
    simp only [aU.l0]
    have h1 := ry F x i _ (by omega) (ll hi aj)
    have hne : ¬ (F.getD i aj).1 = x := fun e => by rw [e] at h1; exact List.lt_irrefl x h1
    rw [if_pos (by omega), if_pos (by omega), Int.toNat_natCast, if_neg hne, wi1 (by omega)]
    exact rx hl hu d (i + 1) k (by omega) (by omega)
theorem rz {F : List fj} (hl : F.length < 2 ^ 60) {x : List UInt8} (hx : ay F x = none) : ∀ (d i k : Nat), i + d = F.length → d + 1 ≤ k → aU.l0 F x k (i : Int) = some (.inl ())
  | d, i, 0, _, hk => by omega
  | 0, i, k + 1, h, _ => by
    simp only [aU.l0]
    rw [if_neg (by omega)]
  | d + 1, i, k + 1, h, hk => by
    have hi : i < F.length := by omega
    simp only [aU.l0]
    have hne : ¬ (F.getD i aj).1 = x := fun e => by
      have : x ∈ F.map (·.1) := List.mem_map.2 ⟨_, ma (d := aj) hi, e⟩
      have := (iD F x).1 this
      rw [hx] at this; cases this
    rw [if_pos (by omega), if_pos (by omega), Int.toNat_natCast, if_neg hne, wi1 (by omega)]
    exact rz hl hx d (i + 1) k (by omega) (by omega)
def atM (fs : FSt) (x : List UInt8) : Int := if (ay fs x).isSome = true then ((low (aR fs) x : Nat) : Int) else -1
theorem jI {n : Nat} {fs : FSt} (h : cx n fs) (hn : n < 2 ^ 40) (a : Int) (d : Bool) (l x : List UInt8) {k : Nat} (hk : n + 2 ≤ k) : aU.f k (aR fs) a d l x = some (atM fs x) := by
  have hln := h.ln
  have hfl := fJ fs
  unfold aU.f atM
  cases hm : (ay fs x).isSome with
  | true =>
    have hlow := iE h.nd hm
    have := rx (F := aR fs) (by omega) hlow (low (aR fs) x) 0 k (by omega) (by have := iw hlow; omega)
    rw [show ((0 : Nat) : Int) = 0 from rfl] at this
    rw [this]; simp [orR]
  | false =>
    have hx : ay (aR fs) x = none := by
      rw [fI]; cases hq : ay fs x with
      | none => rfl
      | some v => rw [hq] at hm; cases hm
    have := rz (F := aR fs) (by omega) hx (aR fs).length 0 k (by omega) (by omega)
    rw [show ((0 : Nat) : Int) = 0 from rfl] at this
    rw [this]; simp [orR]
theorem oM (F : List fj) (hl : F.length < 2 ^ 60) (hs : szF F < 2 ^ 60) : ∀ (d i k z : Nat), i + d = F.length → d + 1 ≤ k → z + szF (F.drop i) < 2 ^ 61 → bx.l0 F k (z : Int) (i : Int) = some (((z + szF (F.drop i) : Nat)) : Int)
  | d, i, 0, z, _, hk, _ => by omega
  | 0, i, k + 1, z, h, _, _ => by
    simp only [bx.l0]
    rw [if_neg (by omega), List.drop_of_length_le (by omega)]; rfl
  | d + 1, i, k + 1, z, h, hk, hz => by
    have hi : i < F.length := by omega
    have ed := kU F aj hi
    rw [ed, gW] at hz
    simp only [bx.l0]
    rw [if_pos (by omega), if_pos (by omega), Int.toNat_natCast, wi1 (by omega), w64 (by omega) (by omega), ed, gW]
    have := oM F hl hs d (i + 1) k (z + (F.getD i aj).2.1.length) (by omega) (by omega) (by omega)
    rw [show (z : Int) + ((F.getD i aj).2.1.length : Int) = ((z + (F.getD i aj).2.1.length : Nat) : Int) by omega, this]
    congr 2; omega
theorem rA {n : Nat} {fs : FSt} (h : cx n fs) (hn : n < 2 ^ 40) (a : Int) (d : Bool) (l : List UInt8) {k : Nat} (hk : n + 2 ≤ k) : bx.f k (aR fs) a d l = some (szF fs : Int) := by
  have hln := h.ln
  have hfl := fJ fs
  have hsz := h.sz
  have e := vR h.nd
  unfold bx.f
  have := oM (aR fs) (by omega) (by omega) (aR fs).length 0 k 0 (by omega) (by omega) (by rw [List.drop_zero]; omega)
  rw [List.drop_zero, e, Nat.zero_add] at this
  rw [show bx.l0 (aR fs) k 0 0 = _ from this]; rfl
theorem oO (x : List UInt8) (hl : x.length < 2 ^ 62) : ∀ (d i k : Nat), i + d = x.length → d + 1 ≤ k → cy.l0 x k (i : Int) = some (if (x.drop i).all (fun c => !mb c) then .inl () else .inr false)
  | d, i, 0, _, hk => by omega
  | 0, i, k + 1, h, _ => by
    simp only [cy.l0]
    rw [if_neg (by omega), List.drop_of_length_le (by omega)]; rfl
  | d + 1, i, k + 1, h, hk => by
    simp only [cy.l0]
    rw [if_pos (by omega), if_pos (by omega), wi1 (by omega), oO x hl d (i + 1) k (by omega) (by omega), kU x 0 (i := i) (by omega)]
    simp only [Int.toNat_natCast, List.all_cons]
    obtain ⟨c, hc⟩ : ∃ c, x.getD i 0 = c := ⟨_, rfl⟩
    simp only [hc]
    have e : ((if ((decide (((c.toNat : Int)) < (97 : Int))) || (decide ((122 : Int) < (c.toNat : Int)))) = true then (some ((decide ((c.toNat : Int) < (48 : Int))) || (decide ((57 : Int) < (c.toNat : Int))))) else (some false)) : Option Bool) = some (((decide (((c.toNat : Int)) < (97 : Int))) || (decide ((122 : Int) < (c.toNat : Int)))) && ((decide ((c.toNat : Int) < (48 : Int))) || (decide ((57 : Int) < (c.toNat : Int))))) := by
      cases ((decide (((c.toNat : Int)) < (97 : Int))) || (decide ((122 : Int) < (c.toNat : Int)))) <;> rfl
    rw [e, Option.bind_some]
    show (if mb c = true then _ else _) = _
    cases mb c <;> rfl
theorem rB {x : List UInt8} {k : Nat} (hl : x.length < 2 ^ 62) (hk : x.length + 1 ≤ k) : cy.f k x = some (nmB x) := by
  unfold cy.f nmB
  have := oO x hl x.length 0 k (by omega) (by omega)
  rw [show ((0 : Nat) : Int) = 0 from rfl, List.drop_zero] at this
  rw [this]
  have e : decide ((1 : Int) ≤ (x.length : Int)) = decide ((0 : Int) < (x.length : Int)) := by rw [decide_eq_decide]; omega
  rw [e]
  cases x.all fun c => !mb c <;> rfl
theorem jB (F : List fj) {a : Int} (ha : 0 ≤ a) (d : Bool) (l : List UInt8) : bI.f F a d l = some ((cl l a d).1, (cl l a d).2.2.1, (cl l a d).2.2.2, l) := by
  unfold bI.f cl
  by_cases h : a = 0
  · rw [if_pos h, if_pos (by omega)]
  · rw [if_neg h, if_neg (by omega)]
/-! ### Create -/
theorem qd (F : List fj) (hl : F.length < 2 ^ 60) (x : List UInt8) : ∀ (d i k : Nat), i + d = low F x → d + 1 ≤ k → bJ.l0 F x k (i : Int) = some ((low F x : Nat) : Int)
  | d, i, 0, _, hk => by omega
  | 0, i, k + 1, h, _ => by
    have hi : i = low F x := by omega
    simp only [bJ.l0]
    have e : ((if (i : Int) < (F.length : Int) then (if 0 ≤ (i : Int) ∧ (i : Int) < (F.length : Int) then (some (Op.bytesLess ((F.getD (i : Int).toNat aj).1) x)) else none) else (some false)) : Option Bool) = some false := by
      by_cases hlt : (i : Int) < (F.length : Int)
      · have := vS F x _ (by rw [← hi]; exact ll (by omega) aj)
        rw [if_pos hlt, if_pos ⟨by omega, hlt⟩, Int.toNat_natCast, kC, decide_eq_false this]
      · rw [if_neg hlt]
    rw [e, Option.bind_some, if_neg (by simp), hi]
  | d + 1, i, k + 1, h, hk => by
    have hle := rC F x
    have hlt : (i : Int) < (F.length : Int) := by omega
    simp only [bJ.l0]
    have := ry F x i _ (by omega) (ll (by omega) aj)
    rw [if_pos hlt, if_pos ⟨by omega, hlt⟩, Int.toNat_natCast, kC, decide_eq_true this, Option.bind_some, if_pos rfl, wi1 (by omega)]
    exact qd F hl x d (i + 1) k (by omega) (by omega)
theorem tH (F : List fj) (hl : F.length < 2 ^ 40) (a : Int) (d : Bool) (l x : List UInt8) (v : List UInt8 × Int) {k : Nat} (hk : F.length + 1 ≤ k) : bJ.f k F a d l x v.1 v.2 = some (jU F x v, a, d, l) := by
  have hle := rC F x
  unfold bJ.f
  have := qd F (by omega) x (low F x) 0 k (by omega) (by omega)
  rw [show ((0 : Nat) : Int) = 0 from rfl] at this
  rw [this, Option.bind_some, if_pos ⟨by omega, by omega, by omega⟩, mc, rD F (low F x) F.length rfl, if_pos (by simp; omega), if_pos (by simp; omega), if_pos ⟨by omega, by omega, by omega⟩, if_pos (by simp; omega), pM]
  simp
def eZ (r : Int × DS) : Int × List fj × Int × Bool × List UInt8 := (r.1, aR r.2.1, r.2.2.2.1, r.2.2.2.2, r.2.2.1)
theorem oP {fs : FSt} (h : cx 256 fs) (l : List UInt8) {a : Int} (ha : 0 ≤ a) (d : Bool) (x : List UInt8) {k : Nat} (hl : x.length < 2 ^ 62) (hk : x.length + 300 ≤ k) : db.f k (aR fs) a d l x = some (eZ (dZ fs l a d x)) := by
  have hln := h.ln
  have hfl := fJ fs
  unfold db.f dZ
  rw [rB hl (by omega), jI h (by decide) _ _ _ _ (by omega), jB _ ha]
  simp only [Option.bind_some, hfl]
  have hf := fa l a d
  cases d with
  | true => rfl
  | false =>
    cases hn : nmB x with
    | false => rfl
    | true =>
      simp only [Bool.not_true, Bool.false_eq_true, if_false, Bool.true_eq_false]
      cases hm : (ay fs x).isSome with
      | true =>
        have e : (0 : Int) ≤ atM fs x := by unfold atM; rw [if_pos hm]; omega
        rw [if_pos e, if_pos rfl]; rfl
      | false =>
        have e : ¬ (0 : Int) ≤ atM fs x := by unfold atM; rw [hm]; simp
        rw [if_neg e]
        simp only [Bool.false_eq_true, if_false]
        by_cases h6 : (256 : Int) ≤ (fs.length : Int)
        · rw [if_pos h6, if_pos h6]; rfl
        · rw [if_neg h6, if_neg h6]
          by_cases h7 : (cl l a false).1 = true
          · rw [if_pos h7, if_pos h7]
            unfold eZ; simp only [hf]
          · rw [if_neg h7, if_neg h7]
            have := tH (aR fs) (by omega) (cl l a false).2.2.1 (cl l a false).2.2.2 l x ([], 0) (k := k) (by omega)
            simp only at this
            rw [this]
            have hx : ay fs x = none := by cases hq : ay fs x with
              | none => rfl
              | some v => rw [hq] at hm; cases hm
            unfold eZ; simp only [hf, lI h.nd hx, Option.bind_some]
theorem ku {x : List UInt8} (h : x.length < 2 ^ 40) : bl.f x = some x := by
  unfold bl.f
  rw [if_pos (by simp; omega)]; rfl
theorem oQ {n : Nat} {fs : FSt} (h : cx n fs) (hn : n < 2 ^ 40) (l : List UInt8) {a : Int} (ha : 0 ≤ a) (d : Bool) (x b : List UInt8) (hb : b.length < 2 ^ 40) {k : Nat} (hk : n + 2 ≤ k) : dc.f k (aR fs) a d l x b = some (eZ (ea fs l a d x b)) := by
  have hsz := h.sz
  have hf := fa x a d
  have hf2 : (cl x a d).1 = (cl l a d).1 ∧ (cl x a d).2.2 = (cl l a d).2.2 := by unfold cl; split <;> exact ⟨rfl, rfl⟩
  unfold dc.f ea
  rw [jI h hn _ _ _ _ hk, rA h hn _ _ _ hk, jB _ ha, hf2.1, hf2.2]
  simp only [Option.bind_some]
  cases d with
  | true => cases (ay fs x).isSome <;> rfl
  | false =>
    cases hm : (ay fs x).isSome with
    | false =>
      have e : atM fs x < (0 : Int) := by unfold atM; rw [hm]; simp
      rw [if_pos e]; rfl
    | true =>
      have hat : atM fs x = ((low (aR fs) x : Nat) : Int) := by unfold atM; rw [if_pos hm]
      have hlow := iE h.nd hm
      have hlt := iw hlow
      have hlen : (bw fs x).1.length ≤ 16777216 := Nat.le_trans (iJ (gg hm)) hsz
      have c1 : 0 ≤ ((low (aR fs) x : Nat) : Int) ∧ ((low (aR fs) x : Nat) : Int) < ((aR fs).length : Int) := by omega
      rw [hat, w64 (n := 16777216 - (szF fs : Int)) (by omega) (by omega), tJ b (by omega)]
      simp only [Bool.false_eq_true, if_false, if_true]
      rw [if_neg (by omega)]
      by_cases hs : 16777216 - (szF fs : Int) < (b.length : Int)
      · rw [if_pos hs, if_pos hs]; rfl
      · rw [if_neg hs, if_neg hs]
        simp only [Int.toNat_natCast, jV hlow]
        rw [ku (by omega)]
        simp only [Option.bind_some]
        by_cases h7 : (cl l a false).1 = true
        · rw [if_pos h7, if_pos h7, if_pos c1, if_pos ⟨by omega, by omega, by omega⟩, mc, if_pos (by simp only [List.length_take]; omega)]
          simp only [c1, and_self, if_true]
          have := kI h.nd (v := ((bw fs x).1 ++ b.take (b.length / 2), (bw fs x).2)) hm
          rw [this]; rfl
        · rw [if_neg h7, if_neg h7, if_pos c1, if_pos (by omega)]
          simp only [c1, and_self, if_true]
          have := kI h.nd (v := ((bw fs x).1 ++ b, (bw fs x).2)) hm
          rw [this]; rfl
end Go.Proofs.YtjkjlggbikeliaaGreatDoor

namespace Go.Proofs.YtjkjlggbikeliaaGreatDoor
set_option linter.unusedVariables false
set_option linter.unusedSimpArgs false
set_option linter.unusedSectionVars false
open Go.RowKit
theorem xF {F : List fj} {i : Nat} (hi : i < F.length) (v d : fj) : (F.set i v).getD i d = v := by
  rw [List.getD_eq_getElem?_getD, List.getElem?_set, if_pos rfl, if_pos hi]; rfl
theorem tm {α : Type} {F : List α} {i j : Nat} (hi : i ≠ j) (v d : α) : (F.set i v).getD j d = F.getD j d := by
  rw [List.getD_eq_getElem?_getD, List.getElem?_set, if_neg hi, List.getD_eq_getElem?_getD]
theorem sq {n : Nat} {fs : FSt} (h : cx n fs) (hn : n < 2 ^ 40) (l : List UInt8) {a : Int} (ha : 0 ≤ a) (d : Bool) (x : List UInt8) {k : Nat} (hk : n + 2 ≤ k) : dB.f k (aR fs) a d l x = some (eZ (gc fs l a d x)) := by
  have hf := fa l a d
  unfold dB.f gc
  rw [jI h hn _ _ _ _ hk, jB _ ha]
  simp only [Option.bind_some]
  cases d with
  | true => cases (ay fs x).isSome <;> rfl
  | false =>
    cases hm : (ay fs x).isSome with
    | false =>
      have e : atM fs x < (0 : Int) := by unfold atM; rw [hm]; simp
      rw [if_pos e]; rfl
    | true =>
      have hat : atM fs x = ((low (aR fs) x : Nat) : Int) := by unfold atM; rw [if_pos hm]
      have hlow := iE h.nd hm
      have hlt := iw hlow
      have c1 : 0 ≤ ((low (aR fs) x : Nat) : Int) ∧ ((low (aR fs) x : Nat) : Int) < ((aR fs).length : Int) := by omega
      rw [hat]
      simp only [Bool.false_eq_true, if_false, if_true]
      rw [if_neg (by omega)]
      by_cases h7 : (cl l a false).1 = true
      · rw [if_pos h7, if_pos h7]; unfold eZ; simp only [hf]
      · rw [if_neg h7, if_neg h7]
        simp only [Int.toNat_natCast, jV hlow, c1, and_self, if_true]
        have := kI h.nd (v := ((bw fs x).1, ((bw fs x).1.length : Int))) hm
        rw [this]; unfold eZ; simp only [hf]
theorem yw {n : Nat} {fs : FSt} (h : cx n fs) (hn : n < 2 ^ 40) (l : List UInt8) {a : Int} (ha : 0 ≤ a) (d : Bool) (x : List UInt8) (m : Int) {k : Nat} (hk : n + 2 ≤ k) : eU.f k (aR fs) a d l x m = some (eZ (jM fs l a d x m)) := by
  have hf := fa l a d
  have hsz := h.sz
  unfold eU.f jM
  rw [jI h hn _ _ _ _ hk, jB _ ha]
  simp only [Option.bind_some]
  cases d with
  | true => cases (ay fs x).isSome <;> rfl
  | false =>
    cases hm : (ay fs x).isSome with
    | false =>
      have e : atM fs x < (0 : Int) := by unfold atM; rw [hm]; simp
      rw [if_pos e]; rfl
    | true =>
      have hat : atM fs x = ((low (aR fs) x : Nat) : Int) := by unfold atM; rw [if_pos hm]
      have hlow := iE h.nd hm
      have hlt := iw hlow
      have hlen : (bw fs x).1.length ≤ 16777216 := Nat.le_trans (iJ (gg hm)) hsz
      have c1 : 0 ≤ ((low (aR fs) x : Nat) : Int) ∧ ((low (aR fs) x : Nat) : Int) < ((aR fs).length : Int) := by omega
      have e1 : ((if m < (0 : Int) then (some true) else (if 0 ≤ ((low (aR fs) x : Nat) : Int) ∧ ((low (aR fs) x : Nat) : Int) < ((aR fs).length : Int) then (some (decide (((((aR fs).getD ((low (aR fs) x : Nat) : Int).toNat aj).2.1).length : Int) < m))) else none)) : Option Bool) = some (decide (m < 0 ∨ ((bw fs x).1.length : Int) < m)) := by
        simp only [Int.toNat_natCast, jV hlow, c1, and_self, if_true]
        by_cases hm0 : m < 0
        · rw [if_pos hm0]; simp [hm0]
        · rw [if_neg hm0]; simp [hm0]
      rw [hat, e1]
      simp only [Bool.false_eq_true, if_false, if_true, Option.bind_some, decide_eq_true_eq]
      rw [if_neg (by omega)]
      by_cases hr : m < 0 ∨ ((bw fs x).1.length : Int) < m
      · rw [if_pos hr, if_pos hr]; rfl
      · rw [if_neg hr, if_neg hr]
        by_cases h7 : (cl l a false).1 = true
        · rw [if_pos h7, if_pos h7]; unfold eZ; simp only [hf]
        · rw [if_neg h7, if_neg h7]
          have hr1 : 0 ≤ m := by omega
          have hr2 : m ≤ ((bw fs x).1.length : Int) := by omega
          have ec : cut (bw fs x).1 (0 : Int) m = (bw fs x).1.take m.toNat := by simp [cut]
          simp only [Int.toNat_natCast, jV hlow, c1, and_self, if_true, ec]
          rw [if_pos ⟨by omega, hr1, hr2⟩, ku (by simp only [List.length_take]; omega)]
          simp only [Option.bind_some, xF hlt, List.set_set, List.length_set, c1, and_self, if_true]
          have := kI h.nd (v := ((bw fs x).1.take m.toNat, min (bw fs x).2 m)) hm
          rw [this]; unfold eZ; simp only [hf]
theorem oF {n : Nat} {fs : FSt} (h : cx n fs) (hn : n < 2 ^ 40) (l : List UInt8) (a : Int) (d : Bool) {x : List UInt8} (hm : (ay fs x).isSome = true) :
    cV.f (aR fs) a d l ((low (aR fs) x : Nat) : Int) = some (x, (bw fs x).1, (bw fs x).2, aR (bU fs x), a, d, l) := by
  have hlow := iE h.nd hm
  have hlt := iw hlow
  have hln := h.ln
  have hfl := fJ fs
  have hdel : aR (bU fs x) = (aR fs).take (low (aR fs) x) ++ (aR fs).drop (low (aR fs) x + 1) := by
    rw [uN h.nd x]; exact uA _ _ _ hlow
  unfold cV.f
  have w : IntKind.i64.wrap (((low (aR fs) x : Nat) : Int) + 1) = ((low (aR fs) x + 1 : Nat) : Int) := wi1 (by omega)
  rw [w, mc, rD _ _ _ rfl]
  simp only [Int.toNat_natCast, jV hlow, List.nil_append, List.length_nil, List.length_take, List.length_drop]
  rw [if_pos (by omega), if_pos (by omega), if_pos (by omega), if_pos (by omega), if_pos (by omega), hdel]
theorem nj {fs : FSt} {x : List UInt8} (hm : (ay fs x).isSome = true) : atM fs x = ((low (aR fs) x : Nat) : Int) := by unfold atM; rw [if_pos hm]
theorem kP {n : Nat} {fs : FSt} (h : cx n fs) (hn : n < 2 ^ 40) (l : List UInt8) {a : Int} (ha : 0 ≤ a) (d : Bool) (x : List UInt8) {k : Nat} (hk : n + 2 ≤ k) : bV.f k (aR fs) a d l x = some (eZ (fl fs l a d x)) := by
  have hf := fa l a d
  unfold bV.f fl
  rw [jI h hn _ _ _ _ hk, jB _ ha]
  simp only [Option.bind_some]
  cases d with
  | true => rfl
  | false =>
    cases hm : (ay fs x).isSome with
    | false =>
      have e : atM fs x < (0 : Int) := by unfold atM; rw [hm]; simp
      rw [if_pos e]; rfl
    | true =>
      rw [nj hm, oF h hn _ _ _ hm]
      simp only [Bool.false_eq_true, if_false, if_true, Bool.true_eq_false, Option.bind_some]
      rw [if_neg (by omega)]
      by_cases h7 : (cl l a false).1 = true
      · rw [if_pos h7, if_pos h7]; unfold eZ; simp only [hf]
      · rw [if_neg h7, if_neg h7]
        unfold eZ
        split <;> rfl
def iI (fs : FSt) (l : List UInt8) : Prop := l = [] ∨ (ay fs l).isSome = true
theorem wK {y : List UInt8} (h : nmB y = true) : y ≠ [] := by
  rintro rfl; simp [nmB] at h
theorem pl {n : Nat} {fs : FSt} (h : cx n fs) (hN : fN fs) (hn : n < 2 ^ 40) {l : List UInt8} (hl : iI fs l) {a : Int} (ha : 0 ≤ a) (d : Bool) (x y : List UInt8) (hy : y.length < 2 ^ 62) {k : Nat} (hk : n + 2 ≤ k) (hky : y.length + 1 ≤ k) : de.f k (aR fs) a d l x y = some (eZ (eM fs l a d x y)) := by
  have hf := fa l a d
  have hln := h.ln
  unfold de.f eM
  rw [jI h hn _ _ _ _ hk, rB hy hky, jB _ ha]
  simp only [Option.bind_some]
  cases d with
  | true => cases (ay fs x).isSome <;> rfl
  | false =>
    cases hm : (ay fs x).isSome with
    | false =>
      have e : atM fs x < (0 : Int) := by unfold atM; rw [hm]; simp
      rw [if_pos e]; rfl
    | true =>
      simp only [Bool.false_eq_true, if_false, if_true]
      rw [nj hm, if_neg (by omega)]
      cases hb : nmB y with
      | false => rfl
      | true =>
        simp only [Bool.not_true, Bool.false_eq_true, if_false, Bool.true_eq_false]
        by_cases h7 : (cl l a false).1 = true
        · rw [if_pos h7, if_pos h7]; unfold eZ; simp only [hf]
        · rw [if_neg h7, if_neg h7]
          by_cases hxy : x = y
          · rw [if_pos hxy, if_pos hxy]; unfold eZ; simp only [hf]
          · rw [if_neg hxy, if_neg hxy, jI h hn _ _ _ _ hk, nj hm]
            simp only [Option.bind_some]
            rw [oF h hn _ _ _ hm]
            simp only [Option.bind_some]
            have hd := kd h x
            rw [jI hd hn _ _ _ _ hk]
            simp only [Option.bind_some]
            have hyne := wK hb
            have hxne := wK (jx hN hm)
            have hnd2 : ((bU (bU fs x) y).map (·.1)).Nodup := (kd hd y).nd
            have hmy : (ay (bU fs x) y).isSome = (ay fs y).isSome := by rw [gm _ _ _ h.nd, if_neg hxy]
            have hput : ∀ gs : FSt, (gs.map (·.1)).Nodup → gs.length < 2 ^ 40 → Eqv gs (bU (bU fs x) y) → ∀ l' : List UInt8, bJ.f k (aR gs) (cl l a false).2.2.1 (cl l a false).2.2.2 l' y (bw fs x).1 (bw fs x).2 = some (aR (bk (bU fs x) y (bw fs x)), (cl l a false).2.2.1, (cl l a false).2.2.2, l') := fun gs hg hgl he l' => by
              have hgn : ay gs y = none := by rw [he y, gm _ _ _ hd.nd, if_pos rfl]
              have hlen : gs.length ≤ n := by
                rw [he.len hg hnd2]
                exact (kd hd y).ln
              rw [tH (aR gs) (by rw [fJ]; exact hgl) _ _ _ _ (bw fs x) (by rw [fJ]; omega), ← lI hg hgn]
              have e : aR (bk gs y (bw fs x)) = aR (bk (bU fs x) y (bw fs x)) := by
                refine Eqv.files (fun z => ?_) (jj hg) (jj hd.nd)
                rw [fW, fW, he z, gm _ _ _ hd.nd]
                by_cases hz : y = z
                · rw [if_pos hz, if_pos hz]
                · rw [if_neg hz, if_neg hz, if_neg hz]
              rw [e]
            cases hys : (ay fs y).isSome with
            | true =>
              rw [hys] at hmy
              rw [nj hmy, if_pos (by omega)]
              rw [oF hd hn _ _ _ hmy]
              simp only [Option.bind_some]
              have hp := hput (bU (bU fs x) y) hnd2 (by have := (kd hd y).ln; omega) (fun _ => rfl)
              by_cases c1 : l = y
              · rw [if_pos c1, Option.bind_some]
                simp only
                rw [if_neg (fun e => hxne e.symm), Option.bind_some, hp, Option.bind_some]
                unfold eZ kq
                rw [if_neg (fun e => hxy (by rw [← e, c1])), if_pos c1]
              · rw [if_neg c1, Option.bind_some]
                simp only
                by_cases c2 : l = x
                · rw [if_pos c2, Option.bind_some, hp, Option.bind_some]
                  unfold eZ kq
                  rw [if_pos c2]
                · rw [if_neg c2, Option.bind_some, hp, Option.bind_some]
                  unfold eZ kq
                  rw [if_neg c2, if_neg c1]
            | false =>
              rw [hys] at hmy
              have e : ¬ (0 : Int) ≤ atM (bU fs x) y := by unfold atM; rw [hmy]; simp
              rw [if_neg e, Option.bind_some]
              have hpe : Eqv (bU fs x) (bU (bU fs x) y) := fun z => by
                rw [gm _ _ _ hd.nd]
                by_cases hz : y = z
                · rw [if_pos hz, ← hz]
                  cases hq : ay (bU fs x) y with
                  | none => rfl
                  | some v => rw [hq] at hmy; cases hmy
                · rw [if_neg hz]
              have hp := hput (bU fs x) hd.nd (by have := hd.ln; omega) hpe
              have c1 : l ≠ y := by
                rintro rfl
                rcases hl with h0 | h0
                · exact hyne h0
                · rw [hys] at h0; cases h0
              simp only
              by_cases c2 : l = x
              · rw [if_pos c2, Option.bind_some, hp, Option.bind_some]
                unfold eZ kq
                rw [if_pos c2]
              · rw [if_neg c2, Option.bind_some, hp, Option.bind_some]
                unfold eZ kq
                rw [if_neg c2, if_neg c1]
/-! ### A crash -/
def crG (l : List UInt8) (keep : Int) (p : fj) : fj := (p.1, crF l keep p.1 p.2)
theorem nY (F : List fj) (l : List UInt8) (keep : Int) (hF : ∀ p ∈ F, (0 ≤ p.2.2 ∧ p.2.2 ≤ (p.2.1.length : Int)) ∧ p.2.1.length ≤ 16777216) (hl : F.length < 2 ^ 40) : ∀ (d i k : Nat), i + d = F.length → d + 1 ≤ k →
    bz.l0 l keep k (i : Int) ((F.take i).map (crG l keep) ++ F.drop i) = some (F.map (crG l keep))
  | d, i, 0, _, hk => by omega
  | 0, i, k + 1, h, _ => by
    simp only [bz.l0]
    rw [List.take_of_length_le (by omega), List.drop_of_length_le (by omega), List.append_nil, if_neg (by rw [List.length_map]; omega)]
  | d + 1, i, k + 1, h, hk => by
    have hi : i < F.length := by omega
    have hA : ((F.take i).map (crG l keep)).length = i := by rw [List.length_map, List.length_take]; omega
    obtain ⟨A, eA⟩ : ∃ A, (F.take i).map (crG l keep) = A := ⟨_, rfl⟩
    obtain ⟨p, ep⟩ : ∃ p, F.getD i aj = p := ⟨_, rfl⟩
    have hp := hF p (by rw [← ep]; exact ma hi)
    have hnext : (F.take (i + 1)).map (crG l keep) = A ++ [crG l keep p] := by
      rw [List.take_add_one, List.map_append, eA, ll hi aj, ep]; rfl
    have ih := nY F l keep hF hl d (i + 1) k (by omega) (by omega)
    rw [hnext, List.append_assoc] at ih
    rw [eA] at hA
    rw [eA, kU F aj hi, ep]
    have hlen : (A ++ p :: F.drop (i + 1)).length = F.length := by rw [List.length_append, List.length_cons, List.length_drop]; omega
    have hget : (A ++ p :: F.drop (i + 1)).getD i aj = p := by
      rw [List.getD_eq_getElem?_getD, List.getElem?_append_right (by omega), hA, Nat.sub_self]; rfl
    have hset : ∀ v, (A ++ p :: F.drop (i + 1)).set i v = A ++ v :: F.drop (i + 1) := fun v => by
      rw [List.set_append, if_neg (by omega), hA, Nat.sub_self]; rfl
    have hget2 : ∀ v : fj, (A ++ v :: F.drop (i + 1)).getD i aj = v := fun v => by
      rw [List.getD_eq_getElem?_getD, List.getElem?_append_right (by omega), hA, Nat.sub_self]; rfl
    have hset2 : ∀ u v : fj, (A ++ u :: F.drop (i + 1)).set i v = A ++ v :: F.drop (i + 1) := fun u v => by
      rw [List.set_append, if_neg (by omega), hA, Nat.sub_self]; rfl
    have hlen2 : ∀ v : fj, (A ++ v :: F.drop (i + 1)).length = F.length := fun v => by rw [List.length_append, List.length_cons, List.length_drop]; omega
    have c1 : 0 ≤ (i : Int) ∧ (i : Int) < (F.length : Int) := by omega
    have hb := sH (l := l) (keep := keep) (x := p.1) (v := p.2) hp.1
    simp only [bz.l0]
    simp only [Int.toNat_natCast, hlen, hget, c1, and_self, if_true, hset, hget2, hset2, hlen2]
    have e : ((if p.1 = l then (some (IntKind.i64.wrap (p.2.2 + (min (max keep (0 : Int)) (IntKind.i64.wrap ((p.2.1.length : Int) - p.2.2)))))) else (some p.2.2)) : Option Int) = some (crN l keep p.1 p.2) := by
      unfold crN
      split
      · rw [w64 (n := (p.2.1.length : Int) - p.2.2) (by omega) (by omega), w64 (by omega) (by omega)]
      · rfl
    have ec : cut p.2.1 (0 : Int) (crN l keep p.1 p.2) = p.2.1.take (crN l keep p.1 p.2).toNat := by simp [cut]
    rw [e, Option.bind_some, if_pos ⟨by omega, hb.1, hb.2.1⟩, ec, ku (by simp only [List.length_take]; omega), Option.bind_some, wi1 (by omega)]
    exact ih
theorem sP {fs : FSt} (l : List UInt8) (keep : Int) : aR (gf fs l keep) = (aR fs).map (crG l keep) := by
  have hk : dz (gf fs l keep) = dz fs := by unfold dz; rw [mg]
  unfold aR
  rw [hk, List.map_map]
  refine List.map_congr_left fun x hx => ?_
  have hs := iC hx
  unfold lm crG Function.comp
  have : bw (gf fs l keep) x = crF l keep x (bw fs x) := by
    unfold bw
    rw [kN]
    cases hq : ay fs x with
    | none => rw [hq] at hs; cases hs
    | some v => rfl
  rw [this]
theorem pn {n : Nat} {fs : FSt} (h : cx n fs) : ∀ p ∈ aR fs, (0 ≤ p.2.2 ∧ p.2.2 ≤ (p.2.1.length : Int)) ∧ p.2.1.length ≤ 16777216 := fun p hp => by
  obtain ⟨x, hx, rfl⟩ := List.mem_map.1 hp
  have hs := iC hx
  have h1 := lU h hs
  have h2 := Nat.le_trans (iJ (gg hs)) h.sz
  exact ⟨h1, h2⟩
theorem qA {n : Nat} {fs : FSt} (h : cx n fs) (hn : n < 2 ^ 40) (l : List UInt8) (a : Int) (d : Bool) (keep : Int) {k : Nat} (hk : n + 1 ≤ k) : bz.f k (aR fs) a d l keep = some (aR (gf fs l keep), 0, false, []) := by
  have hfl := fJ fs
  have hln := h.ln
  have := nY (aR fs) l keep (pn h) (by omega) (aR fs).length 0 k (by omega) (by omega)
  rw [show ((0 : Nat) : Int) = 0 from rfl, List.take_zero, List.map_nil, List.nil_append, List.drop_zero] at this
  unfold bz.f
  rw [this, Option.bind_some, sP]
/-! ### What is asked -/
def fq (fs : FSt) (x : List UInt8) : List UInt8 × Int := if (ay fs x).isSome = true then ((bw fs x).1, 0) else ([], 8)
theorem tL {n : Nat} {fs : FSt} (h : cx n fs) (l : List UInt8) (a : Int) (d : Bool) (x : List UInt8) : fb.f fs l a d x = some (fq fs x) := by
  unfold fb.f fq
  have eF : (ay fs x).getD (([] : List UInt8), (0 : Int)) = bw fs x := rfl
  rw [eF]
  by_cases hm : (ay fs x).isSome = true
  · have hlen : (bw fs x).1.length ≤ 16777216 := Nat.le_trans (iJ (gg hm)) h.sz
    rw [if_pos hm, if_pos hm, sJ (by omega)]; rfl
  · rw [if_neg hm, if_neg hm]
theorem mh {n : Nat} {fs : FSt} (h : cx n fs) (hn : n < 2 ^ 40) (l : List UInt8) (a : Int) (d : Bool) (x : List UInt8) {k : Nat} (hk : n + 2 ≤ k) : co.f k (aR fs) a d l x = some (fq fs x) := by
  unfold co.f fq
  rw [jI h hn _ _ _ _ hk, Option.bind_some]
  cases hm : (ay fs x).isSome with
  | false =>
    have e : atM fs x < (0 : Int) := by unfold atM; rw [hm]; simp
    rw [if_pos e]; rfl
  | true =>
    have hlow := iE h.nd hm
    have hlt := iw hlow
    have hlen : (bw fs x).1.length ≤ 16777216 := Nat.le_trans (iJ (gg hm)) h.sz
    rw [nj hm, if_neg (by omega), if_pos (by omega), Int.toNat_natCast, jV hlow, ku (by simp only; omega)]; rfl
theorem pC (F : List fj) (hl : F.length < 2 ^ 40) : ∀ (d i k : Nat) (acc : List (List UInt8)), i + d = F.length → d + 1 ≤ k → acc.length + d < 2 ^ 41 → bH.l0 F k acc (i : Int) = some (acc ++ (F.drop i).map (·.1))
  | d, i, 0, acc, _, hk, _ => by omega
  | 0, i, k + 1, acc, h, _, _ => by
    simp only [bH.l0]
    rw [if_neg (by omega), List.drop_of_length_le (by omega)]; simp
  | d + 1, i, k + 1, acc, h, hk, ha => by
    have hi : i < F.length := by omega
    simp only [bH.l0]
    rw [if_pos (by omega), if_pos (by omega), wi1 (by omega), Int.toNat_natCast, kU F aj hi, if_pos (by simp; omega)]
    rw [pC F hl d (i + 1) k _ (by omega) (by omega) (by simp; omega)]
    simp
theorem sn {n : Nat} {fs : FSt} (h : cx n fs) (hn : n < 2 ^ 40) (l : List UInt8) (a : Int) (d : Bool) {k : Nat} (hk : n + 1 ≤ k) : bH.f k (aR fs) a d l = some (dz fs) := by
  have hfl := fJ fs
  have hln := h.ln
  have := pC (aR fs) (by omega) (aR fs).length 0 k [] (by omega) (by omega) (by simp; omega)
  rw [show ((0 : Nat) : Int) = 0 from rfl, List.drop_zero, List.nil_append, nN] at this
  unfold bH.f
  rw [this]; rfl
end Go.Proofs.YtjkjlggbikeliaaGreatDoor

namespace Go.Proofs.YtjkjlggbikeliaaGreatDoor
set_option linter.unusedVariables false
set_option linter.unusedSimpArgs false
set_option linter.unusedSectionVars false
open Go.RowKit
/-! ### What holds of every disk -/
def ii (a : Int) : Prop := 0 ≤ a ∧ a < 9223372036854775808
structure eL (s : DS) : Prop where
  inv : cx 256 s.1
  nmd : fN s.1
  late : iI s.1 s.2.1
  arm : ii s.2.2.1
theorem mU {fs : FSt} {l x : List UInt8} {v : List UInt8 × Int} (h : iI fs l) : iI (bk fs x v) l := by
  rcases h with h | h
  · exact .inl h
  · right; rw [fW]; split
    · rfl
    · exact h
theorem st {fs : FSt} {x : List UInt8} {v : List UInt8 × Int} : iI (bk fs x v) x := by
  right; rw [fW, if_pos rfl]; rfl
theorem jH {l : List UInt8} {a : Int} {d : Bool} (h : ii a) : ii (cl l a d).2.2.1 := by
  unfold cl
  split
  · exact h
  · obtain ⟨h1, h2⟩ := h
    simp only
    rw [w64 (by omega) (by omega)]
    exact ⟨by omega, by omega⟩
theorem th {fs : FSt} {l : List UInt8} {a : Int} {d : Bool} {x : List UInt8} (h : iI fs l) : iI (dZ fs l a d x).2.1 (dZ fs l a d x).2.2.1 := by
  have hf := fa l a d
  unfold dZ
  repeat' split
  all_goals first | exact h | (simp only [hf]; exact h) | (simp only [hf]; exact mU h)
theorem vr {fs : FSt} {l : List UInt8} {a : Int} {d : Bool} {x : List UInt8} (h : ii a) : ii (dZ fs l a d x).2.2.2.1 := by
  unfold dZ
  repeat' split
  all_goals first | exact h | exact jH h
theorem ti {fs : FSt} {l : List UInt8} {a : Int} {d : Bool} {x b : List UInt8} (h : iI fs l) : iI (ea fs l a d x b).2.1 (ea fs l a d x b).2.2.1 := by
  unfold ea
  repeat' split
  all_goals first | exact h | exact st
theorem vt {fs : FSt} {l : List UInt8} {a : Int} {d : Bool} {x b : List UInt8} (h : ii a) : ii (ea fs l a d x b).2.2.2.1 := by
  unfold ea
  repeat' split
  all_goals first | exact h | exact jH h
theorem wt {fs : FSt} {l : List UInt8} {a : Int} {d : Bool} {x : List UInt8} (h : iI fs l) : iI (gc fs l a d x).2.1 (gc fs l a d x).2.2.1 := by
  have hf := fa l a d
  unfold gc
  repeat' split
  all_goals first | exact h | (simp only [hf]; exact h) | (simp only [hf]; exact mU h)
theorem xp {fs : FSt} {l : List UInt8} {a : Int} {d : Bool} {x : List UInt8} (h : ii a) : ii (gc fs l a d x).2.2.2.1 := by
  unfold gc
  repeat' split
  all_goals first | exact h | exact jH h
theorem xq {fs : FSt} {l : List UInt8} {a : Int} {d : Bool} {x : List UInt8} {n : Int} (h : iI fs l) : iI (jM fs l a d x n).2.1 (jM fs l a d x n).2.2.1 := by
  have hf := fa l a d
  unfold jM
  repeat' split
  all_goals first | exact h | (simp only [hf]; exact h) | (simp only [hf]; exact mU h)
theorem yr {fs : FSt} {l : List UInt8} {a : Int} {d : Bool} {x : List UInt8} {n : Int} (h : ii a) : ii (jM fs l a d x n).2.2.2.1 := by
  unfold jM
  repeat' split
  all_goals first | exact h | exact jH h
theorem vu {fs : FSt} (hn : (fs.map (·.1)).Nodup) {l x y : List UInt8} {v : List UInt8 × Int} (h : iI fs l) : iI (bk (bU fs x) y v) (kq l x y) := by
  unfold kq
  by_cases h1 : l = x
  · rw [if_pos h1]; exact st
  · rw [if_neg h1]
    by_cases h2 : l = y
    · rw [if_pos h2]; exact .inl rfl
    · rw [if_neg h2]
      rcases h with h | h
      · exact .inl h
      · right
        rw [fW, if_neg (fun e => h2 e.symm), gm _ _ _ hn, if_neg (fun e => h1 e.symm)]; exact h
theorem tj {fs : FSt} (hn : (fs.map (·.1)).Nodup) {l : List UInt8} {a : Int} {d : Bool} {x y : List UInt8} (h : iI fs l) : iI (eM fs l a d x y).2.1 (eM fs l a d x y).2.2.1 := by
  have hf := fa l a d
  unfold eM
  repeat' split
  all_goals first | exact h | (simp only [hf]; exact h) | exact vu hn h
theorem vv {fs : FSt} {l : List UInt8} {a : Int} {d : Bool} {x y : List UInt8} (h : ii a) : ii (eM fs l a d x y).2.2.2.1 := by
  unfold eM
  repeat' split
  all_goals first | exact h | exact jH h
theorem tk {fs : FSt} (hn : (fs.map (·.1)).Nodup) {l : List UInt8} {a : Int} {d : Bool} {x : List UInt8} (h : iI fs l) : iI (fl fs l a d x).2.1 (fl fs l a d x).2.2.1 := by
  have hf := fa l a d
  unfold fl
  split
  · exact h
  split
  · exact h
  split
  · simp only [hf]; exact h
  · simp only
    by_cases h1 : l = x
    · rw [if_pos h1]; exact .inl rfl
    · rw [if_neg h1]
      rcases h with h | h
      · exact .inl h
      · right; rw [gm _ _ _ hn, if_neg (fun e => h1 e.symm)]; exact h
theorem vw {fs : FSt} {l : List UInt8} {a : Int} {d : Bool} {x : List UInt8} (h : ii a) : ii (fl fs l a d x).2.2.2.1 := by
  unfold fl
  repeat' split
  all_goals first | exact h | exact jH h
theorem yu {n : Int} (h : okI .i64 n) : ii (max n 0) := by
  have h2 := h.2
  have e : IntKind.i64.max = 9223372036854775807 := by decide
  rw [e] at h2
  exact ⟨by omega, by omega⟩
theorem Aa : ii 0 := ⟨Int.le_refl 0, by decide⟩
theorem ig {s : DS} (h : eL s) {e : OpD} (he : okI .i64 e.2.1) : eL (km s e).2 := by
  refine ⟨xr h.inv e, uX h.nmd e, ?_, ?_⟩
  · unfold km
    split
    · exact th h.late
    split
    · exact ti h.late
    split
    · exact wt h.late
    split
    · exact xq h.late
    split
    · exact tj h.inv.nd h.late
    split
    · exact tk h.inv.nd h.late
    split
    · exact h.late
    split
    · exact .inl rfl
    · exact h.late
  · unfold km
    split
    · exact vr h.arm
    split
    · exact vt h.arm
    split
    · exact xp h.arm
    split
    · exact yr h.arm
    split
    · exact vv h.arm
    split
    · exact vw h.arm
    split
    · exact yu he
    split
    · exact Aa
    · exact h.arm
theorem zr : eL d0 := ⟨Ab 256, fun x hx => by simp [d0] at hx, .inl rfl, ⟨Int.le_refl 0, by decide⟩⟩
/-! ### What is lent -/
theorem uj {x : List UInt8} (h : x.length < 2 ^ 40) : eX.f x = some (x, [201]) := by
  unfold eX.f
  rw [ku h, Option.bind_some, if_pos (by simp; omega), if_pos (by simp; omega)]
  simp
theorem uk {k : Nat} {x : List UInt8} (h : x.length < 2 ^ 40) (hk : x.length + 1 ≤ k) : fu.f k x [201] x = some true := by
  unfold fu.f
  rw [jP (by omega) hk, wi1 (by omega)]
  simp only [Option.bind_some, decide_true, Bool.and_self, if_true]
  have e2 : cut (x ++ [201]) (0 : Int) ((x.length + 1 : Nat) : Int) = x ++ [201] := by
    rw [mc, List.take_of_length_le (by simp)]
  rw [if_pos (by simp; omega), e2, if_pos (by simp; omega)]
  simp [List.getD_eq_getElem?_getD]
theorem ul : ∀ (d i k : Nat) (x : List UInt8), i + d = x.length → x.length < 2 ^ 40 → d + 1 ≤ k → bF.l0 k x (i : Int) = some ()
  | d, i, 0, _, _, _, hk => by omega
  | 0, i, k + 1, x, h, _, _ => by
    simp only [bF.l0]
    rw [if_neg (by omega)]
  | d + 1, i, k + 1, x, h, hl, hk => by
    simp only [bF.l0]
    rw [if_pos (by omega), if_pos (by omega), wi1 (by omega)]
    exact ul d (i + 1) k _ (by rw [List.length_set]; omega) (by rw [List.length_set]; omega) (by omega)
theorem um : ∀ (d i k : Nat) (x : List UInt8), i + d = x.length → x.length < 2 ^ 40 → d + 1 ≤ k → bF.l1 k x (i : Int) = some ()
  | d, i, 0, _, _, _, hk => by omega
  | 0, i, k + 1, x, h, _, _ => by
    simp only [bF.l1]
    rw [if_neg (by omega)]
  | d + 1, i, k + 1, x, h, hl, hk => by
    simp only [bF.l1]
    rw [if_pos (by omega), if_pos (by omega), wi1 (by omega)]
    exact um d (i + 1) k _ (by rw [List.length_set]; omega) (by rw [List.length_set]; omega) (by omega)
def jQ (t : DS) : Bool × FSt × List UInt8 × Int × Bool × List fj × Int × Bool × List UInt8 := (true, t.1, t.2.1, t.2.2.1, t.2.2.2, aR t.1, t.2.2.1, t.2.2.2, t.2.1)
theorem mq (x : Int) : aH.v x = x := rfl
theorem yv {s : DS} (h : eL s) {e : OpD} (he : wu e) {k : Nat} (hk : 20000000 ≤ k) (hke : e.2.2.1.length + 300 ≤ k ∧ e.2.2.2.1.length + 300 ≤ k ∧ e.2.2.2.2.length + 300 ≤ k) :
    bF.f k s.1 s.2.1 s.2.2.1 s.2.2.2 (aR s.1) s.2.2.1 s.2.2.2 s.2.1 e.1 e.2.1 e.2.2.1 e.2.2.2.1 e.2.2.2.2 = some (jQ (km s e).2) := by
  obtain ⟨h1, h2, h3⟩ := he
  obtain ⟨hi, hN, hL, hA⟩ := h
  have hA0 := hA.1
  unfold bF.f km
  by_cases c0 : e.1 = 0
  · rw [if_pos c0, if_pos c0, qf _ _ _ _ _ (by omega) (by omega), Option.bind_some, oP hi _ hA0 _ _ (by omega) (by omega), Option.bind_some, mq]
    unfold eZ jQ; simp
  rw [if_neg c0, if_neg c0]
  by_cases c1 : e.1 = 1
  · rw [if_pos c1, if_pos c1, uj h3, Option.bind_some, qg hi _ _ _ _ _ h3, Option.bind_some, uk h3 (by omega), Option.bind_some]
    have h0 := ul e.2.2.2.2.length 0 k e.2.2.2.2 (by omega) h3 (by omega)
    rw [show ((0 : Nat) : Int) = 0 from rfl] at h0
    simp only
    rw [h0, Option.bind_some, oQ hi (by decide) _ hA0 _ _ _ h3 (by omega), Option.bind_some, mq]
    unfold eZ jQ; simp
  rw [if_neg c1, if_neg c1]
  by_cases c2 : e.1 = 2
  · rw [if_pos c2, if_pos c2, tR, Option.bind_some, sq hi (by decide) _ hA0 _ _ (by omega), Option.bind_some, mq]
    unfold eZ jQ; simp
  rw [if_neg c2, if_neg c2]
  by_cases c3 : e.1 = 3
  · rw [if_pos c3, if_pos c3, zt, Option.bind_some, yw hi (by decide) _ hA0 _ _ _ (by omega), Option.bind_some, mq]
    unfold eZ jQ; simp
  rw [if_neg c3, if_neg c3]
  by_cases c4 : e.1 = 4
  · rw [if_pos c4, if_pos c4, qh _ _ _ _ _ _ (by omega) (by omega), Option.bind_some, pl hi hN (by decide) hL hA0 _ _ _ (by omega) (by omega) (by omega), Option.bind_some, mq]
    unfold eZ jQ; simp
  rw [if_neg c4, if_neg c4]
  by_cases c5 : e.1 = 5
  · rw [if_pos c5, if_pos c5, mF, Option.bind_some, kP hi (by decide) _ hA0 _ _ (by omega), Option.bind_some, mq]
    unfold eZ jQ; simp
  rw [if_neg c5, if_neg c5]
  by_cases c6 : e.1 = 6
  · rw [if_pos c6, if_pos c6]; rfl
  rw [if_neg c6, if_neg c6]
  by_cases c7 : e.1 = 7
  · rw [if_pos c7, if_pos c7, su hi, Option.bind_some, qA hi (by decide) _ _ _ _ (by omega)]; rfl
  rw [if_neg c7, if_neg c7, tL hi, Option.bind_some, mh hi (by decide) _ _ _ _ (by omega), Option.bind_some, oU]
  have hlen : (fq s.1 e.2.2.1).1.length ≤ 16777216 := by
    unfold fq
    split
    · rename_i hm; exact Nat.le_trans (iJ (gg hm)) hi.sz
    · simp
  have h0 := um (fq s.1 e.2.2.1).1.length 0 k (fq s.1 e.2.2.1).1 (by omega) (by omega) (by omega)
  rw [show ((0 : Nat) : Int) = 0 from rfl] at h0
  rw [jP (by omega) (by omega), Option.bind_some, h0, Option.bind_some, show ∀ x, aH.f x = some x from fun _ => rfl]
  have hb : ((ay s.1 e.2.2.1).isSome == decide ((fq s.1 e.2.2.1).2 = (0 : Int))) = true := by
    unfold fq
    cases (ay s.1 e.2.2.1).isSome <;> rfl
  simp only [decide_true, if_true, Option.bind_some, hb]
  rfl
/-! ### Same -/
theorem pm (x : List (List UInt8)) (hl : x.length < 2 ^ 40) : ∀ (d i k : Nat), i + d = x.length → d + 1 ≤ k → ce.l0 x x k (i : Int) = some (.inl ())
  | d, i, 0, _, hk => by omega
  | 0, i, k + 1, h, _ => by
    simp only [ce.l0]
    rw [if_neg (by omega)]
  | d + 1, i, k + 1, h, hk => by
    simp only [ce.l0]
    rw [if_pos (by omega), if_pos (by omega), if_pos (by omega), if_pos trivial, wi1 (by omega)]
    exact pm x hl d (i + 1) k (by omega) (by omega)
theorem pZ {x : List (List UInt8)} (hl : x.length < 2 ^ 40) {k : Nat} (hk : x.length + 1 ≤ k) : ce.f k x x = some true := by
  have := pm x hl x.length 0 k (by omega) hk
  rw [show ((0 : Nat) : Int) = 0 from rfl] at this
  unfold ce.f
  rw [if_pos rfl, this]; rfl
theorem uo (F : List fj) (N : List (List UInt8)) (i : Nat) (hi : i < F.length) (hl : (F.getD i aj).2.1.length < 2 ^ 40) : ∀ (d z k : Nat), z + d = (F.getD i aj).2.1.length → d + 1 ≤ k → bG.l1 (F, N, (i : Int)) k (z : Int) = some ()
  | d, z, 0, _, hk => by omega
  | 0, z, k + 1, h, _ => by
    simp only [bG.l1]
    rw [if_pos (by omega), Int.toNat_natCast, if_neg (by omega)]
  | d + 1, z, k + 1, h, hk => by
    simp only [bG.l1]
    rw [if_pos (by omega), Int.toNat_natCast, if_pos (by omega), if_pos (by omega), if_pos (by omega), wi1 (by omega)]
    exact uo F N i hi hl d (z + 1) k (by omega) (by omega)
theorem uq : ∀ (d i k : Nat) (F : List fj) (N : List (List UInt8)), i + d = F.length → F.length = N.length → F.length < 2 ^ 40 → (∀ j, i ≤ j → (F.getD j aj).2.1.length ≤ 16777216) → d + 16777300 ≤ k → bG.l0 k F N (i : Int) = some ()
  | d, i, 0, _, _, _, _, _, _, hk => by omega
  | 0, i, k + 1, F, N, h, _, _, _, _ => by
    simp only [bG.l0]
    rw [if_neg (by omega)]
  | d + 1, i, k + 1, F, N, h, hN, hl, hF, hk => by
    have hi : i < F.length := by omega
    have hd := hF i (Nat.le_refl i)
    have h1 := uo F N i hi (by omega) (F.getD i aj).2.1.length 0 k (by omega) (by omega)
    rw [show ((0 : Nat) : Int) = 0 from rfl] at h1
    simp only [bG.l0]
    rw [if_pos (by omega), h1, Option.bind_some, Int.toNat_natCast, if_pos (by omega), if_pos (by simp only [List.length_cons, List.length_nil]; omega), if_pos (by omega), if_pos (by omega), Option.bind_some, wi1 (by omega)]
    refine uq d (i + 1) k _ _ (by rw [List.length_set]; omega) (by rw [List.length_set, List.length_set]; exact hN) (by rw [List.length_set]; exact hl) (fun j hj => ?_) (by omega)
    rw [tm (by omega)]
    exact hF j (by omega)
theorem wv {n : Nat} {fs : FSt} (h : cx n fs) (j : Nat) : ((aR fs).getD j aj).2.1.length ≤ 16777216 := by
  by_cases hj : j < (aR fs).length
  · exact (pn h _ (ma (d := aj) hj)).2
  · rw [List.getD_eq_getElem?_getD, List.getElem?_eq_none (by omega)]; simp
theorem yx {fs : FSt} (h : cx 256 fs) (l : List UInt8) (a : Int) (d : Bool) {k : Nat} (hk : 20000000 ≤ k) : bG.f k fs l a d (aR fs) a d l = some true := by
  have hln := h.ln
  have hfl := fJ fs
  have hkl := ix fs
  have h0 := uq (aR fs).length 0 k (aR fs) (dz fs) (by omega) (by omega) (by omega) (fun j _ => wv h j) (by omega)
  rw [show ((0 : Nat) : Int) = 0 from rfl] at h0
  unfold bG.f
  rw [xu h (by decide) _ _ _ (by omega), Option.bind_some, nS h (by decide) (by omega), Option.bind_some, pQ h (by decide), Option.bind_some, sn h (by decide) _ _ _ (by omega), Option.bind_some,
    pZ (by omega) (by omega), Option.bind_some, h0, Option.bind_some, Option.bind_some, nS h (by decide) (by omega), Option.bind_some, ur h, rA h (by decide) _ _ _ (by omega)]
  simp only [decide_true, Bool.and_self, Bool.true_and, if_true, Option.bind_some, beq_self_eq_true]
  show some ((d == d)) = _
  cases d <;> rfl
end Go.Proofs.YtjkjlggbikeliaaGreatDoor

namespace Go.Proofs.YtjkjlggbikeliaaGreatDoor
set_option linter.unusedVariables false
set_option linter.unusedSimpArgs false
open Go.RowKit
def inU (z : Int) : Prop := 0 ≤ z ∧ z < 4294967296
theorem fi (n : Int) (h₀ : 0 ≤ n) (h₁ : n < 2 ^ 32) : IntKind.u32.wrap n = n := by rw [IntKind.wrap_u32]; omega
theorem jT (b : BinOp) (m n : Int) : inU (bC b .u32 m n) := by
  unfold bC inU
  rw [IntKind.wrap_u32]
  omega
theorem zW {n : Int} (h : inU n) : bC .and .u32 n 1 = n % 2 := bits_mask .u32 32 (by decide) fi 1 (by decide) n h.1 h.2
theorem vO (m n : Int) : bC .or .u32 m n = bC .or .u32 n m := by simp only [bC, BitVec.or_comm]
theorem rn (i : Nat) {x y : Int} (hx₀ : 0 ≤ x) (hx : x % 2 ^ i = 0) (hx₁ : x < 4294967296) (hy₀ : 0 ≤ y) (hy : y < 2 ^ i) (hy₁ : y < 4294967296) : bC .or .u32 y x = x + y := by
  rw [vO]
  exact bits_join .u32 32 (by decide) fi i x y hx₀ hx hx₁ hy₀ hy hy₁
def h1 (z : Int) : Int := if z % 2 = 1 then bC .xor .u32 (z / 2) 2197175160 else z / 2
def hN : Nat → Int → Int
  | 0, z => z
  | n + 1, z => hN n (h1 z)
theorem rp {z : Int} (h : inU z) : inU (h1 z) := by
  unfold h1
  split
  · exact jT _ _ _
  · have := h.1; have := h.2; unfold inU; omega
theorem oJ : ∀ (n : Nat) {z : Int}, inU z → inU (hN n z)
  | 0, z, h => h
  | n + 1, z, h => oJ n (rp h)
def lA (s : Int) (l : List UInt8) : Int := l.foldl (fun s c => hN 8 (bC .xor .u32 s (c.toNat : Int))) s
theorem oc : ∀ (l : List UInt8) {s : Int}, inU s → inU (lA s l)
  | [], s, h => h
  | c :: l, s, h => by
    show inU (lA (hN 8 (bC .xor .u32 s (c.toNat : Int))) l)
    exact oc l (oJ 8 (jT _ _ _))
theorem rt (s : Int) (a b : List UInt8) : lA s (a ++ b) = lA (lA s a) b := by unfold lA; rw [List.foldl_append]
theorem ws1 {n : Nat} (h : n < 2 ^ 61) : IntKind.i64.wrap ((n : Int) + 1) = ((n + 1 : Nat) : Int) := by rw [w64 (by omega) (by omega)]; simp
theorem frG {l : List UInt8} {i : Nat} (h : i < l.length) : l.drop i = l.getD i 0 :: l.drop (i + 1) := by
  rw [List.getD_eq_getElem?_getD, List.getElem?_eq_getElem h]
  exact List.drop_eq_getElem_cons h
theorem pJ : ∀ (k i : Nat) (z : Int), 8 - i < k → i ≤ 8 → inU z → ca.l1 k z (i : Int) = some (hN (8 - i) z)
  | 0, i, z, h, _, _ => by omega
  | k + 1, i, z, h, hi, hz => by
    rw [ca.l1]
    by_cases hlt : i < 8
    · have ef : Int.fdiv z (2 ^ (min (1 : Int).toNat IntKind.u32.bits)) = z / 2 := by
        show Int.fdiv z 2 = _
        rw [Int.fdiv_eq_ediv_of_nonneg _ (by decide)]
      have e : 8 - i = (8 - (i + 1)) + 1 := by omega
      have hh := rp hz
      unfold h1 at hh
      rw [if_pos (by omega), zW hz, ef, ws1 (by omega), e]
      show _ = some (hN (8 - (i + 1)) (h1 z))
      unfold h1
      by_cases hb : z % 2 = 1
      · rw [if_pos hb] at hh
        rw [if_pos hb, if_pos hb, pJ k (i + 1) _ (by omega) (by omega) hh]
      · rw [if_neg hb] at hh
        rw [if_neg hb, if_neg hb, pJ k (i + 1) _ (by omega) (by omega) hh]
    · rw [if_neg (by omega), show 8 - i = 0 by omega]
      rfl
theorem tD {x : List UInt8} (hx : x.length < 2 ^ 40) : ∀ (k i : Nat) (z : Int), x.length - i + 9 < k → i ≤ x.length → inU z → ca.l0 x k z (i : Int) = some (lA z (x.drop i))
  | 0, i, z, h, _, _ => by omega
  | k + 1, i, z, h, hi, hz => by
    rw [ca.l0]
    by_cases hlt : i < x.length
    · have hc : ((x.getD i 0).toNat : Int) < 256 := by have := lH x i; omega
      rw [if_pos (by omega), if_pos (by omega), frG hlt]
      simp only [Int.toNat_natCast]
      rw [fi _ (by omega) (by omega), show (0 : Int) = ((0 : Nat) : Int) from rfl, pJ k 0 _ (by omega) (by omega) (jT _ _ _), Option.bind_some, ws1 (by omega), tD hx k (i + 1) _ (by omega) (by omega) (oJ _ (jT _ _ _))]
      rfl
    · rw [if_neg (by omega), List.drop_of_length_le (by omega)]
      rfl
theorem oK {x : List UInt8} {z : Int} {k : Nat} (hx : x.length < 2 ^ 40) (hz : inU z) (hk : x.length + 9 < k) : ca.f k z x = some (lA z x) := by
  unfold ca.f
  have := tD hx k 0 z (by omega) (by omega) hz
  rw [List.drop_zero] at this
  rw [show (0 : Int) = ((0 : Nat) : Int) from rfl, this]
  rfl
theorem pK : ∀ (k i : Nat) (z : Int), 8 - i < k → i ≤ 8 → inU z → cW.l0 k z (i : Int) = some (hN (8 - i) z)
  | 0, i, z, h, _, _ => by omega
  | k + 1, i, z, h, hi, hz => by
    rw [cW.l0]
    have h0 := hz.1
    have hU := hz.2
    by_cases hlt : i < 8
    · have e1 : Int.tmod z 2 = z % 2 := by rw [Int.tmod_eq_emod_of_nonneg h0]
      have e2 : Int.tdiv z 2 = z / 2 := by rw [Int.tdiv_eq_ediv_of_nonneg h0]
      have e : 8 - i = (8 - (i + 1)) + 1 := by omega
      have hh := rp hz
      unfold h1 at hh
      rw [if_pos (by omega), e1, e2, ws1 (by omega), e, fi (z / 2) (by omega) (by omega)]
      show _ = some (hN (8 - (i + 1)) (h1 z))
      unfold h1
      by_cases hb : z % 2 = 1
      · rw [if_pos hb] at hh
        rw [if_pos hb, if_pos hb, pK k (i + 1) _ (by omega) (by omega) hh]
      · rw [if_neg hb] at hh
        rw [if_neg hb, if_neg hb, pK k (i + 1) _ (by omega) (by omega) hh]
    · rw [if_neg (by omega), show 8 - i = 0 by omega]
      rfl
abbrev zX : Int := if IntKind.u32.signed then -1 else IntKind.u32.max
def lZ (l : List UInt8) : Int := bC .xor .u32 zX (lA 4294967295 l)
theorem wT (l : List UInt8) : inU (lZ l) := jT _ _ _
theorem ru : inU 4294967295 := ⟨by decide, by decide⟩
theorem vP {x : List UInt8} (hx : x.length < 2 ^ 40) : ∀ (k i : Nat) (z : Int), x.length - i + 9 < k → i ≤ x.length → inU z → cO.l0 x k z (i : Int) = some (lA z (x.drop i))
  | 0, i, z, h, _, _ => by omega
  | k + 1, i, z, h, hi, hz => by
    rw [cO.l0]
    by_cases hlt : i < x.length
    · have hc : ((x.getD i 0).toNat : Int) < 256 := by have := lH x i; omega
      rw [if_pos (by omega), if_pos (by omega), frG hlt]
      simp only [Int.toNat_natCast]
      unfold cW.f
      rw [fi _ (by omega) (by omega), show (0 : Int) = ((0 : Nat) : Int) from rfl, pK k 0 _ (by omega) (by omega) (jT _ _ _), Option.bind_some, Option.bind_some, ws1 (by omega), vP hx k (i + 1) _ (by omega) (by omega) (oJ _ (jT _ _ _))]
      rfl
    · rw [if_neg (by omega), List.drop_of_length_le (by omega)]
      rfl
theorem xM {x : List UInt8} {k : Nat} (hx : x.length < 2 ^ 40) (hk : x.length + 9 < k) : cO.f k x = some (lZ x) := by
  unfold cO.f
  have := vP hx k 0 4294967295 (by omega) (by omega) ru
  rw [List.drop_zero] at this
  rw [show (0 : Int) = ((0 : Nat) : Int) from rfl, this]
  rfl
def nq (n : Int) : List UInt8 := [(cS (IntKind.u8.wrap n)), (cS (IntKind.u8.wrap (Int.fdiv n (2 ^ (min (8 : Int).toNat IntKind.u32.bits))))), (cS (IntKind.u8.wrap (Int.fdiv n (2 ^ (min (16 : Int).toNat IntKind.u32.bits))))), (cS (IntKind.u8.wrap (Int.fdiv n (2 ^ (min (24 : Int).toNat IntKind.u32.bits)))))]
theorem lh (n : Int) : 0 ≤ IntKind.u8.wrap n ∧ IntKind.u8.wrap n < 256 := by rw [IntKind.wrap_u8]; omega
theorem vQ (n : Int) : gI.f n = some (nq n) := by
  unfold gI.f
  rw [if_pos (lh _), if_pos (lh _), if_pos (lh _), if_pos (lh _)]
  rfl
theorem tE (n : Int) : eY.f n = some (nq n) := by
  unfold eY.f
  rw [if_pos (lh _), if_pos (lh _), if_pos (lh _), if_pos (lh _)]
  rfl
theorem fH (n : Int) : (nq n).length = 4 := rfl
def frB (p : List UInt8) : List UInt8 := nq (p.length : Int) ++ nq (lZ (nq (p.length : Int) ++ p)) ++ p
theorem tF (p : List UInt8) : (frB p).length = 8 + p.length := by simp [frB, fH]; omega
theorem zG {out p : List UInt8} {k : Nat} (ho : out.length ≤ 2 ^ 40) (hp : p.length ≤ 1048576) (hk : p.length + 20 < k) : iQ.f k out p = some (out ++ frB p) := by
  unfold iQ.f
  rw [fi _ (by omega) (by omega), vQ, Option.bind_some, oK (by rw [fH]; omega) ru (by rw [fH]; omega), Option.bind_some, oK (by omega) (oc _ ru) (by omega), Option.bind_some,
    if_pos (by rw [fH]; omega), vQ, Option.bind_some, if_pos (by rw [List.length_append, fH, fH]; omega), if_pos (by simp only [List.length_append, fH]; omega), ← rt]
  simp only [frB, lZ, List.append_assoc]
theorem zH {p : List UInt8} {k : Nat} (hk : p.length + 20 < k) : iv.f k p = some (if 1048576 < p.length then ([], 3) else (frB p, 0)) := by
  unfold iv.f
  by_cases h : 1048576 < p.length
  · rw [if_pos (by omega), if_pos h]
  · rw [if_neg (by omega), if_neg h, show (8 : Int) + (p.length : Int) = ((8 + p.length : Nat) : Int) by simp, w64 (by omega) (by omega), if_pos (by omega)]
    have : List.replicate (0 : Int).toNat (0 : UInt8) = [] := rfl
    rw [this, zG (by simp) (by omega) hk]
    rfl
theorem od {x : List UInt8} (h : x.length < 2 ^ 40) : bl.f x = some x := by
  unfold bl.f
  simp [show x.length ≤ 140737488355328 by omega]
theorem yT {p : List UInt8} {k : Nat} (hk : p.length + 20 < k) : fV.f k p = some (if 1048576 < p.length then ([], 3) else (frB p, 0)) := by
  unfold fV.f
  by_cases h : 1048576 < p.length
  · rw [if_pos (by omega), if_pos h]
  · rw [if_neg (by omega), if_neg h, fi _ (by omega) (by omega), tE, Option.bind_some, od (by rw [fH]; omega), Option.bind_some, if_pos (by rw [fH]; omega),
      xM (by rw [List.length_append, fH]; omega) (by rw [List.length_append, fH]; omega), Option.bind_some, tE, Option.bind_some, if_pos (by rw [fH, fH]; omega), if_pos (by simp only [List.length_append, fH]; omega)]
    rfl
end Go.Proofs.YtjkjlggbikeliaaGreatDoor

namespace Go.Proofs.YtjkjlggbikeliaaGreatDoor
set_option linter.unusedVariables false
set_option linter.unusedSimpArgs false
open Go.RowKit
def nb (l : List UInt8) (i : Nat) : Nat := (l.getD i 0).toNat
theorem jt (l : List UInt8) (i : Nat) : nb l i < 256 := lH l i
def fQ (l : List UInt8) : Nat := nb l 0 + 256 * nb l 1 + 65536 * nb l 2 + 16777216 * nb l 3
theorem sC (l : List UInt8) : fQ l < 4294967296 := by
  have := jt l 0; have := jt l 1; have := jt l 2; have := jt l 3
  unfold fQ; omega
theorem wC {l : List UInt8} (h : 4 ≤ l.length) : gO.f l = some (fQ l : Int) := by
  have b0 := jt l 0; have b1 := jt l 1; have b2 := jt l 2; have b3 := jt l 3
  unfold gO.f
  rw [if_pos (by omega), if_pos (by omega), if_pos (by omega), if_pos (by omega)]
  show some (bC .or .u32 (bC .or .u32 (bC .or .u32 (IntKind.u32.wrap ((nb l 0 : Nat) : Int)) (IntKind.u32.wrap ((IntKind.u32.wrap ((nb l 1 : Nat) : Int)) * 256))) (IntKind.u32.wrap ((IntKind.u32.wrap ((nb l 2 : Nat) : Int)) * 65536))) (IntKind.u32.wrap ((IntKind.u32.wrap ((nb l 3 : Nat) : Int)) * 16777216))) = _
  rw [fi ((nb l 0 : Nat) : Int) (by omega) (by omega), fi ((nb l 1 : Nat) : Int) (by omega) (by omega), fi ((nb l 2 : Nat) : Int) (by omega) (by omega), fi ((nb l 3 : Nat) : Int) (by omega) (by omega),
    fi (((nb l 1 : Nat) : Int) * 256) (by omega) (by omega), fi (((nb l 2 : Nat) : Int) * 65536) (by omega) (by omega), fi (((nb l 3 : Nat) : Int) * 16777216) (by omega) (by omega),
    rn 8 (x := ((nb l 1 : Nat) : Int) * 256) (y := ((nb l 0 : Nat) : Int)) (by omega) (by omega) (by omega) (by omega) (by omega) (by omega), rn 16 (x := ((nb l 2 : Nat) : Int) * 65536) (y := ((nb l 1 : Nat) : Int) * 256 + ((nb l 0 : Nat) : Int)) (by omega) (by omega) (by omega) (by omega) (by omega) (by omega), rn 24 (x := ((nb l 3 : Nat) : Int) * 16777216) (by omega) (by omega) (by omega) (by omega) (by omega) (by omega)]
  unfold fQ
  congr 1
  try omega
theorem sD {l : List UInt8} (h : 4 ≤ l.length) : eK.f l = some (fQ l : Int) := by
  have b0 := jt l 0; have b1 := jt l 1; have b2 := jt l 2; have b3 := jt l 3
  unfold eK.f
  rw [if_pos (by omega), if_pos (by omega), if_pos (by omega), if_pos (by omega)]
  show some (IntKind.i64.wrap ((IntKind.i64.wrap ((IntKind.i64.wrap ((IntKind.i64.wrap ((nb l 0 : Nat) : Int)) + (IntKind.i64.wrap (256 * (IntKind.i64.wrap ((nb l 1 : Nat) : Int)))))) + (IntKind.i64.wrap (65536 * (IntKind.i64.wrap ((nb l 2 : Nat) : Int)))))) + (IntKind.i64.wrap (16777216 * (IntKind.i64.wrap ((nb l 3 : Nat) : Int)))))) = _
  rw [w64 (n := ((nb l 0 : Nat) : Int)) (by omega) (by omega), w64 (n := ((nb l 1 : Nat) : Int)) (by omega) (by omega), w64 (n := ((nb l 2 : Nat) : Int)) (by omega) (by omega), w64 (n := ((nb l 3 : Nat) : Int)) (by omega) (by omega)]
  rw [w64 (n := 256 * ((nb l 1 : Nat) : Int)) (by omega) (by omega), w64 (n := 65536 * ((nb l 2 : Nat) : Int)) (by omega) (by omega), w64 (n := 16777216 * ((nb l 3 : Nat) : Int)) (by omega) (by omega)]
  rw [w64 (n := ((nb l 0 : Nat) : Int) + 256 * ((nb l 1 : Nat) : Int)) (by omega) (by omega)]
  rw [w64 (n := ((nb l 0 : Nat) : Int) + 256 * ((nb l 1 : Nat) : Int) + 65536 * ((nb l 2 : Nat) : Int)) (by omega) (by omega), w64 (by omega) (by omega)]
  unfold fQ
  congr 1
def iU (r : List UInt8) : List UInt8 × Int × Int :=
  if r.length < 4 then ([], 0, 2)
  else if 1048576 < fQ r then ([], 0, 3)
  else if r.length < 8 + fQ r then ([], 0, 2)
  else if lZ (r.take 4 ++ (r.drop 8).take (fQ r)) = (fQ (r.drop 4) : Int) then ((r.drop 8).take (fQ r), ((8 + fQ r : Nat) : Int), 0)
  else ([], 0, 5)
theorem zQ {b : List UInt8} {i k : Nat} (hb : b.length ≤ 2 ^ 40) (hi : i ≤ b.length) (hk : 1048600 < k) : iA.f k b (i : Int) = some (iU (b.drop i)) := by
  obtain ⟨r, hr⟩ : ∃ r, b.drop i = r := ⟨_, rfl⟩
  have hrl : r.length = b.length - i := by rw [← hr]; simp
  unfold iA.f iU
  rw [hr]
  by_cases h4 : r.length < 4
  · rw [if_pos (by rw [w64 (by omega) (by omega)]; simp; omega), if_pos h4]
  · have ec : cut b (i : Int) (b.length : Int) = r := by rw [oY, Int.toNat_natCast, hr]
    rw [if_neg (by rw [w64 (by omega) (by omega)]; simp; omega), if_neg h4, if_pos (by omega), ec, wC (by omega), Option.bind_some]
    have hn := sC r
    obtain ⟨n, en⟩ : ∃ n, fQ r = n := ⟨_, rfl⟩
    rw [en] at hn ⊢
    rw [w64 (n := (n : Int)) (by omega) (by omega)]
    by_cases h1 : 1048576 < n
    · rw [if_pos (by omega), if_pos h1]
    · rw [if_neg (by omega), if_neg h1, show (8 : Int) + (n : Int) = ((8 + n : Nat) : Int) by simp, w64 (by omega) (by omega)]
      by_cases h2 : r.length < 8 + n
      · rw [if_pos (by omega), if_pos h2]
      · have c1 : cut r (0 : Int) (4 : Int) = r.take 4 := by simp [cut]
        have c2 : cut r (8 : Int) ((8 + n : Nat) : Int) = (r.drop 8).take n := pV r 8 n
        have c3 : cut r (4 : Int) (r.length : Int) = r.drop 4 := by rw [oY]; rfl
        have hl4 : (r.take 4).length = 4 := by simp; omega
        have hln : ((r.drop 8).take n).length = n := by simp; omega
        rw [if_neg (by omega), if_neg h2, if_pos (by omega), if_pos (by omega), c1, c2, oK (by omega) ru (by omega), Option.bind_some, oK (by omega) (oc _ ru) (by omega), Option.bind_some, if_pos (by omega), c3, wC (by simp; omega), Option.bind_some, ← rt]
        show (if lZ (r.take 4 ++ (r.drop 8).take n) = (fQ (r.drop 4) : Int) then _ else _) = _
        by_cases h3 : lZ (r.take 4 ++ (r.drop 8).take n) = (fQ (r.drop 4) : Int)
        · rw [if_pos h3, if_pos h3, if_pos (by omega), if_pos (by rw [hln]; simp; omega)]
          rfl
        · rw [if_neg h3, if_neg h3]
theorem zw {b : List UInt8} {i k : Nat} (hb : b.length ≤ 2 ^ 40) (hi : i ≤ b.length) (hk : 1048600 < k) : fZ.f k b (i : Int) = some (iU (b.drop i)) := by
  obtain ⟨r, hr⟩ : ∃ r, b.drop i = r := ⟨_, rfl⟩
  have hrl : r.length = b.length - i := by rw [← hr]; simp
  unfold fZ.f iU
  rw [hr]
  by_cases h4 : r.length < 4
  · rw [if_pos (by rw [w64 (by omega) (by omega)]; simp; omega), if_pos h4]
  · have a4 : IntKind.i64.wrap ((i : Int) + 4) = ((i + 4 : Nat) : Int) := by rw [w64 (by omega) (by omega)]; simp
    have a8 : IntKind.i64.wrap ((i : Int) + 8) = ((i + 8 : Nat) : Int) := by rw [w64 (by omega) (by omega)]; simp
    have c1 : cut b (i : Int) ((i + 4 : Nat) : Int) = r.take 4 := by rw [pV, hr]
    have r4 : fQ (r.take 4) = fQ r := by
      have g : ∀ j, j < 4 → nb (r.take 4) j = nb r j := fun j hj => by unfold nb; simp [List.getD_eq_getElem?_getD, List.getElem?_take, hj]
      unfold fQ
      rw [g 0 (by omega), g 1 (by omega), g 2 (by omega), g 3 (by omega)]
    have hl4 : (r.take 4).length = 4 := by simp; omega
    rw [if_neg (by rw [w64 (by omega) (by omega)]; simp; omega), if_neg h4, a4, a8, if_pos (by omega), c1, sD (by omega), Option.bind_some, r4]
    have hn := sC r
    obtain ⟨n, en⟩ : ∃ n, fQ r = n := ⟨_, rfl⟩
    rw [en] at hn ⊢
    by_cases h1 : 1048576 < n
    · rw [if_pos (by omega), if_pos h1]
    · have an : IntKind.i64.wrap (((i + 8 : Nat) : Int) + (n : Int)) = ((i + 8 + n : Nat) : Int) := by rw [w64 (by omega) (by omega)]; simp
      rw [if_neg (by omega), if_neg h1, show (8 : Int) + (n : Int) = ((8 + n : Nat) : Int) by simp, w64 (n := ((8 + n : Nat) : Int)) (by omega) (by omega), w64 (n := (b.length : Int) - (i : Int)) (by omega) (by omega), an]
      by_cases h2 : r.length < 8 + n
      · rw [if_pos (by omega), if_pos h2]
      · have c2 : cut b ((i + 8 : Nat) : Int) ((i + 8 + n : Nat) : Int) = (r.drop 8).take n := by rw [pV, ← hr, List.drop_drop]
        have c3 : cut b ((i + 4 : Nat) : Int) ((i + 8 : Nat) : Int) = (r.drop 4).take 4 := by rw [show i + 8 = i + 4 + 4 by omega, pV, ← hr, List.drop_drop]
        have r44 : fQ ((r.drop 4).take 4) = fQ (r.drop 4) := by
          have g : ∀ j, j < 4 → nb ((r.drop 4).take 4) j = nb (r.drop 4) j := fun j hj => by unfold nb; simp [List.getD_eq_getElem?_getD, List.getElem?_take, hj]
          unfold fQ
          rw [g 0 (by omega), g 1 (by omega), g 2 (by omega), g 3 (by omega)]
        have hln : ((r.drop 8).take n).length = n := by simp; omega
        have hs := wT (r.take 4 ++ (r.drop 8).take n)
        have hs0 := hs.1
        have hs1 := hs.2
        rw [if_neg (by omega), if_neg h2, if_pos (by omega), if_pos (by omega), c2, c3, sD (by simp; omega), Option.bind_some, r44, if_pos (by omega), od (by omega), Option.bind_some, if_pos (by rw [hl4, hln]; omega),
          xM (by rw [List.length_append]; omega) (by rw [List.length_append]; omega), Option.bind_some, w64 (n := lZ (r.take 4 ++ (r.drop 8).take n)) (by omega) (by omega)]
        by_cases h3 : lZ (r.take 4 ++ (r.drop 8).take n) = (fQ (r.drop 4) : Int)
        · rw [if_pos h3.symm, if_pos h3, od (by omega), Option.bind_some]
        · rw [if_neg (fun e => h3 e.symm), if_neg h3]
def iT (b : List UInt8) : List UInt8 × Int :=
  if (iU b).2.2 = 0 ∧ (iU b).2.1 < (b.length : Int) then ([], 4) else ((iU b).1, (iU b).2.2)
theorem zI {b : List UInt8} {k : Nat} (hb : b.length ≤ 2 ^ 40) (hk : 1048600 < k) : iX.f k b = some (iT b) := by
  have this : iA.f k b (0 : Int) = some (iU b) := by
    have h := zQ (i := 0) hb (by omega) hk
    rw [List.drop_zero] at h
    exact h
  unfold iX.f iT
  rw [this, Option.bind_some]
  by_cases h : (iU b).2.2 = 0 ∧ (iU b).2.1 < (b.length : Int)
  · rw [if_pos h, if_pos (by simpa using h)]; rfl
  · rw [if_neg h, if_neg (by simpa using h)]; rfl
theorem zq {b : List UInt8} {k : Nat} (hb : b.length ≤ 2 ^ 40) (hk : 1048600 < k) : gB.f k b = some (iT b) := by
  have this : fZ.f k b (0 : Int) = some (iU b) := by
    have h := zw (i := 0) hb (by omega) hk
    rw [List.drop_zero] at h
    exact h
  unfold gB.f iT
  rw [this, Option.bind_some]
  by_cases h : (iU b).2.2 = 0
  · by_cases h2 : (iU b).2.1 < (b.length : Int)
    · rw [if_pos h, if_pos h2, if_pos ⟨h, h2⟩]
    · rw [if_pos h, if_neg h2, if_neg (fun x => h2 x.2), h]
  · have e : (iU b).1 = [] := by
      unfold iU at h ⊢
      split
      · rfl
      split
      · rfl
      split
      · rfl
      split
      · rename_i a1 a2 a3 a4
        rw [if_neg a1, if_neg a2, if_neg a3, if_pos a4] at h
        exact absurd rfl h
      · rfl
    rw [if_neg h, if_neg (fun x => h x.1), e]
end Go.Proofs.YtjkjlggbikeliaaGreatDoor

namespace Go.Proofs.YtjkjlggbikeliaaGreatDoor
set_option linter.unusedVariables false
set_option linter.unusedSimpArgs false
open Go.RowKit
theorem im {α : Type} {l : List α} {i : Nat} {d : α} (h : i < l.length) : l.getD i d = l[i] := by
  rw [List.getD_eq_getElem?_getD, List.getElem?_eq_getElem h]; rfl
theorem jC {α : Type} {l : List α} {i : Nat} {d : α} (h : i < l.length) : l.drop i = l.getD i d :: l.drop (i + 1) := by
  rw [im h]
  exact List.drop_eq_getElem_cons h
theorem zB {p : UInt8 → Bool} (h : ((List.range 256).all fun n => p (UInt8.ofNat n)) = true) (c : UInt8) : p c = true := by
  have := List.all_eq_true.1 h c.toNat (List.mem_range.2 (UInt8.toNat_lt c))
  simpa using this
theorem wn1 {n : Nat} (h : n < 2 ^ 61) : IntKind.i64.wrap ((n : Int) + 1) = ((n + 1 : Nat) : Int) := by rw [w64 (by omega) (by omega)]; simp
def dg (c : UInt8) : Prop := 48 ≤ c.toNat ∧ c.toNat ≤ 57
def dO (a : Nat) (l : List UInt8) : Nat := l.foldl (fun a c => a * 10 + (c.toNat - 48)) a
instance (c : UInt8) : Decidable (dg c) := inferInstanceAs (Decidable (48 ≤ c.toNat ∧ c.toNat ≤ 57))
theorem jn (a : Nat) (c : UInt8) (l : List UInt8) : dO a (c :: l) = dO (a * 10 + (c.toNat - 48)) l := by simp only [dO, List.foldl_cons]
theorem tx (a : Nat) (c : UInt8) (l : List UInt8) : dO a (l ++ [c]) = dO a l * 10 + (c.toNat - 48) := by simp [dO, List.foldl_append]
theorem mH : ∀ (l : List UInt8) (a : Nat), a ≤ dO a l
  | [], a => Nat.le_refl _
  | c :: l, a => by
    have := mH l (a * 10 + (c.toNat - 48))
    rw [jn]; omega
theorem tS : ∀ (k u : Nat), u < 10 ^ (k + 1) → (Lib.decDigits u).length ≤ k + 1
  | 0, u, h => by rw [Lib.decDigits, dif_pos (by simpa using h)]; simp
  | k + 1, u, h => by
    rw [Lib.decDigits]
    split
    · simp
    · have := tS k (u / 10) (by rw [Nat.pow_succ] at h; omega)
      simp; omega
theorem xa {n : Int} (h : 0 ≤ n) : Lib.itoa n = Lib.decDigits n.toNat := by unfold Lib.itoa; rw [if_neg (by omega)]
def pad : Nat → Nat → List UInt8
  | 0, _ => []
  | k + 1, n => pad k (n / 10) ++ [UInt8.ofNat (48 + n % 10)]
theorem pT : ∀ k n, (pad k n).length = k
  | 0, _ => rfl
  | k + 1, n => by rw [pad, List.length_append, pT k]; rfl
theorem sL : ∀ k, pad k 0 = Lib.repeatL [48] k
  | 0 => rfl
  | k + 1 => by
    have e : ∀ k, Lib.repeatL [48] k ++ [48] = Lib.repeatL [48] (k + 1) := fun k => by
      induction k with
      | zero => rfl
      | succ k ih => rw [Lib.repeatL, List.append_assoc, ih]; rfl
    rw [pad, show (0 : Nat) / 10 = 0 from rfl, sL k]
    exact e k
theorem tT : ∀ (k n : Nat), n < 10 ^ (k + 1) → Lib.repeatL [48] (k + 1 - (Lib.decDigits n).length) ++ Lib.decDigits n = pad (k + 1) n
  | k, n, h => by
    by_cases h10 : n < 10
    · rw [Lib.decDigits, dif_pos h10, pad, show n / 10 = 0 by omega, show n % 10 = n by omega, sL]
      rfl
    · rw [Lib.decDigits, dif_neg h10]
      cases k with
      | zero => exact absurd h (by simp; omega)
      | succ k =>
        have ih := tT k (n / 10) (by rw [Nat.pow_succ] at h; omega)
        rw [pad, ← ih, List.length_append]
        simp only [List.length_cons, List.length_nil]
        rw [show k + 1 + 1 - ((Lib.decDigits (n / 10)).length + (0 + 1)) = k + 1 - (Lib.decDigits (n / 10)).length by omega]
        simp
theorem tV : ∀ (l : List UInt8) (a : Nat), (∀ c, c ∈ l → dg c) → dO a l < (a + 1) * 10 ^ l.length
  | [], a, _ => by simp [dO]
  | c :: l, a, h => by
    have hc := h c (by simp)
    have ih := tV l (a * 10 + (c.toNat - 48)) (fun d hd => h d (by simp [hd]))
    rw [jn, List.length_cons, Nat.pow_succ]
    have h1 : a * 10 + (c.toNat - 48) + 1 ≤ (a + 1) * 10 := by have := hc.1; have := hc.2; omega
    calc _ < (a * 10 + (c.toNat - 48) + 1) * 10 ^ l.length := ih
      _ ≤ ((a + 1) * 10) * 10 ^ l.length := Nat.mul_le_mul_right _ h1
      _ = (a + 1) * (10 ^ l.length * 10) := by rw [Nat.mul_assoc, Nat.mul_comm 10]
theorem yX : ∀ (l : List UInt8), (∀ c, c ∈ l → dg c) → pad l.length (dO 0 l) = l := fun l => by
  induction h : l.length generalizing l with
  | zero => intro _; rw [List.length_eq_zero_iff.1 h]; rfl
  | succ k ih =>
    intro hd
    have hne : l ≠ [] := fun e => by rw [e] at h; cases h
    obtain ⟨p, c, rfl⟩ : ∃ p c, l = p ++ [c] := ⟨l.dropLast, l.getLast hne, (List.dropLast_concat_getLast hne).symm⟩
    have hc := hd c (by simp)
    have hp : p.length = k := by simp at h; exact h
    have := ih p hp (fun d hd' => hd d (by simp [hd']))
    rw [pad, tx, show (dO 0 p * 10 + (c.toNat - 48)) / 10 = dO 0 p by have := hc.1; have := hc.2; omega, show (dO 0 p * 10 + (c.toNat - 48)) % 10 = c.toNat - 48 by have := hc.1; have := hc.2; omega, this, show 48 + (c.toNat - 48) = c.toNat by have := hc.1; omega]
    simp
theorem pA : ∀ (l : List UInt8) (a : Nat), (∀ c, c ∈ l → dg c) → dO a l ≤ 18446744073709551615 → Lib.parseUintM (2 ^ 64 - 1) a l = .ok (dO a l)
  | [], a, _, _ => rfl
  | c :: l, a, hd, hf => by
    have hc := hd c (by simp)
    have h1 := hc.1
    rw [jn] at hf ⊢
    have := mH l (a * 10 + (c.toNat - 48))
    rw [Lib.parseUintM, if_pos (show 48 ≤ c.toNat ∧ c.toNat ≤ 57 from hc), if_neg (by omega), if_neg (by omega)]
    exact pA l _ (fun x hx => hd x (List.mem_cons_of_mem _ hx)) hf
theorem vU {l : List UInt8} (hn : l ≠ []) (hd : ∀ c, c ∈ l → dg c) (hf : dO 0 l ≤ 18446744073709551615) : mI l = (((dO 0 l : Nat) : Int), true) := by
  unfold mI Lib.parseUintB
  rw [if_neg hn, pA l 0 hd hf]
abbrev sM : List UInt8 := [48, 49, 50, 51, 52, 53, 54, 55, 56, 57]
theorem uD (c : UInt8) : sM.contains c = true ↔ dg c := by
  have := zB (p := fun c => sM.contains c == (decide (48 ≤ c.toNat) && decide (c.toNat ≤ 57))) (by decide +kernel) c
  rw [beq_iff_eq] at this
  rw [this]
  simp [dg]
theorem oE {p : UInt8 → Bool} : ∀ (l : List UInt8), l.dropWhile p = [] → ∀ c, c ∈ l → p c = true
  | [], _, c, h => by cases h
  | d :: l, h, c, hc => by
    cases hp : p d with
    | false => rw [List.dropWhile_cons_of_neg (by simp [hp])] at h; cases h
    | true =>
      rw [List.dropWhile_cons_of_pos (by simp [hp])] at h
      rcases List.mem_cons.1 hc with rfl | hc
      · exact hp
      · exact oE l h c hc
theorem sN {p : UInt8 → Bool} : ∀ (l : List UInt8), (∀ c, c ∈ l → p c = true) → l.dropWhile p = []
  | [], _ => rfl
  | d :: l, h => by
    rw [List.dropWhile_cons_of_pos (by simp [h d (by simp)])]
    exact sN l fun c hc => h c (by simp [hc])
theorem qL {p : UInt8 → Bool} : ∀ (l : List UInt8) (d : UInt8) (t : List UInt8), l.dropWhile p = d :: t → p d = false
  | [], _, _, h => by cases h
  | x :: l, d, t, h => by
    cases hp : p x with
    | false =>
      rw [List.dropWhile_cons_of_neg (by simp [hp])] at h
      rw [← (List.cons.inj h).1]
      exact hp
    | true =>
      rw [List.dropWhile_cons_of_pos (by simp [hp])] at h
      exact qL l d t h
theorem rJ (l : List UInt8) : Lib.trimS l sM = [] ↔ ∀ c, c ∈ l → dg c := by
  unfold Lib.trimS Lib.trimLeftS Lib.trimRightS
  constructor
  · intro h
    have h1 := oE _ h
    by_cases h2 : l.reverse.dropWhile (sM.contains ·) = []
    · exact fun c hc => (uD c).1 (oE _ h2 c (by simpa using hc))
    · exfalso
      cases h3 : l.reverse.dropWhile (sM.contains ·) with
      | nil => exact h2 h3
      | cons d t =>
        have h4 := h1 d (by rw [h3]; simp)
        have h5 := qL _ _ _ h3
        rw [h4] at h5
        cases h5
  · intro h
    rw [sN l.reverse (fun c hc => (uD c).2 (h c (by simpa using hc)))]
    rfl
theorem xb {n : Nat} (h : n < 10) : mj (IntKind.i32.wrap (IntKind.i64.wrap (48 + (n : Int)))) = [UInt8.ofNat (48 + n)] := by
  have : ((List.range 10).all fun n => decide (mj (IntKind.i32.wrap (IntKind.i64.wrap (48 + (n : Int)))) = [UInt8.ofNat (48 + n)])) = true := by decide +kernel
  exact of_decide_eq_true (List.all_eq_true.1 this n (List.mem_range.2 h))
end Go.Proofs.YtjkjlggbikeliaaGreatDoor

namespace Go.Proofs.YtjkjlggbikeliaaGreatDoor
set_option linter.unusedVariables false
set_option linter.unusedSimpArgs false
open Go.RowKit
abbrev ns : List UInt8 := [115, 110, 97, 112, 45]
def dm (n : Nat) : List UInt8 := ns ++ pad 19 n
def iR (s : List UInt8) : Nat :=
  if s.length = 24 ∧ s.take 5 = ns ∧ (∀ c, c ∈ s.drop 5 → dg c) ∧ dO 0 (s.drop 5) ≤ 4611686018427387904 then dO 0 (s.drop 5) else 0
theorem rG {n : Nat} (h0 : 1 ≤ n) (h1 : n ≤ 4611686018427387904) : fY.f (n : Int) = some (dm n, 0) := by
  have hlen := tS 18 n (by omega)
  have hp := tT 18 n (by omega)
  have hl : (Lib.repeatL [48] (19 - (Lib.decDigits n).length)).length = 19 - (Lib.decDigits n).length := by rw [Lib.repeatL_length]; simp
  unfold fY.f
  rw [if_neg (by simp; omega), io.f, if_pos (by omega), Option.bind_some, xa (by omega), Int.toNat_natCast, w64 (by omega) (by omega), gR.f,
    show (19 - ((Lib.decDigits n).length : Int)).toNat = 19 - (Lib.decDigits n).length by omega, if_pos ⟨by omega, by simp only [List.length_cons, List.length_nil]; omega, by omega⟩, Option.bind_some]
  rw [if_pos (by rw [hl]; simp only [List.length_cons, List.length_nil]; omega), if_pos (by rw [List.length_append, hl]; simp only [List.length_cons, List.length_nil]; omega), List.append_assoc, hp]
  rfl
theorem rH : ∀ (k i n : Nat) (z : List UInt8), 19 - i < k → i ≤ 19 → n ≤ 4611686018427387904 → z.length ≤ i → cq.l0 k (n : Int) z (i : Int) = some (pad (19 - i) n ++ z)
  | 0, i, n, z, h, _, _, _ => by omega
  | k + 1, i, n, z, h, hi, hn, hz => by
    rw [cq.l0]
    by_cases hlt : i < 19
    · have hr := xb (n := n % 10) (by omega)
      have e1 : Int.tmod (n : Int) 10 = ((n % 10 : Nat) : Int) := by rw [Int.tmod_eq_emod_of_nonneg (by omega)]; rfl
      have e2 : Int.tdiv (n : Int) 10 = ((n / 10 : Nat) : Int) := by rw [Int.tdiv_eq_ediv_of_nonneg (by omega)]; rfl
      rw [if_pos (by omega), e1, e2, hr, if_pos (by simp only [List.length_cons, List.length_nil]; omega), w64 (n := ((n / 10 : Nat) : Int)) (by omega) (by omega), wn1 (by omega),
        rH k (i + 1) (n / 10) _ (by omega) (by omega) (by omega) (by simp; omega), show 19 - i = (19 - (i + 1)) + 1 by omega, pad]
      simp
    · rw [if_neg (by omega), show 19 - i = 0 by omega]
      rfl
theorem pS {n k : Nat} (h1 : n ≤ 4611686018427387904) (hk : 19 < k) : cq.f k (n : Int) = some (dm n) := by
  unfold cq.f
  have l0 := rH k 0 n [] (by omega) (by omega) h1 (by simp)
  rw [show ((0 : Nat) : Int) = (0 : Int) from rfl] at l0
  rw [l0, Option.bind_some, if_pos (by simp [pT])]
  simp [dm]
theorem tU (s p : List UInt8) : Lib.hasPrefix s p = true ↔ s.take p.length = p := by
  unfold Lib.hasPrefix
  rw [List.isPrefixOf_iff_prefix, List.prefix_iff_eq_take]
  exact ⟨fun h => h.symm, fun h => h.symm⟩
theorem xZ {s : List UInt8} (hs : s.length ≤ 2 ^ 40) : iG.f s = some ((iR s : Int), decide (0 < iR s)) := by
  have hdig : ∀ b ∈ ([48, 49, 50, 51, 52, 53, 54, 55, 56, 57] : List UInt8), b.toNat < 128 := by decide
  unfold iG.f
  rw [fR.f, eN.f, eO.f, Option.bind_some]
  by_cases hp : s.take 5 = ns
  · have hp' : Lib.hasPrefix s [115, 110, 97, 112, 45] = true := (tU s _).2 hp
    have h5 : 5 ≤ s.length := by
      have := congrArg List.length hp
      simp at this; omega
    rw [hp', if_neg (by simp), if_pos (by simp only [List.length_cons, List.length_nil]; omega), Option.bind_some, Option.bind_some, oY]
    simp only [show ((([115, 110, 97, 112, 45] : List UInt8).length : Nat) : Int).toNat = 5 from rfl, Bool.not_true, Bool.false_or]
    by_cases hl : s.length = 24
    · have hld : (s.drop 5).length = 19 := by simp; omega
      rw [if_neg (by rw [hld]; simp), ip.f, if_pos ⟨by omega, by simp, hdig⟩, Option.bind_some, Option.bind_some]
      by_cases hd : ∀ c, c ∈ s.drop 5 → dg c
      · have hf := tV (s.drop 5) 0 hd
        rw [hld] at hf
        have hne : s.drop 5 ≠ [] := fun e => by rw [e] at hld; cases hld
        rw [if_neg (by rw [(rJ (s.drop 5)).2 hd]; simp), fS.f, if_pos ⟨rfl, rfl, by omega⟩, Option.bind_some, vU hne hd (by omega)]
        simp only [Bool.not_true, Bool.false_or]
        unfold iR
        by_cases hb : dO 0 (s.drop 5) ≤ 4611686018427387904
        · rw [if_pos (show s.length = 24 ∧ s.take 5 = ns ∧ (∀ c, c ∈ s.drop 5 → dg c) ∧ dO 0 (s.drop 5) ≤ 4611686018427387904 from ⟨hl, hp, hd, hb⟩)]
          by_cases h0 : 0 < dO 0 (s.drop 5)
          · rw [if_neg (by simp; omega), w64 (by omega) (by omega), decide_eq_true h0]
          · rw [if_pos (by simp; omega), decide_eq_false h0, show dO 0 (s.drop 5) = 0 by omega]
            rfl
        · rw [if_neg (c := s.length = 24 ∧ s.take 5 = ns ∧ (∀ c, c ∈ s.drop 5 → dg c) ∧ dO 0 (s.drop 5) ≤ 4611686018427387904) (fun h => hb h.2.2.2), if_pos (by simp; omega)]
          rfl
      · have ht : Lib.trimS (s.drop 5) [48, 49, 50, 51, 52, 53, 54, 55, 56, 57] ≠ [] := fun e => hd ((rJ _).1 e)
        rw [if_pos (by simpa using ht)]
        unfold iR
        rw [if_neg (fun h => hd h.2.2.1)]
        rfl
    · rw [if_pos (by simp; omega), Option.bind_some, if_pos rfl]
      unfold iR
      rw [if_neg (fun h => hl h.1)]
      rfl
  · have hp' : Lib.hasPrefix s [115, 110, 97, 112, 45] = false := by
      cases h : Lib.hasPrefix s [115, 110, 97, 112, 45] with
      | false => rfl
      | true => exact absurd ((tU s _).1 h) hp
    rw [hp', if_pos (show (!false) = true from rfl), Option.bind_some, Option.bind_some]
    simp only [Bool.not_false, Bool.true_or, if_true, Option.bind_some]
    unfold iR
    rw [if_neg (fun h => hp h.2.1)]
    rfl
theorem qi {s : List UInt8} (hs : s.length = 24) : ∀ (k i n : Nat), 24 - i < k → i ≤ 24 → n ≤ 4611686018427387909 →
    orR (cK.l0 s k (n : Int) (i : Int)) (fun v => if (4611686018427387904 : Int) < v then some 0 else some v) =
      some (if (∀ c, c ∈ s.drop i → dg c) ∧ dO n (s.drop i) ≤ 4611686018427387904 then ((dO n (s.drop i) : Nat) : Int) else 0)
  | 0, i, n, h, _, _ => by omega
  | k + 1, i, n, hk, hi, hn => by
    rw [cK.l0]
    by_cases hlt : i < 24
    · rw [if_pos (by omega), if_pos (by omega), jC (d := (0 : UInt8)) (by omega)]
      simp only [Int.toNat_natCast]
      obtain ⟨c, hc⟩ : ∃ c, s.getD i 0 = c := ⟨_, rfl⟩
      simp only [hc]
      have e1 : (if ((c.toNat : Nat) : Int) < (48 : Int) then (some true) else (if 0 ≤ (i : Int) ∧ (i : Int) < (s.length : Int) then (some (decide ((57 : Int) < ((c.toNat : Nat) : Int)))) else none)) = some (decide (¬ dg c)) := by
        unfold dg
        by_cases h1 : c.toNat < 48
        · rw [if_pos (by omega)]; congr 1; symm; exact decide_eq_true (by omega)
        · rw [if_neg (by omega), if_pos (by omega)]; congr 1; exact decide_eq_decide.2 (by omega)
      rw [e1, Option.bind_some]
      by_cases hd : dg c
      · by_cases hb : 461168601842738790 < n
        · rw [if_pos (by simp; right; omega)]
          simp only [orR]
          rw [if_neg]
          intro h
          have := mH (s.drop (i + 1)) (n * 10 + (c.toNat - 48))
          have h2 := h.2
          rw [jn] at h2
          omega
        · have d1 := hd.1
          have d2 := hd.2
          rw [if_neg (by simp [hd]; omega), if_pos (by omega)]
          have e2 : IntKind.i64.wrap (IntKind.i64.wrap (10 * (n : Int)) + IntKind.i64.wrap (IntKind.u8.wrap (((c.toNat : Nat) : Int) - 48))) = ((n * 10 + (c.toNat - 48) : Nat) : Int) := by
            rw [w8 (by omega) (by omega), w64 (n := 10 * (n : Int)) (by omega) (by omega), w64 (n := ((c.toNat : Nat) : Int) - 48) (by omega) (by omega), w64 (by omega) (by omega)]
            omega
          rw [e2, wn1 (by omega), qi hs k (i + 1) _ (by omega) (by omega) (by omega), jn]
          have e3 : (∀ d, d ∈ c :: s.drop (i + 1) → dg d) ↔ (∀ d, d ∈ s.drop (i + 1) → dg d) := ⟨fun h d hd' => h d (by simp [hd']), fun h d hd' => by
            rcases List.mem_cons.1 hd' with rfl | hd'
            · exact hd
            · exact h d hd'⟩
          simp only [e3]
      · rw [if_pos (by simp [hd])]
        simp only [orR]
        rw [if_neg (fun h => hd (h.1 c (by simp)))]
    · have hi' : i = 24 := by omega
      rw [if_neg (by omega), List.drop_of_length_le (by omega)]
      simp only [orR]
      have ef : dO n [] = n := rfl
      by_cases hb : n ≤ 4611686018427387904
      · rw [if_neg (by omega), if_pos ⟨fun c h => (by cases h), by rw [ef]; exact hb⟩, ef]
      · rw [if_pos (by omega), if_neg (fun h => hb (by have := h.2; rw [ef] at this; exact this))]
theorem xc {s : List UInt8} {k : Nat} (hs : s.length ≤ 2 ^ 40) (hk : 25 < k) : cK.f k s = some (iR s : Int) := by
  unfold cK.f iR
  by_cases hl : s.length = 24
  · rw [if_pos (by omega), if_pos (by omega), Option.bind_some]
    have ec : cut s (0 : Int) (5 : Int) = s.take 5 := by unfold cut; simp
    rw [ec]
    by_cases hp : s.take 5 = ns
    · have l0 := qi hl k 5 0 (by omega) (by omega) (by omega)
      rw [show ((5 : Nat) : Int) = (5 : Int) from rfl, show ((0 : Nat) : Int) = (0 : Int) from rfl] at l0
      rw [if_neg (by simp [hp]), l0]
      by_cases hd : (∀ c, c ∈ s.drop 5 → dg c) ∧ dO 0 (s.drop 5) ≤ 4611686018427387904
      · rw [if_pos hd, if_pos ⟨hl, hp, hd⟩]
      · rw [if_neg hd, if_neg (fun h => hd h.2.2)]; rfl
    · rw [if_pos (by simp [hp]), if_neg (fun h => hp h.2.1)]; rfl
  · rw [if_neg (by omega), Option.bind_some, if_pos rfl, if_neg (fun h => hl h.1)]; rfl
theorem md (n : Nat) : (dm n).length = 24 := by simp [dm, pT]
theorem wY {s : List UInt8} (h : 0 < iR s) : dm (iR s) = s := by
  unfold iR at h ⊢
  split at h
  · rename_i hc
    rw [if_pos hc]
    have hl : (s.drop 5).length = 19 := by have := hc.1; simp; omega
    have := yX (s.drop 5) hc.2.2.1
    rw [hl] at this
    rw [dm, this, ← hc.2.1]
    exact List.take_append_drop 5 s
  · omega
theorem yU (s : List UInt8) : iR s ≤ 4611686018427387904 := by
  unfold iR
  split
  · rename_i h; exact h.2.2.2
  · omega
end Go.Proofs.YtjkjlggbikeliaaGreatDoor

namespace Go.Proofs.YtjkjlggbikeliaaGreatDoor
set_option linter.unusedVariables false
set_option linter.unusedSimpArgs false
open Go.RowKit
abbrev dq : List UInt8 := [115, 110, 97, 112, 46, 116, 109, 112]
def kD (l : List (List UInt8)) : List Nat := (l.map iR).filter fun n => decide (0 < n)
theorem wX (l : List (List UInt8)) : (kD l).length ≤ l.length := by
  unfold kD
  exact Nat.le_trans (List.length_filter_le _ _) (by simp)
def toI (l : List Nat) : List Int := l.map fun n : Nat => (n : Int)
theorem pP {s : List (List UInt8)} (hs : ∀ x, x ∈ s → x.length ≤ 2 ^ 40) (hl : s.length < 2 ^ 40) : ∀ (k i : Nat) (acc : List Int), s.length - i < k → i ≤ s.length → acc.length ≤ i →
    di.l0 s k acc (i : Int) = some (acc ++ toI (kD (s.drop i)))
  | 0, i, acc, h, _, _ => by omega
  | k + 1, i, acc, h, hi, ha => by
    rw [di.l0]
    by_cases hlt : i < s.length
    · have hm : s.getD i [] ∈ s := by rw [im hlt]; exact List.getElem_mem hlt
      rw [if_pos (by omega), if_pos (by omega), jC (d := ([] : List UInt8)) hlt, ws1 (by omega)]
      simp only [Int.toNat_natCast]
      rw [xZ (hs _ hm), Option.bind_some]
      by_cases h0 : 0 < iR (s.getD i [])
      · simp only [decide_eq_true h0, if_true]
        rw [if_pos (by simp; omega), pP hs hl k (i + 1) _ (by omega) (by omega) (by simp; omega)]
        simp only [kD, List.map_cons, List.filter_cons, decide_eq_true h0, if_true, toI, List.append_assoc, List.cons_append, List.nil_append]
      · simp only [decide_eq_false h0, Bool.false_eq_true, if_false]
        rw [pP hs hl k (i + 1) _ (by omega) (by omega) (by omega)]
        simp only [kD, List.map_cons, List.filter_cons, decide_eq_false h0, Bool.false_eq_true, if_false]
    · rw [if_neg (by omega), List.drop_of_length_le (by omega)]
      simp [kD, toI]
def ij (fs : FSt) : List Nat := kD (dz fs)
theorem oR {n : Nat} {fs : FSt} (h : cx n fs) : ∀ x, x ∈ dz fs → x.length ≤ 32 := fun x hx => kw h (iC hx)
theorem rF {n : Nat} {fs : FSt} (h : cx n fs) (hn : n < 2 ^ 30) (l : List UInt8) (a : Int) (d : Bool) {k : Nat} (hk : n + 2 ≤ k) : di.f k fs l a d = some (toI (ij fs)) := by
  have hlen := ix fs
  have hln := h.ln
  unfold di.f
  rw [pQ h (by omega), Option.bind_some]
  have := pP (s := dz fs) (fun x hx => by have := oR h x hx; omega) (by omega) k 0 [] (by omega) (by omega) (by simp)
  rw [show (0 : Int) = ((0 : Nat) : Int) from rfl, this]
  simp [ij]
theorem iS {fs : FSt} {n : Nat} (h : n ∈ ij fs) : 0 < n ∧ n ≤ 4611686018427387904 ∧ (ay fs (dm n)).isSome = true := by
  unfold ij kD at h
  obtain ⟨h1, h2⟩ := List.mem_filter.1 h
  obtain ⟨x, hx, rfl⟩ := List.mem_map.1 h1
  have h3 : 0 < iR x := by simpa using h2
  refine ⟨h3, yU x, ?_⟩
  rw [wY h3]
  exact iC hx
def oS (b : List UInt8) (n : Nat) : Int × Int × List UInt8 × Bool :=
  if (iT b).2 = 0 then ((kE (iT b).1).1, (kE (iT b).1).2.1, (kE (iT b).1).2.2.1, decide ((kE (iT b).1).2.2.2 = 0) && decide ((kE (iT b).1).1 = (n : Int)))
  else (0, 0, [], false)
def jK (fs : FSt) (n : Nat) : Int × Int × List UInt8 × Bool := oS (fq fs (dm n)).1 n
theorem oh (b : List UInt8) : (iT b).1.length ≤ b.length := by
  unfold iT
  split
  · simp
  · unfold iU
    repeat' split
    all_goals simp
    omega
theorem oi {m : Nat} {fs : FSt} (h : cx m fs) (x : List UInt8) : (fq fs x).1.length ≤ 16777216 := by
  unfold fq
  split
  · rename_i hm; exact Nat.le_trans (iJ (gg hm)) h.sz
  · simp
theorem wZ : iT [] = ([], 2) := by decide +kernel
theorem ya {m : Nat} {fs : FSt} (h : cx m fs) (l : List UInt8) (a : Int) (d : Bool) {n k : Nat} (h0 : 1 ≤ n) (h1 : n ≤ 4611686018427387904) (hk : 1048600 < k) : iF.f k fs l a d (n : Int) = some (jK fs n) := by
  have hl := oi h (dm n)
  unfold iF.f jK oS
  rw [rG h0 h1, Option.bind_some, tL h, Option.bind_some]
  simp only []
  by_cases hr : (fq fs (dm n)).2 = 0
  · rw [if_pos hr, zI (by omega) hk, Option.bind_some]
    by_cases ho : (iT (fq fs (dm n)).1).2 = 0
    · have := oh (fq fs (dm n)).1
      rw [if_pos ho, if_pos ho, zJ (by omega) (by omega), Option.bind_some]
    · rw [if_neg ho, if_neg ho]
  · have e : (fq fs (dm n)).1 = [] := by
      unfold fq at hr ⊢
      split
      · rename_i hm; rw [if_pos hm] at hr; exact absurd rfl hr
      · rfl
    rw [if_neg hr, e, wZ, if_neg (by decide)]
def kJ (fs : FSt) : List Nat → Nat → Int × Int × List UInt8 × Int × Int
  | [], _ => (0, 0, [], 0, 8)
  | n :: r, p => if (jK fs n).2.2.2 = true then ((jK fs n).1, (jK fs n).2.1, (jK fs n).2.2.1, (p : Int), 0) else kJ fs r (p + 1)
def oT (fs : FSt) : Int × Int × List UInt8 × Int × Int := kJ fs (ij fs).reverse 0
theorem yb (l : List Nat) : (toI l).reverse = toI l.reverse := by unfold toI; rw [List.map_reverse]
theorem nr (l : List Nat) (i : Nat) : (toI l).getD i 0 = ((l.getD i 0 : Nat) : Int) := by
  unfold toI
  simp only [List.getD_eq_getElem?_getD, List.getElem?_map]
  cases l[i]? <;> rfl
theorem tM {m : Nat} {fs : FSt} (h : cx m fs) (l : List UInt8) (a : Int) (d : Bool) {L : List Nat} (hL : ∀ n, n ∈ L → 1 ≤ n ∧ n ≤ 4611686018427387904) (hl : L.length < 2 ^ 40) : ∀ (k p : Nat), L.length - p + 1048601 < k → p ≤ L.length →
    orR (dJ.l0 fs l a d (toI L) k (p : Int)) (fun _ => some (0, 0, ([] : List UInt8), 0, 8)) = some (kJ fs (L.reverse.drop p) p)
  | 0, p, h, _ => by omega
  | k + 1, p, hk, hp => by
    rw [dJ.l0, yb]
    have hlen : (toI L.reverse).length = L.length := by simp [toI]
    by_cases hlt : p < L.length
    · have hm : L.reverse.getD p 0 ∈ L := by
        rw [im (by simpa using hlt)]
        exact List.mem_reverse.1 (List.getElem_mem _)
      have hb := hL _ hm
      rw [if_pos (by omega), if_pos (by omega), Int.toNat_natCast, nr, jC (d := (0 : Nat)) (by simpa using hlt), ya h l a d hb.1 hb.2 (by omega), Option.bind_some, ws1 (by omega), kJ]
      by_cases hw : (jK fs (L.reverse.getD p 0)).2.2.2 = true
      · rw [if_pos hw, if_pos hw]; rfl
      · rw [if_neg hw, if_neg hw]
        exact tM h l a d hL hl k (p + 1) (by omega) (by omega)
    · rw [if_neg (by omega), List.drop_of_length_le (by simp; omega)]
      rfl
theorem kY {m : Nat} {fs : FSt} (h : cx m fs) : (ij fs).length ≤ m := by
  have h1 := wX (dz fs)
  have h2 := ix fs
  have h3 := h.ln
  unfold ij
  omega
theorem yV {m : Nat} {fs : FSt} (h : cx m fs) (hm : m < 2 ^ 30) (l : List UInt8) (a : Int) (d : Bool) {k : Nat} (hk : m + 1048700 < k) : dJ.f k fs l a d = some (oT fs) := by
  have hlen := kY h
  unfold dJ.f oT
  rw [rF h hm l a d (by omega), Option.bind_some]
  have := tM h l a d (L := ij fs) (fun n hn => ⟨(iS hn).1, (iS hn).2.1⟩) (by omega) k 0 (by omega) (by omega)
  rw [show (0 : Int) = ((0 : Nat) : Int) from rfl] at this ⊢
  exact this
/-! ### Save -/
def gK (r : Int × DS) (f : DS → Int × DS) : Int × DS := if r.1 = 0 then f r.2 else r
def bq (s : DS) : Int × DS := if (ay s.1 dq).isSome = true then fl s.1 s.2.1 s.2.2.1 s.2.2.2 dq else (0, s)
def lJ (s : DS) (n : Nat) (b : List UInt8) : Int × DS :=
  gK (gK (gK (gK (bq s) fun t => dZ t.1 t.2.1 t.2.2.1 t.2.2.2 dq) fun t => ea t.1 t.2.1 t.2.2.1 t.2.2.2 dq b) fun t => gc t.1 t.2.1 t.2.2.1 t.2.2.2 dq) fun t => eM t.1 t.2.1 t.2.2.1 t.2.2.2 dq (dm n)
def kK (s : DS) (i t : Int) (d : List UInt8) : Int × DS :=
  if gq i t d ≠ 0 then (gq i t d, s) else if i = 0 then (4, s) else lJ s i.toNat (frB (txP i t d))
theorem pR {i t : Int} {d : List UInt8} (h : gq i t d = 0) : (i = 0 ∧ t = 0 ∧ d = []) ∨ (1 ≤ i ∧ i ≤ 4611686018427387904 ∧ 1 ≤ t ∧ t ≤ 4611686018427387904 ∧ d.length ≤ 524288) := by
  unfold gq at h
  split at h
  · rename_i hn
    left
    refine ⟨hn.1.1, hn.1.2, List.length_eq_zero_iff.1 (by have := hn.2; omega)⟩
  · split at h
    · omega
    · rename_i hr
      split at h
      · omega
      · right
        have h1 : rg i 1 ∧ rg t 1 := by simpa using hr
        exact ⟨h1.1.1, h1.1.2, h1.2.1, h1.2.2, by omega⟩
theorem yc (i t : Int) (d : List UInt8) : (txP i t d).length ≤ d.length + 30 := by
  have b1 := fr i; have b2 := fr t; have b3 := fr (d.length : Int)
  unfold txP bB
  simp only [List.length_append]
  omega
theorem tP (s : DS) : dK.f s.1 s.2.1 s.2.2.1 s.2.2.2 = some ((if (ay s.1 dq).isSome = true then 1 else 0), (bq s).1, (bq s).2.1, (bq s).2.2.1, (bq s).2.2.2.1, (bq s).2.2.2.2) := by
  unfold dK.f bq
  rw [oU, Option.bind_some]
  cases hm : (ay s.1 dq).isSome with
  | false => rfl
  | true => simp only [Bool.not_true, Bool.false_eq_true, if_false, if_true]; rw [mF, Option.bind_some]
theorem qe {s : DS} (h : cx 256 s.1) : cx 256 (bq s).2.1 := by
  unfold bq
  split
  · exact oV h _ _ _ _
  · exact h
theorem tQ (i t : Int) {d : List UInt8} (h : d.length ≤ 524288) : (txP i t d).length ≤ 1048576 := by
  have := yc i t d
  omega
theorem yd {s : DS} (h : cx 256 s.1) {n : Nat} {b : List UInt8} (hb : b.length < 2 ^ 40) {k : Nat} (hk : 40 ≤ k) :
    ((gr.f s.1 s.2.1 s.2.2.1 s.2.2.2).bind fun s27v => (if s27v.1 = (0 : Int) then ((gu.f k s27v.2.1 s27v.2.2.1 s27v.2.2.2.1 s27v.2.2.2.2).bind fun s32v => (if s32v.1 = (0 : Int) then ((gv.f s32v.2.1 s32v.2.2.1 s32v.2.2.2.1 s32v.2.2.2.2 b).bind fun s41v => (if s41v.1 = (0 : Int) then ((gw.f s41v.2.1 s41v.2.2.1 s41v.2.2.2.1 s41v.2.2.2.2).bind fun s46v => (if s46v.1 = (0 : Int) then ((gx.f k s46v.2.1 s46v.2.2.1 s46v.2.2.2.1 s46v.2.2.2.2 (dm n)).bind fun s51v => (if s51v.1 = (0 : Int) then (some (0, s51v.2.1, s51v.2.2.1, s51v.2.2.2.1, s51v.2.2.2.2)) else (some (s51v.1, s51v.2.1, s51v.2.2.1, s51v.2.2.2.1, s51v.2.2.2.2)))) else (some (s46v.1, s46v.2.1, s46v.2.2.1, s46v.2.2.2.1, s46v.2.2.2.2)))) else (some (s41v.1, s41v.2.1, s41v.2.2.1, s41v.2.2.2.1, s41v.2.2.2.2)))) else (some (s32v.1, s32v.2.1, s32v.2.2.1, s32v.2.2.2.1, s32v.2.2.2.2)))) else (some (s27v.1, s27v.2.1, s27v.2.2.1, s27v.2.2.2.1, s27v.2.2.2.2))))
      = some (lJ s n b) := by
  have i1 := qe h
  unfold gr.f gu.f gv.f gw.f gx.f lJ
  rw [tP, Option.bind_some, Option.bind_some]
  obtain ⟨r1, e1⟩ : ∃ r, bq s = r := ⟨_, rfl⟩
  rw [e1] at i1 ⊢
  obtain ⟨c1, f1, l1, a1, d1⟩ := r1
  simp only at i1 ⊢
  by_cases z1 : c1 = 0
  · rw [if_pos z1, qf _ _ _ _ _ (by simp) (by simp; omega), Option.bind_some, Option.bind_some]
    have i2 := oW i1 l1 a1 d1 dq
    have t1 : gK (c1, f1, l1, a1, d1) (fun t => dZ t.1 t.2.1 t.2.2.1 t.2.2.2 dq) = dZ f1 l1 a1 d1 dq := if_pos z1
    rw [t1]
    obtain ⟨r2, e2⟩ : ∃ r, dZ f1 l1 a1 d1 dq = r := ⟨_, rfl⟩
    rw [e2] at i2 ⊢
    obtain ⟨c2, f2, l2, a2, d2⟩ := r2
    simp only at i2 ⊢
    by_cases z2 : c2 = 0
    · rw [if_pos z2, qg i2 _ _ _ _ _ hb, Option.bind_some, Option.bind_some]
      have i3 := oX i2 l2 a2 d2 dq b
      have t2 : gK (c2, f2, l2, a2, d2) (fun t => ea t.1 t.2.1 t.2.2.1 t.2.2.2 dq b) = ea f2 l2 a2 d2 dq b := if_pos z2
      rw [t2]
      obtain ⟨r3, e3⟩ : ∃ r, ea f2 l2 a2 d2 dq b = r := ⟨_, rfl⟩
      rw [e3] at i3 ⊢
      obtain ⟨c3, f3, l3, a3, d3⟩ := r3
      simp only at i3 ⊢
      by_cases z3 : c3 = 0
      · rw [if_pos z3, tR, Option.bind_some, Option.bind_some]
        have t3 : gK (c3, f3, l3, a3, d3) (fun t => gc t.1 t.2.1 t.2.2.1 t.2.2.2 dq) = gc f3 l3 a3 d3 dq := if_pos z3
        rw [t3]
        obtain ⟨r4, e4⟩ : ∃ r, gc f3 l3 a3 d3 dq = r := ⟨_, rfl⟩
        rw [e4]
        obtain ⟨c4, f4, l4, a4, d4⟩ := r4
        simp only
        by_cases z4 : c4 = 0
        · rw [if_pos z4, qh _ _ _ _ _ _ (by rw [md]; omega) (by rw [md]; omega), Option.bind_some, Option.bind_some]
          have t4 : gK (c4, f4, l4, a4, d4) (fun t => eM t.1 t.2.1 t.2.2.1 t.2.2.2 dq (dm n)) = eM f4 l4 a4 d4 dq (dm n) := if_pos z4
          rw [t4]
          obtain ⟨r5, e5⟩ : ∃ r, eM f4 l4 a4 d4 dq (dm n) = r := ⟨_, rfl⟩
          rw [e5]
          obtain ⟨c5, f5, l5, a5, d5⟩ := r5
          simp only
          by_cases z5 : c5 = 0
          · rw [if_pos z5, z5]
          · rw [if_neg z5]
        · rw [if_neg z4]; unfold gK; rw [if_neg z4]
      · rw [if_neg z3]; unfold gK; rw [if_neg z3]; simp only [if_neg z3]
    · rw [if_neg z2]; unfold gK; rw [if_neg z2]; simp only [if_neg z2]
  · rw [if_neg z1]; unfold gK; rw [if_neg z1]; simp only [if_neg z1]
theorem yW {s : DS} (h : cx 256 s.1) (i t : Int) {d : List UInt8} {k : Nat} (hk : 2000000 ≤ k) : fX.f k s.1 s.2.1 s.2.2.1 s.2.2.2 i t d = some (kK s i t d) := by
  by_cases hc : gq i t d = 0
  · have e1 : eH.f k i t d = some (txP i t d, 0) := by
      rw [xN (by omega)]; unfold mG; rw [if_pos hc]
    unfold kK
    rw [if_neg (c := gq i t d ≠ 0) (fun x => x hc)]
    unfold fX.f
    rw [e1, Option.bind_some]
    simp only [if_true]
    by_cases hi : i = 0
    · rw [if_pos hi, if_pos hi]
    · rcases pR hc with ⟨h0, _⟩ | ⟨h1, h2, h3, h4, h5⟩
      · exact absurd h0 hi
      · have hb := tQ i t h5
        have e2 : iv.f k (txP i t d) = some (frB (txP i t d), 0) := by
          rw [zH (by omega), if_neg (by omega)]
        obtain ⟨n, rfl⟩ : ∃ n : Nat, i = (n : Int) := ⟨i.toNat, by omega⟩
        rw [if_neg hi, if_neg hi, e2, Option.bind_some]
        simp only [if_true]
        rw [rG (by omega) (by omega), Option.bind_some]
        simp only [if_true]
        rw [yd h (by rw [tF]; omega) (by omega), Int.toNat_natCast]
  · have e1 : eH.f k i t d = some ([], gq i t d) := by
      rw [xN (by omega)]; unfold mG; rw [if_neg hc]
    unfold kK
    rw [if_pos (c := gq i t d ≠ 0) hc]
    unfold fX.f
    rw [e1, Option.bind_some, if_neg (show ¬ (([] : List UInt8), gq i t d).2 = 0 from hc)]
end Go.Proofs.YtjkjlggbikeliaaGreatDoor

namespace Go.Proofs.YtjkjlggbikeliaaGreatDoor
set_option linter.unusedVariables false
set_option linter.unusedSimpArgs false
open Go.RowKit
def rmM (s : DS) (x : List UInt8) : Int × DS := fl s.1 s.2.1 s.2.2.1 s.2.2.2 x
def eu (s : DS) : List Nat → Int × DS
  | [] => (0, s)
  | n :: r => if (rmM s (dm n)).1 = 0 then eu (rmM s (dm n)).2 r else rmM s (dm n)
def mi (s : DS) : Nat := if (ay s.1 dq).isSome = true then 1 else 0
def iY (fs : FSt) (m : Nat) : List Nat := (ij fs).take ((ij fs).length - m)
def jr (s : DS) (n : Int) : Int × Int × DS :=
  if n < 1 then (0, 1, s)
  else if (bq s).1 = 0 then
    (if (eu (bq s).2 (iY (bq s).2.1 n.toNat)).1 = 0 then (((mi s + (iY (bq s).2.1 n.toNat).length : Nat) : Int), 0, (eu (bq s).2 (iY (bq s).2.1 n.toNat)).2)
      else (0, eu (bq s).2 (iY (bq s).2.1 n.toNat)))
  else (0, bq s)
theorem zi {L : List Nat} (h : 1 ≤ L.length) : cut (toI L) (1 : Int) ((toI L).length : Int) = toI L.tail := by
  rw [oY]
  unfold toI
  cases L with
  | nil => rfl
  | cons n r => rfl
theorem ub {m : Nat} (hm : 1 ≤ m) : ∀ (k g : Nat) (L : List Nat) (s : DS), L.length < k → L.length ≤ 1000 → g + L.length ≤ 10000 → (∀ n, n ∈ L → 1 ≤ n ∧ n ≤ 4611686018427387904) →
    eV.l0 (m : Int) k (g : Int) (toI L) s.1 s.2.1 s.2.2.1 s.2.2.2 = some (if (eu s (L.take (L.length - m))).1 = 0 then .inl (((g + (L.length - m) : Nat) : Int), (eu s (L.take (L.length - m))).2) else .inr (0, eu s (L.take (L.length - m))))
  | 0, g, L, s, h, _, _, _ => by omega
  | k + 1, g, L, s, hk, hl, hg, hL => by
    rw [eV.l0]
    have hlen : (toI L).length = L.length := by simp [toI]
    by_cases hlt : m < L.length
    · cases L with
      | nil => simp at hlt
      | cons n r =>
        have hn := hL n (by simp)
        have ht : (n :: r).take ((n :: r).length - m) = n :: r.take (r.length - m) := by
          have : (n :: r).length - m = (r.length - m) + 1 := by simp at hlt ⊢; omega
          rw [this, List.take_succ_cons]
        rw [if_pos (by omega), if_pos (by omega), nr]
        show Option.bind (fY.f ((n : Nat) : Int)) _ = _
        rw [rG hn.1 hn.2, Option.bind_some, mF, Option.bind_some, ht, eu]
        show (if (rmM s (dm n)).1 = 0 then _ else _) = _
        by_cases hr : (rmM s (dm n)).1 = 0
        · have ih := ub hm k (g + 1) r (rmM s (dm n)).2 (by simp at hk; omega) (by simp at hl; omega) (by simp at hg; omega) (fun x hx => hL x (by simp [hx]))
          have e1 : g + 1 + (r.length - m) = g + ((n :: r).length - m) := by simp at hlt ⊢; omega
          rw [if_pos hr, if_pos hr, if_pos (by omega), zi (by simp), ws1 (by omega)]
          rw [e1] at ih
          exact ih
        · rw [if_neg hr, if_neg hr, if_neg hr]
          rfl
    · rw [if_neg (by omega), show L.length - m = 0 by omega, List.take_zero, eu, if_pos rfl]
      rfl
theorem zj {s : DS} (h : cx 256 s.1) {n : Int} (hn : n ≤ 9223372036854775807) {k : Nat} (hk : 2000 ≤ k) : eV.f k s.1 s.2.1 s.2.2.1 s.2.2.2 n = some (jr s n) := by
  unfold eV.f jr
  by_cases h1 : n < 1
  · rw [if_pos h1, if_pos h1]
  · have ic := qe h
    rw [if_neg h1, if_neg h1, tP, Option.bind_some]
    simp only []
    by_cases hc : (bq s).1 = 0
    · have hlen := kY ic
      obtain ⟨m, rfl⟩ : ∃ m : Nat, n = (m : Int) := ⟨n.toNat, by omega⟩
      have hg : (if (ay s.1 dq).isSome = true then (1 : Int) else 0) = ((mi s : Nat) : Int) := by unfold mi; split <;> rfl
      have hg1 : mi s ≤ 1 := by unfold mi; split <;> omega
      have kl := ub (m := m) (by omega) k (mi s) (ij (bq s).2.1) (bq s).2 (by omega) (by omega) (by omega) (fun x hx => ⟨(iS hx).1, (iS hx).2.1⟩)
      have e1 : (iY (bq s).2.1 m).length = (ij (bq s).2.1).length - m := by unfold iY; rw [List.length_take]; omega
      rw [if_pos hc, if_pos hc, rF ic (by decide) _ _ _ (by omega), Option.bind_some, hg, kl, Int.toNat_natCast, e1]
      show orR (some (if (eu (bq s).2 (iY (bq s).2.1 m)).1 = 0 then _ else _)) _ = _
      by_cases hd : (eu (bq s).2 (iY (bq s).2.1 m)).1 = 0
      · rw [if_pos hd, if_pos hd]; rfl
      · rw [if_neg hd, if_neg hd]; rfl
    · rw [if_neg hc, if_neg hc]
end Go.Proofs.YtjkjlggbikeliaaGreatDoor

namespace Go.Proofs.YtjkjlggbikeliaaGreatDoor
set_option linter.unusedVariables false
set_option linter.unusedSimpArgs false
open Go.RowKit
theorem mT {s : List (List UInt8)} (hs : ∀ x, x ∈ s → x.length ≤ 2 ^ 40) (hl : s.length < 2 ^ 40) : ∀ (k i : Nat) (acc : List Int), s.length - i + 30 < k → i ≤ s.length → acc.length ≤ i →
    cb.l0 s k acc (i : Int) = some (acc ++ toI (kD (s.drop i)))
  | 0, i, acc, h, _, _ => by omega
  | k + 1, i, acc, h, hi, ha => by
    rw [cb.l0]
    by_cases hlt : i < s.length
    · have hm : s.getD i [] ∈ s := by rw [im hlt]; exact List.getElem_mem hlt
      rw [if_pos (by omega), if_pos (by omega), jC (d := ([] : List UInt8)) hlt, ws1 (by omega)]
      simp only [Int.toNat_natCast]
      rw [xc (hs _ hm) (by omega), Option.bind_some]
      by_cases h0 : 0 < iR (s.getD i [])
      · rw [if_pos (by omega), if_pos (by simp; omega), mT hs hl k (i + 1) _ (by omega) (by omega) (by simp; omega)]
        simp only [kD, List.map_cons, List.filter_cons, decide_eq_true h0, if_true, toI, List.append_assoc, List.cons_append, List.nil_append]
      · rw [if_neg (by omega), mT hs hl k (i + 1) _ (by omega) (by omega) (by omega)]
        simp only [kD, List.map_cons, List.filter_cons, decide_eq_false h0, Bool.false_eq_true, if_false]
    · rw [if_neg (by omega), List.drop_of_length_le (by omega)]
      simp [kD, toI]
theorem ov {fs : FSt} (h : cx 256 fs) (l : List UInt8) (a : Int) (d : Bool) {k : Nat} (hk : 1000 ≤ k) : cb.f k (aR fs) a d l = some (toI (ij fs)) := by
  have hlen := ix fs
  have hln := h.ln
  unfold cb.f
  rw [sn h (by omega) _ _ _ (by omega), Option.bind_some]
  have := mT (s := dz fs) (fun x hx => by have := oR h x hx; omega) (by omega) k 0 [] (by omega) (by omega) (by simp)
  rw [show (0 : Int) = ((0 : Nat) : Int) from rfl, this]
  simp [ij]
theorem so {fs : FSt} (h : cx 256 fs) (l : List UInt8) (a : Int) (d : Bool) {L : List Nat} (hL : ∀ n, n ∈ L → 1 ≤ n ∧ n ≤ 4611686018427387904) (hl : L.length < 2 ^ 40) : ∀ (k p : Nat), L.length - p + 1048700 < k → p ≤ L.length →
    orR (cN.l0 (aR fs) a d l (toI L) k (((L.length : Nat) : Int) - 1 - (p : Int))) (fun _ => some (0, 0, ([] : List UInt8), 0, 8)) = some (kJ fs (L.reverse.drop p) p)
  | 0, p, h, _ => by omega
  | k + 1, p, hk, hp => by
    rw [cN.l0]
    have hlen : (toI L).length = L.length := by simp [toI]
    by_cases hlt : p < L.length
    · obtain ⟨q, hq⟩ : ∃ q, L.length = q + 1 + p := ⟨L.length - 1 - p, by omega⟩
      have ez : ((L.length : Nat) : Int) - 1 - (p : Int) = (q : Int) := by omega
      have hrev : L.reverse.getD p 0 = L.getD q 0 := by
        rw [im (by simpa using hlt), im (by omega), List.getElem_reverse]
        congr 1
        omega
      have hm : L.getD q 0 ∈ L := by rw [im (by omega)]; exact List.getElem_mem _
      have hb := hL _ hm
      rw [ez, if_pos (by omega), if_pos (by omega), Int.toNat_natCast, nr, jC (d := (0 : Nat)) (by simpa using hlt), hrev, kJ, pS hb.2 (by omega), Option.bind_some, mh h (by decide) _ _ _ _ (by omega), Option.bind_some]
      have hrl := oi h (dm (L.getD q 0))
      have hz1 : IntKind.i64.wrap ((q : Int) - 1) = ((L.length : Nat) : Int) - 1 - ((p + 1 : Nat) : Int) := by rw [w64 (by omega) (by omega)]; omega
      have hz2 : IntKind.i64.wrap (IntKind.i64.wrap (((toI L).length : Int) - 1) - (q : Int)) = (p : Int) := by rw [w64 (n := ((toI L).length : Int) - 1) (by omega) (by omega), w64 (by omega) (by omega)]; omega
      have ih := so h l a d hL hl k (p + 1) (by omega) (by omega)
      rw [zq (by omega) (by omega), Option.bind_some, hz1, hz2]
      unfold jK oS
      by_cases ho : (iT (fq fs (dm (L.getD q 0))).1).2 = 0
      · have hol := oh (fq fs (dm (L.getD q 0))).1
        rw [if_pos ho, if_pos ho, zO (by omega) (by omega), Option.bind_some]
        obtain ⟨g, eg⟩ : ∃ g, kE (iT (fq fs (dm (L.getD q 0))).1).1 = g := ⟨_, rfl⟩
        rw [eg]
        by_cases hw : g.2.2.2 = 0
        · by_cases hi : g.1 = ((L.getD q 0 : Nat) : Int)
          · rw [if_pos hw, if_pos (by omega), Option.bind_some, if_pos (by simpa using hi), if_pos (by simp [hw, hi])]; rfl
          · rw [if_pos hw, if_pos (by omega), Option.bind_some, if_neg (by simpa using hi), if_neg (fun x => hi (by simp only [Bool.and_eq_true, decide_eq_true_eq] at x; exact x.2))]; exact ih
        · rw [if_neg hw, Option.bind_some, if_neg Bool.false_ne_true, if_neg (by simp [hw])]; exact ih
      · rw [if_neg ho, if_neg ho, if_neg Bool.false_ne_true]
        exact ih
    · rw [if_neg (by omega), List.drop_of_length_le (by simp; omega)]
      rfl
theorem yp {fs : FSt} (h : cx 256 fs) (l : List UInt8) (a : Int) (d : Bool) {k : Nat} (hk : 1049000 < k) : cN.f k (aR fs) a d l = some (oT fs) := by
  have hlen := kY h
  unfold cN.f oT
  rw [ov h l a d (by omega), Option.bind_some]
  have hl : (toI (ij fs)).length = (ij fs).length := by simp [toI]
  have := so h l a d (L := ij fs) (fun n hn => ⟨(iS hn).1, (iS hn).2.1⟩) (by omega) k 0 (by omega) (by omega)
  rw [hl, w64 (by omega) (by omega)]
  simpa using this
/-! ### Save -/
theorem xn {s : DS} (h : eL s) {k : Nat} (hk : 1000 ≤ k) {c : Int} (hc : c = 0) :
    ((co.f k (aR s.1) s.2.2.1 s.2.2.2 s.2.1 dq).bind fun s25v => (if s25v.2 = (0 : Int) then ((bV.f k (aR s.1) s.2.2.1 s.2.2.2 s.2.1 dq).bind fun s32v => (some (s32v.1, s32v.2.1, s32v.2.2.1, s32v.2.2.2.1, s32v.2.2.2.2))) else (some (c, aR s.1, s.2.2.1, s.2.2.2, s.2.1)))) = some (eZ (bq s)) := by
  rw [mh h.inv (by decide) _ _ _ _ (by omega), Option.bind_some]
  unfold fq bq
  cases hm : (ay s.1 dq).isSome with
  | false => rw [if_neg Bool.false_ne_true, if_neg (by decide), hc]; rfl
  | true => rw [if_pos rfl, if_pos rfl, kP h.inv (by decide) _ h.arm.1 _ _ (by omega), Option.bind_some]; rfl
theorem ok0 : okI .i64 0 := ⟨by decide, by decide⟩
theorem kO {s : DS} (h : eL s) : eL (bq s).2 := by
  unfold bq
  split
  · exact ig h (e := (5, 0, dq, [], [])) ok0
  · exact h
theorem nQ {s : DS} (h : eL s) (x : List UInt8) : eL (dZ s.1 s.2.1 s.2.2.1 s.2.2.2 x).2 := ig h (e := (0, 0, x, [], [])) ok0
theorem nR {s : DS} (h : eL s) (x b : List UInt8) : eL (ea s.1 s.2.1 s.2.2.1 s.2.2.2 x b).2 := ig h (e := (1, 0, x, [], b)) ok0
theorem qz {s : DS} (h : eL s) (x : List UInt8) : eL (gc s.1 s.2.1 s.2.2.1 s.2.2.2 x).2 := ig h (e := (2, 0, x, [], [])) ok0
theorem tg {s : DS} (h : eL s) (x y : List UInt8) : eL (eM s.1 s.2.1 s.2.2.1 s.2.2.2 x y).2 := ig h (e := (4, 0, x, y, [])) ok0
theorem nO {s : DS} (h : eL s) (x : List UInt8) : eL (fl s.1 s.2.1 s.2.2.1 s.2.2.2 x).2 := ig h (e := (5, 0, x, [], [])) ok0
theorem jb {r : Int × DS} {f : DS → Int × DS} (h : eL r.2) (hf : ∀ t : DS, eL t → eL (f t).2) : eL (gK r f).2 := by
  unfold gK
  split
  · exact hf _ h
  · exact h
theorem vp {s : DS} (h : eL s) (n : Nat) (b : List UInt8) : eL (lJ s n b).2 := by
  unfold lJ
  exact jb (jb (jb (jb (kO h) fun t ht => nQ ht _) fun t ht => nR ht _ _) fun t ht => qz ht _) fun t ht => tg ht _ _
theorem wp {s : DS} (h : eL s) (i t : Int) (d : List UInt8) : eL (kK s i t d).2 := by
  unfold kK
  split
  · exact h
  split
  · exact h
  · exact vp h _ _
theorem rf {r : Int × DS} {f : DS → Int × DS} {g : Option (Int × List fj × Int × Bool × List UInt8)} (hg : r.1 = 0 → g = some (eZ (f r.2))) :
    (if r.1 = (0 : Int) then g.bind (fun s => some (s.1, s.2.1, s.2.2.1, s.2.2.2.1, s.2.2.2.2)) else some (r.1, aR r.2.1, r.2.2.2.1, r.2.2.2.2, r.2.2.1)) = some (eZ (gK r f)) := by
  unfold gK
  by_cases h : r.1 = 0
  · rw [if_pos h, if_pos h, hg h]; rfl
  · rw [if_neg h, if_neg h]; rfl
theorem nF {α β : Type} {o : Option α} {a : α} {F : α → Option β} {r : Option β} (h : o = some a) (h2 : F a = r) : o.bind F = r := by rw [h]; exact h2
theorem yq {s : DS} (h : eL s) (i t : Int) {d : List UInt8} {k : Nat} (hk : 2000000 ≤ k) : fC.f k (aR s.1) s.2.2.1 s.2.2.2 s.2.1 i t d = some (eZ (kK s i t d)) := by
  by_cases hc : gq i t d = 0
  · have e1 : dS.f k i t d = some (txP i t d, 0) := by
      rw [xQ (by omega)]; unfold mG; rw [if_pos hc]
    unfold kK
    rw [if_neg (c := gq i t d ≠ 0) (fun x => x hc)]
    unfold fC.f
    rw [e1, Option.bind_some]
    simp only [if_true]
    rw [xR, Option.bind_some]
    by_cases hi : i = 0
    · have hn : kp i t d := by
        rcases pR hc with ⟨h0, h1, h2⟩ | ⟨h1, _⟩
        · exact ⟨⟨h0, h1⟩, by rw [h2]; rfl⟩
        · omega
      rw [decide_eq_true hn, if_pos rfl, if_pos hi]; rfl
    · rcases pR hc with ⟨h0, _⟩ | ⟨h1, h2, h3, h4, h5⟩
      · exact absurd h0 hi
      · have hb := tQ i t h5
        have e2 : fV.f k (txP i t d) = some (frB (txP i t d), 0) := by
          rw [yT (by omega), if_neg (by omega)]
        obtain ⟨n, rfl⟩ : ∃ n : Nat, i = (n : Int) := ⟨i.toNat, by omega⟩
        rw [decide_eq_false (fun x : kp (n : Int) t d => hi x.1.1), if_neg Bool.false_ne_true, if_neg hi, e2, Option.bind_some]
        simp only []
        have ec := xn h (k := k) (by omega) (c := 0) rfl
        have i1 := kO h
        have i2 := jb (f := fun t => dZ t.1 t.2.1 t.2.2.1 t.2.2.2 dq) i1 fun t ht => nQ ht _
        have i3 := jb (f := fun u => ea u.1 u.2.1 u.2.2.1 u.2.2.2 dq (frB (txP (n : Int) t d))) i2 fun t ht => nR ht _ _
        have i4 := jb (f := fun t => gc t.1 t.2.1 t.2.2.1 t.2.2.2 dq) i3 fun t ht => qz ht _
        have hfl : (frB (txP (n : Int) t d)).length < 2 ^ 40 := by rw [tF]; omega
        rw [Int.toNat_natCast]
        unfold lJ
        obtain ⟨r1, e1⟩ : ∃ r, bq s = r := ⟨_, rfl⟩
        rw [e1] at ec i1 i2 i3 i4 ⊢
        rw [← Option.bind_assoc, ec, Option.bind_some]
        refine nF (rf (r := r1) (f := fun t => dZ t.1 t.2.1 t.2.2.1 t.2.2.2 dq) fun _ => oP (k := k) i1.inv _ i1.arm.1 _ dq (by simp) (by simp; omega)) ?_
        obtain ⟨r2, e2⟩ : ∃ r, gK r1 (fun t => dZ t.1 t.2.1 t.2.2.1 t.2.2.2 dq) = r := ⟨_, rfl⟩
        rw [e2] at i2 i3 i4 ⊢
        refine nF (rf (r := r2) (f := fun u => ea u.1 u.2.1 u.2.2.1 u.2.2.2 dq (frB (txP (n : Int) t d))) fun _ => oQ (k := k) i2.inv (by decide) _ i2.arm.1 _ dq _ hfl (by omega)) ?_
        obtain ⟨r3, e3⟩ : ∃ r, gK r2 (fun u => ea u.1 u.2.1 u.2.2.1 u.2.2.2 dq (frB (txP (n : Int) t d))) = r := ⟨_, rfl⟩
        rw [e3] at i3 i4 ⊢
        refine nF (rf (r := r3) (f := fun t => gc t.1 t.2.1 t.2.2.1 t.2.2.2 dq) fun _ => sq (k := k) i3.inv (by decide) _ i3.arm.1 _ dq (by omega)) ?_
        obtain ⟨r4, e4⟩ : ∃ r, gK r3 (fun t => gc t.1 t.2.1 t.2.2.1 t.2.2.2 dq) = r := ⟨_, rfl⟩
        rw [e4] at i4 ⊢
        rw [pS (by omega) (by omega)]
        refine nF (rf (r := r4) (f := fun t => eM t.1 t.2.1 t.2.2.1 t.2.2.2 dq (dm n)) fun _ => pl (k := k) i4.inv i4.nmd (by decide) i4.late i4.arm.1 _ dq (dm n) (by rw [md]; omega) (by omega) (by rw [md]; omega)) ?_
        rfl
  · have e1 : dS.f k i t d = some ([], gq i t d) := by
      rw [xQ (by omega)]; unfold mG; rw [if_neg hc]
    unfold kK
    rw [if_pos (c := gq i t d ≠ 0) hc]
    unfold fC.f
    rw [e1, Option.bind_some, if_neg (show ¬ (([] : List UInt8), gq i t d).2 = 0 from hc)]
    rfl
end Go.Proofs.YtjkjlggbikeliaaGreatDoor

namespace Go.Proofs.YtjkjlggbikeliaaGreatDoor
set_option linter.unusedVariables false
set_option linter.unusedSimpArgs false
open Go.RowKit
theorem qu : ∀ (L : List Nat) {s : DS}, eL s → eL (eu s L).2
  | [], s, h => h
  | n :: r, s, h => by
    have := nO h (dm n)
    rw [eu]
    split
    · exact qu r this
    · exact this
theorem wh {s : DS} (h : eL s) (n : Int) : eL (jr s n).2.2 := by
  have ic := kO h
  unfold jr
  split
  · exact h
  split
  · have := qu (iY (bq s).2.1 n.toNat) ic
    split <;> exact this
  · exact ic
theorem rW {m : Nat} {L : List Nat} (hm : 1 ≤ m) (hmx : m ≤ 9223372036854775807) (hl : L.length ≤ 1000) (hL : ∀ n, n ∈ L → 1 ≤ n ∧ n ≤ 4611686018427387904) : ∀ (k g i : Nat) (s : DS), L.length - m - i + 1000 < k → i ≤ L.length - m → g + i ≤ 10000 → g ≤ 5000 + i → eL s →
    cM.l0 (m : Int) (toI L) k (g : Int) (i : Int) (aR s.1) s.2.2.1 s.2.2.2 s.2.1 =
      some (if (eu s ((L.take (L.length - m)).drop i)).1 = 0 then .inl (((g + (L.length - m - i) : Nat) : Int), aR (eu s ((L.take (L.length - m)).drop i)).2.1, (eu s ((L.take (L.length - m)).drop i)).2.2.2.1, (eu s ((L.take (L.length - m)).drop i)).2.2.2.2, (eu s ((L.take (L.length - m)).drop i)).2.2.1)
        else .inr (0, (eu s ((L.take (L.length - m)).drop i)).1, aR (eu s ((L.take (L.length - m)).drop i)).2.1, (eu s ((L.take (L.length - m)).drop i)).2.2.2.1, (eu s ((L.take (L.length - m)).drop i)).2.2.2.2, (eu s ((L.take (L.length - m)).drop i)).2.2.1))
  | 0, g, i, s, h, _, _, _, _ => by omega
  | k + 1, g, i, s, hk, hi, hg, hg2, hs => by
    rw [cM.l0]
    have hlen : (toI L).length = L.length := by simp [toI]
    by_cases hlt : i < L.length - m
    · have hmem : L.getD i 0 ∈ L := by rw [im (by omega)]; exact List.getElem_mem _
      have hn := hL _ hmem
      have ed : (L.take (L.length - m)).drop i = L.getD i 0 :: (L.take (L.length - m)).drop (i + 1) := by
        rw [jC (d := (0 : Nat)) (by simp; omega)]
        congr 1
        rw [im (by simp; omega), im (by omega), List.getElem_take]
      have hsub : IntKind.i64.wrap (((toI L).length : Int) - (m : Int)) = ((L.length - m : Nat) : Int) := by
        by_cases hml : m ≤ L.length
        · rw [w64 (by omega) (by omega)]; omega
        · omega
      rw [hsub, if_pos (by omega), if_pos (by omega), Int.toNat_natCast, nr, pS hn.2 (by omega), Option.bind_some, kP hs.inv (by decide) _ hs.arm.1 _ _ (by omega), Option.bind_some, ed, eu]
      have hsr := nO hs (dm (L.getD i 0))
      show (if (rmM s (dm (L.getD i 0))).1 = 0 then _ else _) = _
      by_cases hr : (rmM s (dm (L.getD i 0))).1 = 0
      · have ih := rW hm hmx hl hL k (g + 1) (i + 1) (rmM s (dm (L.getD i 0))).2 (by omega) (by omega) (by omega) (by omega) hsr
        have e1 : g + 1 + (L.length - m - (i + 1)) = g + (L.length - m - i) := by omega
        rw [if_pos hr, if_pos hr, ws1 (by omega), ws1 (by omega)]
        rw [e1] at ih
        exact ih
      · rw [if_neg hr, if_neg hr, if_neg hr]
        rfl
    · have hsub : ¬ ((i : Int) < IntKind.i64.wrap (((toI L).length : Int) - (m : Int))) := by
        rw [w64 (by omega) (by omega)]; omega
      rw [if_neg hsub, show L.length - m - i = 0 by omega, List.drop_of_length_le (by simp; omega), eu, if_pos rfl]
      rfl
theorem yj {s : DS} (h : eL s) {n : Int} (hn : n ≤ 9223372036854775807) {k : Nat} (hk : 3000 ≤ k) :
    cM.f k (aR s.1) s.2.2.1 s.2.2.2 s.2.1 n = some ((jr s n).1, (jr s n).2.1, aR (jr s n).2.2.1, (jr s n).2.2.2.2.1, (jr s n).2.2.2.2.2, (jr s n).2.2.2.1) := by
  unfold cM.f jr
  by_cases h1 : n < 1
  · rw [if_pos h1, if_pos h1]
  · have ic := kO h
    have hlen := kY ic.inv
    obtain ⟨m, rfl⟩ : ∃ m : Nat, n = (m : Int) := ⟨n.toNat, by omega⟩
    have kl := fun g (hg : g ≤ 1) => rW (m := m) (L := ij (bq s).2.1) (by omega) (by omega) (by omega) (fun x hx => ⟨(iS hx).1, (iS hx).2.1⟩) k g 0 (bq s).2 (by omega) (by omega) (by omega) (by omega) ic
    have e1 : (iY (bq s).2.1 m).length = (ij (bq s).2.1).length - m := by unfold iY; rw [List.length_take]; omega
    rw [if_neg h1, if_neg h1, mh h.inv (by decide) _ _ _ _ (by omega), Option.bind_some, Int.toNat_natCast]
    simp only [List.drop_zero, Nat.sub_zero] at kl
    unfold fq mi
    have fin : ∀ g : Nat, g ≤ 1 → (bq s).1 = 0 →
        ((cb.f k (aR (bq s).2.1) (bq s).2.2.2.1 (bq s).2.2.2.2 (bq s).2.2.1).bind fun s27v => (orR (cM.l0 (m : Int) s27v k (g : Int) 0 (aR (bq s).2.1) (bq s).2.2.2.1 (bq s).2.2.2.2 (bq s).2.2.1) fun s30v => (some (s30v.1, (0 : Int), s30v.2.1, s30v.2.2.1, s30v.2.2.2.1, s30v.2.2.2.2)))) =
        some ((fun r : Int × Int × DS => (r.1, r.2.1, aR r.2.2.1, r.2.2.2.2.1, r.2.2.2.2.2, r.2.2.2.1)) (if (eu (bq s).2 (iY (bq s).2.1 m)).1 = 0 then (((g + (iY (bq s).2.1 m).length : Nat) : Int), 0, (eu (bq s).2 (iY (bq s).2.1 m)).2) else (0, eu (bq s).2 (iY (bq s).2.1 m)))) := by
      intro g hg hc
      have kg := kl g hg
      rw [ov ic.inv _ _ _ (by omega), Option.bind_some]
      rw [show (0 : Int) = ((0 : Nat) : Int) from rfl] at *
      rw [kg, e1]
      show orR (some (if (eu (bq s).2 (iY (bq s).2.1 m)).1 = ((0 : Nat) : Int) then _ else _)) _ = _
      by_cases hd : (eu (bq s).2 (iY (bq s).2.1 m)).1 = ((0 : Nat) : Int)
      · rw [if_pos hd, if_pos hd]; rfl
      · rw [if_neg hd, if_neg hd]; rfl
    cases hm : (ay s.1 dq).isSome with
    | false =>
      have hcl : bq s = (0, s) := by unfold bq; rw [if_neg (by rw [hm]; exact Bool.false_ne_true)]
      have f0 := fin 0 (by omega) (by rw [hcl])
      rw [if_neg Bool.false_ne_true, if_neg (by decide), if_pos (by rw [hcl])]
      simp only [orR]
      rw [hcl] at f0 ⊢
      exact f0
    | true =>
      have hcl : bq s = fl s.1 s.2.1 s.2.2.1 s.2.2.2 dq := by unfold bq; rw [if_pos hm]
      have f1 := fin 1 (by omega)
      rw [if_pos rfl, if_pos rfl, if_pos rfl, kP h.inv (by decide) _ h.arm.1 _ _ (by omega), Option.bind_some, ← hcl]
      by_cases hc : (bq s).1 = 0
      · rw [if_pos (show (eZ (bq s)).1 = 0 from hc), if_pos hc]
        exact f1 hc
      · rw [if_neg (show ¬ (eZ (bq s)).1 = 0 from hc), if_neg hc]
        rfl
end Go.Proofs.YtjkjlggbikeliaaGreatDoor

namespace Go.Proofs.YtjkjlggbikeliaaGreatDoor
set_option linter.unusedVariables false
set_option linter.unusedSimpArgs false
open Go.RowKit
/-! ### The order of names -/
/-! ### What Load and List hang on -/
/-! ### Whole files -/
/-! ### Save -/
structure Lft (s : DS) (v : Option (List UInt8 × Int)) (r : Int × DS) : Prop where
  inv : cx 256 r.2.1
  oth : ∀ x, x ≠ dq → ay r.2.1 x = ay s.1 x
  tmp : r.1 = 0 → ay r.2.1 dq = v
structure Sav (s : DS) (n : Nat) (b : List UInt8) (r : Int × DS) : Prop where
  inv : cx 256 r.2.1
  no : r.1 ≠ 0 → ∀ x, x ≠ dq → ay r.2.1 x = ay s.1 x
  yes : r.1 = 0 → ∀ x, ay r.2.1 x = if x = dm n then some (b, (b.length : Int)) else if x = dq then none else ay s.1 x
/-! ### All snapshots' files are whole -/
/-! ### A crash -/
/-! ### Behind one more Save, and a crash -/
end Go.Proofs.YtjkjlggbikeliaaGreatDoor

namespace Go.Proofs.YtjkjlggbikeliaaGreatDoor
set_option linter.unusedVariables false
set_option linter.unusedSimpArgs false
open Go.RowKit
structure Ae (N Z : Nat) (s : DS) : Prop where
  inv : cx 256 s.1
  arm : s.2.2.1 = 0
  up : s.2.2.2 = false
  tmp : ay s.1 dq = none
  num : s.1.length ≤ N
  siz : szF s.1 ≤ Z
def zZ (i t : Int) (d : List UInt8) : Prop := gq i t d ≠ 0 ∨ i = 0
instance (i t : Int) (d : List UInt8) : Decidable (zZ i t d) := inferInstanceAs (Decidable (_ ∨ _))
/-! ### Keep -/
/-! ### Cut -/
/-! ### What Load tells -/
end Go.Proofs.YtjkjlggbikeliaaGreatDoor

namespace Go.Proofs.YtjkjlggbikeliaaGreatDoor
set_option linter.unusedVariables false
set_option linter.unusedSimpArgs false
open Go.RowKit
theorem wR (m : Nat) : fP.f (m + 60) = some true := by kernel_rfl
abbrev OpP := Int × Int × Int × Int × List UInt8 × Int × Int × List UInt8 × List UInt8 × List UInt8
theorem wP {n : Int} (h : okI .i64 n) : n ≤ 9223372036854775807 := by
  have e2 : IntKind.i64.max = 9223372036854775807 := by decide
  have := h.2
  rw [e2] at this
  exact this
theorem wQ {fs : FSt} (h : cx 256 fs) : (oT fs).2.2.1.length ≤ 16777216 := by
  have key : ∀ (L : List Nat) (p : Nat), (kJ fs L p).2.2.1.length ≤ 16777216 := by
    intro L
    induction L with
    | nil => intro p; simp [kJ]
    | cons n r ih =>
      intro p
      rw [kJ]
      split
      · unfold jK oS
        split
        · have h1 := oh (fq fs (dm n)).1
          have h2 := oi h (dm n)
          have h3 := xi (iT (fq fs (dm n)).1).1
          simp only
          omega
        · simp
      · exact ih _
  exact key _ _
theorem vM {i t j u : Int} {d e : List UInt8} (hd : d.length < 2 ^ 40) {k : Nat} (hk : d.length + 1 ≤ k) : eD.f k i t d j u e = some ((decide (d = e) && decide (i = j)) && decide (t = u)) := by
  unfold eD.f
  rw [jP (by omega) (by omega), Option.bind_some]
theorem qY {i t : Int} {d : List UInt8} (hd : d.length < 2 ^ 40) {k : Nat} (hk : d.length + 1 ≤ k) : eD.f k i t d i t d = some true := by
  rw [vM hd hk]
  simp
theorem ob (x : List Int) (hl : x.length < 2 ^ 40) : ∀ (k i : Nat), x.length - i < k → i ≤ x.length → cw.l0 x x k (i : Int) = some (.inl ())
  | 0, i, h, _ => by omega
  | k + 1, i, h, hi => by
    rw [cw.l0]
    by_cases hlt : i < x.length
    · rw [if_pos (by omega), if_pos (by omega), ws1 (by omega)]
      simp only [ob x hl k (i + 1) (by omega) (by omega)]
      simp
      omega
    · rw [if_neg (by omega)]
theorem vL (x : List Int) (hl : x.length < 2 ^ 40) {k : Nat} (hk : x.length < k) : cw.f k x x = some true := by
  unfold cw.f
  have := ob x hl k 0 (by omega) (by omega)
  rw [show ((0 : Nat) : Int) = (0 : Int) from rfl] at this
  simp [this, orR]
theorem zU (x : List OpP) (hx : x.length < 2 ^ 40) {k : Nat} (hk : 200 ≤ k) : ∃ b, dh.f k x = some b := by
  have key : ∀ (k i : Nat) (z : Int), 101 - i ≤ k → i ≤ 100 → ∃ r, dh.l0 x k z (i : Int) = some r := by
    intro k
    induction k with
    | zero => intro i z h hi; omega
    | succ k ih =>
      intro i z h hi
      rw [dh.l0]
      by_cases hc : i < x.length ∧ i < 100
      · rw [if_pos (by simp; omega), if_pos (by omega), if_pos (by omega), if_pos (by omega), if_pos (by omega), ws1 (by omega)]
        exact ih (i + 1) _ (by omega) (by omega)
      · rw [if_neg (by simp; omega)]
        exact ⟨_, rfl⟩
  obtain ⟨r, hr⟩ := key k 0 0 (by omega) (by omega)
  rw [show ((0 : Nat) : Int) = (0 : Int) from rfl] at hr
  unfold dh.f
  rw [hr]
  exact ⟨_, rfl⟩
/-! ### Some Saves -/
end Go.Proofs.YtjkjlggbikeliaaGreatDoor

namespace Go.Proofs.YtjkjlggbikeliaaGreatDoor
set_option linter.unusedVariables false
set_option linter.unusedSimpArgs false
open Go.RowKit
def opM (s : DS) (o : OpP) : DS :=
  if o.1 = 0 then (kK s o.2.2.1 o.2.2.2.1 o.2.2.2.2.1).2 else if o.1 = 1 then (jr s o.2.1).2.2 else if o.1 = 2 then (s.1, s.2.1, max o.2.1 0, s.2.2.2) else if o.1 = 3 then (gf s.1 s.2.1 o.2.1, [], 0, false) else (km s o.2.2.2.2.2).2
def wO (o : OpP) : Prop := o.2.2.2.2.1.length < 2 ^ 30 ∧ wu o.2.2.2.2.2
theorem yM {s : DS} (h : eL s) {o : OpP} (h1 : okI .i64 o.2.1) (h2 : okI .i64 o.2.2.2.2.2.2.1) : eL (opM s o) := by
  unfold opM
  split
  · exact wp h _ _ _
  split
  · exact wh h _
  split
  · exact ig h (e := (6, o.2.1, [], [], [])) h1
  split
  · exact ig h (e := (7, o.2.1, [], [], [])) h1
  · exact ig h h2
theorem zE {s : DS} (h : eL s) {o : OpP} (hs : wO o) (h1 : okI .i64 o.2.1) {k : Nat} (hk : 20000000 ≤ k) (hko : o.2.2.2.2.1.length + 300 ≤ k ∧ o.2.2.2.2.2.2.2.1.length + 300 ≤ k ∧ o.2.2.2.2.2.2.2.2.1.length + 300 ≤ k ∧ o.2.2.2.2.2.2.2.2.2.length + 300 ≤ k) :
    gj.f k s.1 s.2.1 s.2.2.1 s.2.2.2 (aR s.1) s.2.2.1 s.2.2.2 s.2.1 o.1 o.2.1 o.2.2.1 o.2.2.2.1 o.2.2.2.2.1 o.2.2.2.2.2.1 o.2.2.2.2.2.2.1 o.2.2.2.2.2.2.2.1 o.2.2.2.2.2.2.2.2.1 o.2.2.2.2.2.2.2.2.2 = some (jQ (opM s o)) := by
  obtain ⟨hd, he⟩ := hs
  unfold gj.f opM
  by_cases c0 : o.1 = 0
  · rw [if_pos c0, if_pos c0, uj (by omega), Option.bind_some]
    dsimp only
    rw [yW h.inv _ _ (by omega), Option.bind_some, uk (by omega) (by omega), Option.bind_some, if_pos rfl, yq h _ _ (by omega), mq]
    simp [eZ, jQ]
  rw [if_neg c0, if_neg c0]
  by_cases c1 : o.1 = 1
  · rw [if_pos c1, if_pos c1, zj h.inv (wP h1) (by omega), Option.bind_some, yj h (wP h1) (by omega), Option.bind_some, if_pos rfl, show ∀ x, aH.f x = some x from fun _ => rfl]
    simp [jQ]
  rw [if_neg c1, if_neg c1]
  by_cases c2 : o.1 = 2
  · rw [if_pos c2, if_pos c2]; rfl
  rw [if_neg c2, if_neg c2]
  by_cases c3 : o.1 = 3
  · rw [if_pos c3, if_pos c3, su h.inv, Option.bind_some, qA h.inv (by decide) _ _ _ _ (by omega)]; rfl
  rw [if_neg c3, if_neg c3]
  have := yv h he (k := k) hk ⟨hko.2.1, hko.2.2.1, hko.2.2.2⟩
  rw [this]
  rfl
theorem pE (l : List OpP) {M : Nat} (hl : ∀ o, o ∈ l → wO o ∧ okI .i64 o.2.1 ∧ okI .i64 o.2.2.2.2.2.2.1 ∧ o.2.2.2.2.1.length ≤ M ∧ o.2.2.2.2.2.2.2.1.length ≤ M ∧ o.2.2.2.2.2.2.2.2.1.length ≤ M ∧ o.2.2.2.2.2.2.2.2.2.length ≤ M) (hn : l.length < 2 ^ 40) : ∀ (k i : Nat) (s : DS), l.length - i + M + 20001000 < k → i ≤ l.length → eL s →
    orR (cn.l0 l k (i : Int) (aR s.1) s.2.2.1 s.2.2.2 s.2.1 s.1 s.2.1 s.2.2.1 s.2.2.2) (fun _ => some true) = some true
  | 0, i, s, h, _, _ => by omega
  | k + 1, i, s, hk, hi, hs => by
    rw [cn.l0]
    by_cases hlt : i < l.length
    · have hm : l.getD i cg ∈ l := by rw [im hlt]; exact List.getElem_mem _
      obtain ⟨o, ho⟩ : ∃ o, l.getD i cg = o := ⟨_, rfl⟩
      rw [ho] at hm
      obtain ⟨p1, p2, p3, p4, p5, p6, p7⟩ := hl o hm
      have hi4 := yM hs p2 p3
      rw [if_pos (by omega), if_pos (by omega), ws1 (by omega)]
      simp only [Int.toNat_natCast, ho]
      rw [zE hs p1 p2 (by omega) ⟨by omega, by omega, by omega, by omega⟩, Option.bind_some]
      obtain ⟨t, et⟩ : ∃ t, opM s o = t := ⟨_, rfl⟩
      rw [et] at hi4 ⊢
      have hld := wQ hi4.inv
      have hix := kY hi4.inv
      have hil : (toI (ij t.1)).length = (ij t.1).length := by simp [toI]
      simp only [jQ]
      rw [yV hi4.inv (by decide) _ _ _ (by omega), Option.bind_some, yp hi4.inv _ _ _ (by omega), Option.bind_some, qY (by omega) (by omega), Option.bind_some, rF hi4.inv (by decide) _ _ _ (by omega), Option.bind_some, ov hi4.inv _ _ _ (by omega), Option.bind_some,
        vL _ (by omega) (by omega), Option.bind_some]
      have ih := pE l hl hn k (i + 1) t (by omega) (by omega) hi4
      simp only [Bool.not_true, Bool.false_or, decide_true, Bool.false_eq_true, if_false, aH.f, Option.bind_some]
      rw [yx hi4.inv _ _ _ (by omega)]
      simp only [Option.bind_some, Bool.not_true, Bool.false_eq_true, if_false]
      exact ih
    · rw [if_neg (by omega)]
      rfl
theorem uG (e : OpP) : e.2.2.2.2.1.length + 1 ≤ Mu.mu e ∧ e.2.2.2.2.2.2.2.1.length + 1 ≤ Mu.mu e ∧ e.2.2.2.2.2.2.2.2.1.length + 1 ≤ Mu.mu e ∧ e.2.2.2.2.2.2.2.2.2.length + 1 ≤ Mu.mu e := by
  obtain ⟨a, b, c, d, f, g, i, j, m, n⟩ := e
  rw [ik, ik, ik, ik, ik, ik, ik, ik, ik, jY, jY, jY, jY]
  simp only
  omega
theorem pI {B : Nat} (l : List OpP) (h : l.length * B ≤ reachBytes ∧ ∀ e ∈ l, yS e) (hu : Mu.mu l ≤ 1048576) : ∃ k, cn.f k l = some true := by
  have hlen : l.length ≤ Mu.mu l := zD fun e => by have := (uG e).1; omega
  have hm : ∀ e ∈ l, e.2.2.2.2.1.length ≤ 1048576 ∧ e.2.2.2.2.2.2.2.1.length ≤ 1048576 ∧ e.2.2.2.2.2.2.2.2.1.length ≤ 1048576 ∧ e.2.2.2.2.2.2.2.2.2.length ≤ 1048576 := fun e he => by
    have h1 := zC he
    have h2 := uG e
    omega
  obtain ⟨k, hk0⟩ : ∃ k, k = 40000000 + 60 := ⟨_, rfl⟩
  have hf : fP.f k = some true := by rw [hk0]; exact wR 40000000
  refine ⟨k, ?_⟩
  have hkl : 40000000 ≤ k := by omega
  clear hk0
  obtain ⟨fw, hfw⟩ := zU l (by omega) (k := k) (by omega)
  unfold cn.f
  rw [hf, Option.bind_some, hfw, Option.bind_some]
  cases fw with
  | false => rfl
  | true =>
    simp only [Bool.not_true, Bool.or_self, Bool.false_eq_true, if_false]
    rw [show iW.f = some d0 from rfl]
    simp only [Option.bind_some]
    have hp := pE l (M := 1048576) (fun o ho => by
      have h1 := hm o ho
      have h2 := h.2 o ho
      refine ⟨⟨by omega, ⟨by omega, by omega, by omega⟩⟩, h2.2.1, ?_, h1.1, h1.2.1, h1.2.2.1, h1.2.2.2⟩
      exact h2.2.2.2.2.2.2.1) (by omega) k 0 d0 (by omega) (by omega) zr
    rw [show ((0 : Nat) : Int) = 0 from rfl, show aR d0.1 = [] from by simp [aR, d0, dz]] at hp
    simp only [d0] at hp ⊢
    exact hp
end Go.Proofs.YtjkjlggbikeliaaGreatDoor

namespace Go.Proofs.YtjkjlggbikeliaaGreatDoor
set_option linter.unusedVariables false
set_option linter.unusedSimpArgs false
open Go.RowKit Go.ChangeShapes Go.WideShapes Go.ChangeAt
def rh (P : Program) (w : World) (n : String) (d : DataW Unit) : Prop :=
  ∃ g t cs fuel p, P.globalNamed n = some g ∧ (P.globals[g]?).map (·.type) = some t ∧ w.var? P n = some cs ∧ DataW.trod (fun _ => ()) P w 0 (fun _ => true) false fuel t cs.toList = some (d, p)
theorem sw {P : Program} {w : World} : ∀ {l : List (String × DataW Unit)} {ps : List MemPlace}, DataW.LaidVars P w l ps → ∀ n d, (n, d) ∈ l → rh P w n d
  | [], _, _, _, _, hm => by cases hm
  | (n', d') :: r, ps, h, n, d, hm => by
    obtain ⟨g, t, cs, fuel, p, q, h1, h2, h3, h4, h5, _⟩ := h
    rcases List.mem_cons.1 hm with e | e
    · cases e
      exact ⟨g, t, cs, fuel, p, h1, h2, h3, h4⟩
    · exact sw h5 n d e
theorem lY {P : Program} {w : World} {l : List (String × DataW Unit)} (h : laidMet P l w) {n : String} {d : DataW Unit} (hm : (n, d) ∈ l) : rh P w n d :=
  let ⟨_, hv, _⟩ := h
  sw hv n d hm
theorem yR {P : Program} {W : World} {name : String} {k : IntKind} {zs : List Int} {g : Nat} {t e : TypeId} {n : Nat} (hg : P.globalNamed name = some g) (hty : (P.globals[g]?).map (·.type) = some t)
    (ht : P.underlying t = some (.array n e)) (he : P.underlying e = some (.int k)) (hce : P.cellsOf e = 1) (hct : P.cellsOf t = n) (h : rh P W name (Lib.tabData k zs)) : Lib.TabIs P W name k zs := by
  obtain ⟨g', t', cs, fuel, p, hg', ht', hvar, hd⟩ := h
  obtain rfl := Option.some.inj (hg.symm.trans hg')
  obtain rfl := Option.some.inj (hty.symm.trans ht')
  unfold Lib.TabIs
  rw [hvar, ← Lib.cells_of_tab ht he hce hct hd]
theorem rk {P : Program} {W : World} {name nm : String} {d : DataW Unit} {g : Nat} {t : TypeId} {ms : _} (hg : P.globalNamed name = some g) (hty : (P.globals[g]?).map (·.type) = some t)
    (ht : P.underlying t = some (.interface ms)) (h : rh P W name (.iface nm d)) : ∃ u p, W.var? P name = some #[.iface u p] := by
  obtain ⟨g', t', cs, fuel, p, hg', ht', hvar, hd⟩ := h
  obtain rfl := Option.some.inj (hg.symm.trans hg')
  obtain rfl := Option.some.inj (hty.symm.trans ht')
  cases fuel with
  | zero => simp [DataW.trod] at hd
  | succ m =>
    unfold DataW.trod at hd
    rw [ht] at hd
    split at hd <;> simp_all
    rename_i e
    exact ⟨_, _, Array.toList_inj.1 (e.trans rfl)⟩
theorem oy {P : Program} {W w : World} {n : String} {cs : Array Value} (h : kx (jp W) w) (hv : W.var? P n = some cs) : w.var? P n = some cs := by
  obtain ⟨a, ha, e⟩ := h
  unfold World.var? at hv ⊢
  cases hg : P.globalNamed n with
  | none => rw [hg] at hv; cases hv
  | some g =>
    rw [hg] at hv
    simp only [Option.bind_some] at hv ⊢
    cases ho : W.heap[g]? with
    | none => rw [ho] at hv; cases hv
    | some o =>
      have hlt : g < W.heap.size := (Array.getElem?_eq_some_iff.1 ho).1
      have h1 : w.heap[g]? = some o := e g o ((ha g hlt).trans ho)
      rw [ho] at hv
      rw [h1]
      exact hv
theorem yQ {P : Program} {W : World} (h1 : Lib.TabIs P W "internal/strconv.uint64pow10" .u64 Lib.pow10Tab) (h2 : (P.globalNamed "strconv.ErrSyntax").isSome = true → ∃ u p, W.var? P "strconv.ErrSyntax" = some #[.iface u p]) (h3 : (P.globalNamed "strconv.ErrRange").isSome = true → ∃ u p, W.var? P "strconv.ErrRange" = some #[.iface u p]) :
    Glb P (jp W) :=
  ⟨fun w h => oy h h1, fun e w h => let ⟨u, p, e⟩ := h2 e; ⟨u, p, oy h e⟩, fun e w h => let ⟨u, p, e⟩ := h3 e; ⟨u, p, oy h e⟩⟩
theorem rl {H : Type} {enc : TypeId × Value → H} {C : Checked} {os : Os} {f : FuncId} {fn : Func} {s : OpenSpec} {conds : List PathCond} {nG : Bool} {laid : List (String × DataW Unit)} (w0 : World) (args : Array Value) (hos : w0.os = os)
    (hsh : (w0.forCall (fun _ _ => 0) ⟨#[], args, []⟩).Shaped C.prog)
    (hok : Input.okWideB C.prog (w0.forCall (fun _ _ => 0) ⟨#[], args, []⟩) f ⟨#[], args, []⟩ = true)
    (hrow : s.preRow enc C.prog fn conds nG laid (w0.forCall (fun _ _ => 0) ⟨#[], args, []⟩).memory args) :
    ∃ (w : World) (tape : Tape) (i : Input), w.os = os ∧ (w.forCall tape i).Shaped C.prog ∧ i.vars = [] ∧ Input.okWide C.prog (w.forCall tape i) .any w.heap.size f i ∧
      s.preRow enc C.prog fn conds nG laid (w.forCall tape i).memory i.args ∧ ({} : Assume).holds C.prog (lone (Frame.enter C.prog f i.args .normal) [] (w.forCall tape i)) :=
  ⟨w0, fun _ _ => 0, ⟨#[], args, []⟩, hos, hsh, (Input.okWide_of_okWideB (base := 0) hok).1, (Input.okWide_of_okWideB hok).2, hrow, by
    simp only [Assume.holds]
    exact ⟨by simp, by simp, fun _ => Modest.zero, by simp, by simp⟩⟩
end Go.Proofs.YtjkjlggbikeliaaGreatDoor

namespace Go.Proofs.YtjkjlggbikeliaaGreatDoor.snapPlays
open Go.RowKit Go.ChangeShapes Go.WideShapes Go.ChangeAt
open Go.ChangeMaps (open_string shut_string)
set_option linter.unusedVariables false
theorem own : ownKnob Tryz.prog.godebug = none := by kernel_rfl
theorem laidOut : laidOutB Tryz.prog = true := by kernel_rfl
theorem glb {W : World} (hL : laidMetH Tryz.prog Rows.snapPlaysUptoRow.laid W) : Glb Tryz.prog (jp W) := by
  rw [MakeChecks.laidMetH_plain _ _ _ (by kernel_rfl)] at hL
  exact yQ (yR (g := 2) (t := 228) (e := 111) (by kernel_rfl) (by kernel_rfl) Tryz.underlying228 Tryz.underlying111 (by kernel_rfl) (by kernel_rfl) (lY hL (n := "internal/strconv.uint64pow10") (d := Rows.laid_internal_strconv_uint64pow10) (.tail _ (.tail _ (.head _))))) (fun _ => rk (g := 0) (t := 113) (by kernel_rfl) (by kernel_rfl) Tryz.underlying113 (lY hL (n := "strconv.ErrSyntax") (d := Rows.laid_strconv_ErrSyntax) (.tail _ (.tail _ (.tail _ (.tail _ (.tail _ (.head _)))))))) (fun _ => rk (g := 1) (t := 113) (by kernel_rfl) (by kernel_rfl) Tryz.underlying113 (lY hL (n := "strconv.ErrRange") (d := Rows.laid_strconv_ErrRange) (.tail _ (.tail _ (.tail _ (.tail _ (.head _)))))))
theorem laid_met (os : Os) (args : Array Value) : laidMetH Tryz.prog Rows.snapPlaysUptoRow.laid ((World.laidAll Tryz.prog os Rows.snapPlaysUptoRow.laid).forCall (fun _ _ => 0) ⟨#[], args, []⟩).memory := by
  rw [MakeChecks.laidMetH_plain _ _ _ (by kernel_rfl)]
  exact laidMet_laidAll args (by kernel_rfl) (by kernel_rfl)
theorem opensT54 {H : Type} (W : World) (held : Bool) (enc : TypeId × Value → H) : gF enc Tryz.prog W held 54 (V54 (jp W)) yS :=
  gF.map (fun x => (x.1, x.2.1, x.2.2.1.1, x.2.2.1.2.1, x.2.2.1.2.2, x.2.2.2.1, x.2.2.2.2.1, x.2.2.2.2.2.1, x.2.2.2.2.2.2.1, x.2.2.2.2.2.2.2)) (kB Tryz.underlying54 (by kernel_rfl) (by kernel_rfl) (by kernel_rfl) (fG (jh Tryz.underlying3 (by kernel_rfl)) (fG (jh Tryz.underlying3 (by kernel_rfl)) (fG (kB Tryz.underlying27 (by kernel_rfl) (by kernel_rfl) (by kernel_rfl) (fG (jh Tryz.underlying3 (by kernel_rfl)) (fG (jh Tryz.underlying3 (by kernel_rfl)) (lz (mD Tryz.underlying25 Tryz.underlying5 (by kernel_rfl) (by kernel_rfl) (by kernel_rfl)))))) (lz (kB Tryz.underlying52 (by kernel_rfl) (by kernel_rfl) (by kernel_rfl) (fG (jh Tryz.underlying3 (by kernel_rfl)) (fG (jh Tryz.underlying3 (by kernel_rfl)) (fG (oH Tryz.underlying9 (by kernel_rfl)) (fG (oH Tryz.underlying9 (by kernel_rfl)) (lz (mD Tryz.underlying25 Tryz.underlying5 (by kernel_rfl) (by kernel_rfl) (by kernel_rfl))))))))))))) (fun x r h => by obtain ⟨_, _, rfl, rfl, ⟨_, _, rfl, rfl, ⟨_, _, rfl, ⟨_, _, rfl, rfl, ⟨_, _, rfl, rfl, ⟨a4, c4, rfl, h4, k4, m4⟩⟩⟩, ⟨_, _, rfl, rfl, ⟨_, _, rfl, rfl, ⟨_, _, rfl, rfl, ⟨_, _, rfl, rfl, ⟨a9, c9, rfl, h9, k9, m9⟩⟩⟩⟩⟩⟩⟩⟩ := h; exact ⟨a4, c4, a9, c9, rfl, ⟨h4, k4, m4⟩, ⟨h9, k9, m9⟩⟩) (fun x h => by obtain ⟨o0, o1, ⟨o2, o3, o4⟩, ⟨o5, o6, o7, o8, o9⟩⟩ := h; exact ⟨o0, o1, o2, o3, o4, o5, o6, o7, o8, o9⟩) (fun x => by obtain ⟨o0, o1, ⟨o2, o3, o4⟩, ⟨o5, o6, o7, o8, o9⟩⟩ := x; simp only [ik, Nat.add_assoc])
set_option maxRecDepth 100000 in
theorem lifted (os : Os) (started : os.Started) (H : Type) (enc : TypeId × Value → H) (F : Stop.Interp) :
    ReturnsInHanded {} Tryz.checked os 4 .any ((Rows.OpenSpec.upto Rows.snapPlaysSpec).preRow enc Tryz.prog Tryz.f4 Rows.snapPlaysUptoRow.domain false Rows.snapPlaysUptoRow.laid) (((Rows.OpenSpec.upto Rows.snapPlaysSpec).at F).post enc Tryz.prog Tryz.f4 false true false false) := by
  refine returnsInHanded_of_row (C := Tryz.checked) (s := (Rows.OpenSpec.upto Rows.snapPlaysSpec)) own started (by kernel_rfl) Tryz.func4
    (rl (enc := enc) (C := Tryz.checked) (World.laidAll Tryz.prog os Rows.snapPlaysUptoRow.laid) #[.slice none 0 0] (World.laidAll_os _ _ _) (World.shaped_of_ZipB (by kernel_rfl) (by kernel_rfl)) (by kernel_rfl)
      (OpenSpec.preRow_of_cond 8 (x := ([.nil], [], [])) (by kernel_rfl) (by kernel_rfl) (fun k hk => by cases hk; kernel_rfl) (by kernel_rfl) (laid_met os _))) ?_
  intro W base args ds gs before hval0 hW hcnd hk00 hsz0 hL _ _
  have hgl := glb hL
  have hk0 := hk00 _ rfl
  have hsz : (DataW.weightsEach Tryz.prog (Tryz.f4.params.toList ++ (Rows.OpenSpec.upto Rows.snapPlaysSpec).bare.plain.varTypes Tryz.prog) (ds ++ gs)).all (· ≤ reachBytes) = true := hsz0
  have hval : ∀ (j : Nat) t v, Tryz.f4.params[j]? = some t → args[j]? = some v → Value.okWide Tryz.prog W .any base t v := hval0
  have hW' := hW
  obtain ⟨p, q, hA0, hV, rfl, hfz, hnd⟩ := hW
  have hA : DataW.TrodAll enc Tryz.prog W 0 (fun _ => true) true Tryz.f4.params.toList args.toList ds p := hA0
  rw [Tryz.params4] at hA hval hsz
  obtain ⟨v0, vs0, d0, ds0, p0, q0, hargs, rfl, rfl, h0, r0⟩ := trodAll_cons hA
  obtain ⟨rfl, rfl, rfl⟩ := trodAll_nil r0
  obtain rfl : args = #[v0] := by cases args; simp_all
  obtain ⟨rfl, rfl⟩ := trodVars_none hV
  obtain ⟨aa0, len0, cap0, rfl⟩ := okWide_slice Tryz.underlying44 (hval 0 44 v0 rfl rfl)
  have k0 := h0
  have lt0 : ∀ x ∈ p0, x.block < W.heap.size := by obtain ⟨m, hm⟩ := k0; exact DataW.trod_lt m _ _ _ hm
  obtain ⟨fuel0, hf0⟩ := h0
  obtain ⟨z0_0, ⟨a0_0, c0_0, hcs0, h0_0, k0_0, m0_0⟩, _, _, ok0, mu0⟩ := (tb (n := 10) (B := 128) Tryz.underlying44 (by kernel_rfl) (by kernel_rfl) (by kernel_rfl) (opensT54 W true enc)) _ _ _ hf0 (uI hsz (j := 0) (t := 44) rfl rfl)
  replace mu0 : _ ≤ Rows.uptoBulk d0 := mu0
  have e0 : Value.slice aa0 len0 cap0 = .slice a0_0 z0_0.length c0_0 := by simpa [Value.cells] using hcs0
  injection e0 with ea0 eb0 ec0
  subst ea0 eb0 ec0
  have hu0 : Rows.uptoBulkAll [_] ≤ 1048576 := of_decide_eq_true hk0
  simp only [Rows.uptoBulkAll] at hu0
  have hu : Mu.mu z0_0 ≤ 1048576 := by omega
  clear hA0 hval0 hsz0 hsz
  obtain ⟨k, hk⟩ := pI z0_0 ok0 hu
  refine (vN (cn.calls W (jp W) k _ _ z0_0 h0_0 k0_0 m0_0 hgl) hk (fun _ => rfl)).mono fun e W' ⟨he, bel⟩ => ?_
  subst he
  exact ⟨_, rfl, _, _, _, [], _, [], hW', trodAll_mk1 (shut_bool Tryz.underlying4 _), (trodAll_cons_mk (Below.trod laidOut (by kernel_rfl) (of_decide_eq_true (by kernel_rfl)) k0 bel lt0) trodAll_mk0), rfl, bel.frame _, fun h => by cases h⟩
theorem said : Rows.SnapPlaysUptoSaid :=
  OpenClaim.holds_of_cond 4 Tryz.f4 rfl rfl rfl rfl rfl rfl rfl ⟨rfl, rfl, rfl, rfl, rfl⟩ rfl rfl rfl rfl rfl (by kernel_rfl) Tryz.func4 (by kernel_rfl)
    (of_decide_eq_true (by kernel_rfl)) (by unfold Func.isWrapper; first | (rw [if_pos (by decide +kernel)]; kernel_rfl) | (rw [if_neg (by decide +kernel)]; exact ⟨rfl, rfl⟩))
    (fun os started H enc _ F => by rw [OpenClaim.pre_eq_preRow]; exact lifted os started H enc F)
theorem plain (f : FuncId) (fn : Func) (hf : Tryz.pinned.checked.prog.funcNamed "synod/synodlaw6.SnapPlays" = some f) (hfn : Tryz.pinned.checked.prog.funcs[f]? = some fn) :
    true = Tryz.pinned.checked.prog.looks [] ∧ ∀ (j : Nat) t, fn.params[j]? = some t → Tryz.pinned.checked.prog.wantsStandIn t = false := by
  obtain rfl : f = 4 := Option.some.inj ((show Tryz.prog.funcNamed "synod/synodlaw6.SnapPlays" = some 4 by kernel_rfl).symm.trans hf) |>.symm
  obtain rfl : fn = Tryz.f4 := (Option.some.inj (Tryz.func4.symm.trans hfn)).symm
  refine ⟨by kernel_rfl, fun j t ht => ?_⟩
  rw [Tryz.params4] at ht
  have hm : t ∈ [44] := by simpa using Array.mem_of_getElem? ht
  have hall : ([44].all fun u => !Tryz.prog.wantsStandIn u) = true := by kernel_rfl
  exact (show Tryz.prog.wantsStandIn t = false by simpa using List.all_eq_true.1 hall t hm)
theorem card : Rows.SnapPlaysUptoCardSaid :=
  Claim7.holds_tied_plain_at .later [] _ _ _ _ said (fun _ h => by cases h) (by kernel_rfl) (fun _ h => by cases h) snapPlaysUpto_row_tie rfl ⟨rfl, rfl⟩ (by kernel_rfl) rfl plain (by kernel_rfl)
end Go.Proofs.YtjkjlggbikeliaaGreatDoor.snapPlays
namespace Go.Proofs.YtjkjlggbikeliaaGreatDoor
/-- The card, under a short name, for the claim. -/
theorem snapPlays_holds : Rows.SnapPlaysUptoCardSaid := snapPlays.card
end Go.Proofs.YtjkjlggbikeliaaGreatDoor
