/- From a simulation to a law's row: the arguments as they come in, read by my predicates, and what came in is left as it was. Conditions: none. -/
import Derived.Test.YtbcnegennmpliaaDoorSl11
import Derived.Test.YtbcnegennmpliaaDoorRows
import Derived.ProofKit
import Derived.OpenShut
import Derived.ShutString
import Derived.ChangeOld
import Derived.SizedLaws
namespace Go.Proofs.YtbcnegennmpliaaDoor
set_option linter.unusedVariables false
set_option linter.unusedSimpArgs false
open Go.RowKit Go.ChangeShapes Go.WideShapes Go.ChangeAt

def heapF (W : World) : HA := fun h => ∀ i, i < W.heap.size → h i = W.heap[i]?
theorem sat_start (W : World) : Sat W ([] ++ [heapF W]) W := ⟨rfl, rfl, rfl, Nat.le_refl _, star_tt (fun _ _ => rfl)⟩
theorem below_of {W w : World} {l : List HA} (s : Sat W l w) (k : Nat) (hk : l[k]? = some (heapF W)) : Below W.heap.size W w := by
  obtain ⟨a, ha, hz⟩ := s.at hk
  refine ⟨s.os, s.tape, s.output, s.size, fun i hi => ?_⟩
  have h1 := ha i hi
  obtain ⟨o, ho⟩ : ∃ o, W.heap[i]? = some o := ⟨_, Array.getElem?_eq_getElem hi⟩
  rw [ho] at h1
  rw [hz i o h1, ho]
theorem row_of_fn {P : Program} {W : World} {f : FuncId} {args : List Value} {R Y : Type} {o : Option R} {val : R → Y → Value} {r : R}
    (h : Fn P W f args [] (heapF W) o val (fun _ _ => [])) (hs : o = some r) (hv : ∀ y, val r y = .bool true) :
    Calls P f args.toArray W fun e w' => e = .returned (.bool true) ∧ Below W.heap.size W w' := by
  refine (h r hs W (sat_start W)).mono ?_
  rintro e w' ⟨y, rfl, s⟩
  exact ⟨by rw [hv], below_of s 0 rfl⟩
theorem rd_cells {W : World} {x : Addr} {cs : List Value} (h : ∀ j v, cs[j]? = some v → W.cell? (x.add j) = some v) : Rd (heapF W) (some x) cs := by
  cases cs with
  | nil => exact .inl rfl
  | cons v vs =>
    right
    have h0 := h 0 v rfl
    have hsp : x.spot = none := by
      have e : (x.add 0).spot = x.spot ∨ x.spot ≠ none := by cases hx : x.spot <;> simp [Addr.add, hx]
      refine Classical.byContradiction fun hne => ?_
      obtain ⟨s, hs⟩ := Option.ne_none_iff_exists'.1 hne
      unfold World.cell? at h0
      simp only [Addr.add, hs] at h0
      split at h0 <;> simp_all
    obtain ⟨b, off, sp⟩ := x
    simp only at hsp
    subst hsp
    have hadd : ∀ j, (⟨b, off, none⟩ : Addr).add j = ⟨b, off + j, none⟩ := fun j => by unfold Addr.add; split <;> simp_all
    simp only [hadd] at h
    refine ⟨b, off, rfl, fun g hg => ?_⟩
    have h0 := h 0 v rfl
    unfold World.cell? at h0
    simp only at h0
    split at h0
    · rename_i c T fz hb
      have hlt : b < W.heap.size := (Array.getElem?_eq_some_iff.1 hb).1
      refine ⟨c, T, fz, by rw [hg b hlt, hb], fun j v hj => ?_⟩
      have := h j v hj
      simpa [World.cell?, hb] using this
    · simp at h0
theorem weights_of {H : Type} {P : Program} {ts : List TypeId} {ds : List (DataW H)} (h : (DataW.weightsEach P ts ds).all (· ≤ reachBytes) = true) {j : Nat} {t : TypeId} {d : DataW H} (ht : ts[j]? = some t) (hd : ds[j]? = some d) : ∀ n ∈ d.weights P t, n ≤ reachBytes := fun n hn => by
  have := List.all_eq_true.1 h n (DataW.weights_mem_each ht hd n hn)
  simpa using this
theorem open_bytes {H : Type} {enc : TypeId × Value → H} {P : Program} {W : World} {held : Bool} {t e : TypeId} {fuel : Nat} {cs : List Value} {x : DataW H × List MemPlace} (ht : P.underlying t = some (.slice e)) (he : P.underlying e = some (.int .u8)) (hc : P.cellsOf e = 1)
    (hB : P.bytesOf e = 1)
    (h : DataW.trod enc P W 0 (fun _ => true) held fuel t cs = some x) (hw : ∀ n ∈ x.1.weights P t, n ≤ reachBytes) : ∃ a c l, cs = [.slice a l.length c] ∧ Rd (heapF W) a (encB l) ∧ l.length ≤ c ∧ c ≤ maxLen ∧ l.length ≤ reachBytes := by
  rcases open_ints ht he hc h with ⟨hcs, _⟩ | ⟨x, l, c, zs, hcs, _, hl, hm, hz, rfl, hcell, hwz⟩
  · exact ⟨none, 0, [], hcs, .inl rfl, Nat.le_refl _, Nat.zero_le _, Nat.zero_le _⟩
  · have hz : zs.length = c := by simpa using hz
    have hlen : ((zs.take l).map byte).length = l := by simp; omega
    have hsz : l ≤ reachBytes := by
      have := hw (((lits (H := H) .u8 (zs.take l)).length + (lits (H := H) .u8 (zs.drop l)).length) * P.bytesOf e) (by simp [DataW.weights, ht])
      rw [hB] at this
      simp [lits] at this
      omega
    refine ⟨some x, c, (zs.take l).map byte, by rw [hcs, hlen], rd_cells ?_, by rw [hlen]; exact hl, hm, by rw [hlen]; exact hsz⟩
    intro j v hj
    unfold encB at hj
    rw [List.getElem?_map, List.getElem?_map, List.getElem?_take] at hj
    split at hj
    · rename_i hjl
      obtain ⟨n, hn⟩ : ∃ n, zs[j]? = some n := ⟨_, List.getElem?_eq_getElem (by omega)⟩
      rw [hn] at hj
      simp only [Option.map_some, Option.some.injEq] at hj
      rw [hcell j (by omega), ← hj]
      have hw := hwz n (List.mem_of_getElem? hn)
      have hr' : 0 ≤ n ∧ n ≤ 255 := by simpa [Lit.wf, IntKind.min, IntKind.max, IntKind.signed, IntKind.bits] using hw
      have hr : 0 ≤ n ∧ n < 256 := ⟨hr'.1, by omega⟩
      rw [byte_toNat hr.1 hr.2]
      simp [List.getD_eq_getElem?_getD, hn]
    · simp at hj
end Go.Proofs.YtbcnegennmpliaaDoor
