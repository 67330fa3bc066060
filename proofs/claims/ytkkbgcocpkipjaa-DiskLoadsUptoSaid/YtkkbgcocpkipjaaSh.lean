/- Printed: the kit's contracts on the sorted keys of a map, laid at this program, in plain words. Conditions: as each theorem says. -/
import Derived.Shelf.SlIter.Nil
import Derived.Shelf.SlIterI.Nil
import Derived.Shelf.SortM.Plain
import Derived.Shelf.SortM.SortNone
import Derived.Test.YtkkbgcocpkipjaaSl21
import Derived.Test.YtkkbgcocpkipjaaProg
namespace Go.Proofs.Ytkkbgcocpkipjaa
open Go.RowKit Go.Maps Go.Sort Go.Shelf
set_option linter.unusedVariables false
def shSorted41S_ren : Go.Shelf.Ren := ⟨fun | 6 => 41 | 8 => 59 | 9 => 60 | 11 => 63 | 13 => 65 | 12 => 64 | 23 => 75 | 24 => 76 | 14 => 66 | 15 => 67 | 16 => 68 | 17 => 69 | 18 => 70 | 19 => 71 | 20 => 72 | 21 => 73 | 22 => 74 | 25 => 77 | 26 => 78 | 27 => 79 | 28 => 80 | 29 => 81 | 30 => 82 | 31 => 83 | n => n, fun | 26 => 9 | 28 => 73 | 24 => 22 | 0 => 0 | 3 => 3 | 37 => 89 | 48 => 100 | 50 => 102 | 4 => 4 | 40 => 92 | 39 => 91 | 45 => 97 | 5 => 5 | 9 => 9 | 51 => 103 | 55 => 107 | 57 => 109 | 58 => 110 | 33 => 65 | n => n, fun | n => n⟩
theorem shSorted41S : Go.Proofs.SlLaysZ.n6 Try.prog shSorted41S_ren := {
  mixed := by kernel_rfl
  f6 := ⟨Try.f41.name, by decide, Try.func41.trans (congrArg some (by kernel_rfl))⟩
  f8 := ⟨Try.f59.name, by decide, Try.func59.trans (congrArg some (by kernel_rfl))⟩
  f11 := ⟨Try.f63.name, by decide, Try.func63.trans (congrArg some (by kernel_rfl))⟩
  t0 := Try.underlying0
  a0 := Try.isAgg0
  z0 := Try.sizeOf0
  v0 := Try.zeroValue0
  t24 := Try.underlying22
  a24 := Try.isAgg22
  z24 := Try.sizeOf22
  v24 := Try.zeroValue22
  t26 := Try.underlying9
  a26 := Try.isAgg9
  z26 := Try.sizeOf9
  v26 := Try.zeroValue9
  t28 := Try.underlying73
  a28 := Try.isAgg73
  z28 := Try.sizeOf73
  v28 := Try.zeroValue73
  i26 := by kernel_rfl }
def shIter61_ren : Go.Shelf.Ren := ⟨fun | 10 => 61 | n => n, fun | 33 => 65 | 23 => 62 | 0 => 0 | 4 => 4 | 26 => 9 | 3 => 66 | n => n, fun | n => n⟩
theorem shIter61 : Go.Proofs.SlLaysZ.n10 Try.prog shIter61_ren := {
  mixed := by kernel_rfl
  f10 := ⟨Try.f61.name, by decide, Try.func61.trans (congrArg some (by kernel_rfl))⟩
  t0 := Try.underlying0
  a0 := Try.isAgg0
  z0 := Try.sizeOf0
  v0 := Try.zeroValue0
  t4 := Try.underlying4
  a4 := Try.isAgg4
  z4 := Try.sizeOf4
  v4 := Try.zeroValue4
  t23 := Try.underlying62
  a23 := Try.isAgg62
  z23 := Try.sizeOf62
  v23 := Try.zeroValue62
  t26 := Try.underlying9
  a26 := Try.isAgg9
  z26 := Try.sizeOf9
  v26 := Try.zeroValue9
  t33 := Try.underlying65
  a33 := Try.isAgg65
  z33 := Try.sizeOf65
  v33 := Try.zeroValue65 }
def shSort60_ren : Go.Shelf.Ren := ⟨fun | 6 => 60 | 8 => 65 | 9 => 64 | 19 => 75 | 20 => 76 | 21 => 66 | 22 => 67 | 23 => 68 | 24 => 69 | 25 => 70 | 26 => 71 | 27 => 72 | 28 => 73 | 29 => 74 | 36 => 77 | 31 => 78 | 32 => 79 | 37 => 80 | 38 => 81 | 39 => 82 | 41 => 83 | n => n, fun | 27 => 22 | 29 => 9 | 3 => 3 | 32 => 89 | 26 => 22 | 0 => 0 | 44 => 100 | 46 => 102 | 4 => 4 | 36 => 92 | 35 => 91 | 41 => 97 | 5 => 5 | 9 => 9 | 53 => 103 | 57 => 107 | 63 => 109 | 64 => 110 | n => n, fun | n => n⟩
theorem shSort60 : Go.Proofs.SlLaysM.n6 Try.prog shSort60_ren := {
  mixed := by kernel_rfl
  f6 := ⟨Try.f60.name, by decide, Try.func60.trans (congrArg some (by kernel_rfl))⟩
  f8 := Try.func65.trans (congrArg some (by kernel_rfl))
  f9 := ⟨Try.f64.name, by decide, Try.func64.trans (congrArg some (by kernel_rfl))⟩
  f19 := Try.func75.trans (congrArg some (by kernel_rfl))
  f20 := Try.func76.trans (congrArg some (by kernel_rfl))
  f21 := ⟨Try.f66.name, by decide, Try.func66.trans (congrArg some (by kernel_rfl))⟩
  f22 := ⟨Try.f67.name, by decide, Try.func67.trans (congrArg some (by kernel_rfl))⟩
  f23 := ⟨Try.f68.name, by decide, Try.func68.trans (congrArg some (by kernel_rfl))⟩
  f24 := ⟨Try.f69.name, by decide, Try.func69.trans (congrArg some (by kernel_rfl))⟩
  f25 := ⟨Try.f70.name, by decide, Try.func70.trans (congrArg some (by kernel_rfl))⟩
  f26 := ⟨Try.f71.name, by decide, Try.func71.trans (congrArg some (by kernel_rfl))⟩
  f27 := ⟨Try.f72.name, by decide, Try.func72.trans (congrArg some (by kernel_rfl))⟩
  f28 := ⟨Try.f73.name, by decide, Try.func73.trans (congrArg some (by kernel_rfl))⟩
  f29 := ⟨Try.f74.name, by decide, Try.func74.trans (congrArg some (by kernel_rfl))⟩
  f31 := Try.func78.trans (congrArg some (by kernel_rfl))
  f32 := Try.func79.trans (congrArg some (by kernel_rfl))
  f36 := ⟨Try.f77.name, by decide, Try.func77.trans (congrArg some (by kernel_rfl))⟩
  f37 := ⟨Try.f80.name, by decide, Try.func80.trans (congrArg some (by kernel_rfl))⟩
  f38 := ⟨Try.f81.name, by decide, Try.func81.trans (congrArg some (by kernel_rfl))⟩
  f39 := ⟨Try.f82.name, by decide, Try.func82.trans (congrArg some (by kernel_rfl))⟩
  f41 := ⟨Try.f83.name, by decide, Try.func83.trans (congrArg some (by kernel_rfl))⟩
  t0 := Try.underlying0
  a0 := Try.isAgg0
  z0 := Try.sizeOf0
  v0 := Try.zeroValue0
  t3 := Try.underlying3
  a3 := Try.isAgg3
  z3 := Try.sizeOf3
  v3 := Try.zeroValue3
  t4 := Try.underlying4
  a4 := Try.isAgg4
  z4 := Try.sizeOf4
  v4 := Try.zeroValue4
  t5 := Try.underlying5
  a5 := Try.isAgg5
  z5 := Try.sizeOf5
  v5 := Try.zeroValue5
  t9 := Try.underlying9
  a9 := Try.isAgg9
  z9 := Try.sizeOf9
  v9 := Try.zeroValue9
  t26 := Try.underlying22
  a26 := Try.isAgg22
  z26 := Try.sizeOf22
  v26 := Try.zeroValue22
  t27 := Try.underlying22
  a27 := Try.isAgg22
  z27 := Try.sizeOf22
  v27 := Try.zeroValue22
  t29 := Try.underlying9
  a29 := Try.isAgg9
  z29 := Try.sizeOf9
  v29 := Try.zeroValue9
  t32 := Try.underlying89
  a32 := Try.isAgg89
  z32 := Try.sizeOf89
  v32 := Try.zeroValue89
  t35 := Try.underlying91
  a35 := Try.isAgg91
  z35 := Try.sizeOf91
  v35 := Try.zeroValue91
  t36 := Try.underlying92
  a36 := Try.isAgg92
  z36 := Try.sizeOf92
  v36 := Try.zeroValue92
  t41 := Try.underlying97
  a41 := Try.isAgg97
  z41 := Try.sizeOf97
  v41 := Try.zeroValue97
  t44 := Try.underlying100
  a44 := Try.isAgg100
  z44 := Try.sizeOf100
  v44 := Try.zeroValue100
  t46 := Try.underlying102
  a46 := Try.isAgg102
  z46 := Try.sizeOf102
  v46 := Try.zeroValue102
  t53 := Try.underlying103
  a53 := Try.isAgg103
  z53 := Try.sizeOf103
  v53 := Try.zeroValue103
  t57 := Try.underlying107
  a57 := Try.isAgg107
  z57 := Try.sizeOf107
  v57 := Try.zeroValue107
  t63 := Try.underlying109
  a63 := Try.isAgg109
  z63 := Try.sizeOf109
  v63 := Try.zeroValue109
  t64 := Try.underlying110
  a64 := Try.isAgg110
  z64 := Try.sizeOf110
  v64 := Try.zeroValue110 }
theorem shSorts41_60 (m : Nat) : AnyZ.SortsIn Try.prog shSorted41S_ren Fence.wide m :=
  ⟨fun blk off cap ss W hH hblk hsz => callsIn_wide.2 (AnyM.slices_Sort_string shSort60 blk off cap ss W hH hblk hsz),
   fun p cap W => callsIn_wide.2 (AnyM.slices_Sort_string_none shSort60 p cap W)⟩
set_option maxHeartbeats 1000000 in
theorem lib_sorted41_61 (w : World) (D0 : DataW Unit) (nn b c : Nat) (hown : w.ownsMap Try.prog 9 R0 b nn D0) (hcell : w.cell? ⟨c, 0, none⟩ = some (.map (some b))) (hlt : c < w.heap.size) (hmax : Maps.size D0 ≤ maxLen) (hbytes : Maps.size D0 * 16 ≤ 140737488355328) :
    CallsIn Fence.wide 5 Try.prog 41 #[.func (.func 61) #[] #[.pointer (some ⟨c, 0, none⟩)]] w fun e w' => ∃ (v : Value) (ss : List (List UInt8)), e = .returned v ∧ ss.Perm (strKeys D0) ∧
      w'.ownsRow w.heap.size 9 1 v ss.length ((ss.mergeSort (fun x y => decide (x ≤ y))).map encStr) ∧ (v = .slice none 0 0 ↔ ss = []) ∧ Below w.heap.size w w' := by
  have hseq : SeqGives Fence.wide 2 Try.prog 61 #[.pointer (some ⟨c, 0, none⟩)] encStr (fun ss => ss.Perm (strKeys D0)) (Maps.size D0) w :=
    AnyZ.keys_gives (ρ := shIter61_ren) { shIter61 with } Fence.wide _ trivial rfl (by omega) c b nn D0 _ hlt hcell hown
  exact AnyZ.sorted_in shSorted41S Fence.wide 5 trivial trivial trivial trivial rfl (by omega) (shSorts41_60 _) (enters_of Try.func60 (by kernel_rfl) rfl) 61 #[.pointer (some ⟨c, 0, none⟩)] trivial (enters_of Try.func61 (by kernel_rfl) rfl) _ _ hmax hbytes _ hseq
end Go.Proofs.Ytkkbgcocpkipjaa
