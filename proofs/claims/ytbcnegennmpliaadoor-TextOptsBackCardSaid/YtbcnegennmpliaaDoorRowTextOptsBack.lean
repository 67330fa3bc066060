/- The row of the law TextOptsBack, out of its pure law and the printed walk. Conditions: none. -/
import Derived.Test.YtbcnegennmpliaaDoorM6
import Derived.Laws.BitsLemmas
import Derived.Lib.ItoaMem
import Derived.Test.YtbcnegennmpliaaDoorRows
import Derived.ProofKit
import Derived.OpenShut
import Derived.ShutString
import Derived.ChangeOld
import Derived.SizedLaws
import Derived.Deep.CondSized
import Derived.JoinedCond
import Derived.Lib.LaidTab
import Derived.Deep.DeepHandedRow
import Derived.Lay
import Derived.MakeChecks
import Derived.Test.YtbcnegennmpliaaDoorCards
import Derived.Test.YtbcnegennmpliaaDoorTie
namespace Go.Proofs.YtbcnegennmpliaaDoor
open Go.RowKit
set_option linter.unusedVariables false
set_option linter.unusedSimpArgs false
set_option maxRecDepth 20000
set_option maxHeartbeats 20000000
def synodlaw17_TextOptsBack.l0 (x0_0 : Int) (x0_1 : Int) (x0_4 : Int) (x0_5 : Int) (x0_6 : Int) (x0_7 : Int) (x0_8 : Int) (x0_9 : Int) (x0_10 : Int) (x0_11 : Int) (x0_12 : Int) (x0_13 : Int) (x0_14 : Int) (x0_15 : Int) (x0_16 : Int) (x0_17 : Int) (x0_18 : Int) (s2v : Bool) (s11v : Int × Int × Int × Int × Int × Int × Int × Int × Int × Int × Int × Int × Int × Int × Int × Int × Int × Int × Int × Int) : Nat → Int → Option ((Unit) ⊕ (Bool))
  | 0, _ => none
  | k + 1, z19v => if z19v < (([x0_0, x0_1, x0_4, x0_5, x0_6, x0_7, x0_8, x0_9, x0_10, x0_11, x0_12, x0_13, x0_14, x0_15, x0_16, x0_17, x0_18] : List Int).length : Int) then (if 0 ≤ z19v ∧ z19v < (([x0_0, x0_1, x0_4, x0_5, x0_6, x0_7, x0_8, x0_9, x0_10, x0_11, x0_12, x0_13, x0_14, x0_15, x0_16, x0_17, x0_18] : List Int).length : Int) then ((if (4611686018427387904 : Int) < (([x0_0, x0_1, x0_4, x0_5, x0_6, x0_7, x0_8, x0_9, x0_10, x0_11, x0_12, x0_13, x0_14, x0_15, x0_16, x0_17, x0_18] : List Int).getD z19v.toNat (0 : Int)) then (some true) else (if 0 ≤ z19v ∧ z19v < (([x0_0, x0_1, x0_4, x0_5, x0_6, x0_7, x0_8, x0_9, x0_10, x0_11, x0_12, x0_13, x0_14, x0_15, x0_16, x0_17, x0_18] : List Int).length : Int) then (some (decide ((([x0_0, x0_1, x0_4, x0_5, x0_6, x0_7, x0_8, x0_9, x0_10, x0_11, x0_12, x0_13, x0_14, x0_15, x0_16, x0_17, x0_18] : List Int).getD z19v.toNat (0 : Int)) < (-4611686018427387904)))) else none)).bind fun s32v => (if s32v = true then ((if s2v = true then ((synodref_Num.f s11v.2.2.2.2.2.2.2.2.2.2.2.2.2.2.2.2.2.2.2).bind fun s48v => (some (decide (s48v = (22 : Int))))) else (some false)).bind fun s46v => (some (.inr s46v))) else (synodlaw17_TextOptsBack.l0 x0_0 x0_1 x0_4 x0_5 x0_6 x0_7 x0_8 x0_9 x0_10 x0_11 x0_12 x0_13 x0_14 x0_15 x0_16 x0_17 x0_18 s2v s11v k (IntKind.i64.wrap (z19v + 1))))) else none) else (some (.inl ()))
def synodlaw17_TextOptsBack.f (k : Nat) (x0_0 : Int) (x0_1 : Int) (x0_2 : Int) (x0_3 : Int) (x0_4 : Int) (x0_5 : Int) (x0_6 : Int) (x0_7 : Int) (x0_8 : Int) (x0_9 : Int) (x0_10 : Int) (x0_11 : Int) (x0_12 : Int) (x0_13 : Int) (x0_14 : Int) (x0_15 : Int) (x0_16 : Int) (x0_17 : Int) (x0_18 : Int) : Option (Bool) := (synodlaw17_first.f k).bind fun s2v => ((text_FormatOpts.f x0_0 x0_1 x0_2 x0_3 x0_4 x0_5 x0_6 x0_7 x0_8 x0_9 x0_10 x0_11 x0_12 x0_13 x0_14 x0_15 x0_16 x0_17 x0_18).bind fun s8v => ((text_ParseOpts.f k s8v).bind fun s11v => (orR (synodlaw17_TextOptsBack.l0 x0_0 x0_1 x0_4 x0_5 x0_6 x0_7 x0_8 x0_9 x0_10 x0_11 x0_12 x0_13 x0_14 x0_15 x0_16 x0_17 x0_18 s2v s11v k 0) fun s15v => ((if (s2v && (decide (s11v.1 = x0_0) && (decide (s11v.2.1 = x0_1) && (((decide (s11v.2.2.1 = (0 : Int)) && (decide (s11v.2.2.2.1 = (0 : Int)) && (decide (s11v.2.2.2.2.1 = x0_4) && (decide (s11v.2.2.2.2.2.1 = x0_5) && (decide (s11v.2.2.2.2.2.2.1 = x0_6) && (decide (s11v.2.2.2.2.2.2.2.1 = x0_7) && (decide (s11v.2.2.2.2.2.2.2.2.1 = x0_8) && (decide (s11v.2.2.2.2.2.2.2.2.2.1 = x0_9))))))))) && (decide (s11v.2.2.2.2.2.2.2.2.2.2.1 = x0_10) && (decide (s11v.2.2.2.2.2.2.2.2.2.2.2.1 = x0_11) && (decide (s11v.2.2.2.2.2.2.2.2.2.2.2.2.1 = x0_12) && (decide (s11v.2.2.2.2.2.2.2.2.2.2.2.2.2.1 = x0_13) && (decide (s11v.2.2.2.2.2.2.2.2.2.2.2.2.2.2.1 = x0_14) && (decide (s11v.2.2.2.2.2.2.2.2.2.2.2.2.2.2.2.1 = x0_15) && (decide (s11v.2.2.2.2.2.2.2.2.2.2.2.2.2.2.2.2.1 = x0_16) && (decide (s11v.2.2.2.2.2.2.2.2.2.2.2.2.2.2.2.2.2.1 = x0_17) && (decide (s11v.2.2.2.2.2.2.2.2.2.2.2.2.2.2.2.2.2.2.1 = x0_18))))))))))))))) = true then ((synodref_Num.f s11v.2.2.2.2.2.2.2.2.2.2.2.2.2.2.2.2.2.2.2).bind fun s55v => (some (decide (s55v = (0 : Int))))) else (some false)).bind fun s53v => (some s53v)))))
theorem synodlaw17_TextOptsBack.calls (W : World) (F : HA) (k : Nat) (x0_0 : Int) (x0_1 : Int) (x0_2 : Int) (x0_3 : Int) (x0_4 : Int) (x0_5 : Int) (x0_6 : Int) (x0_7 : Int) (x0_8 : Int) (x0_9 : Int) (x0_10 : Int) (x0_11 : Int) (x0_12 : Int) (x0_13 : Int) (x0_14 : Int) (x0_15 : Int) (x0_16 : Int) (x0_17 : Int) (x0_18 : Int) (hgl : Glb Tryd.prog F) :
    Fn Tryd.prog W 9 [.agg #[.int .i64 x0_0, .int .i64 x0_1, .int .i64 x0_2, .int .i64 x0_3, .int .i64 x0_4, .int .i64 x0_5, .int .i64 x0_6, .int .i64 x0_7, .int .i64 x0_8, .int .i64 x0_9, .int .i64 x0_10, .int .i64 x0_11, .int .i64 x0_12, .int .i64 x0_13, .int .i64 x0_14, .int .i64 x0_15, .int .i64 x0_16, .int .i64 x0_17, .int .i64 x0_18]] [] F (synodlaw17_TextOptsBack.f k x0_0 x0_1 x0_2 x0_3 x0_4 x0_5 x0_6 x0_7 x0_8 x0_9 x0_10 x0_11 x0_12 x0_13 x0_14 x0_15 x0_16 x0_17 x0_18) (fun (r : Bool) (y : Unit) => .bool r) (fun r y => []) := by
 unfold synodlaw17_TextOptsBack.f
 refine fn_intro 106 Tryd.func9 rfl Tryd.ntmps9 rfl ?_
 refine sr ?_
 refine simL_eff (re_box rfl rfl rfl) rfl rfl rfl ?_
 intro b1v
 refine va rfl rfl (nx ?_)
 refine simL_bind (fun s2v hs3v => ?_)
 refine simL_eff (re_call (vs := []) (cap := []) (A := []) (rst := [obj b1v 54 [.int .i64 x0_0, .int .i64 x0_1, .int .i64 x0_2, .int .i64 x0_3, .int .i64 x0_4, .int .i64 x0_5, .int .i64 x0_6, .int .i64 x0_7, .int .i64 x0_8, .int .i64 x0_9, .int .i64 x0_10, .int .i64 x0_11, .int .i64 x0_12, .int .i64 x0_13, .int .i64 x0_14, .int .i64 x0_15, .int .i64 x0_16, .int .i64 x0_17, .int .i64 x0_18], F]) rfl rfl rfl rfl rfl rfl Tryd.call11 (.sel 0 rfl (.sel 0 rfl (.nil _))) (synodlaw17_first.calls _ _ k  (hgl.lend 1 rfl)) hs3v) rfl rfl rfl ?_
 intro y4v
 refine va rfl rfl (nx ?_)
 refine vq (q_fa rfl rfl Tryd.underlying54 rfl rfl Tryd.sizeOf52 rfl) rfl ?_
 refine vq (q_fa rfl rfl Tryd.underlying52 rfl rfl Tryd.sizeOf50 rfl) rfl ?_
 refine vq (q_loads (vs := [.int .i64 x0_2, .int .i64 x0_3, .int .i64 x0_4, .int .i64 x0_5, .int .i64 x0_6, .int .i64 x0_7, .int .i64 x0_8, .int .i64 x0_9]) rfl rfl Tryd.isAgg50 Tryd.sizeOf50 rfl (cells_obj 0 rfl (cells_lit rfl))) rfl ?_
 refine simL_eff (re_alloc rfl Tryd.zeroValue50 rfl) rfl rfl rfl ?_
 intro b5v
 refine simL_do (re_store 0 rfl rfl rfl Tryd.sizeOf50 rfl rfl (one_of (by rfl)) rfl rfl) rfl rfl ?_
 intro _
 refine simL_ent (H' := [obj b5v 50 [.int .i64 x0_2, .int .i64 x0_3, .int .i64 x0_4, .int .i64 x0_5, .int .i64 x0_6, .int .i64 x0_7, .int .i64 x0_8, .int .i64 x0_9], obj b1v 54 [.int .i64 x0_0, .int .i64 x0_1, .int .i64 x0_2, .int .i64 x0_3, .int .i64 x0_4, .int .i64 x0_5, .int .i64 x0_6, .int .i64 x0_7, .int .i64 x0_8, .int .i64 x0_9, .int .i64 x0_10, .int .i64 x0_11, .int .i64 x0_12, .int .i64 x0_13, .int .i64 x0_14, .int .i64 x0_15, .int .i64 x0_16, .int .i64 x0_17, .int .i64 x0_18], F]) (Ent.refl _) ?_
 refine nx ?_
 refine vq (q_fa rfl rfl Tryd.underlying54 rfl rfl Tryd.sizeOf3 rfl) rfl ?_
 refine vq (q_load rfl rfl Tryd.isAgg3 (.obj 1 rfl rfl)) rfl ?_
 refine vq (q_fa rfl rfl Tryd.underlying54 rfl rfl Tryd.sizeOf3 rfl) rfl ?_
 refine vq (q_load rfl rfl Tryd.isAgg3 (.obj 1 rfl rfl)) rfl ?_
 refine vq (q_fa rfl rfl Tryd.underlying50 rfl rfl Tryd.sizeOf3 rfl) rfl ?_
 refine vq (q_load rfl rfl Tryd.isAgg3 (.obj 0 rfl rfl)) rfl ?_
 refine vq (q_fa rfl rfl Tryd.underlying50 rfl rfl Tryd.sizeOf3 rfl) rfl ?_
 refine vq (q_load rfl rfl Tryd.isAgg3 (.obj 0 rfl rfl)) rfl ?_
 refine vq (q_fa rfl rfl Tryd.underlying50 rfl rfl Tryd.sizeOf3 rfl) rfl ?_
 refine vq (q_load rfl rfl Tryd.isAgg3 (.obj 0 rfl rfl)) rfl ?_
 refine vq (q_fa rfl rfl Tryd.underlying50 rfl rfl Tryd.sizeOf3 rfl) rfl ?_
 refine vq (q_load rfl rfl Tryd.isAgg3 (.obj 0 rfl rfl)) rfl ?_
 refine vq (q_fa rfl rfl Tryd.underlying50 rfl rfl Tryd.sizeOf3 rfl) rfl ?_
 refine vq (q_load rfl rfl Tryd.isAgg3 (.obj 0 rfl rfl)) rfl ?_
 refine vq (q_fa rfl rfl Tryd.underlying50 rfl rfl Tryd.sizeOf3 rfl) rfl ?_
 refine vq (q_load rfl rfl Tryd.isAgg3 (.obj 0 rfl rfl)) rfl ?_
 refine vq (q_fa rfl rfl Tryd.underlying54 rfl rfl Tryd.sizeOf52 rfl) rfl ?_
 refine vq (q_fa rfl rfl Tryd.underlying52 rfl rfl Tryd.sizeOf3 rfl) rfl ?_
 refine vq (q_load rfl rfl Tryd.isAgg3 (.obj 1 rfl rfl)) rfl ?_
 refine vq (q_fa rfl rfl Tryd.underlying54 rfl rfl Tryd.sizeOf52 rfl) rfl ?_
 refine vq (q_fa rfl rfl Tryd.underlying52 rfl rfl Tryd.sizeOf3 rfl) rfl ?_
 refine vq (q_load rfl rfl Tryd.isAgg3 (.obj 1 rfl rfl)) rfl ?_
 refine vq (q_fa rfl rfl Tryd.underlying54 rfl rfl Tryd.sizeOf52 rfl) rfl ?_
 refine vq (q_fa rfl rfl Tryd.underlying52 rfl rfl Tryd.sizeOf3 rfl) rfl ?_
 refine vq (q_load rfl rfl Tryd.isAgg3 (.obj 1 rfl rfl)) rfl ?_
 refine vq (q_fa rfl rfl Tryd.underlying54 rfl rfl Tryd.sizeOf52 rfl) rfl ?_
 refine vq (q_fa rfl rfl Tryd.underlying52 rfl rfl Tryd.sizeOf3 rfl) rfl ?_
 refine vq (q_load rfl rfl Tryd.isAgg3 (.obj 1 rfl rfl)) rfl ?_
 refine vq (q_fa rfl rfl Tryd.underlying54 rfl rfl Tryd.sizeOf52 rfl) rfl ?_
 refine vq (q_fa rfl rfl Tryd.underlying52 rfl rfl Tryd.sizeOf3 rfl) rfl ?_
 refine vq (q_load rfl rfl Tryd.isAgg3 (.obj 1 rfl rfl)) rfl ?_
 refine vq (q_fa rfl rfl Tryd.underlying54 rfl rfl Tryd.sizeOf52 rfl) rfl ?_
 refine vq (q_fa rfl rfl Tryd.underlying52 rfl rfl Tryd.sizeOf3 rfl) rfl ?_
 refine vq (q_load rfl rfl Tryd.isAgg3 (.obj 1 rfl rfl)) rfl ?_
 refine vq (q_fa rfl rfl Tryd.underlying54 rfl rfl Tryd.sizeOf52 rfl) rfl ?_
 refine vq (q_fa rfl rfl Tryd.underlying52 rfl rfl Tryd.sizeOf3 rfl) rfl ?_
 refine vq (q_load rfl rfl Tryd.isAgg3 (.obj 1 rfl rfl)) rfl ?_
 refine vq (q_fa rfl rfl Tryd.underlying54 rfl rfl Tryd.sizeOf52 rfl) rfl ?_
 refine vq (q_fa rfl rfl Tryd.underlying52 rfl rfl Tryd.sizeOf3 rfl) rfl ?_
 refine vq (q_load rfl rfl Tryd.isAgg3 (.obj 1 rfl rfl)) rfl ?_
 refine vq (q_fa rfl rfl Tryd.underlying54 rfl rfl Tryd.sizeOf52 rfl) rfl ?_
 refine vq (q_fa rfl rfl Tryd.underlying52 rfl rfl Tryd.sizeOf3 rfl) rfl ?_
 refine vq (q_load rfl rfl Tryd.isAgg3 (.obj 1 rfl rfl)) rfl ?_
 have hlb7v : ListV 1 (V3 tt) ([x0_0, x0_1, x0_4, x0_5, x0_6, x0_7, x0_8, x0_9, x0_10, x0_11, x0_12, x0_13, x0_14, x0_15, x0_16, x0_17, x0_18] : List Int) [[.int .i64 x0_0], [.int .i64 x0_1], [.int .i64 x0_4], [.int .i64 x0_5], [.int .i64 x0_6], [.int .i64 x0_7], [.int .i64 x0_8], [.int .i64 x0_9], [.int .i64 x0_10], [.int .i64 x0_11], [.int .i64 x0_12], [.int .i64 x0_13], [.int .i64 x0_14], [.int .i64 x0_15], [.int .i64 x0_16], [.int .i64 x0_17], [.int .i64 x0_18]] := ⟨⟨rfl, one_of (by rfl), rfl⟩, ⟨rfl, one_of (by rfl), rfl⟩, ⟨rfl, one_of (by rfl), rfl⟩, ⟨rfl, one_of (by rfl), rfl⟩, ⟨rfl, one_of (by rfl), rfl⟩, ⟨rfl, one_of (by rfl), rfl⟩, ⟨rfl, one_of (by rfl), rfl⟩, ⟨rfl, one_of (by rfl), rfl⟩, ⟨rfl, one_of (by rfl), rfl⟩, ⟨rfl, one_of (by rfl), rfl⟩, ⟨rfl, one_of (by rfl), rfl⟩, ⟨rfl, one_of (by rfl), rfl⟩, ⟨rfl, one_of (by rfl), rfl⟩, ⟨rfl, one_of (by rfl), rfl⟩, ⟨rfl, one_of (by rfl), rfl⟩, ⟨rfl, one_of (by rfl), rfl⟩, ⟨rfl, one_of (by rfl), rfl⟩, trivial⟩
 refine simL_eff (re_litV (V := (V3 tt)) (xs := ([x0_0, x0_1, x0_4, x0_5, x0_6, x0_7, x0_8, x0_9, x0_10, x0_11, x0_12, x0_13, x0_14, x0_15, x0_16, x0_17, x0_18] : List Int)) [[.int .i64 x0_0], [.int .i64 x0_1], [.int .i64 x0_4], [.int .i64 x0_5], [.int .i64 x0_6], [.int .i64 x0_7], [.int .i64 x0_8], [.int .i64 x0_9], [.int .i64 x0_10], [.int .i64 x0_11], [.int .i64 x0_12], [.int .i64 x0_13], [.int .i64 x0_14], [.int .i64 x0_15], [.int .i64 x0_16], [.int .i64 x0_17], [.int .i64 x0_18]] rfl rfl Tryd.underlying68 elt3 rfl (by kernel_rfl) rfl hlb7v rfl rfl) rfl rfl rfl ?_
 intro b7v
 refine va rfl rfl (nx ?_)
 refine vq (q_loado 2 rfl rfl Tryd.isAgg54 Tryd.sizeOf54 rfl rfl) rfl ?_
 refine simL_bind (fun s8v hs9v => ?_)
 refine simL_eff (re_call (vs := [.agg #[.int .i64 x0_0, .int .i64 x0_1, .int .i64 x0_2, .int .i64 x0_3, .int .i64 x0_4, .int .i64 x0_5, .int .i64 x0_6, .int .i64 x0_7, .int .i64 x0_8, .int .i64 x0_9, .int .i64 x0_10, .int .i64 x0_11, .int .i64 x0_12, .int .i64 x0_13, .int .i64 x0_14, .int .i64 x0_15, .int .i64 x0_16, .int .i64 x0_17, .int .i64 x0_18]]) (cap := []) (A := []) (rst := [Row 3 1 (some ⟨b7v, 0, none⟩) ([x0_0, x0_1, x0_4, x0_5, x0_6, x0_7, x0_8, x0_9, x0_10, x0_11, x0_12, x0_13, x0_14, x0_15, x0_16, x0_17, x0_18] : List Int).length 17 [[.int .i64 x0_0], [.int .i64 x0_1], [.int .i64 x0_4], [.int .i64 x0_5], [.int .i64 x0_6], [.int .i64 x0_7], [.int .i64 x0_8], [.int .i64 x0_9], [.int .i64 x0_10], [.int .i64 x0_11], [.int .i64 x0_12], [.int .i64 x0_13], [.int .i64 x0_14], [.int .i64 x0_15], [.int .i64 x0_16], [.int .i64 x0_17], [.int .i64 x0_18]].flatten, obj b5v 50 [.int .i64 x0_2, .int .i64 x0_3, .int .i64 x0_4, .int .i64 x0_5, .int .i64 x0_6, .int .i64 x0_7, .int .i64 x0_8, .int .i64 x0_9], obj b1v 54 [.int .i64 x0_0, .int .i64 x0_1, .int .i64 x0_2, .int .i64 x0_3, .int .i64 x0_4, .int .i64 x0_5, .int .i64 x0_6, .int .i64 x0_7, .int .i64 x0_8, .int .i64 x0_9, .int .i64 x0_10, .int .i64 x0_11, .int .i64 x0_12, .int .i64 x0_13, .int .i64 x0_14, .int .i64 x0_15, .int .i64 x0_16, .int .i64 x0_17, .int .i64 x0_18], F]) rfl rfl rfl rfl rfl rfl Tryd.call27 (.sel 0 rfl (.sel 0 rfl (.sel 0 rfl (.sel 0 rfl (.nil _))))) (text_FormatOpts.calls _ _ x0_0 x0_1 x0_2 x0_3 x0_4 x0_5 x0_6 x0_7 x0_8 x0_9 x0_10 x0_11 x0_12 x0_13 x0_14 x0_15 x0_16 x0_17 x0_18 (hgl.lend 3 rfl)) hs9v) rfl rfl rfl ?_
 intro y10v
 refine va rfl rfl (nx ?_)
 refine vm rfl rfl ?_
 refine simL_bind (fun s11v hs12v => ?_)
 refine simL_eff (re_call (vs := [str s8v]) (cap := []) (A := []) (rst := [Row 3 1 (some ⟨b7v, 0, none⟩) ([x0_0, x0_1, x0_4, x0_5, x0_6, x0_7, x0_8, x0_9, x0_10, x0_11, x0_12, x0_13, x0_14, x0_15, x0_16, x0_17, x0_18] : List Int).length 17 [[.int .i64 x0_0], [.int .i64 x0_1], [.int .i64 x0_4], [.int .i64 x0_5], [.int .i64 x0_6], [.int .i64 x0_7], [.int .i64 x0_8], [.int .i64 x0_9], [.int .i64 x0_10], [.int .i64 x0_11], [.int .i64 x0_12], [.int .i64 x0_13], [.int .i64 x0_14], [.int .i64 x0_15], [.int .i64 x0_16], [.int .i64 x0_17], [.int .i64 x0_18]].flatten, obj b5v 50 [.int .i64 x0_2, .int .i64 x0_3, .int .i64 x0_4, .int .i64 x0_5, .int .i64 x0_6, .int .i64 x0_7, .int .i64 x0_8, .int .i64 x0_9], obj b1v 54 [.int .i64 x0_0, .int .i64 x0_1, .int .i64 x0_2, .int .i64 x0_3, .int .i64 x0_4, .int .i64 x0_5, .int .i64 x0_6, .int .i64 x0_7, .int .i64 x0_8, .int .i64 x0_9, .int .i64 x0_10, .int .i64 x0_11, .int .i64 x0_12, .int .i64 x0_13, .int .i64 x0_14, .int .i64 x0_15, .int .i64 x0_16, .int .i64 x0_17, .int .i64 x0_18], F]) rfl rfl rfl rfl rfl rfl Tryd.call24 (.sel 0 rfl (.sel 0 rfl (.sel 0 rfl (.sel 0 rfl (.nil _))))) (text_ParseOpts.calls _ _ k s8v (hgl.lend 3 rfl)) hs12v) rfl rfl rfl ?_
 intro y13v
 refine vm rfl rfl ?_
 refine vq (q_ext rfl rfl rfl) rfl ?_
 refine vq (q_ext rfl rfl rfl) rfl ?_
 refine simL_eff (re_alloc rfl Tryd.zeroValue54 rfl) rfl rfl rfl ?_
 intro b14v
 refine simL_do (re_store 0 rfl rfl rfl Tryd.sizeOf54 rfl rfl (one_of (by rfl)) rfl rfl) rfl rfl ?_
 intro _
 refine simL_ent (H' := [obj b14v 54 [.int .i64 s11v.1, .int .i64 s11v.2.1, .int .i64 s11v.2.2.1, .int .i64 s11v.2.2.2.1, .int .i64 s11v.2.2.2.2.1, .int .i64 s11v.2.2.2.2.2.1, .int .i64 s11v.2.2.2.2.2.2.1, .int .i64 s11v.2.2.2.2.2.2.2.1, .int .i64 s11v.2.2.2.2.2.2.2.2.1, .int .i64 s11v.2.2.2.2.2.2.2.2.2.1, .int .i64 s11v.2.2.2.2.2.2.2.2.2.2.1, .int .i64 s11v.2.2.2.2.2.2.2.2.2.2.2.1, .int .i64 s11v.2.2.2.2.2.2.2.2.2.2.2.2.1, .int .i64 s11v.2.2.2.2.2.2.2.2.2.2.2.2.2.1, .int .i64 s11v.2.2.2.2.2.2.2.2.2.2.2.2.2.2.1, .int .i64 s11v.2.2.2.2.2.2.2.2.2.2.2.2.2.2.2.1, .int .i64 s11v.2.2.2.2.2.2.2.2.2.2.2.2.2.2.2.2.1, .int .i64 s11v.2.2.2.2.2.2.2.2.2.2.2.2.2.2.2.2.2.1, .int .i64 s11v.2.2.2.2.2.2.2.2.2.2.2.2.2.2.2.2.2.2.1], Row 3 1 (some ⟨b7v, 0, none⟩) ([x0_0, x0_1, x0_4, x0_5, x0_6, x0_7, x0_8, x0_9, x0_10, x0_11, x0_12, x0_13, x0_14, x0_15, x0_16, x0_17, x0_18] : List Int).length 17 [[.int .i64 x0_0], [.int .i64 x0_1], [.int .i64 x0_4], [.int .i64 x0_5], [.int .i64 x0_6], [.int .i64 x0_7], [.int .i64 x0_8], [.int .i64 x0_9], [.int .i64 x0_10], [.int .i64 x0_11], [.int .i64 x0_12], [.int .i64 x0_13], [.int .i64 x0_14], [.int .i64 x0_15], [.int .i64 x0_16], [.int .i64 x0_17], [.int .i64 x0_18]].flatten, obj b5v 50 [.int .i64 x0_2, .int .i64 x0_3, .int .i64 x0_4, .int .i64 x0_5, .int .i64 x0_6, .int .i64 x0_7, .int .i64 x0_8, .int .i64 x0_9], obj b1v 54 [.int .i64 x0_0, .int .i64 x0_1, .int .i64 x0_2, .int .i64 x0_3, .int .i64 x0_4, .int .i64 x0_5, .int .i64 x0_6, .int .i64 x0_7, .int .i64 x0_8, .int .i64 x0_9, .int .i64 x0_10, .int .i64 x0_11, .int .i64 x0_12, .int .i64 x0_13, .int .i64 x0_14, .int .i64 x0_15, .int .i64 x0_16, .int .i64 x0_17, .int .i64 x0_18], F]) (Ent.refl _) ?_
 refine va rfl rfl (simL_nil (nrm_then ?_))
 refine sim_cutR (S := Unit) (Unit) (fun s y => [(1, .pointer (some ⟨b1v, 0, none⟩)), (3, .bool s2v), (7, .pointer (some ⟨b14v, 0, none⟩)), (8, .int .i64 s11v.2.2.2.2.2.2.2.2.2.2.2.2.2.2.2.2.2.2.2)]) (fun s y => [obj b14v 54 [.int .i64 s11v.1, .int .i64 s11v.2.1, .int .i64 s11v.2.2.1, .int .i64 s11v.2.2.2.1, .int .i64 s11v.2.2.2.2.1, .int .i64 s11v.2.2.2.2.2.1, .int .i64 s11v.2.2.2.2.2.2.1, .int .i64 s11v.2.2.2.2.2.2.2.1, .int .i64 s11v.2.2.2.2.2.2.2.2.1, .int .i64 s11v.2.2.2.2.2.2.2.2.2.1, .int .i64 s11v.2.2.2.2.2.2.2.2.2.2.1, .int .i64 s11v.2.2.2.2.2.2.2.2.2.2.2.1, .int .i64 s11v.2.2.2.2.2.2.2.2.2.2.2.2.1, .int .i64 s11v.2.2.2.2.2.2.2.2.2.2.2.2.2.1, .int .i64 s11v.2.2.2.2.2.2.2.2.2.2.2.2.2.2.1, .int .i64 s11v.2.2.2.2.2.2.2.2.2.2.2.2.2.2.2.1, .int .i64 s11v.2.2.2.2.2.2.2.2.2.2.2.2.2.2.2.2.1, .int .i64 s11v.2.2.2.2.2.2.2.2.2.2.2.2.2.2.2.2.2.1, .int .i64 s11v.2.2.2.2.2.2.2.2.2.2.2.2.2.2.2.2.2.2.1], obj b1v 54 [.int .i64 x0_0, .int .i64 x0_1, .int .i64 x0_2, .int .i64 x0_3, .int .i64 x0_4, .int .i64 x0_5, .int .i64 x0_6, .int .i64 x0_7, .int .i64 x0_8, .int .i64 x0_9, .int .i64 x0_10, .int .i64 x0_11, .int .i64 x0_12, .int .i64 x0_13, .int .i64 x0_14, .int .i64 x0_15, .int .i64 x0_16, .int .i64 x0_17, .int .i64 x0_18], F]) ?_ ?_
 refine sr ?_
 refine va rfl rfl (simL_nil (nrm_then ?_))
 refine sim_block ?_
 refine sim_loop (S := Int) (Unit) (fun k s => synodlaw17_TextOptsBack.l0 x0_0 x0_1 x0_4 x0_5 x0_6 x0_7 x0_8 x0_9 x0_10 x0_11 x0_12 x0_13 x0_14 x0_15 x0_16 x0_17 x0_18 s2v s11v k s) (fun s y => [(1, .pointer (some ⟨b1v, 0, none⟩)), (3, .bool s2v), (5, .slice (some ⟨b7v, 0, none⟩) (([x0_0, x0_1, x0_4, x0_5, x0_6, x0_7, x0_8, x0_9, x0_10, x0_11, x0_12, x0_13, x0_14, x0_15, x0_16, x0_17, x0_18] : List Int).length) 17), (7, .pointer (some ⟨b14v, 0, none⟩)), (8, .int .i64 s11v.2.2.2.2.2.2.2.2.2.2.2.2.2.2.2.2.2.2.2), (9, .int .i64 s)]) (fun s y => [obj b14v 54 [.int .i64 s11v.1, .int .i64 s11v.2.1, .int .i64 s11v.2.2.1, .int .i64 s11v.2.2.2.1, .int .i64 s11v.2.2.2.2.1, .int .i64 s11v.2.2.2.2.2.1, .int .i64 s11v.2.2.2.2.2.2.1, .int .i64 s11v.2.2.2.2.2.2.2.1, .int .i64 s11v.2.2.2.2.2.2.2.2.1, .int .i64 s11v.2.2.2.2.2.2.2.2.2.1, .int .i64 s11v.2.2.2.2.2.2.2.2.2.2.1, .int .i64 s11v.2.2.2.2.2.2.2.2.2.2.2.1, .int .i64 s11v.2.2.2.2.2.2.2.2.2.2.2.2.1, .int .i64 s11v.2.2.2.2.2.2.2.2.2.2.2.2.2.1, .int .i64 s11v.2.2.2.2.2.2.2.2.2.2.2.2.2.2.1, .int .i64 s11v.2.2.2.2.2.2.2.2.2.2.2.2.2.2.2.1, .int .i64 s11v.2.2.2.2.2.2.2.2.2.2.2.2.2.2.2.2.1, .int .i64 s11v.2.2.2.2.2.2.2.2.2.2.2.2.2.2.2.2.2.1, .int .i64 s11v.2.2.2.2.2.2.2.2.2.2.2.2.2.2.2.2.2.2.1], obj b1v 54 [.int .i64 x0_0, .int .i64 x0_1, .int .i64 x0_2, .int .i64 x0_3, .int .i64 x0_4, .int .i64 x0_5, .int .i64 x0_6, .int .i64 x0_7, .int .i64 x0_8, .int .i64 x0_9, .int .i64 x0_10, .int .i64 x0_11, .int .i64 x0_12, .int .i64 x0_13, .int .i64 x0_14, .int .i64 x0_15, .int .i64 x0_16, .int .i64 x0_17, .int .i64 x0_18], RowV 3 1 (V3 tt) (some ⟨b7v, 0, none⟩) ([x0_0, x0_1, x0_4, x0_5, x0_6, x0_7, x0_8, x0_9, x0_10, x0_11, x0_12, x0_13, x0_14, x0_15, x0_16, x0_17, x0_18] : List Int) 17, F]) (fun _ => by rw [synodlaw17_TextOptsBack.l0]) ?_ k 0 () ⟨rfl, rfl, rfl, rfl, rfl, rfl, trivial⟩ (.sel 0 rfl (.sel 2 rfl (.sel' 0 rfl (RowV.mk hlb7v) (.sel 1 rfl (.nil _)))))
 intro k s17v y18v
 refine sim_eq (by rw [synodlaw17_TextOptsBack.l0]) ?_
 refine sim_seq (sr ?_)
 refine vm rfl rfl ?_
 refine vm rfl rfl ?_
 refine vq (q_len rfl rfl rfl Tryd.underlying68) rfl ?_
 refine vq (q_lss rfl rfl rfl) rfl (simL_nil (nrm_then ?_))
 refine sim_cond rfl (fun h20v => ?_) (fun h21v => ?_)
 refine sim_skip ?_
 refine nrm_then (sim_seq ?_)
 refine sim_block ?_
 refine sr ?_
 refine vm rfl rfl ?_
 refine vm rfl rfl ?_
 refine simL_openV 2 rfl (fun rs30v hl31v => ?_)
 refine simL_ask (fun hi22v => ?_)
 refine simL_posV 2 rfl hl31v rfl (i := s17v.toNat) (by omega) (0 : Int) (fun b23v b23vo r26v ha24v hV27v hlr28v hcell29v => ?_)
 obtain rfl := hV27v
 refine vq (q_idx rfl rfl rfl ha24v Tryd.underlying68 Tryd.sizeOf3 hi22v.1 hi22v.2) rfl ?_
 refine vq (q_load rfl rfl Tryd.isAgg3 (hcell29v 2 rfl 0 _ rfl)) rfl ?_
 refine vq (q_gtr rfl rfl rfl) rfl ?_
 refine vm rfl rfl ?_
 refine simL_cut' 6 (S := Bool) (Unit) (fun s y => [(1, .pointer (some ⟨b1v, 0, none⟩)), (3, .bool s2v), (5, .slice (some ⟨b7v, 0, none⟩) (([x0_0, x0_1, x0_4, x0_5, x0_6, x0_7, x0_8, x0_9, x0_10, x0_11, x0_12, x0_13, x0_14, x0_15, x0_16, x0_17, x0_18] : List Int).length) 17), (7, .pointer (some ⟨b14v, 0, none⟩)), (8, .int .i64 s11v.2.2.2.2.2.2.2.2.2.2.2.2.2.2.2.2.2.2.2), (9, .int .i64 s17v), (82, .bool s)]) (fun s y => [obj b14v 54 [.int .i64 s11v.1, .int .i64 s11v.2.1, .int .i64 s11v.2.2.1, .int .i64 s11v.2.2.2.1, .int .i64 s11v.2.2.2.2.1, .int .i64 s11v.2.2.2.2.2.1, .int .i64 s11v.2.2.2.2.2.2.1, .int .i64 s11v.2.2.2.2.2.2.2.1, .int .i64 s11v.2.2.2.2.2.2.2.2.1, .int .i64 s11v.2.2.2.2.2.2.2.2.2.1, .int .i64 s11v.2.2.2.2.2.2.2.2.2.2.1, .int .i64 s11v.2.2.2.2.2.2.2.2.2.2.2.1, .int .i64 s11v.2.2.2.2.2.2.2.2.2.2.2.2.1, .int .i64 s11v.2.2.2.2.2.2.2.2.2.2.2.2.2.1, .int .i64 s11v.2.2.2.2.2.2.2.2.2.2.2.2.2.2.1, .int .i64 s11v.2.2.2.2.2.2.2.2.2.2.2.2.2.2.2.1, .int .i64 s11v.2.2.2.2.2.2.2.2.2.2.2.2.2.2.2.2.1, .int .i64 s11v.2.2.2.2.2.2.2.2.2.2.2.2.2.2.2.2.2.1, .int .i64 s11v.2.2.2.2.2.2.2.2.2.2.2.2.2.2.2.2.2.2.1], obj b1v 54 [.int .i64 x0_0, .int .i64 x0_1, .int .i64 x0_2, .int .i64 x0_3, .int .i64 x0_4, .int .i64 x0_5, .int .i64 x0_6, .int .i64 x0_7, .int .i64 x0_8, .int .i64 x0_9, .int .i64 x0_10, .int .i64 x0_11, .int .i64 x0_12, .int .i64 x0_13, .int .i64 x0_14, .int .i64 x0_15, .int .i64 x0_16, .int .i64 x0_17, .int .i64 x0_18], RowV 3 1 (V3 tt) (some ⟨b7v, 0, none⟩) ([x0_0, x0_1, x0_4, x0_5, x0_6, x0_7, x0_8, x0_9, x0_10, x0_11, x0_12, x0_13, x0_14, x0_15, x0_16, x0_17, x0_18] : List Int) 17, F]) ?_ ?_
 refine simL_casep (fun hb42v => ?_) (fun hb43v => ?_)
 rw [hb42v]
 refine simL_skipd rfl rfl rfl rfl rfl rfl ?_
 refine simL_skipd rfl rfl rfl rfl rfl rfl ?_
 refine simL_skipd rfl rfl rfl rfl rfl rfl ?_
 refine simL_skipd rfl rfl rfl rfl rfl rfl ?_
 refine simL_skipd rfl rfl rfl rfl rfl rfl ?_
 refine vq (q_pick rfl rfl rfl rfl rfl) rfl (simL_nil ?_)
 exact nrm_cut (s := true) () ⟨rfl, rfl, rfl, rfl, rfl, rfl, rfl, trivial⟩ (.sel 0 rfl (.sel 0 rfl (.sel' 0 rfl (RowV.mk hl31v) (.sel 0 rfl (.nil _)))))
 rw [hb43v]
 refine simL_valg (q_move rfl rfl) rfl rfl rfl rfl rfl rfl ?_
 refine simL_valg (q_move rfl rfl) rfl rfl rfl rfl rfl rfl ?_
 refine simL_ask (fun hi34v => ?_)
 refine simL_posV 2 rfl hl31v rfl (i := s17v.toNat) (by omega) (0 : Int) (fun b35v b35vo r38v ha36v hV39v hlr40v hcell41v => ?_)
 obtain rfl := hV39v
 refine simL_valg (q_idx rfl rfl rfl ha36v Tryd.underlying68 Tryd.sizeOf3 hi34v.1 hi34v.2) rfl rfl rfl rfl rfl rfl ?_
 refine simL_valg (q_load rfl rfl Tryd.isAgg3 (hcell41v 2 rfl 0 _ rfl)) rfl rfl rfl rfl rfl rfl ?_
 refine simL_valg (q_lss rfl rfl rfl) rfl rfl rfl rfl rfl rfl ?_
 refine vq (q_pick rfl rfl rfl rfl rfl) rfl (simL_nil ?_)
 exact nrm_cut (s := decide ((([x0_0, x0_1, x0_4, x0_5, x0_6, x0_7, x0_8, x0_9, x0_10, x0_11, x0_12, x0_13, x0_14, x0_15, x0_16, x0_17, x0_18] : List Int).getD s17v.toNat (0 : Int)) < (-4611686018427387904))) () ⟨rfl, rfl, rfl, rfl, rfl, rfl, rfl, trivial⟩ (.sel 0 rfl (.sel 0 rfl (.sel' 0 rfl (RowV.mk hl31v) (.sel 0 rfl (.nil _)))))
 intro s32v y33v
 refine simL_nil (nrm_then ?_)
 refine sim_condb rfl (fun h44v => ?_) (fun h45v => ?_)
 refine sr ?_
 refine vm rfl rfl ?_
 refine vm rfl rfl ?_
 refine simL_cut' 4 (S := Bool) (Unit) (fun s y => [(88, .bool s)]) (fun s y => [F]) ?_ ?_
 refine simL_caseb (fun hb51v => ?_) (fun hb52v => ?_)
 rw [hb51v]
 refine simL_valg (q_move rfl rfl) rfl rfl rfl rfl rfl rfl ?_
 refine simL_bind (fun s48v hs49v => ?_)
 refine simL_effg (re_call (vs := [.int .i64 s11v.2.2.2.2.2.2.2.2.2.2.2.2.2.2.2.2.2.2.2]) (cap := []) (A := []) (rst := [obj b14v 54 [.int .i64 s11v.1, .int .i64 s11v.2.1, .int .i64 s11v.2.2.1, .int .i64 s11v.2.2.2.1, .int .i64 s11v.2.2.2.2.1, .int .i64 s11v.2.2.2.2.2.1, .int .i64 s11v.2.2.2.2.2.2.1, .int .i64 s11v.2.2.2.2.2.2.2.1, .int .i64 s11v.2.2.2.2.2.2.2.2.1, .int .i64 s11v.2.2.2.2.2.2.2.2.2.1, .int .i64 s11v.2.2.2.2.2.2.2.2.2.2.1, .int .i64 s11v.2.2.2.2.2.2.2.2.2.2.2.1, .int .i64 s11v.2.2.2.2.2.2.2.2.2.2.2.2.1, .int .i64 s11v.2.2.2.2.2.2.2.2.2.2.2.2.2.1, .int .i64 s11v.2.2.2.2.2.2.2.2.2.2.2.2.2.2.1, .int .i64 s11v.2.2.2.2.2.2.2.2.2.2.2.2.2.2.2.1, .int .i64 s11v.2.2.2.2.2.2.2.2.2.2.2.2.2.2.2.2.1, .int .i64 s11v.2.2.2.2.2.2.2.2.2.2.2.2.2.2.2.2.2.1, .int .i64 s11v.2.2.2.2.2.2.2.2.2.2.2.2.2.2.2.2.2.2.1], obj b1v 54 [.int .i64 x0_0, .int .i64 x0_1, .int .i64 x0_2, .int .i64 x0_3, .int .i64 x0_4, .int .i64 x0_5, .int .i64 x0_6, .int .i64 x0_7, .int .i64 x0_8, .int .i64 x0_9, .int .i64 x0_10, .int .i64 x0_11, .int .i64 x0_12, .int .i64 x0_13, .int .i64 x0_14, .int .i64 x0_15, .int .i64 x0_16, .int .i64 x0_17, .int .i64 x0_18], RowV 3 1 (V3 tt) (some ⟨b7v, 0, none⟩) ([x0_0, x0_1, x0_4, x0_5, x0_6, x0_7, x0_8, x0_9, x0_10, x0_11, x0_12, x0_13, x0_14, x0_15, x0_16, x0_17, x0_18] : List Int) 17, F]) rfl rfl rfl rfl rfl rfl Tryd.call15 (.sel 0 rfl (.sel 0 rfl (.sel 0 rfl (.sel 0 rfl (.nil _))))) (synodref_Num.calls _ _ s11v.2.2.2.2.2.2.2.2.2.2.2.2.2.2.2.2.2.2.2 ) hs49v) rfl rfl rfl rfl rfl rfl ?_
 intro y50v
 refine simL_valg (q_eql rfl rfl rfl) rfl rfl rfl rfl rfl rfl ?_
 refine vq (q_pick rfl rfl rfl rfl rfl) rfl (simL_nil ?_)
 exact nrm_cut (s := decide (s48v = (22 : Int))) () ⟨rfl, trivial⟩ (.sel 3 rfl (.nil _))
 rw [hb52v]
 refine simL_skipd rfl rfl rfl rfl rfl rfl ?_
 refine simL_skipd rfl rfl rfl rfl rfl rfl ?_
 refine simL_skipd rfl rfl rfl rfl rfl rfl ?_
 refine vq (q_pick rfl rfl rfl rfl rfl) rfl (simL_nil ?_)
 exact nrm_cut (s := false) () ⟨rfl, trivial⟩ (.sel 3 rfl (.nil _))
 intro s46v y47v
 refine va rfl rfl (simL_nil (nrm_then (sim_rtn ?_)))
 refine rtn_block ?_
 refine rtn_then ?_
 refine rtn_loop ?_
 refine rtn_block ?_
 refine rtn_cutR ?_
 exact rtn_fn () rfl rfl rfl (.sel 0 rfl (.nil _))
 refine sim_skip ?_
 refine nrm_block (nrm_then (sim_region ?_))
 refine vm rfl rfl ?_
 refine vq (q_add rfl rfl rfl) rfl ?_
 refine va rfl rfl (simL_nil ?_)
 exact nrm_again (s := IntKind.i64.wrap (s17v + 1)) () ⟨rfl, rfl, rfl, rfl, rfl, rfl, trivial⟩ (.sel 0 rfl (.sel 0 rfl (.sel 0 rfl (.sel 0 rfl (.nil _)))))
 refine sim_exi ?_
 refine exi_then ?_
 refine exi_loop ?_
 refine exi_here ?_
 exact nrm_cutR (s := ()) () ⟨rfl, rfl, rfl, rfl, trivial⟩ (.sel 0 rfl (.sel 0 rfl (.sel 1 rfl (.nil _))))
 intro s15v y16v
 refine sr ?_
 refine vq (q_fa rfl rfl Tryd.underlying54 rfl rfl Tryd.sizeOf52 rfl) rfl ?_
 refine vq (q_fa rfl rfl Tryd.underlying52 rfl rfl Tryd.sizeOf50 rfl) rfl ?_
 refine vq (q_fa rfl rfl Tryd.underlying50 rfl rfl Tryd.sizeOf3 rfl) rfl ?_
 refine simL_do (re_store 1 rfl rfl rfl Tryd.sizeOf3 rfl rfl (one_of (by rfl)) rfl rfl) rfl rfl ?_
 intro _
 refine simL_ent (H' := [obj b14v 54 [.int .i64 s11v.1, .int .i64 s11v.2.1, .int .i64 s11v.2.2.1, .int .i64 s11v.2.2.2.1, .int .i64 s11v.2.2.2.2.1, .int .i64 s11v.2.2.2.2.2.1, .int .i64 s11v.2.2.2.2.2.2.1, .int .i64 s11v.2.2.2.2.2.2.2.1, .int .i64 s11v.2.2.2.2.2.2.2.2.1, .int .i64 s11v.2.2.2.2.2.2.2.2.2.1, .int .i64 s11v.2.2.2.2.2.2.2.2.2.2.1, .int .i64 s11v.2.2.2.2.2.2.2.2.2.2.2.1, .int .i64 s11v.2.2.2.2.2.2.2.2.2.2.2.2.1, .int .i64 s11v.2.2.2.2.2.2.2.2.2.2.2.2.2.1, .int .i64 s11v.2.2.2.2.2.2.2.2.2.2.2.2.2.2.1, .int .i64 s11v.2.2.2.2.2.2.2.2.2.2.2.2.2.2.2.1, .int .i64 s11v.2.2.2.2.2.2.2.2.2.2.2.2.2.2.2.2.1, .int .i64 s11v.2.2.2.2.2.2.2.2.2.2.2.2.2.2.2.2.2.1, .int .i64 s11v.2.2.2.2.2.2.2.2.2.2.2.2.2.2.2.2.2.2.1], obj b1v 54 [.int .i64 x0_0, .int .i64 x0_1, .int .i64 0, .int .i64 x0_3, .int .i64 x0_4, .int .i64 x0_5, .int .i64 x0_6, .int .i64 x0_7, .int .i64 x0_8, .int .i64 x0_9, .int .i64 x0_10, .int .i64 x0_11, .int .i64 x0_12, .int .i64 x0_13, .int .i64 x0_14, .int .i64 x0_15, .int .i64 x0_16, .int .i64 x0_17, .int .i64 x0_18], F]) (Ent.refl _) ?_
 refine nx ?_
 refine vq (q_fa rfl rfl Tryd.underlying54 rfl rfl Tryd.sizeOf52 rfl) rfl ?_
 refine vq (q_fa rfl rfl Tryd.underlying52 rfl rfl Tryd.sizeOf50 rfl) rfl ?_
 refine vq (q_fa rfl rfl Tryd.underlying50 rfl rfl Tryd.sizeOf3 rfl) rfl ?_
 refine simL_do (re_store 1 rfl rfl rfl Tryd.sizeOf3 rfl rfl (one_of (by rfl)) rfl rfl) rfl rfl ?_
 intro _
 refine simL_ent (H' := [obj b14v 54 [.int .i64 s11v.1, .int .i64 s11v.2.1, .int .i64 s11v.2.2.1, .int .i64 s11v.2.2.2.1, .int .i64 s11v.2.2.2.2.1, .int .i64 s11v.2.2.2.2.2.1, .int .i64 s11v.2.2.2.2.2.2.1, .int .i64 s11v.2.2.2.2.2.2.2.1, .int .i64 s11v.2.2.2.2.2.2.2.2.1, .int .i64 s11v.2.2.2.2.2.2.2.2.2.1, .int .i64 s11v.2.2.2.2.2.2.2.2.2.2.1, .int .i64 s11v.2.2.2.2.2.2.2.2.2.2.2.1, .int .i64 s11v.2.2.2.2.2.2.2.2.2.2.2.2.1, .int .i64 s11v.2.2.2.2.2.2.2.2.2.2.2.2.2.1, .int .i64 s11v.2.2.2.2.2.2.2.2.2.2.2.2.2.2.1, .int .i64 s11v.2.2.2.2.2.2.2.2.2.2.2.2.2.2.2.1, .int .i64 s11v.2.2.2.2.2.2.2.2.2.2.2.2.2.2.2.2.1, .int .i64 s11v.2.2.2.2.2.2.2.2.2.2.2.2.2.2.2.2.2.1, .int .i64 s11v.2.2.2.2.2.2.2.2.2.2.2.2.2.2.2.2.2.2.1], obj b1v 54 [.int .i64 x0_0, .int .i64 x0_1, .int .i64 0, .int .i64 0, .int .i64 x0_4, .int .i64 x0_5, .int .i64 x0_6, .int .i64 x0_7, .int .i64 x0_8, .int .i64 x0_9, .int .i64 x0_10, .int .i64 x0_11, .int .i64 x0_12, .int .i64 x0_13, .int .i64 x0_14, .int .i64 x0_15, .int .i64 x0_16, .int .i64 x0_17, .int .i64 x0_18], F]) (Ent.refl _) ?_
 refine nx ?_
 refine vm rfl rfl ?_
 refine vm rfl rfl ?_
 refine simL_valc (b := s2v) (fun hb62v => RQ.sub (E' := [(7, .pointer (some ⟨b14v, 0, none⟩))]) ⟨rfl, trivial⟩ (q_loado 0 rfl rfl Tryd.isAgg54 Tryd.sizeOf54 rfl rfl)) rfl rfl rfl rfl rfl ?_
 refine simL_valc (b := s2v) (fun hb61v => RQ.sub (E' := [(1, .pointer (some ⟨b1v, 0, none⟩))]) ⟨rfl, trivial⟩ (q_loado 1 rfl rfl Tryd.isAgg54 Tryd.sizeOf54 rfl rfl)) rfl rfl rfl rfl rfl ?_
 refine simL_valc (b := s2v) (fun hb60v => RQ.sub (E' := [(97, .agg #[.int .i64 s11v.1, .int .i64 s11v.2.1, .int .i64 s11v.2.2.1, .int .i64 s11v.2.2.2.1, .int .i64 s11v.2.2.2.2.1, .int .i64 s11v.2.2.2.2.2.1, .int .i64 s11v.2.2.2.2.2.2.1, .int .i64 s11v.2.2.2.2.2.2.2.1, .int .i64 s11v.2.2.2.2.2.2.2.2.1, .int .i64 s11v.2.2.2.2.2.2.2.2.2.1, .int .i64 s11v.2.2.2.2.2.2.2.2.2.2.1, .int .i64 s11v.2.2.2.2.2.2.2.2.2.2.2.1, .int .i64 s11v.2.2.2.2.2.2.2.2.2.2.2.2.1, .int .i64 s11v.2.2.2.2.2.2.2.2.2.2.2.2.2.1, .int .i64 s11v.2.2.2.2.2.2.2.2.2.2.2.2.2.2.1, .int .i64 s11v.2.2.2.2.2.2.2.2.2.2.2.2.2.2.2.1, .int .i64 s11v.2.2.2.2.2.2.2.2.2.2.2.2.2.2.2.2.1, .int .i64 s11v.2.2.2.2.2.2.2.2.2.2.2.2.2.2.2.2.2.1, .int .i64 s11v.2.2.2.2.2.2.2.2.2.2.2.2.2.2.2.2.2.2.1]), (98, .agg #[.int .i64 x0_0, .int .i64 x0_1, .int .i64 0, .int .i64 0, .int .i64 x0_4, .int .i64 x0_5, .int .i64 x0_6, .int .i64 x0_7, .int .i64 x0_8, .int .i64 x0_9, .int .i64 x0_10, .int .i64 x0_11, .int .i64 x0_12, .int .i64 x0_13, .int .i64 x0_14, .int .i64 x0_15, .int .i64 x0_16, .int .i64 x0_17, .int .i64 x0_18])]) ⟨lk_cv rfl hb60v, lk_cv rfl hb60v, trivial⟩ (q_eqagg5 rfl rfl rfl (by kernel_rfl) (fun d w => eqi_struct Tryd.underlying54 (by kernel_rfl) (eqf_cons (by rfl) (part_of Tryd.isAgg3 rfl) (part_of Tryd.isAgg3 rfl) (eqi_int Tryd.underlying3) (eqf_cons (by rfl) (part_of Tryd.isAgg3 rfl) (part_of Tryd.isAgg3 rfl) (eqi_int Tryd.underlying3) (eqf_last (by rfl) (part_agg (vs := [.int .i64 s11v.2.2.1, .int .i64 s11v.2.2.2.1, .int .i64 s11v.2.2.2.2.1, .int .i64 s11v.2.2.2.2.2.1, .int .i64 s11v.2.2.2.2.2.2.1, .int .i64 s11v.2.2.2.2.2.2.2.1, .int .i64 s11v.2.2.2.2.2.2.2.2.1, .int .i64 s11v.2.2.2.2.2.2.2.2.2.1, .int .i64 s11v.2.2.2.2.2.2.2.2.2.2.1, .int .i64 s11v.2.2.2.2.2.2.2.2.2.2.2.1, .int .i64 s11v.2.2.2.2.2.2.2.2.2.2.2.2.1, .int .i64 s11v.2.2.2.2.2.2.2.2.2.2.2.2.2.1, .int .i64 s11v.2.2.2.2.2.2.2.2.2.2.2.2.2.2.1, .int .i64 s11v.2.2.2.2.2.2.2.2.2.2.2.2.2.2.2.1, .int .i64 s11v.2.2.2.2.2.2.2.2.2.2.2.2.2.2.2.2.1, .int .i64 s11v.2.2.2.2.2.2.2.2.2.2.2.2.2.2.2.2.2.1, .int .i64 s11v.2.2.2.2.2.2.2.2.2.2.2.2.2.2.2.2.2.2.1]) Tryd.isAgg52 Tryd.sizeOf52 rfl) (part_agg (vs := [.int .i64 0, .int .i64 0, .int .i64 x0_4, .int .i64 x0_5, .int .i64 x0_6, .int .i64 x0_7, .int .i64 x0_8, .int .i64 x0_9, .int .i64 x0_10, .int .i64 x0_11, .int .i64 x0_12, .int .i64 x0_13, .int .i64 x0_14, .int .i64 x0_15, .int .i64 x0_16, .int .i64 x0_17, .int .i64 x0_18]) Tryd.isAgg52 Tryd.sizeOf52 rfl) (eqi_struct Tryd.underlying52 (by kernel_rfl) (eqf_cons (by rfl) (part_agg (vs := [.int .i64 s11v.2.2.1, .int .i64 s11v.2.2.2.1, .int .i64 s11v.2.2.2.2.1, .int .i64 s11v.2.2.2.2.2.1, .int .i64 s11v.2.2.2.2.2.2.1, .int .i64 s11v.2.2.2.2.2.2.2.1, .int .i64 s11v.2.2.2.2.2.2.2.2.1, .int .i64 s11v.2.2.2.2.2.2.2.2.2.1]) Tryd.isAgg50 Tryd.sizeOf50 rfl) (part_agg (vs := [.int .i64 0, .int .i64 0, .int .i64 x0_4, .int .i64 x0_5, .int .i64 x0_6, .int .i64 x0_7, .int .i64 x0_8, .int .i64 x0_9]) Tryd.isAgg50 Tryd.sizeOf50 rfl) (eqi_struct Tryd.underlying50 (by kernel_rfl) (eqf_cons (by rfl) (part_of Tryd.isAgg3 rfl) (part_of Tryd.isAgg3 rfl) (eqi_int Tryd.underlying3) (eqf_cons (by rfl) (part_of Tryd.isAgg3 rfl) (part_of Tryd.isAgg3 rfl) (eqi_int Tryd.underlying3) (eqf_cons (by rfl) (part_of Tryd.isAgg3 rfl) (part_of Tryd.isAgg3 rfl) (eqi_int Tryd.underlying3) (eqf_cons (by rfl) (part_of Tryd.isAgg3 rfl) (part_of Tryd.isAgg3 rfl) (eqi_int Tryd.underlying3) (eqf_cons (by rfl) (part_of Tryd.isAgg3 rfl) (part_of Tryd.isAgg3 rfl) (eqi_int Tryd.underlying3) (eqf_cons (by rfl) (part_of Tryd.isAgg3 rfl) (part_of Tryd.isAgg3 rfl) (eqi_int Tryd.underlying3) (eqf_cons (by rfl) (part_of Tryd.isAgg3 rfl) (part_of Tryd.isAgg3 rfl) (eqi_int Tryd.underlying3) (eqf_last (by rfl) (part_of Tryd.isAgg3 rfl) (part_of Tryd.isAgg3 rfl) (eqi_int Tryd.underlying3)))))))))) (eqf_cons (by rfl) (part_of Tryd.isAgg3 rfl) (part_of Tryd.isAgg3 rfl) (eqi_int Tryd.underlying3) (eqf_cons (by rfl) (part_of Tryd.isAgg3 rfl) (part_of Tryd.isAgg3 rfl) (eqi_int Tryd.underlying3) (eqf_cons (by rfl) (part_of Tryd.isAgg3 rfl) (part_of Tryd.isAgg3 rfl) (eqi_int Tryd.underlying3) (eqf_cons (by rfl) (part_of Tryd.isAgg3 rfl) (part_of Tryd.isAgg3 rfl) (eqi_int Tryd.underlying3) (eqf_cons (by rfl) (part_of Tryd.isAgg3 rfl) (part_of Tryd.isAgg3 rfl) (eqi_int Tryd.underlying3) (eqf_cons (by rfl) (part_of Tryd.isAgg3 rfl) (part_of Tryd.isAgg3 rfl) (eqi_int Tryd.underlying3) (eqf_cons (by rfl) (part_of Tryd.isAgg3 rfl) (part_of Tryd.isAgg3 rfl) (eqi_int Tryd.underlying3) (eqf_cons (by rfl) (part_of Tryd.isAgg3 rfl) (part_of Tryd.isAgg3 rfl) (eqi_int Tryd.underlying3) (eqf_last (by rfl) (part_of Tryd.isAgg3 rfl) (part_of Tryd.isAgg3 rfl) (eqi_int Tryd.underlying3)))))))))))))))))) rfl rfl rfl rfl rfl ?_
 refine vq (q_and rfl rfl rfl) rfl ?_
 refine vm rfl rfl ?_
 refine simL_cut' 4 (S := Bool) (Unit) (fun s y => [(105, .bool s)]) (fun s y => [F]) ?_ ?_
 refine simL_caseb (fun hb58v => ?_) (fun hb59v => ?_)
 rw [hb58v]
 refine simL_valg (q_move rfl rfl) rfl rfl rfl rfl rfl rfl ?_
 refine simL_bind (fun s55v hs56v => ?_)
 refine simL_effg (re_call (vs := [.int .i64 s11v.2.2.2.2.2.2.2.2.2.2.2.2.2.2.2.2.2.2.2]) (cap := []) (A := []) (rst := [obj b14v 54 [.int .i64 s11v.1, .int .i64 s11v.2.1, .int .i64 s11v.2.2.1, .int .i64 s11v.2.2.2.1, .int .i64 s11v.2.2.2.2.1, .int .i64 s11v.2.2.2.2.2.1, .int .i64 s11v.2.2.2.2.2.2.1, .int .i64 s11v.2.2.2.2.2.2.2.1, .int .i64 s11v.2.2.2.2.2.2.2.2.1, .int .i64 s11v.2.2.2.2.2.2.2.2.2.1, .int .i64 s11v.2.2.2.2.2.2.2.2.2.2.1, .int .i64 s11v.2.2.2.2.2.2.2.2.2.2.2.1, .int .i64 s11v.2.2.2.2.2.2.2.2.2.2.2.2.1, .int .i64 s11v.2.2.2.2.2.2.2.2.2.2.2.2.2.1, .int .i64 s11v.2.2.2.2.2.2.2.2.2.2.2.2.2.2.1, .int .i64 s11v.2.2.2.2.2.2.2.2.2.2.2.2.2.2.2.1, .int .i64 s11v.2.2.2.2.2.2.2.2.2.2.2.2.2.2.2.2.1, .int .i64 s11v.2.2.2.2.2.2.2.2.2.2.2.2.2.2.2.2.2.1, .int .i64 s11v.2.2.2.2.2.2.2.2.2.2.2.2.2.2.2.2.2.2.1], obj b1v 54 [.int .i64 x0_0, .int .i64 x0_1, .int .i64 0, .int .i64 0, .int .i64 x0_4, .int .i64 x0_5, .int .i64 x0_6, .int .i64 x0_7, .int .i64 x0_8, .int .i64 x0_9, .int .i64 x0_10, .int .i64 x0_11, .int .i64 x0_12, .int .i64 x0_13, .int .i64 x0_14, .int .i64 x0_15, .int .i64 x0_16, .int .i64 x0_17, .int .i64 x0_18], F]) rfl rfl rfl rfl rfl rfl Tryd.call15 (.sel 0 rfl (.sel 0 rfl (.sel 0 rfl (.nil _)))) (synodref_Num.calls _ _ s11v.2.2.2.2.2.2.2.2.2.2.2.2.2.2.2.2.2.2.2 ) hs56v) rfl rfl rfl rfl rfl rfl ?_
 intro y57v
 refine simL_valg (q_eql rfl rfl rfl) rfl rfl rfl rfl rfl rfl ?_
 refine vq (q_pick rfl rfl rfl rfl rfl) rfl (simL_nil ?_)
 exact nrm_cut (s := decide (s55v = (0 : Int))) () ⟨rfl, trivial⟩ (.sel 2 rfl (.nil _))
 rw [hb59v]
 refine simL_skipd rfl rfl rfl rfl rfl rfl ?_
 refine simL_skipd rfl rfl rfl rfl rfl rfl ?_
 refine simL_skipd rfl rfl rfl rfl rfl rfl ?_
 refine vq (q_pick rfl rfl rfl rfl rfl) rfl (simL_nil ?_)
 exact nrm_cut (s := false) () ⟨rfl, trivial⟩ (.sel 2 rfl (.nil _))
 intro s53v y54v
 refine va rfl rfl (simL_nil (nrm_then (sim_rtn ?_)))
 exact rtn_fn () rfl rfl rfl (.sel 0 rfl (.nil _))
end Go.Proofs.YtbcnegennmpliaaDoor

namespace Go.Proofs.YtbcnegennmpliaaDoor
set_option linter.unusedVariables false
set_option linter.unusedSimpArgs false
open Go.RowKit

theorem w64 {n : Int} (h0 : -9223372036854775808 ≤ n) (h1 : n ≤ 9223372036854775807) : IntKind.i64.wrap n = n := by rw [IntKind.wrap_i64]; omega
theorem w8 {n : Int} (h0 : 0 ≤ n) (h1 : n < 256) : IntKind.u8.wrap n = n := by rw [IntKind.wrap_u8]; omega
end Go.Proofs.YtbcnegennmpliaaDoor

namespace Go.Proofs.YtbcnegennmpliaaDoor
set_option linter.unusedVariables false
set_option linter.unusedSimpArgs false
open Go.RowKit
abbrev hexs : List UInt8 := [48, 49, 50, 51, 52, 53, 54, 55, 56, 57, 97, 98, 99, 100, 101, 102]
def plainB (c : UInt8) : Bool := decide (32 ≤ c.toNat) && decide (c.toNat ≤ 126)
def bareB (c : UInt8) : Bool := plainB c && !decide (c.toNat = 32) && !decide (c.toNat = 34)
def hexI (c : UInt8) : Int := Lib.indexByte hexs c
def escB (a b : UInt8) : Option UInt8 := if 0 ≤ hexI a ∧ 0 ≤ hexI b ∧ plainB (byte (16 * hexI a + hexI b)) = false then some (byte (16 * hexI a + hexI b)) else none
def qd : List UInt8 → Option (List UInt8 × List UInt8)
  | [] => none
  | c :: t =>
    if c.toNat = 34 then some ([], t)
    else if plainB c = false then none
    else if c.toNat ≠ 92 then (qd t).map fun p => (c :: p.1, p.2)
    else match t with
      | [] => none
      | d :: t1 =>
        if d.toNat = 34 ∨ d.toNat = 92 then (qd t1).map fun p => (d :: p.1, p.2)
        else match t1 with
          | h :: l :: t2 => if d.toNat = 120 then (escB h l).bind fun x => (qd t2).map fun p => (x :: p.1, p.2) else none
          | _ => none
theorem qd_nil : qd [] = none := by rw [qd.eq_def]
theorem qd_cons (c : UInt8) (t : List UInt8) : qd (c :: t) =
    if c.toNat = 34 then some ([], t)
    else if plainB c = false then none
    else if c.toNat ≠ 92 then (qd t).map fun p => (c :: p.1, p.2)
    else match t with
      | [] => none
      | d :: t1 =>
        if d.toNat = 34 ∨ d.toNat = 92 then (qd t1).map fun p => (d :: p.1, p.2)
        else match t1 with
          | h :: l :: t2 => if d.toNat = 120 then (escB h l).bind fun x => (qd t2).map fun p => (x :: p.1, p.2) else none
          | _ => none := by rw [qd.eq_def]
theorem getD_at {α : Type} {l : List α} {i : Nat} {d : α} (h : i < l.length) : l.getD i d = l[i] := by
  rw [List.getD_eq_getElem?_getD, List.getElem?_eq_getElem h]; rfl
theorem u8_all {p : UInt8 → Bool} (h : ((List.range 256).all fun n => p (UInt8.ofNat n)) = true) (c : UInt8) : p c = true := by
  have := List.all_eq_true.1 h c.toNat (List.mem_range.2 (UInt8.toNat_lt c))
  simpa using this
theorem hexI_lt (c : UInt8) : -1 ≤ hexI c ∧ hexI c ≤ 15 := by
  have := u8_all (p := fun c => decide (-1 ≤ hexI c) && decide (hexI c ≤ 15)) (by decide +kernel) c
  simpa using this
theorem getD_cons_of {l : List UInt8} {i : Nat} (h : i < l.length) : l.drop i = l.getD i 0 :: l.drop (i + 1) := by
  rw [List.getD_eq_getElem?_getD, List.getElem?_eq_getElem h]
  exact List.drop_eq_getElem_cons h
theorem wi1 {n : Nat} (h : n < 2 ^ 61) : IntKind.i64.wrap ((n : Int) + 1) = ((n + 1 : Nat) : Int) := by rw [w64 (by omega) (by omega)]; simp
theorem wi3 {n : Nat} (h : n < 2 ^ 61) : IntKind.i64.wrap ((n : Int) + 3) = ((n + 3 : Nat) : Int) := by rw [w64 (by omega) (by omega)]; simp
theorem plain_f (c : UInt8) : text_plain.f (c.toNat : Int) = some (plainB c) := by
  unfold text_plain.f plainB
  congr 1
  rw [show decide ((32 : Int) ≤ (c.toNat : Int)) = decide (32 ≤ c.toNat) by congr 1; exact propext (by omega), show decide ((c.toNat : Int) ≤ 126) = decide (c.toNat ≤ 126) by congr 1; exact propext (by omega)]
theorem bare_f (c : UInt8) : text_bare.f (c.toNat : Int) = some (bareB c) := by
  unfold text_bare.f bareB
  rw [plain_f, Option.bind_some]
  congr 3
  · congr 2; exact propext (by omega)
  · congr 1; exact propext (by omega)
theorem hexw {a b : Int} (ha : 0 ≤ a ∧ a ≤ 15) (hb : 0 ≤ b ∧ b ≤ 15) : IntKind.u8.wrap (IntKind.i64.wrap ((IntKind.i64.wrap (16 * a)) + b)) = 16 * a + b := by
  rw [w64 (n := 16 * a) (by omega) (by omega), w64 (by omega) (by omega), w8 (by omega) (by omega)]
theorem byte_eq {n : Int} (h0 : 0 ≤ n) (h1 : n < 256) : ((byte n).toNat : Int) = n := byte_toNat h0 h1
theorem escaped_f (s : List UInt8) : text_escaped.f s = some (match s with
    | d :: h :: l :: _ => if d.toNat = 120 then (IntKind.u8.wrap (IntKind.i64.wrap ((IntKind.i64.wrap (16 * hexI h)) + hexI l)), (escB h l).isSome) else (0, false)
    | _ => (0, false)) := by
  unfold text_escaped.f
  rcases s with _ | ⟨d, _ | ⟨h, _ | ⟨l, t⟩⟩⟩
  · simp
  · simp
  · simp
  · have e1 : ¬ (((d :: h :: l :: t).length : Int) < 3) := by simp; omega
    rw [if_neg e1, if_pos (by simp; omega)]
    simp only [Option.bind_some, List.getD_cons_zero, show (0 : Int).toNat = 0 from rfl, show (1 : Int).toNat = 1 from rfl, show (2 : Int).toNat = 2 from rfl]
    by_cases hd : d.toNat = 120
    · rw [if_neg (by simp [hd]), if_pos (by simp; omega), if_pos hd]
      simp only [List.getD_cons_succ, List.getD_cons_zero]
      rw [strings_IndexByte.f, Option.bind_some, if_pos (by simp; omega), strings_IndexByte.f, Option.bind_some]
      have eh : ∀ c : UInt8, ((c.toNat : Int).toNat).toUInt8 = c := fun c => by simp
      rw [eh, eh]
      have ei : ∀ c : UInt8, Lib.indexByte [48, 49, 50, 51, 52, 53, 54, 55, 56, 57, 97, 98, 99, 100, 101, 102] c = hexI c := fun _ => rfl
      simp only [ei]
      unfold escB
      by_cases h1 : 0 ≤ hexI h ∧ 0 ≤ hexI l
      · have b1 := hexI_lt h
        have b2 := hexI_lt l
        rw [if_pos (by simp [h1])]
        rw [hexw ⟨h1.1, b1.2⟩ ⟨h1.2, b2.2⟩, ← byte_eq (n := 16 * hexI h + hexI l) (by omega) (by omega), plain_f, Option.bind_some, Option.bind_some]
        rw [byte_eq (by omega) (by omega)]
        cases plainB (byte (16 * hexI h + hexI l)) <;> simp [h1] <;> exact hexw ⟨h1.1, b1.2⟩ ⟨h1.2, b2.2⟩
      · rw [if_neg (by simpa using h1), Option.bind_some, if_neg (fun x => h1 ⟨x.1, x.2.1⟩)]
        rfl
    · rw [if_pos (by simp; omega), if_neg hd]
end Go.Proofs.YtbcnegennmpliaaDoor

namespace Go.Proofs.YtbcnegennmpliaaDoor
set_option linter.unusedVariables false
set_option linter.unusedSimpArgs false
open Go.RowKit
abbrev QR := Option (List UInt8 × List UInt8)
def qres (n : Nat) (b : List UInt8) (q : QR) : List UInt8 × Int := match q with
  | some p => (b ++ p.1, ((n - p.2.length : Nat) : Int))
  | none => ([], 0)
theorem qres_cons {n : Nat} {b : List UInt8} {c : UInt8} {q : QR} : qres n (b ++ [c]) q = qres n b (q.map fun p => (c :: p.1, p.2)) := by
  cases q <;> simp [qres]
theorem pre1 {l : List UInt8} {z : UInt8} : Lib.hasPrefix l [z] = (match l with | d :: _ => decide (d.toNat = z.toNat) | [] => false) := by
  cases l with
  | nil => rfl
  | cons d t =>
    show (z == d && _) = _
    rw [List.isPrefixOf, Bool.and_true]
    by_cases h : d = z
    · subst h; simp
    · rw [show (z == d) = false from by simpa using fun e => h e.symm]
      simp only [decide_eq_false (fun e => h (UInt8.toNat_inj.1 e)), Bool.false_and]
theorem drop_cons {x : List UInt8} {i : Nat} {d : UInt8} {t : List UInt8} (h : x.drop i = d :: t) : i < x.length ∧ x.drop (i + 1) = t := by
  have hl : i < x.length := by
    rcases Nat.lt_or_ge i x.length with hh | hh
    · exact hh
    · rw [List.drop_of_length_le hh] at h; cases h
  refine ⟨hl, ?_⟩
  rw [List.drop_eq_getElem_cons hl] at h
  exact (List.cons.inj h).2
theorem quoted_l0 {x : List UInt8} (hx : x.length < 2 ^ 40) : ∀ (k : Nat) (b : List UInt8) (i : Nat), x.length - i < k → i ≤ x.length → b.length ≤ i →
    orR (text_quoted.l0 x k b (i : Int)) (fun _ => some (([] : List UInt8), (0 : Int))) = some (qres x.length b (qd (x.drop i)))
  | 0, b, i, h, _, _ => by omega
  | k + 1, b, i, hk, hi, hb => by
    rw [text_quoted.l0]
    by_cases hlt : i < x.length
    · have ed := getD_cons_of hlt
      have e1 := wi1 (n := i) (by omega)
      simp only [Int.toNat_natCast]
      rw [if_pos (by omega), if_pos (by omega), e1, if_pos (by omega), ed]
      generalize hc : x.getD i 0 = c
      rw [hc] at ed
      have ecut : cut x ((i + 1 : Nat) : Int) (x.length : Int) = x.drop (i + 1) := by rw [cut_to]; simp
      simp only [ecut]
      by_cases h34 : c.toNat = 34
      · rw [if_pos (by omega), qd_cons, if_pos h34]
        simp only [orR, qres, List.append_nil]
        have : (x.drop (i + 1)).length = x.length - (i + 1) := by simp
        rw [this]
        congr 3
        omega
      · rw [if_neg (by omega), plain_f, Option.bind_some, qd_cons, if_neg h34]
        by_cases hp : plainB c = false
        · rw [if_pos (by simp [hp]), if_pos hp]; rfl
        · rw [if_neg (by simp [hp]), if_neg hp]
          by_cases h92 : c.toNat = 92
          · have n92 : ¬ (c.toNat ≠ 92) := by simp [h92]
            rw [if_pos (show (c.toNat : Int) = 92 by omega), if_neg n92]
            simp only [strings_HasPrefix.f, Option.bind_some, pre1]
            rcases hd : x.drop (i + 1) with _ | ⟨d, t1⟩
            · simp only [Bool.false_eq_true, if_false, Option.bind_some, escaped_f]
              rfl
            · obtain ⟨hl1, ht1⟩ := drop_cons hd
              simp only []
              by_cases hq : d.toNat = 34 ∨ d.toNat = 92
              · rw [if_pos hq]
                have e3 : (if decide (d.toNat = (34 : UInt8).toNat) = true then some true else some (decide (d.toNat = (92 : UInt8).toNat))) = some true := by
                  rcases hq with hq | hq
                  · rw [if_pos (by simp [hq])]
                  · rw [if_neg (by simp [hq])]; simp [hq]
                rw [e3, Option.bind_some, if_pos rfl, if_pos (by simp <;> omega)]
                simp only [show (0 : Int).toNat = 0 from rfl, List.getD_cons_zero]
                rw [if_pos (by simp <;> omega)]
                have e2 := wi1 (n := i + 1) (by omega)
                rw [e2, quoted_l0 hx k (b ++ [d]) (i + 1 + 1) (by omega) (by omega) (by simp <;> omega), ht1, qres_cons]
              · rw [if_neg hq]
                have e3 : (if decide (d.toNat = (34 : UInt8).toNat) = true then some true else some (decide (d.toNat = (92 : UInt8).toNat))) = some false := by
                  rw [if_neg (by simp; exact fun h => hq (.inl h))]
                  congr 1
                  simp
                  exact fun h => hq (.inr h)
                rw [e3, Option.bind_some, if_neg (by simp), escaped_f, Option.bind_some]
                rcases t1 with _ | ⟨h, _ | ⟨l, t2⟩⟩
                · simp [orR, qres]
                · simp [orR, qres]
                · obtain ⟨hl2, ht2⟩ := drop_cons ht1
                  obtain ⟨hl3, ht3⟩ := drop_cons ht2
                  simp only []
                  by_cases hxd : d.toNat = 120
                  · rw [if_pos hxd, if_pos hxd]
                    unfold escB
                    by_cases h1 : 0 ≤ hexI h ∧ 0 ≤ hexI l ∧ plainB (byte (16 * hexI h + hexI l)) = false
                    · have b1 := hexI_lt h
                      have b2 := hexI_lt l
                      rw [if_pos h1]
                      simp only [Option.isSome_some, Bool.not_true, Bool.false_eq_true, if_false, Option.bind_some]
                      rw [hexw ⟨h1.1, b1.2⟩ ⟨h1.2.1, b2.2⟩, if_pos (by omega), if_pos (by simp <;> omega)]
                      have e2 := wi3 (n := i) (by omega)
                      have e4 := wi1 (n := i + 3) (by omega)
                      rw [e2, e4, quoted_l0 hx k _ (i + 3 + 1) (by omega) (by omega) (by simp <;> omega), ht3, qres_cons]
                    · rw [if_neg h1]
                      simp [orR, qres]
                  · rw [if_neg hxd, if_neg hxd]
                    simp [orR, qres]
          · rw [if_neg (show ¬ (c.toNat : Int) = 92 by omega), if_pos h92, if_pos (by simp <;> omega), quoted_l0 hx k _ (i + 1) (by omega) (by omega) (by simp <;> omega), qres_cons]
    · rw [if_neg (by omega)]
      have : x.drop i = [] := List.drop_of_length_le (by omega)
      rw [this, qd_nil]
      rfl
theorem quoted_f {x : List UInt8} {k : Nat} (hx : x.length < 2 ^ 40) (hk : x.length < k) : text_quoted.f k x = some (qres x.length [] (qd x)) := by
  have := quoted_l0 hx k [] 0 (by omega) (by omega) (by simp)
  simpa [text_quoted.f] using this
/-! ### The document's -/
end Go.Proofs.YtbcnegennmpliaaDoor

namespace Go.Proofs.YtbcnegennmpliaaDoor
set_option linter.unusedVariables false
set_option linter.unusedSimpArgs false
open Go.RowKit
def endB (r : List UInt8) : Bool := match r with
  | [] => true
  | c :: _ => decide (c.toNat = 32)
def wd : Nat → List UInt8 → Option (List (List UInt8))
  | _, [] => some []
  | 0, _ => none
  | n + 1, c :: t =>
    if c.toNat = 32 then wd n t
    else if c.toNat = 34 then (qd t).bind fun p => if endB p.2 then (wd n p.2).map fun l => p.1 :: l else none
    else if endB ((c :: t).dropWhile bareB) then (wd n ((c :: t).dropWhile bareB)).map fun l => (c :: t).takeWhile bareB :: l else none
def wres (out : List (List UInt8)) (q : Option (List (List UInt8))) : List (List UInt8) × Int := match q with
  | some l => (out ++ l, 0)
  | none => ([], 4)
theorem wres_cons {out : List (List UInt8)} {c : List UInt8} {q : Option (List (List UInt8))} : wres (out ++ [c]) q = wres out (q.map fun l => c :: l) := by
  cases q <;> simp [wres]
def wordsB (x : List UInt8) : List (List UInt8) × Int := if 4096 < x.length then ([], 3) else wres [] (wd (x.length + 1) x)
theorem qd_suf : ∀ (n : Nat) (t a r : List UInt8), t.length ≤ n → qd t = some (a, r) → ∃ p, t = p ++ r ∧ a.length < p.length
  | _, [], a, r, _, h => by rw [qd_nil] at h; cases h
  | 0, c :: t, a, r, hn, _ => by simp at hn
  | n + 1, c :: t, a, r, hn, h => by
    have hn' : t.length ≤ n := by simpa using hn
    rw [qd_cons] at h
    split at h
    · cases h; exact ⟨[c], rfl, by simp⟩
    split at h
    · cases h
    split at h
    · cases hq : qd t with
      | none => rw [hq] at h; cases h
      | some p =>
        rw [hq] at h
        obtain ⟨q, e1, e2⟩ := qd_suf n t p.1 p.2 hn' hq
        simp only [Option.map_some, Option.some.injEq, Prod.mk.injEq] at h
        obtain ⟨rfl, rfl⟩ := h
        exact ⟨c :: q, by rw [List.cons_append, ← e1], by simp; omega⟩
    · rcases t with _ | ⟨d, t1⟩
      · cases h
      · simp only [] at h
        have hn1 : t1.length ≤ n := by simp at hn'; omega
        split at h
        · cases hq : qd t1 with
          | none => rw [hq] at h; cases h
          | some p =>
            rw [hq] at h
            obtain ⟨q, e1, e2⟩ := qd_suf n t1 p.1 p.2 hn1 hq
            simp only [Option.map_some, Option.some.injEq, Prod.mk.injEq] at h
            obtain ⟨rfl, rfl⟩ := h
            exact ⟨c :: d :: q, by rw [List.cons_append, List.cons_append, ← e1], by simp; omega⟩
        · rcases t1 with _ | ⟨h1, _ | ⟨l1, t2⟩⟩
          · cases h
          · cases h
          · simp only [] at h
            split at h
            · cases he : escB h1 l1 with
              | none => rw [he] at h; cases h
              | some x =>
                rw [he, Option.bind_some] at h
                cases hq : qd t2 with
                | none => rw [hq] at h; cases h
                | some p =>
                  rw [hq] at h
                  obtain ⟨q, e1, e2⟩ := qd_suf n t2 p.1 p.2 (by simp at hn1; omega) hq
                  simp only [Option.map_some, Option.some.injEq, Prod.mk.injEq] at h
                  obtain ⟨rfl, rfl⟩ := h
                  exact ⟨c :: d :: h1 :: l1 :: q, by simp only [List.cons_append]; rw [← e1], by simp; omega⟩
            · cases h
theorem run_l1 {x : List UInt8} (hx : x.length < 2 ^ 40) : ∀ (k i : Nat), x.length - i < k → i ≤ x.length → text_Words.l1 x k (i : Int) = some ((i + ((x.drop i).takeWhile bareB).length : Nat) : Int)
  | 0, i, h, _ => by omega
  | k + 1, i, hk, hi => by
    rw [text_Words.l1]
    by_cases hlt : i < x.length
    · have ed := getD_cons_of hlt
      simp only [Int.toNat_natCast]
      rw [if_pos (by omega), if_pos (by omega), bare_f, Option.bind_some, Option.bind_some, wi1 (by omega), ed, List.takeWhile_cons]
      cases hb : bareB (x.getD i 0) with
      | true =>
        rw [if_pos rfl, if_pos rfl, run_l1 hx k (i + 1) (by omega) (by omega)]
        simp; omega
      | false => simp
    · rw [if_neg (by omega), Option.bind_some, if_neg (by simp), List.drop_of_length_le (by omega)]
      simp
theorem tw_len (p : UInt8 → Bool) : ∀ l : List UInt8, (l.takeWhile p).length + (l.dropWhile p).length = l.length
  | [] => rfl
  | c :: l => by
    have := tw_len p l
    rw [List.takeWhile_cons, List.dropWhile_cons]
    cases p c <;> simp <;> omega
theorem drop_tw (p : UInt8 → Bool) : ∀ l : List UInt8, l.drop (l.takeWhile p).length = l.dropWhile p
  | [] => rfl
  | c :: l => by
    have := drop_tw p l
    rw [List.takeWhile_cons, List.dropWhile_cons]
    cases p c <;> simp [this]
theorem take_tw (p : UInt8 → Bool) : ∀ l : List UInt8, l.take (l.takeWhile p).length = l.takeWhile p
  | [] => rfl
  | c :: l => by
    have := take_tw p l
    rw [List.takeWhile_cons]
    cases p c <;> simp [this]
theorem endB_at {x : List UInt8} {i : Nat} (hi : i ≤ x.length) : (if (i : Int) < (x.length : Int) then (if 0 ≤ (i : Int) ∧ (i : Int) < (x.length : Int) then (some (!decide (((x.getD i 0).toNat : Int) = (32 : Int)))) else none) else (some false)) = some (!endB (x.drop i)) := by
  by_cases hlt : i < x.length
  · rw [if_pos (by omega), if_pos (by omega), getD_cons_of hlt, endB]
    congr 3; exact propext (by omega)
  · rw [if_neg (by omega), List.drop_of_length_le (by omega)]; rfl
theorem endB_at3 {x : List UInt8} {i : Nat} (hi : i ≤ x.length) : ((if (i : Int) < (x.length : Int) then (if 0 ≤ (i : Int) ∧ (i : Int) < (x.length : Int) then (some (true, true, !decide (((x.getD i 0).toNat : Int) = (32 : Int)))) else none) else (some (false, false, false))).bind fun s => some s.2.2) = some (!endB (x.drop i)) := by
  by_cases hlt : i < x.length
  · rw [if_pos (by omega), if_pos (by omega), getD_cons_of hlt, endB]
    simp only [Option.bind_some]
    congr 3; exact propext (by omega)
  · rw [if_neg (by omega), List.drop_of_length_le (by omega)]; rfl
theorem wadd {n m : Nat} (h : n + m < 2 ^ 61) : IntKind.i64.wrap ((n : Int) + (m : Int)) = ((n + m : Nat) : Int) := by rw [w64 (by omega) (by omega)]; simp
theorem w1i {m : Nat} (h : m < 2 ^ 61) : IntKind.i64.wrap (1 + (m : Int)) = ((m + 1 : Nat) : Int) := by rw [w64 (by omega) (by omega)]; simp; omega
theorem wd_nil (n : Nat) : wd n [] = some [] := by cases n <;> rfl
theorem words_l0 {x : List UInt8} (hx : x.length ≤ 4096) : ∀ (k n : Nat) (out : List (List UInt8)) (i : Nat), x.length - i < n → x.length - i + x.length + 1 < k → i ≤ x.length → out.length ≤ i →
    orR (text_Words.l0 x k out (i : Int)) (fun s => some (s, (0 : Int))) = some (wres out (wd n (x.drop i)))
  | 0, n, out, i, _, h, _, _ => by omega
  | k + 1, 0, out, i, h, _, _, _ => by omega
  | k + 1, n + 1, out, i, hn, hk, hi, ho => by
    rw [text_Words.l0]
    by_cases hlt : i < x.length
    · have ed := getD_cons_of hlt
      have e1 := wi1 (n := i) (by omega)
      simp only [Int.toNat_natCast]
      rw [if_pos (by omega), if_pos (by omega), e1, ed]
      obtain ⟨c, hc⟩ : ∃ c, x.getD i 0 = c := ⟨_, rfl⟩
      simp only [hc] at ed ⊢
      have ecut : cut x ((i + 1 : Nat) : Int) (x.length : Int) = x.drop (i + 1) := by rw [cut_to]; simp
      simp only [ecut]
      rw [wd]
      by_cases h32 : c.toNat = 32
      · rw [if_pos (show (c.toNat : Int) = 32 by omega), if_pos h32, words_l0 hx k n out (i + 1) (by omega) (by omega) (by omega) (by omega)]
      · rw [if_neg (show ¬ (c.toNat : Int) = 32 by omega), if_neg h32, if_pos (by omega)]
        by_cases h34 : c.toNat = 34
        · rw [if_pos (show (c.toNat : Int) = 34 by omega), if_pos h34, if_pos (by omega), quoted_f (by simp; omega) (by simp; omega), Option.bind_some]
          cases hq : qd (x.drop (i + 1)) with
          | none =>
            simp only [qres, Option.bind_none]
            rfl
          | some p =>
            obtain ⟨a, r⟩ := p
            obtain ⟨q, eq, ha⟩ := qd_suf _ _ a r (Nat.le_refl _) hq
            have hlen := congrArg List.length eq
            simp only [List.length_drop, List.length_append] at hlen
            have er : (x.drop (i + 1)).length - r.length = q.length := by simp; omega
            have edr : x.drop (i + (q.length + 1)) = r := by
              rw [show i + (q.length + 1) = (i + 1) + q.length by omega, ← List.drop_drop, eq, List.drop_left]
            simp only [qres, List.nil_append, Option.bind_some, er]
            rw [if_neg (by omega), w1i (by omega), wadd (by omega)]
            simp only [Int.toNat_natCast]
            rw [endB_at3 (by omega), Option.bind_some, edr]
            cases he : endB r with
            | false => rfl
            | true =>
              rw [if_neg (by simp), if_pos (by simp; omega), if_pos rfl, words_l0 hx k n _ (i + (q.length + 1)) (by omega) (by omega) (by omega) (by simp; omega), edr, wres_cons]
        · rw [if_neg (show ¬ (c.toNat : Int) = 34 by omega), if_neg h34, run_l1 (by omega) k i (by omega) hi, Option.bind_some, ed]
          have tl := tw_len bareB (c :: x.drop (i + 1))
          have hl2 : (c :: x.drop (i + 1)).length = x.length - i := by rw [← ed]; simp
          rw [hl2] at tl
          have edr : x.drop (i + ((c :: x.drop (i + 1)).takeWhile bareB).length) = (c :: x.drop (i + 1)).dropWhile bareB := by
            rw [← List.drop_drop, ed, drop_tw]
          simp only [Int.toNat_natCast]
          rw [endB_at (by omega), Option.bind_some, edr]
          cases he : endB ((c :: x.drop (i + 1)).dropWhile bareB) with
          | false => rfl
          | true =>
            have hpos : 0 < ((c :: x.drop (i + 1)).takeWhile bareB).length := by
              rw [List.takeWhile_cons]
              cases hb : bareB c with
              | true => simp
              | false =>
                rw [List.dropWhile_cons, hb] at he
                simp [endB, h32] at he
            have ecw : cut x (i : Int) ((i + ((c :: x.drop (i + 1)).takeWhile bareB).length : Nat) : Int) = (c :: x.drop (i + 1)).takeWhile bareB := by
              unfold cut
              simp only [Int.toNat_natCast]
              rw [List.drop_take, ed, Nat.add_sub_cancel_left]
              exact take_tw bareB (c :: x.drop (i + 1))
            rw [if_neg (by simp), if_pos (by omega), if_pos (by simp; omega), if_pos rfl, words_l0 hx k n _ _ (by omega) (by omega) (by omega) (by simp; omega), edr, ecw, wres_cons]
    · rw [if_neg (by omega), List.drop_of_length_le (by omega), wd_nil]
      simp [orR, wres]
theorem words_f {x : List UInt8} {k : Nat} (hk : 2 * x.length + 1 < k) : text_Words.f k x = some (wordsB x) := by
  unfold text_Words.f wordsB
  by_cases h : 4096 < x.length
  · rw [if_pos (by omega), if_pos h]
  · rw [if_neg (by omega), if_neg h]
    have := words_l0 (x := x) (by omega) k (x.length + 1) [] 0 (by omega) (by omega) (by omega) (by simp)
    simpa using this
end Go.Proofs.YtbcnegennmpliaaDoor

namespace Go.Proofs.YtbcnegennmpliaaDoor
set_option linter.unusedVariables false
set_option linter.unusedSimpArgs false
open Go.RowKit
def encC (c : UInt8) : List UInt8 :=
  if c.toNat = 34 ∨ c.toNat = 92 then [92, c]
  else if plainB c then [c]
  else [92, 120, hexs.getD (c.toNat / 16) 0, hexs.getD (c.toNat % 16) 0]
def headB (s : List UInt8) : Bool := match s with
  | [] => false
  | c :: _ => !decide (c.toNat = 35)
def bareW (s : List UInt8) : Bool := headB s && s.all bareB
def quoteB (s : List UInt8) : List UInt8 := if bareW s then s else 34 :: (s.flatMap encC ++ [34])
end Go.Proofs.YtbcnegennmpliaaDoor

namespace Go.Proofs.YtbcnegennmpliaaDoor
set_option linter.unusedVariables false
set_option linter.unusedSimpArgs false
open Go.RowKit
def dg (c : UInt8) : Prop := 48 ≤ c.toNat ∧ c.toNat ≤ 57
def fold10 (a : Nat) (l : List UInt8) : Nat := l.foldl (fun a c => a * 10 + (c.toNat - 48)) a
theorem fold10_cons (a : Nat) (c : UInt8) (l : List UInt8) : fold10 a (c :: l) = fold10 (a * 10 + (c.toNat - 48)) l := by simp only [fold10, List.foldl_cons]
theorem fold10_snoc (a : Nat) (c : UInt8) (l : List UInt8) : fold10 a (l ++ [c]) = fold10 a l * 10 + (c.toNat - 48) := by simp [fold10, List.foldl_append]
theorem fold10_ge : ∀ (l : List UInt8) (a : Nat), a ≤ fold10 a l
  | [], a => Nat.le_refl _
  | c :: l, a => by
    have := fold10_ge l (a * 10 + (c.toNat - 48))
    rw [fold10_cons]; omega
theorem u8_of {n : Nat} (h : n < 256) : (UInt8.ofNat n).toNat = n := by simp; omega
theorem dec_spec (u : Nat) : (∀ c, c ∈ Lib.decDigits u → dg c) ∧ fold10 0 (Lib.decDigits u) = u ∧ Lib.decDigits u ≠ [] ∧ (1 ≤ u → ∀ c t, Lib.decDigits u = c :: t → c.toNat ≠ 48) := by
  induction u using Nat.strongRecOn with
  | _ u ih =>
    by_cases h : u < 10
    · rw [Lib.decDigits, dif_pos h]
      have e : (UInt8.ofNat (48 + u)).toNat = 48 + u := u8_of (by omega)
      refine ⟨fun c hc => ?_, ?_, by simp, fun h1 c t e1 => ?_⟩
      · rw [List.mem_singleton.1 hc, dg, e]; omega
      · simp only [fold10, List.foldl_cons, List.foldl_nil]; rw [e]; omega
      · rw [← (List.cons.inj e1).1, e]; omega
    · rw [Lib.decDigits, dif_neg h]
      obtain ⟨h1, h2, h3, h4⟩ := ih (u / 10) (by omega)
      have e : (UInt8.ofNat (48 + u % 10)).toNat = 48 + u % 10 := u8_of (by omega)
      refine ⟨fun c hc => ?_, ?_, by simp, fun _ c t e1 => ?_⟩
      · rcases List.mem_append.1 hc with hc | hc
        · exact h1 c hc
        · rw [List.mem_singleton.1 hc, dg, e]; omega
      · rw [fold10_snoc, h2, e]; omega
      · cases hd : Lib.decDigits (u / 10) with
        | nil => exact absurd hd h3
        | cons d r =>
          rw [hd, List.cons_append] at e1
          rw [← (List.cons.inj e1).1]
          exact h4 (by omega) d r hd
theorem dec_len : ∀ (k u : Nat), u < 10 ^ (k + 1) → (Lib.decDigits u).length ≤ k + 1
  | 0, u, h => by rw [Lib.decDigits, dif_pos (by simpa using h)]; simp
  | k + 1, u, h => by
    rw [Lib.decDigits]
    split
    · simp
    · have := dec_len k (u / 10) (by rw [Nat.pow_succ] at h; omega)
      simp; omega
def canon (x : List UInt8) (n : Int) : Prop := x = Lib.itoa n ∧ -4611686018427387904 ≤ n ∧ n ≤ 4611686018427387904
theorem itoa_pos {n : Int} (h : 0 ≤ n) : Lib.itoa n = Lib.decDigits n.toNat := by unfold Lib.itoa; rw [if_neg (by omega)]
theorem itoa_neg' {n : Int} (h : n < 0) : Lib.itoa n = 45 :: Lib.decDigits n.natAbs := by unfold Lib.itoa; rw [if_pos h]
theorem dec_head {u : Nat} {c : UInt8} {t : List UInt8} (h : Lib.decDigits u = c :: t) : dg c := (dec_spec u).1 c (by rw [h]; simp)
theorem itoa_inj {m n : Int} (h : Lib.itoa m = Lib.itoa n) : m = n := by
  by_cases hm : m < 0 <;> by_cases hn : n < 0
  · rw [itoa_neg' hm, itoa_neg' hn] at h
    have e := (List.cons.inj h).2
    have := (dec_spec m.natAbs).2.1
    rw [e, (dec_spec n.natAbs).2.1] at this
    omega
  · rw [itoa_neg' hm, itoa_pos (by omega)] at h
    have := dec_head h.symm
    simp [dg] at this
  · rw [itoa_neg' hn, itoa_pos (by omega)] at h
    have := dec_head h
    simp [dg] at this
  · rw [itoa_pos (by omega), itoa_pos (by omega)] at h
    have := (dec_spec m.toNat).2.1
    rw [h, (dec_spec n.toNat).2.1] at this
    omega
theorem canon_inj {x : List UInt8} {m n : Int} (h : canon x m) (k : canon x n) : m = n := itoa_inj (h.1.symm.trans k.1)
theorem parseM_ok : ∀ (l : List UInt8) (a : Nat), (∀ c, c ∈ l → dg c) → fold10 a l ≤ 4611686018427387904 → Lib.parseUintM (2 ^ 64 - 1) a l = .ok (fold10 a l)
  | [], a, _, _ => rfl
  | c :: l, a, hd, hf => by
    have hc := hd c (by simp)
    rw [fold10_cons] at hf ⊢
    have := fold10_ge l (a * 10 + (c.toNat - 48))
    rw [Lib.parseUintM, if_pos (show 48 ≤ c.toNat ∧ c.toNat ≤ 57 from hc), if_neg (by omega), if_neg (by omega)]
    exact parseM_ok l _ (fun x hx => hd x (List.mem_cons_of_mem _ hx)) hf
theorem parse_itoa {n : Int} (h0 : -4611686018427387904 ≤ n) (h1 : n ≤ 4611686018427387904) : parseV (Lib.itoa n) = (n, true) := by
  have key : Lib.parseIntB 64 (Lib.itoa n) = .ok n := by
    by_cases hn : n < 0
    · rw [itoa_neg' hn]
      obtain ⟨s1, s2, s3, s4⟩ := dec_spec n.natAbs
      unfold Lib.parseIntB
      simp only []
      rw [if_pos (by right; decide), Lib.parseUintB, if_neg s3, parseM_ok _ _ s1 (by rw [s2]; omega), s2]
      simp only []
      rw [if_neg (by simp), if_neg (by simp; omega), if_pos (by decide)]
      congr 1; omega
    · rw [itoa_pos (by omega)]
      obtain ⟨s1, s2, s3, s4⟩ := dec_spec n.toNat
      cases hd : Lib.decDigits n.toNat with
      | nil => exact absurd hd s3
      | cons c t =>
        have hc := dec_head hd
        unfold Lib.parseIntB
        simp only []
        have e1 : ¬ (c.toNat = 43 ∨ c.toNat = 45) := by have := hc.1; omega
        have e2 : ¬ (c.toNat = 45) := by have := hc.1; omega
        rw [if_neg e1, Lib.parseUintB, if_neg (by simp), ← hd, parseM_ok _ _ s1 (by rw [s2]; omega), s2]
        simp only []
        rw [if_neg (by simp; omega), if_neg (fun h => e2 h.1), if_neg e2]
        congr 1; omega
  unfold parseV
  rw [key]
theorem dg_mem {c : UInt8} (h : dg c) : ([48, 49, 50, 51, 52, 53, 54, 55, 56, 57] : List UInt8).contains c = true := by
  have := u8_all (p := fun c => !(decide (48 ≤ c.toNat) && decide (c.toNat ≤ 57)) || ([48, 49, 50, 51, 52, 53, 54, 55, 56, 57] : List UInt8).contains c) (by decide +kernel) c
  simp only [decide_eq_true h.1, decide_eq_true h.2, Bool.and_self, Bool.not_true, Bool.false_or] at this
  exact this
theorem trim_digits {l : List UInt8} (h : ∀ c, c ∈ l → dg c) : Lib.trimS l [48, 49, 50, 51, 52, 53, 54, 55, 56, 57] = [] := by
  have e : Lib.trimRightS l [48, 49, 50, 51, 52, 53, 54, 55, 56, 57] = l.take 0 := Lib.trimRightS_take l _ 0 (by omega) (fun j b _ hb => dg_mem (h b (List.mem_of_getElem? hb))) (fun b hb => absurd hb (by omega))
  unfold Lib.trimS
  rw [e, List.take_zero]
  rfl
theorem trimP_itoa (n : Int) : ∀ c, c ∈ Lib.trimPrefix (Lib.itoa n) [45] → dg c := by
  intro c hc
  by_cases hn : n < 0
  · rw [itoa_neg' hn] at hc
    unfold Lib.trimPrefix at hc
    rw [pre1] at hc
    simp at hc
    exact (dec_spec _).1 c hc
  · rw [itoa_pos (by omega)] at hc
    obtain ⟨s1, s2, s3, s4⟩ := dec_spec n.toNat
    unfold Lib.trimPrefix at hc
    split at hc
    · exact s1 c (List.mem_of_mem_drop hc)
    · exact s1 c hc
theorem number_f {x : List UInt8} (hx : x.length ≤ 2 ^ 40) : ∃ n ok, text_number.f x = some (n, ok) ∧ (ok = true ↔ ∃ m, canon x m) ∧ (ok = true → canon x n) := by
  have ht : (Lib.trimPrefix x [45]).length ≤ x.length := by unfold Lib.trimPrefix; split <;> simp
  have hdig : ∀ b ∈ ([48, 49, 50, 51, 52, 53, 54, 55, 56, 57] : List UInt8), b.toNat < 128 := by decide
  unfold text_number.f
  rw [strings_TrimPrefix.f, Option.bind_some, strconv_ParseInt.f, if_pos ⟨rfl, rfl, by omega⟩, Option.bind_some]
  obtain ⟨v, hv⟩ : ∃ v, parseV x = v := ⟨_, rfl⟩
  rw [hv]
  by_cases hb : ((v.2 && (decide ((-4611686018427387904) ≤ v.1))) && (decide (v.1 ≤ (4611686018427387904 : Int)))) = true
  · have hb' := hb
    simp only [Bool.and_eq_true, decide_eq_true_eq] at hb'
    rw [if_pos hb, strings_Trim.f, if_pos ⟨by omega, by simp, hdig⟩, Option.bind_some, Option.bind_some]
    by_cases htr : Lib.trimS (Lib.trimPrefix x [45]) [48, 49, 50, 51, 52, 53, 54, 55, 56, 57] = []
    · rw [if_pos (by simpa using htr), strconv_FormatInt.f, if_pos ⟨rfl, by omega, by omega⟩, Option.bind_some, Option.bind_some]
      refine ⟨_, _, rfl, ⟨fun h => ⟨v.1, ?_⟩, fun ⟨m, hm⟩ => ?_⟩, fun h => ?_⟩
      · exact ⟨(of_decide_eq_true h).symm, hb'.1.2, hb'.2⟩
      · have := parse_itoa hm.2.1 hm.2.2
        rw [← hm.1, hv] at this
        rw [decide_eq_true_eq, this]
        exact hm.1.symm
      · exact ⟨(of_decide_eq_true h).symm, hb'.1.2, hb'.2⟩
    · rw [if_neg (by simpa using htr), Option.bind_some]
      refine ⟨_, _, rfl, ⟨fun h => (by cases h), fun ⟨m, hm⟩ => ?_⟩, fun h => (by cases h)⟩
      exact absurd (by rw [hm.1]; exact trim_digits (trimP_itoa m)) htr
  · rw [if_neg hb, Option.bind_some, if_neg Bool.false_ne_true, Option.bind_some]
    refine ⟨_, _, rfl, ⟨fun h => (by cases h), fun ⟨m, hm⟩ => ?_⟩, fun h => (by cases h)⟩
    refine absurd ?_ hb
    have := parse_itoa hm.2.1 hm.2.2
    rw [← hm.1, hv] at this
    rw [this]
    simp [hm.2.1, hm.2.2]
/-! ### The document's -/
end Go.Proofs.YtbcnegennmpliaaDoor

namespace Go.Proofs.YtbcnegennmpliaaDoor
set_option linter.unusedVariables false
set_option linter.unusedSimpArgs false
open Go.RowKit
theorem ff {p : Prop} (h : false = true) : p := by cases h
end Go.Proofs.YtbcnegennmpliaaDoor

namespace Go.Proofs.YtbcnegennmpliaaDoor
set_option linter.unusedVariables false
set_option linter.unusedSimpArgs false
open Go.RowKit
theorem first_eq (m : Nat) : synodlaw17_first.f (m + 60) = some true := by kernel_rfl
end Go.Proofs.YtbcnegennmpliaaDoor

namespace Go.Proofs.YtbcnegennmpliaaDoor
set_option linter.unusedVariables false
set_option linter.unusedSimpArgs false
open Go.RowKit
theorem esc_dig (c : UInt8) : escB (hexs.getD (c.toNat / 16) 0) (hexs.getD (c.toNat % 16) 0) = if plainB c then none else some c := by
  have := u8_all (p := fun c => decide (escB (hexs.getD (c.toNat / 16) 0) (hexs.getD (c.toNat % 16) 0) = if plainB c then none else some c)) (by decide +kernel) c
  simpa using this
theorem qd_enc1 (c : UInt8) (t : List UInt8) : qd (encC c ++ t) = (qd t).map fun p => (c :: p.1, p.2) := by
  unfold encC
  by_cases h : c.toNat = 34 ∨ c.toNat = 92
  · rw [if_pos h]
    simp only [List.cons_append, List.nil_append]
    rw [qd_cons, if_neg (by decide), if_neg (by decide), if_neg (by decide)]
    simp only []
    rw [if_pos h]
  · rw [if_neg h]
    cases hp : plainB c with
    | true =>
      simp only [if_true, List.cons_append, List.nil_append]
      rw [qd_cons, if_neg (fun e => h (.inl e)), if_neg (by simp [hp]), if_pos (fun e => h (.inr e))]
    | false =>
      simp only [Bool.false_eq_true, if_false, List.cons_append, List.nil_append]
      rw [qd_cons, if_neg (by decide), if_neg (by decide), if_neg (by decide)]
      simp only []
      rw [if_neg (by decide), if_pos (by decide), esc_dig, hp]
      rfl
theorem qd_enc : ∀ (s t : List UInt8), qd (s.flatMap encC ++ 34 :: t) = some (s, t)
  | [], t => by
    rw [List.flatMap_nil, List.nil_append, qd_cons, if_pos (by decide)]
  | c :: s, t => by
    rw [List.flatMap_cons, List.append_assoc, qd_enc1, qd_enc s t]
    rfl
theorem bare_ne {c : UInt8} (h : bareB c = true) : c.toNat ≠ 32 ∧ c.toNat ≠ 34 := by
  simp only [bareB, Bool.and_eq_true, Bool.not_eq_true', decide_eq_false_iff_not] at h
  exact ⟨h.1.2, h.2⟩
theorem tw_all {p : UInt8 → Bool} : ∀ {s t : List UInt8}, s.all p = true → (∀ c r, t = c :: r → p c = false) → (s ++ t).takeWhile p = s ∧ (s ++ t).dropWhile p = t
  | [], [], _, _ => ⟨rfl, rfl⟩
  | [], c :: r, _, h => by
    have := h c r rfl
    simp [this]
  | c :: s, t, hs, ht => by
    rw [List.all_cons, Bool.and_eq_true] at hs
    have ih := tw_all (p := p) hs.2 ht
    rw [List.cons_append, List.takeWhile_cons, List.dropWhile_cons, hs.1]
    simp [ih.1, ih.2]
theorem wd_quote (s r : List UInt8) (hr : endB r = true) (n : Nat) : wd (n + 1) (quoteB s ++ r) = (wd n r).map fun l => s :: l := by
  unfold quoteB
  by_cases hb : bareW s = true
  · rw [if_pos hb]
    unfold bareW at hb
    rw [Bool.and_eq_true] at hb
    cases s with
    | nil => exact absurd hb.1 (by decide)
    | cons c t =>
      have hc : bareB c = true := by have := hb.2; rw [List.all_cons, Bool.and_eq_true] at this; exact this.1
      have hne := bare_ne hc
      have hrr : ∀ d q, r = d :: q → bareB d = false := fun d q e => by
        subst e
        simp only [endB, decide_eq_true_eq] at hr
        have : d = 32 := UInt8.toNat_inj.1 hr
        subst this
        decide
      have tw := tw_all (p := bareB) hb.2 hrr
      rw [List.cons_append] at tw ⊢
      rw [wd, if_neg hne.1, if_neg hne.2, tw.1, tw.2, if_pos hr]
  · rw [if_neg hb, List.cons_append, wd, if_neg (by decide), if_pos (by decide), List.append_assoc]
    show (qd (s.flatMap encC ++ (34 :: r))).bind _ = _
    rw [qd_enc]
    simp [hr]
theorem wd_blank (n : Nat) (t : List UInt8) : wd (n + 1) (32 :: t) = wd n t := by rw [wd, if_pos (by decide)]
theorem wd_more : ∀ (n m : Nat) (x : List UInt8), x.length < n → x.length < m → wd n x = wd m x
  | 0, _, x, h, _ => by omega
  | _, 0, x, _, h => by omega
  | n + 1, m + 1, [], _, _ => by rw [wd_nil, wd_nil]
  | n + 1, m + 1, c :: t, h1, h2 => by
    simp only [List.length_cons] at h1 h2
    rw [wd, wd]
    by_cases h32 : c.toNat = 32
    · rw [if_pos h32, if_pos h32, wd_more n m t (by omega) (by omega)]
    · rw [if_neg h32, if_neg h32]
      by_cases h34 : c.toNat = 34
      · rw [if_pos h34, if_pos h34]
        cases hq : qd t with
        | none => rfl
        | some p =>
          obtain ⟨a, r⟩ := p
          obtain ⟨q, eq, _⟩ := qd_suf _ _ a r (Nat.le_refl _) hq
          have hlen := congrArg List.length eq
          simp only [List.length_append] at hlen
          simp only [Option.bind_some]
          rw [wd_more n m r (by omega) (by omega)]
      · rw [if_neg h34, if_neg h34]
        have tl := tw_len bareB (c :: t)
        simp only [List.length_cons] at tl
        by_cases he : endB ((c :: t).dropWhile bareB) = true
        · have hpos : 0 < ((c :: t).takeWhile bareB).length := by
            rw [List.takeWhile_cons]
            cases hb : bareB c with
            | true => simp
            | false =>
              rw [List.dropWhile_cons, hb] at he
              simp [endB, h32] at he
          rw [if_pos he, if_pos he, wd_more n m _ (by omega) (by omega)]
        · rw [if_neg he, if_neg he]
theorem quote_pos (s : List UInt8) : 0 < (quoteB s).length := by
  unfold quoteB
  split
  · rename_i hb
    cases s with
    | nil => exact absurd hb (by decide)
    | cons => simp
  · simp
theorem endB_line (l : List (List UInt8)) : endB (l.flatMap fun s => 32 :: quoteB s) = true := by
  cases l with
  | nil => rfl
  | cons s l => rfl
theorem wd_line : ∀ (l : List (List UInt8)) (n : Nat), (l.flatMap fun s => 32 :: quoteB s).length < n → wd n (l.flatMap fun s => 32 :: quoteB s) = some l
  | [], n, _ => wd_nil n
  | s :: l, 0, h => by omega
  | s :: l, n + 1, h => by
    have := quote_pos s
    rw [List.flatMap_cons] at h ⊢
    simp only [List.cons_append, List.length_cons, List.length_append] at h
    rw [List.cons_append, wd_blank, wd_more n ((quoteB s ++ l.flatMap fun s => 32 :: quoteB s).length + 1) _ (by rw [List.length_append]; omega) (by omega), wd_quote _ _ (endB_line l), wd_line l _ (by rw [List.length_append]; omega)]
    rfl
def joinQ : List (List UInt8) → List UInt8
  | [] => []
  | s :: l => quoteB s ++ l.flatMap fun s => 32 :: quoteB s
theorem wd_join (l : List (List UInt8)) (n : Nat) (h : (joinQ l).length < n) : wd n (joinQ l) = some l := by
  cases l with
  | nil => exact wd_nil n
  | cons s l =>
    cases n with
    | zero => omega
    | succ n =>
      have := quote_pos s
      simp only [joinQ, List.length_append] at h
      rw [joinQ, wd_quote _ _ (endB_line l), wd_line l n (by omega)]
      rfl
theorem words_join (l : List (List UInt8)) (h : (joinQ l).length ≤ 4096) : wordsB (joinQ l) = (l, 0) := by
  unfold wordsB
  rw [if_neg (by omega), wd_join l _ (by omega)]
  rfl
end Go.Proofs.YtbcnegennmpliaaDoor

namespace Go.Proofs.YtbcnegennmpliaaDoor
set_option linter.unusedVariables false
set_option linter.unusedSimpArgs false
open Go.RowKit
def numM (x : List UInt8) : Option Int := match text_number.f x with
  | some (n, true) => some n
  | _ => none
theorem num_p {x : List UInt8} (hx : x.length ≤ 2 ^ 40) : ∃ n, text_number.f x = some (match numM x with | some v => (v, true) | none => (n, false)) := by
  obtain ⟨n, ok, h1, h2, h3⟩ := number_f hx
  refine ⟨n, ?_⟩
  unfold numM
  rw [h1]
  cases ok <;> rfl
theorem numM_iff {x : List UInt8} (hx : x.length ≤ 2 ^ 40) (n : Int) : numM x = some n ↔ canon x n := by
  obtain ⟨m, ok, h1, h2, h3⟩ := number_f hx
  unfold numM
  rw [h1]
  cases ok with
  | true => simp only [Option.some.injEq]; exact ⟨fun e => e ▸ h3 rfl, fun c => canon_inj (h3 rfl) c⟩
  | false => exact ⟨fun h => (by cases h), fun c => ff (h2.2 ⟨n, c⟩)⟩
theorem i64_of {x : Int} (h : okI .i64 x) : -9223372036854775808 ≤ x ∧ x ≤ 9223372036854775807 := by
  have e1 : IntKind.i64.min = -9223372036854775808 := by decide
  have e2 : IntKind.i64.max = 9223372036854775807 := by decide
  unfold okI at h
  rw [e1, e2] at h
  exact h
def farB (n : Int) : Bool := decide ((4611686018427387904 : Int) < n) || decide (n < (-4611686018427387904))
theorem itoa_len {n : Int} (h0 : -9223372036854775808 ≤ n) (h1 : n ≤ 9223372036854775807) : (Lib.itoa n).length ≤ 21 := by
  by_cases hn : n < 0
  · rw [itoa_neg' hn]; have := dec_len 19 n.natAbs (by omega); simp; omega
  · rw [itoa_pos (by omega)]; have := dec_len 19 n.toNat (by omega); omega
theorem quote_bare {s : List UInt8} (h : bareW s = true) : quoteB s = s := by unfold quoteB; rw [if_pos h]
theorem bare_dg {c : UInt8} (h : dg c) : bareB c = true := by
  have := u8_all (p := fun c => !(decide (48 ≤ c.toNat) && decide (c.toNat ≤ 57)) || bareB c) (by decide +kernel) c
  simp only [decide_eq_true h.1, decide_eq_true h.2, Bool.and_self, Bool.not_true, Bool.false_or] at this
  exact this
theorem bare_dec (u : Nat) : headB (Lib.decDigits u) = true ∧ (Lib.decDigits u).all bareB = true := by
  obtain ⟨s1, s2, s3, s4⟩ := dec_spec u
  constructor
  · cases hd : Lib.decDigits u with
    | nil => exact absurd hd s3
    | cons c t =>
      have := (dec_head hd).1
      simp only [headB, Bool.not_eq_true', decide_eq_false_iff_not]
      omega
  · exact List.all_eq_true.2 fun c hc => bare_dg (s1 c hc)
theorem bare_itoa (n : Int) : bareW (Lib.itoa n) = true := by
  unfold bareW
  by_cases hn : n < 0
  · have e : bareB 45 = true := by decide
    rw [itoa_neg' hn, List.all_cons, (bare_dec _).2, e]
    rfl
  · rw [itoa_pos (by omega), (bare_dec _).1, (bare_dec _).2]; rfl
theorem far_iff {n : Int} (h : farB n = false) : -4611686018427387904 ≤ n ∧ n ≤ 4611686018427387904 := by
  unfold farB at h
  rw [Bool.or_eq_false_iff, decide_eq_false_iff_not, decide_eq_false_iff_not] at h
  omega
theorem num_back {n : Int} (h : farB n = false) : numM (Lib.itoa n) = some n := by
  have := far_iff h
  have hl := itoa_len (n := n) (by omega) (by omega)
  exact (numM_iff (by omega) n).2 ⟨rfl, this.1, this.2⟩
theorem wd_mem : ∀ (n : Nat) (x : List UInt8) (l : List (List UInt8)), wd n x = some l → ∀ w, w ∈ l → w.length ≤ x.length
  | n, [], l, h => by rw [wd_nil] at h; cases h; intro w hw; cases hw
  | 0, c :: t, l, h => by simp [wd] at h
  | n + 1, c :: t, l, h => by
    rw [wd] at h
    split at h
    · intro w hw; have := wd_mem n t l h w hw; simp; omega
    split at h
    · cases hq : qd t with
      | none => rw [hq] at h; cases h
      | some p =>
        obtain ⟨a, r⟩ := p
        rw [hq, Option.bind_some] at h
        obtain ⟨q, eq, hal⟩ := qd_suf _ _ a r (Nat.le_refl _) hq
        have hlen := congrArg List.length eq
        simp only [List.length_append] at hlen
        split at h
        · cases hw : wd n r with
          | none => rw [hw] at h; cases h
          | some m =>
            rw [hw] at h
            simp only [Option.map_some, Option.some.injEq] at h
            subst h
            intro w hm
            rcases List.mem_cons.1 hm with rfl | hm
            · simp; omega
            · have := wd_mem n r m hw w hm
              simp; omega
        · cases h
    · split at h
      · cases hw : wd n ((c :: t).dropWhile bareB) with
        | none => rw [hw] at h; cases h
        | some m =>
          rw [hw] at h
          simp only [Option.map_some, Option.some.injEq] at h
          subst h
          have tl := tw_len bareB (c :: t)
          intro w hm
          rcases List.mem_cons.1 hm with rfl | hm
          · omega
          · have := wd_mem n _ m hw w hm
            omega
      · cases h
theorem wordsB_mem (x : List UInt8) : ∀ w, w ∈ (wordsB x).1 → w.length ≤ 4096 := by
  unfold wordsB
  split
  · intro w hw; cases hw
  · cases h : wd (x.length + 1) x with
    | none => intro w hw; simp [wres] at hw
    | some l =>
      intro w hw
      simp only [wres, List.nil_append] at hw
      have := wd_mem _ _ _ h w hw
      omega
abbrev okN (n : Int) : Prop := -9223372036854775808 ≤ n ∧ n ≤ 9223372036854775807
def numsW (l : List Int) : List UInt8 := l.flatMap fun n => [32] ++ Lib.itoa n
end Go.Proofs.YtbcnegennmpliaaDoor

namespace Go.Proofs.YtbcnegennmpliaaDoor
set_option linter.unusedVariables false
set_option linter.unusedSimpArgs false
open Go.RowKit
abbrev worldW : List UInt8 := [119, 111, 114, 108, 100]
def goO (ws : List (List UInt8)) : Nat → List Int → List Int ⊕ Unit
  | 0, acc => .inl acc
  | r + 1, acc => match numM (ws.getD (18 - r) []) with
    | none => .inr ()
    | some n => if r = 0 ∧ n ≠ 0 then .inr () else goO ws r (acc ++ [n])
abbrev OptT : Type := Int × Int × Int × Int × Int × Int × Int × Int × Int × Int × Int × Int × Int × Int × Int × Int × Int × Int × Int × Int
def optE (e : Int) : OptT := (0, 0, 0, 0, 0, 0, 0, 0, 0, 0, 0, 0, 0, 0, 0, 0, 0, 0, 0, e)
def optL (l : List Int) : OptT := (l.getD 0 0, l.getD 1 0, 0, 0, l.getD 2 0, l.getD 3 0, l.getD 4 0, l.getD 5 0, l.getD 6 0, l.getD 7 0, l.getD 8 0, l.getD 9 0, l.getD 10 0, l.getD 11 0, l.getD 12 0, l.getD 13 0, l.getD 14 0, l.getD 15 0, l.getD 16 0, 0)
def parseO (x : List UInt8) : OptT :=
  if (wordsB x).2 = 0 then
    if (wordsB x).1 = [] ∨ (wordsB x).1.getD 0 [] ≠ worldW then optE 20
    else if (wordsB x).1.length = 19 then match goO (wordsB x).1 18 [] with
      | .inl l => optL l
      | .inr _ => optE 22
    else optE 21
  else optE (wordsB x).2
theorem parseO_f {x : List UInt8} {k : Nat} (hk : 2 * x.length + 9000 < k) : text_ParseOpts.f k x = some (parseO x) := by
  unfold text_ParseOpts.f parseO
  rw [words_f (by omega), Option.bind_some]
  by_cases h : (wordsB x).2 = 0
  · rw [if_pos h, if_pos h]
    obtain ⟨ws, hws⟩ : ∃ ws, (wordsB x).1 = ws := ⟨_, rfl⟩
    have hwm := wordsB_mem x
    rw [hws] at hwm ⊢
    have e7 : (if (ws.length : Int) = (0 : Int) then (some true) else (if 0 ≤ (0 : Int) ∧ (0 : Int) < (ws.length : Int) then (some (!decide ((ws.getD (0 : Int).toNat ([] : List UInt8)) = ([119, 111, 114, 108, 100] : List UInt8)))) else none)) = some (decide (ws = [] ∨ ws.getD 0 [] ≠ worldW)) := by
      cases ws with
      | nil => rfl
      | cons w t =>
        rw [if_neg (by simp; omega), if_pos (by simp)]
        simp
    rw [e7, Option.bind_some]
    by_cases h7 : ws = [] ∨ ws.getD 0 [] ≠ worldW
    · rw [if_pos (decide_eq_true h7), if_pos h7]; rfl
    · rw [if_neg (by simpa using h7), if_neg h7, text_options.f, Option.bind_some]
      by_cases h19 : ws.length = 19
      · rw [if_pos (by omega), if_pos h19]
        have hn : ∀ i, i < 19 → ∃ n, text_number.f (ws.getD i []) = some (match numM (ws.getD i []) with | some v => (v, true) | none => (n, false)) := fun i hi => num_p (by
          have := hwm (ws.getD i []) (by rw [getD_at (by omega)]; exact List.getElem_mem (by omega))
          omega)
        have hb : ∀ i : Int, 0 ≤ i → i < 19 → 0 ≤ i ∧ i < (ws.length : Int) := fun i h0 h1 => by omega
        obtain ⟨q1, hq1⟩ := hn 1 (by omega)
        rw [if_pos (hb 1 (by omega) (by omega)), show (1 : Int).toNat = 1 from rfl, hq1, Option.bind_some, goO, show 18 - 17 = 1 from rfl]
        cases hm1 : numM (ws.getD 1 []) with
        | none => rfl
        | some n1 =>
          simp only [Bool.not_true, Bool.false_eq_true, if_false, Option.bind_some, List.nil_append, List.cons_append]
          rw [if_neg (show ¬ ((17 : Nat) = 0 ∧ n1 ≠ 0) by omega)]
          obtain ⟨q2, hq2⟩ := hn 2 (by omega)
          rw [if_pos (hb 2 (by omega) (by omega)), show (2 : Int).toNat = 2 from rfl, hq2, Option.bind_some, goO, show 18 - 16 = 2 from rfl]
          cases hm2 : numM (ws.getD 2 []) with
          | none => rfl
          | some n2 =>
            simp only [Bool.not_true, Bool.false_eq_true, if_false, Option.bind_some, List.nil_append, List.cons_append]
            rw [if_neg (show ¬ ((16 : Nat) = 0 ∧ n2 ≠ 0) by omega)]
            obtain ⟨q3, hq3⟩ := hn 3 (by omega)
            rw [if_pos (hb 3 (by omega) (by omega)), show (3 : Int).toNat = 3 from rfl, hq3, Option.bind_some, goO, show 18 - 15 = 3 from rfl]
            cases hm3 : numM (ws.getD 3 []) with
            | none => rfl
            | some n3 =>
              simp only [Bool.not_true, Bool.false_eq_true, if_false, Option.bind_some, List.nil_append, List.cons_append]
              rw [if_neg (show ¬ ((15 : Nat) = 0 ∧ n3 ≠ 0) by omega)]
              obtain ⟨q4, hq4⟩ := hn 4 (by omega)
              rw [if_pos (hb 4 (by omega) (by omega)), show (4 : Int).toNat = 4 from rfl, hq4, Option.bind_some, goO, show 18 - 14 = 4 from rfl]
              cases hm4 : numM (ws.getD 4 []) with
              | none => rfl
              | some n4 =>
                simp only [Bool.not_true, Bool.false_eq_true, if_false, Option.bind_some, List.nil_append, List.cons_append]
                rw [if_neg (show ¬ ((14 : Nat) = 0 ∧ n4 ≠ 0) by omega)]
                obtain ⟨q5, hq5⟩ := hn 5 (by omega)
                rw [if_pos (hb 5 (by omega) (by omega)), show (5 : Int).toNat = 5 from rfl, hq5, Option.bind_some, goO, show 18 - 13 = 5 from rfl]
                cases hm5 : numM (ws.getD 5 []) with
                | none => rfl
                | some n5 =>
                  simp only [Bool.not_true, Bool.false_eq_true, if_false, Option.bind_some, List.nil_append, List.cons_append]
                  rw [if_neg (show ¬ ((13 : Nat) = 0 ∧ n5 ≠ 0) by omega)]
                  obtain ⟨q6, hq6⟩ := hn 6 (by omega)
                  rw [if_pos (hb 6 (by omega) (by omega)), show (6 : Int).toNat = 6 from rfl, hq6, Option.bind_some, goO, show 18 - 12 = 6 from rfl]
                  cases hm6 : numM (ws.getD 6 []) with
                  | none => rfl
                  | some n6 =>
                    simp only [Bool.not_true, Bool.false_eq_true, if_false, Option.bind_some, List.nil_append, List.cons_append]
                    rw [if_neg (show ¬ ((12 : Nat) = 0 ∧ n6 ≠ 0) by omega)]
                    obtain ⟨q7, hq7⟩ := hn 7 (by omega)
                    rw [if_pos (hb 7 (by omega) (by omega)), show (7 : Int).toNat = 7 from rfl, hq7, Option.bind_some, goO, show 18 - 11 = 7 from rfl]
                    cases hm7 : numM (ws.getD 7 []) with
                    | none => rfl
                    | some n7 =>
                      simp only [Bool.not_true, Bool.false_eq_true, if_false, Option.bind_some, List.nil_append, List.cons_append]
                      rw [if_neg (show ¬ ((11 : Nat) = 0 ∧ n7 ≠ 0) by omega)]
                      obtain ⟨q8, hq8⟩ := hn 8 (by omega)
                      rw [if_pos (hb 8 (by omega) (by omega)), show (8 : Int).toNat = 8 from rfl, hq8, Option.bind_some, goO, show 18 - 10 = 8 from rfl]
                      cases hm8 : numM (ws.getD 8 []) with
                      | none => rfl
                      | some n8 =>
                        simp only [Bool.not_true, Bool.false_eq_true, if_false, Option.bind_some, List.nil_append, List.cons_append]
                        rw [if_neg (show ¬ ((10 : Nat) = 0 ∧ n8 ≠ 0) by omega)]
                        obtain ⟨q9, hq9⟩ := hn 9 (by omega)
                        rw [if_pos (hb 9 (by omega) (by omega)), show (9 : Int).toNat = 9 from rfl, hq9, Option.bind_some, goO, show 18 - 9 = 9 from rfl]
                        cases hm9 : numM (ws.getD 9 []) with
                        | none => rfl
                        | some n9 =>
                          simp only [Bool.not_true, Bool.false_eq_true, if_false, Option.bind_some, List.nil_append, List.cons_append]
                          rw [if_neg (show ¬ ((9 : Nat) = 0 ∧ n9 ≠ 0) by omega)]
                          obtain ⟨q10, hq10⟩ := hn 10 (by omega)
                          rw [if_pos (hb 10 (by omega) (by omega)), show (10 : Int).toNat = 10 from rfl, hq10, Option.bind_some, goO, show 18 - 8 = 10 from rfl]
                          cases hm10 : numM (ws.getD 10 []) with
                          | none => rfl
                          | some n10 =>
                            simp only [Bool.not_true, Bool.false_eq_true, if_false, Option.bind_some, List.nil_append, List.cons_append]
                            rw [if_neg (show ¬ ((8 : Nat) = 0 ∧ n10 ≠ 0) by omega)]
                            obtain ⟨q11, hq11⟩ := hn 11 (by omega)
                            rw [if_pos (hb 11 (by omega) (by omega)), show (11 : Int).toNat = 11 from rfl, hq11, Option.bind_some, goO, show 18 - 7 = 11 from rfl]
                            cases hm11 : numM (ws.getD 11 []) with
                            | none => rfl
                            | some n11 =>
                              simp only [Bool.not_true, Bool.false_eq_true, if_false, Option.bind_some, List.nil_append, List.cons_append]
                              rw [if_neg (show ¬ ((7 : Nat) = 0 ∧ n11 ≠ 0) by omega)]
                              obtain ⟨q12, hq12⟩ := hn 12 (by omega)
                              rw [if_pos (hb 12 (by omega) (by omega)), show (12 : Int).toNat = 12 from rfl, hq12, Option.bind_some, goO, show 18 - 6 = 12 from rfl]
                              cases hm12 : numM (ws.getD 12 []) with
                              | none => rfl
                              | some n12 =>
                                simp only [Bool.not_true, Bool.false_eq_true, if_false, Option.bind_some, List.nil_append, List.cons_append]
                                rw [if_neg (show ¬ ((6 : Nat) = 0 ∧ n12 ≠ 0) by omega)]
                                obtain ⟨q13, hq13⟩ := hn 13 (by omega)
                                rw [if_pos (hb 13 (by omega) (by omega)), show (13 : Int).toNat = 13 from rfl, hq13, Option.bind_some, goO, show 18 - 5 = 13 from rfl]
                                cases hm13 : numM (ws.getD 13 []) with
                                | none => rfl
                                | some n13 =>
                                  simp only [Bool.not_true, Bool.false_eq_true, if_false, Option.bind_some, List.nil_append, List.cons_append]
                                  rw [if_neg (show ¬ ((5 : Nat) = 0 ∧ n13 ≠ 0) by omega)]
                                  obtain ⟨q14, hq14⟩ := hn 14 (by omega)
                                  rw [if_pos (hb 14 (by omega) (by omega)), show (14 : Int).toNat = 14 from rfl, hq14, Option.bind_some, goO, show 18 - 4 = 14 from rfl]
                                  cases hm14 : numM (ws.getD 14 []) with
                                  | none => rfl
                                  | some n14 =>
                                    simp only [Bool.not_true, Bool.false_eq_true, if_false, Option.bind_some, List.nil_append, List.cons_append]
                                    rw [if_neg (show ¬ ((4 : Nat) = 0 ∧ n14 ≠ 0) by omega)]
                                    obtain ⟨q15, hq15⟩ := hn 15 (by omega)
                                    rw [if_pos (hb 15 (by omega) (by omega)), show (15 : Int).toNat = 15 from rfl, hq15, Option.bind_some, goO, show 18 - 3 = 15 from rfl]
                                    cases hm15 : numM (ws.getD 15 []) with
                                    | none => rfl
                                    | some n15 =>
                                      simp only [Bool.not_true, Bool.false_eq_true, if_false, Option.bind_some, List.nil_append, List.cons_append]
                                      rw [if_neg (show ¬ ((3 : Nat) = 0 ∧ n15 ≠ 0) by omega)]
                                      obtain ⟨q16, hq16⟩ := hn 16 (by omega)
                                      rw [if_pos (hb 16 (by omega) (by omega)), show (16 : Int).toNat = 16 from rfl, hq16, Option.bind_some, goO, show 18 - 2 = 16 from rfl]
                                      cases hm16 : numM (ws.getD 16 []) with
                                      | none => rfl
                                      | some n16 =>
                                        simp only [Bool.not_true, Bool.false_eq_true, if_false, Option.bind_some, List.nil_append, List.cons_append]
                                        rw [if_neg (show ¬ ((2 : Nat) = 0 ∧ n16 ≠ 0) by omega)]
                                        obtain ⟨q17, hq17⟩ := hn 17 (by omega)
                                        rw [if_pos (hb 17 (by omega) (by omega)), show (17 : Int).toNat = 17 from rfl, hq17, Option.bind_some, goO, show 18 - 1 = 17 from rfl]
                                        cases hm17 : numM (ws.getD 17 []) with
                                        | none => rfl
                                        | some n17 =>
                                          simp only [Bool.not_true, Bool.false_eq_true, if_false, Option.bind_some, List.nil_append, List.cons_append]
                                          rw [if_neg (show ¬ ((1 : Nat) = 0 ∧ n17 ≠ 0) by omega)]
                                          obtain ⟨q18, hq18⟩ := hn 18 (by omega)
                                          rw [if_pos (hb 18 (by omega) (by omega)), show (18 : Int).toNat = 18 from rfl, hq18, Option.bind_some, goO, show 18 - 0 = 18 from rfl]
                                          cases hm18 : numM (ws.getD 18 []) with
                                          | none => rfl
                                          | some n18 =>
                                            by_cases h0 : n18 = 0
                                            · subst h0
                                              simp [goO, optL]
                                            · simp [h0, optE]
      · rw [if_neg (by omega), if_neg h19]; rfl
  · rw [if_neg h, if_neg h]; rfl
abbrev nums17 (a0 a1 a2 a3 a4 a5 a6 a7 a8 a9 a10 a11 a12 a13 a14 a15 a16 a17 a18 : Int) : List Int := [a0, a1, a4, a5, a6, a7, a8, a9, a10, a11, a12, a13, a14, a15, a16, a17, a18]
def fmtO (l : List Int) : List UInt8 := worldW ++ (numsW l ++ [32, 48])
theorem fmtO_f (a0 a1 a2 a3 a4 a5 a6 a7 a8 a9 a10 a11 a12 a13 a14 a15 a16 a17 a18 : Int) (h : ∀ n, n ∈ nums17 a0 a1 a2 a3 a4 a5 a6 a7 a8 a9 a10 a11 a12 a13 a14 a15 a16 a17 a18 → okN n) : text_FormatOpts.f a0 a1 a2 a3 a4 a5 a6 a7 a8 a9 a10 a11 a12 a13 a14 a15 a16 a17 a18 = some (fmtO (nums17 a0 a1 a2 a3 a4 a5 a6 a7 a8 a9 a10 a11 a12 a13 a14 a15 a16 a17 a18)) := by
  unfold text_FormatOpts.f
  rw [text_options.f, Option.bind_some]
  have o0 := h a0 (by simp)
  have i0 := itoa_len o0.1 o0.2
  have o1 := h a1 (by simp)
  have i1 := itoa_len o1.1 o1.2
  have o4 := h a4 (by simp)
  have i4 := itoa_len o4.1 o4.2
  have o5 := h a5 (by simp)
  have i5 := itoa_len o5.1 o5.2
  have o6 := h a6 (by simp)
  have i6 := itoa_len o6.1 o6.2
  have o7 := h a7 (by simp)
  have i7 := itoa_len o7.1 o7.2
  have o8 := h a8 (by simp)
  have i8 := itoa_len o8.1 o8.2
  have o9 := h a9 (by simp)
  have i9 := itoa_len o9.1 o9.2
  have o10 := h a10 (by simp)
  have i10 := itoa_len o10.1 o10.2
  have o11 := h a11 (by simp)
  have i11 := itoa_len o11.1 o11.2
  have o12 := h a12 (by simp)
  have i12 := itoa_len o12.1 o12.2
  have o13 := h a13 (by simp)
  have i13 := itoa_len o13.1 o13.2
  have o14 := h a14 (by simp)
  have i14 := itoa_len o14.1 o14.2
  have o15 := h a15 (by simp)
  have i15 := itoa_len o15.1 o15.2
  have o16 := h a16 (by simp)
  have i16 := itoa_len o16.1 o16.2
  have o17 := h a17 (by simp)
  have i17 := itoa_len o17.1 o17.2
  have o18 := h a18 (by simp)
  have i18 := itoa_len o18.1 o18.2
  rw [strconv_Itoa.f, if_pos o0, Option.bind_some, if_pos (by simp only [List.length_append, List.length_cons, List.length_nil]; omega), if_pos (by simp only [List.length_append, List.length_cons, List.length_nil]; omega)]
  rw [strconv_Itoa.f, if_pos o1, Option.bind_some, if_pos (by simp only [List.length_append, List.length_cons, List.length_nil]; omega), if_pos (by simp only [List.length_append, List.length_cons, List.length_nil]; omega)]
  rw [strconv_Itoa.f, if_pos o4, Option.bind_some, if_pos (by simp only [List.length_append, List.length_cons, List.length_nil]; omega), if_pos (by simp only [List.length_append, List.length_cons, List.length_nil]; omega)]
  rw [strconv_Itoa.f, if_pos o5, Option.bind_some, if_pos (by simp only [List.length_append, List.length_cons, List.length_nil]; omega), if_pos (by simp only [List.length_append, List.length_cons, List.length_nil]; omega)]
  rw [strconv_Itoa.f, if_pos o6, Option.bind_some, if_pos (by simp only [List.length_append, List.length_cons, List.length_nil]; omega), if_pos (by simp only [List.length_append, List.length_cons, List.length_nil]; omega)]
  rw [strconv_Itoa.f, if_pos o7, Option.bind_some, if_pos (by simp only [List.length_append, List.length_cons, List.length_nil]; omega), if_pos (by simp only [List.length_append, List.length_cons, List.length_nil]; omega)]
  rw [strconv_Itoa.f, if_pos o8, Option.bind_some, if_pos (by simp only [List.length_append, List.length_cons, List.length_nil]; omega), if_pos (by simp only [List.length_append, List.length_cons, List.length_nil]; omega)]
  rw [strconv_Itoa.f, if_pos o9, Option.bind_some, if_pos (by simp only [List.length_append, List.length_cons, List.length_nil]; omega), if_pos (by simp only [List.length_append, List.length_cons, List.length_nil]; omega)]
  rw [strconv_Itoa.f, if_pos o10, Option.bind_some, if_pos (by simp only [List.length_append, List.length_cons, List.length_nil]; omega), if_pos (by simp only [List.length_append, List.length_cons, List.length_nil]; omega)]
  rw [strconv_Itoa.f, if_pos o11, Option.bind_some, if_pos (by simp only [List.length_append, List.length_cons, List.length_nil]; omega), if_pos (by simp only [List.length_append, List.length_cons, List.length_nil]; omega)]
  rw [strconv_Itoa.f, if_pos o12, Option.bind_some, if_pos (by simp only [List.length_append, List.length_cons, List.length_nil]; omega), if_pos (by simp only [List.length_append, List.length_cons, List.length_nil]; omega)]
  rw [strconv_Itoa.f, if_pos o13, Option.bind_some, if_pos (by simp only [List.length_append, List.length_cons, List.length_nil]; omega), if_pos (by simp only [List.length_append, List.length_cons, List.length_nil]; omega)]
  rw [strconv_Itoa.f, if_pos o14, Option.bind_some, if_pos (by simp only [List.length_append, List.length_cons, List.length_nil]; omega), if_pos (by simp only [List.length_append, List.length_cons, List.length_nil]; omega)]
  rw [strconv_Itoa.f, if_pos o15, Option.bind_some, if_pos (by simp only [List.length_append, List.length_cons, List.length_nil]; omega), if_pos (by simp only [List.length_append, List.length_cons, List.length_nil]; omega)]
  rw [strconv_Itoa.f, if_pos o16, Option.bind_some, if_pos (by simp only [List.length_append, List.length_cons, List.length_nil]; omega), if_pos (by simp only [List.length_append, List.length_cons, List.length_nil]; omega)]
  rw [strconv_Itoa.f, if_pos o17, Option.bind_some, if_pos (by simp only [List.length_append, List.length_cons, List.length_nil]; omega), if_pos (by simp only [List.length_append, List.length_cons, List.length_nil]; omega)]
  rw [strconv_Itoa.f, if_pos o18, Option.bind_some, if_pos (by simp only [List.length_append, List.length_cons, List.length_nil]; omega), if_pos (by simp only [List.length_append, List.length_cons, List.length_nil]; omega)]
  rw [if_pos (by simp only [List.length_append, List.length_cons, List.length_nil]; omega)]
  simp only [fmtO, numsW, List.flatMap_cons, List.flatMap_nil, List.append_assoc, List.cons_append, List.nil_append]
end Go.Proofs.YtbcnegennmpliaaDoor

namespace Go.Proofs.YtbcnegennmpliaaDoor
set_option linter.unusedVariables false
set_option linter.unusedSimpArgs false
open Go.RowKit
theorem okAll (a0 a1 a2 a3 a4 a5 a6 a7 a8 a9 a10 a11 a12 a13 a14 a15 a16 a17 a18 : Int) (h : okI .i64 a0 ∧ okI .i64 a1 ∧ ((okI .i64 a2 ∧ okI .i64 a3 ∧ okI .i64 a4 ∧ okI .i64 a5 ∧ okI .i64 a6 ∧ okI .i64 a7 ∧ okI .i64 a8 ∧ okI .i64 a9) ∧ okI .i64 a10 ∧ okI .i64 a11 ∧ okI .i64 a12 ∧ okI .i64 a13 ∧ okI .i64 a14 ∧ okI .i64 a15 ∧ okI .i64 a16 ∧ okI .i64 a17 ∧ okI .i64 a18)) : ∀ n, n ∈ nums17 a0 a1 a2 a3 a4 a5 a6 a7 a8 a9 a10 a11 a12 a13 a14 a15 a16 a17 a18 → okN n := by
  intro n hn
  simp only [nums17, List.mem_cons, List.not_mem_nil, or_false] at hn
  rcases hn with rfl | rfl | rfl | rfl | rfl | rfl | rfl | rfl | rfl | rfl | rfl | rfl | rfl | rfl | rfl | rfl | rfl
  · exact i64_of h.1
  · exact i64_of h.2.1
  · exact i64_of h.2.2.1.2.2.1
  · exact i64_of h.2.2.1.2.2.2.1
  · exact i64_of h.2.2.1.2.2.2.2.1
  · exact i64_of h.2.2.1.2.2.2.2.2.1
  · exact i64_of h.2.2.1.2.2.2.2.2.2.1
  · exact i64_of h.2.2.1.2.2.2.2.2.2.2
  · exact i64_of h.2.2.2.1
  · exact i64_of h.2.2.2.2.1
  · exact i64_of h.2.2.2.2.2.1
  · exact i64_of h.2.2.2.2.2.2.1
  · exact i64_of h.2.2.2.2.2.2.2.1
  · exact i64_of h.2.2.2.2.2.2.2.2.1
  · exact i64_of h.2.2.2.2.2.2.2.2.2.1
  · exact i64_of h.2.2.2.2.2.2.2.2.2.2.1
  · exact i64_of h.2.2.2.2.2.2.2.2.2.2.2
end Go.Proofs.YtbcnegennmpliaaDoor

namespace Go.Proofs.YtbcnegennmpliaaDoor
set_option linter.unusedVariables false
set_option linter.unusedSimpArgs false
open Go.RowKit
theorem num_far {n : Int} (ho : okN n) (h : farB n = true) : numM (Lib.itoa n) = none := by
  cases hn : numM (Lib.itoa n) with
  | none => rfl
  | some m =>
    have hl := itoa_len ho.1 ho.2
    have hc := (numM_iff (by omega) m).1 hn
    have e := itoa_inj hc.1
    subst e
    have := hc.2
    simp only [farB, Bool.or_eq_true, decide_eq_true_eq] at h
    omega
theorem getI_cons {l : List Int} {i : Nat} (h : i < l.length) : l.drop i = l.getD i 0 :: l.drop (i + 1) := by
  rw [getD_at h]; exact List.drop_eq_getElem_cons h
theorem world_bare : bareW worldW = true := by decide +kernel
theorem zero_itoa : Lib.itoa 0 = [48] := by rw [itoa_pos (by omega), Lib.decDigits]; rfl
abbrev wordsO (l : List Int) : List (List UInt8) := worldW :: (l ++ [0]).map Lib.itoa
theorem fmt_join (l : List Int) : fmtO l = joinQ (wordsO l) := by
  unfold fmtO numsW
  show _ = quoteB worldW ++ ((l ++ [0]).map Lib.itoa).flatMap fun s => 32 :: quoteB s
  rw [quote_bare world_bare, List.flatMap_map]
  simp only [quote_bare (bare_itoa _)]
  rw [List.flatMap_append]
  simp [zero_itoa]
theorem nums_len : ∀ (l : List Int), (∀ n, n ∈ l → okN n) → (numsW l).length ≤ 22 * l.length
  | [], _ => by simp [numsW]
  | n :: l, h => by
    have := nums_len l fun m hm => h m (by simp [hm])
    have h0 := h n (by simp)
    have h1 := itoa_len h0.1 h0.2
    have e : numsW (n :: l) = ([32] ++ Lib.itoa n) ++ numsW l := by simp [numsW]
    rw [e]
    simp only [List.length_append, List.length_cons, List.length_nil] at *
    omega
theorem goO_back {l : List Int} (hl : l.length = 17) (ho : ∀ n, n ∈ l → okN n) : ∀ (r : Nat) (acc : List Int), r ≤ 18 →
    goO (wordsO l) r acc = if ((l ++ [0]).drop (18 - r)).any farB then .inr () else .inl (acc ++ (l ++ [0]).drop (18 - r))
  | 0, acc, _ => by
    rw [goO, List.drop_of_length_le (by simp; omega)]
    simp
  | r + 1, acc, hr => by
    have hlt : 17 - r < (l ++ [0]).length := by simp; omega
    have e1 : (wordsO l).getD (18 - r) [] = Lib.itoa ((l ++ [0]).getD (17 - r) 0) := by
      rw [show 18 - r = (17 - r) + 1 by omega, getD_at (by simp; omega), getD_at hlt]
      simp only [wordsO, List.getElem_cons_succ, List.getElem_map]
    have e2 : (l ++ [0]).drop (18 - (r + 1)) = (l ++ [0]).getD (17 - r) 0 :: (l ++ [0]).drop (18 - r) := by
      rw [show 18 - (r + 1) = 17 - r by omega, show 18 - r = 17 - r + 1 by omega]
      exact getI_cons hlt
    have hm : (l ++ [0]).getD (17 - r) 0 ∈ l ++ [0] := by rw [getD_at hlt]; exact List.getElem_mem hlt
    have hok : okN ((l ++ [0]).getD (17 - r) 0) := by
      rcases List.mem_append.1 hm with h | h
      · exact ho _ h
      · rw [List.mem_singleton.1 h]; exact ⟨by decide, by decide⟩
    have h0 : r = 0 → (l ++ [0]).getD (17 - r) 0 = 0 := fun h => by
      subst h
      rw [show 17 - 0 = l.length by omega]
      simp
    rw [goO, e1, e2]
    obtain ⟨n, hn⟩ : ∃ n, (l ++ [0]).getD (17 - r) 0 = n := ⟨_, rfl⟩
    rw [hn] at hok h0 ⊢
    cases hf : farB n with
    | true => rw [num_far hok hf, List.any_cons, hf]; simp
    | false =>
      rw [num_back hf]
      simp only []
      rw [if_neg (fun h => h.2 (h0 h.1)), goO_back hl ho r _ (by omega), List.any_cons, hf, Bool.false_or]
      simp
theorem parse_back {l : List Int} (hl : l.length = 17) (ho : ∀ n, n ∈ l → okN n) : parseO (fmtO l) = if l.any farB then optE 22 else optL (l ++ [0]) := by
  have h1 := nums_len l ho
  have h2 : (joinQ (wordsO l)).length ≤ 4096 := by
    rw [← fmt_join]
    simp only [fmtO, List.length_append, List.length_cons, List.length_nil]
    omega
  unfold parseO
  rw [fmt_join, words_join _ h2]
  simp only [if_true]
  rw [if_neg (by simp [wordsO]), if_pos (by simp [wordsO, hl]), goO_back hl ho 18 [] (by omega)]
  have e : (l ++ [0]).any farB = l.any farB := by
    rw [List.any_append]
    simp [farB]
  simp only [Nat.sub_self, List.drop_zero, e, List.nil_append]
  cases l.any farB <;> rfl
end Go.Proofs.YtbcnegennmpliaaDoor

namespace Go.Proofs.YtbcnegennmpliaaDoor
set_option linter.unusedVariables false
set_option linter.unusedSimpArgs false
open Go.RowKit
theorem ob_l0 {p : OptT} (a0 a1 a4 a5 a6 a7 a8 a9 a10 a11 a12 a13 a14 a15 a16 a17 a18 : Int) (hp : p.2.2.2.2.2.2.2.2.2.2.2.2.2.2.2.2.2.2.2 = 22 ∨ ∀ n, n ∈ [a0, a1, a4, a5, a6, a7, a8, a9, a10, a11, a12, a13, a14, a15, a16, a17, a18] → farB n = false) :
    ∀ (k i : Nat), 17 - i < k → i ≤ 17 → synodlaw17_TextOptsBack.l0 a0 a1 a4 a5 a6 a7 a8 a9 a10 a11 a12 a13 a14 a15 a16 a17 a18 true p k (i : Int) =
      some (if ([a0, a1, a4, a5, a6, a7, a8, a9, a10, a11, a12, a13, a14, a15, a16, a17, a18].drop i).any farB then .inr true else .inl ())
  | 0, i, h, _ => by omega
  | k + 1, i, h, hi => by
    obtain ⟨l, hl⟩ : ∃ l : List Int, [a0, a1, a4, a5, a6, a7, a8, a9, a10, a11, a12, a13, a14, a15, a16, a17, a18] = l := ⟨_, rfl⟩
    have h17 : l.length = 17 := by rw [← hl]; rfl
    rw [synodlaw17_TextOptsBack.l0]
    have ih := ob_l0 (p := p) a0 a1 a4 a5 a6 a7 a8 a9 a10 a11 a12 a13 a14 a15 a16 a17 a18 hp k (i + 1)
    simp only [hl] at hp ih ⊢
    by_cases hlt : i < l.length
    · rw [if_pos (by omega), if_pos (by omega), getI_cons hlt]
      have hm : l.getD i 0 ∈ l := by rw [getD_at hlt]; exact List.getElem_mem hlt
      have e : (if (4611686018427387904 : Int) < l.getD (i : Int).toNat 0 then (some true) else (if 0 ≤ (i : Int) ∧ (i : Int) < (l.length : Int) then (some (decide (l.getD (i : Int).toNat 0 < (-4611686018427387904)))) else none)) = some (farB (l.getD i 0)) := by
        unfold farB
        show (if (4611686018427387904 : Int) < l.getD i 0 then (some true) else (if 0 ≤ (i : Int) ∧ (i : Int) < (l.length : Int) then (some (decide (l.getD i 0 < (-4611686018427387904)))) else none)) = _
        by_cases h1 : (4611686018427387904 : Int) < l.getD i 0
        · rw [if_pos h1, decide_eq_true h1]; rfl
        · rw [if_neg h1, if_pos (by omega), decide_eq_false h1, Bool.false_or]
      rw [e, Option.bind_some]
      obtain ⟨n, hn⟩ : ∃ n, l.getD i 0 = n := ⟨_, rfl⟩
      rw [hn] at hm ⊢
      cases hf : farB n with
      | true =>
        rcases hp with hp | hp
        · simp [hp, hf, synodref_Num.f]
        · rw [hp n hm] at hf; cases hf
      | false =>
        rw [if_neg Bool.false_ne_true, wi1 (by omega), ih (by omega) (by omega), List.any_cons, hf, Bool.false_or]
    · rw [if_neg (by omega), List.drop_of_length_le (by omega)]
      rfl
theorem pure_TextOptsBack (a0 a1 a2 a3 a4 a5 a6 a7 a8 a9 a10 a11 a12 a13 a14 a15 a16 a17 a18 : Int) (h : okI .i64 a0 ∧ okI .i64 a1 ∧ ((okI .i64 a2 ∧ okI .i64 a3 ∧ okI .i64 a4 ∧ okI .i64 a5 ∧ okI .i64 a6 ∧ okI .i64 a7 ∧ okI .i64 a8 ∧ okI .i64 a9) ∧ okI .i64 a10 ∧ okI .i64 a11 ∧ okI .i64 a12 ∧ okI .i64 a13 ∧ okI .i64 a14 ∧ okI .i64 a15 ∧ okI .i64 a16 ∧ okI .i64 a17 ∧ okI .i64 a18)) : ∃ k, synodlaw17_TextOptsBack.f k a0 a1 a2 a3 a4 a5 a6 a7 a8 a9 a10 a11 a12 a13 a14 a15 a16 a17 a18 = some true := by
  have oa := okAll a0 a1 a2 a3 a4 a5 a6 a7 a8 a9 a10 a11 a12 a13 a14 a15 a16 a17 a18 h
  have f1 := fmtO_f a0 a1 a2 a3 a4 a5 a6 a7 a8 a9 a10 a11 a12 a13 a14 a15 a16 a17 a18 oa
  have pb := parse_back (l := nums17 a0 a1 a2 a3 a4 a5 a6 a7 a8 a9 a10 a11 a12 a13 a14 a15 a16 a17 a18) rfl oa
  have h1 := nums_len _ oa
  have hlen : (fmtO (nums17 a0 a1 a2 a3 a4 a5 a6 a7 a8 a9 a10 a11 a12 a13 a14 a15 a16 a17 a18)).length ≤ 4096 := by
    simp only [fmtO, List.length_append, List.length_cons, List.length_nil] at h1 ⊢
    omega
  refine ⟨60000 + 60, ?_⟩
  unfold synodlaw17_TextOptsBack.f
  rw [first_eq, Option.bind_some, f1, Option.bind_some, parseO_f (by omega), Option.bind_some, pb]
  cases hf : (nums17 a0 a1 a2 a3 a4 a5 a6 a7 a8 a9 a10 a11 a12 a13 a14 a15 a16 a17 a18).any farB with
  | true =>
    have l0 := ob_l0 (p := optE 22) a0 a1 a4 a5 a6 a7 a8 a9 a10 a11 a12 a13 a14 a15 a16 a17 a18 (.inl rfl) (60000 + 60) 0 (by omega) (by omega)
    rw [List.drop_zero, hf, if_pos rfl] at l0
    rw [if_pos rfl, show (0 : Int) = ((0 : Nat) : Int) from rfl, l0]
    rfl
  | false =>
    have hno : ∀ n, n ∈ [a0, a1, a4, a5, a6, a7, a8, a9, a10, a11, a12, a13, a14, a15, a16, a17, a18] → farB n = false := fun n hn => by
      cases hq : farB n with
      | false => rfl
      | true => rw [List.any_eq_true.2 ⟨n, hn, hq⟩] at hf; cases hf
    have l0 := ob_l0 (p := optL (nums17 a0 a1 a2 a3 a4 a5 a6 a7 a8 a9 a10 a11 a12 a13 a14 a15 a16 a17 a18 ++ [0])) a0 a1 a4 a5 a6 a7 a8 a9 a10 a11 a12 a13 a14 a15 a16 a17 a18 (.inr hno) (60000 + 60) 0 (by omega) (by omega)
    rw [List.drop_zero, hf, if_neg Bool.false_ne_true] at l0
    rw [if_neg Bool.false_ne_true, show ((0 : Nat) : Int) = (0 : Int) from rfl] at *
    rw [l0]
    simp [orR, optL, synodref_Num.f]
end Go.Proofs.YtbcnegennmpliaaDoor

namespace Go.Proofs.YtbcnegennmpliaaDoor
set_option linter.unusedVariables false
set_option linter.unusedSimpArgs false
open Go.RowKit Go.ChangeShapes Go.WideShapes Go.ChangeAt

def heapF (W : World) : HA := fun h => ∀ i, i < W.heap.size → h i = W.heap[i]?
theorem sat_start (W : World) : Sat W ([] ++ [heapF W]) W := ⟨rfl, rfl, rfl, Nat.le_refl _, star_tt (fun _ _ => rfl)⟩
theorem below_of {W w : World} {l : List HA} (s : Sat W l w) (k : Nat) (hk : l[k]? = some (heapF W)) : Below W.heap.size W w := by
  obtain ⟨a, ha, hz⟩ := s.at hk
  refine ⟨s.os, s.tape, s.output, s.size, fun i hi => ?_⟩
  have h1 := ha i hi
  obtain ⟨o, ho⟩ : ∃ o, W.heap[i]? = some o := ⟨_, Array.getElem?_eq_getElem hi⟩
  rw [ho] at h1
  rw [hz i o h1, ho]
theorem row_of_fn {P : Program} {W : World} {f : FuncId} {args : List Value} {R Y : Type} {o : Option R} {val : R → Y → Value} {r : R}
    (h : Fn P W f args [] (heapF W) o val (fun _ _ => [])) (hs : o = some r) (hv : ∀ y, val r y = .bool true) :
    Calls P f args.toArray W fun e w' => e = .returned (.bool true) ∧ Below W.heap.size W w' := by
  refine (h r hs W (sat_start W)).mono ?_
  rintro e w' ⟨y, rfl, s⟩
  exact ⟨by rw [hv], below_of s 0 rfl⟩
theorem weights_of {H : Type} {P : Program} {ts : List TypeId} {ds : List (DataW H)} (h : (DataW.weightsEach P ts ds).all (· ≤ reachBytes) = true) {j : Nat} {t : TypeId} {d : DataW H} (ht : ts[j]? = some t) (hd : ds[j]? = some d) : ∀ n ∈ d.weights P t, n ≤ reachBytes := fun n hn => by
  have := List.all_eq_true.1 h n (DataW.weights_mem_each ht hd n hn)
  simpa using this
end Go.Proofs.YtbcnegennmpliaaDoor

namespace Go.Proofs.YtbcnegennmpliaaDoor
set_option linter.unusedVariables false
set_option linter.unusedSimpArgs false
open Go.RowKit Go.ChangeShapes Go.WideShapes Go.ChangeAt
section
variable {H : Type} {enc : TypeId × Value → H} {P : Program} {W : World} {held : Bool} {α β : Type}
def Opens (enc : TypeId × Value → H) (P : Program) (W : World) (held : Bool) (t : TypeId) (V : α → List Value → Prop) (Ok : α → Prop) : Prop :=
  ∀ fuel cs x, DataW.trod enc P W 0 (fun _ => true) held fuel t cs = some x → (∀ n ∈ x.1.weights P t, n ≤ reachBytes) → ∃ y, V y cs ∧ one cs ∧ cs.length = P.cellsOf t ∧ Ok y
theorem Opens.map {t : TypeId} {V : α → List Value → Prop} {V' : β → List Value → Prop} {Ok : α → Prop} {Ok' : β → Prop} (f : α → β) (h : Opens enc P W held t V Ok) (hV : ∀ x r, V x r → V' (f x) r) (hO : ∀ x, Ok x → Ok' (f x)) : Opens enc P W held t V' Ok' := fun fuel cs x h1 h2 =>
  let ⟨y, a, b, c, d⟩ := h fuel cs x h1 h2; ⟨f y, hV _ _ a, b, c, hO _ d⟩
theorem Opens.mono {t : TypeId} {V V' : α → List Value → Prop} {Ok Ok' : α → Prop} (h : Opens enc P W held t V Ok) (hV : ∀ x r, V x r → V' x r) (hO : ∀ x, Ok x → Ok' x) : Opens enc P W held t V' Ok' := fun fuel cs x h1 h2 =>
  let ⟨y, a, b, c, d⟩ := h fuel cs x h1 h2; ⟨y, hV _ _ a, b, c, hO _ d⟩
theorem opens_int {t : TypeId} {k : IntKind} (ht : P.underlying t = some (.int k)) (hc : P.cellsOf t = 1) : Opens enc P W held t (fun x r => r = [.int k x]) (okI k) := by
  intro fuel cs x h _
  cases fuel with
  | zero => simp [DataW.trod] at h
  | succ n =>
    unfold DataW.trod at h
    rw [ht] at h
    split at h <;> simp_all
    rename_i k' m
    obtain ⟨rfl, h1⟩ := h.1
    refine ⟨one_of rfl, ?_⟩
    simpa [Lit.wf, okI] using h1
/-! Structs: their fields, one behind the other. -/
def trodL (enc : TypeId × Value → H) (P : Program) (W : World) (held : Bool) (fuel : Nat) : List TypeId → List Value → List (DataW H × List MemPlace) → Prop
  | [], cs, xs => cs = [] ∧ xs = []
  | t :: ts, cs, xs => ∃ c1 c2 x r, cs = c1 ++ c2 ∧ xs = x :: r ∧ DataW.trod enc P W 0 (fun _ => true) held fuel t c1 = some x ∧ trodL enc P W held fuel ts c2 r
def OpensL (enc : TypeId × Value → H) (P : Program) (W : World) (held : Bool) (ts : List TypeId) (V : α → List Value → Prop) (Ok : α → Prop) : Prop :=
  ∀ fuel cs xs, trodL enc P W held fuel ts cs xs → (∀ n ∈ DataW.weightsEach P ts (xs.map (·.1)), n ≤ reachBytes) → ∃ y, V y cs ∧ one cs ∧ Ok y
theorem opensL_one {t : TypeId} {V : α → List Value → Prop} {Ok : α → Prop} (h : Opens enc P W held t V Ok) : OpensL enc P W held [t] V Ok := by
  rintro fuel cs xs ⟨c1, c2, x, r, rfl, rfl, h1, rfl, rfl⟩ hw
  obtain ⟨y, a, b, c, d⟩ := h fuel c1 x h1 (fun n hn => hw n (by simp [DataW.weightsEach]; exact hn))
  exact ⟨y, by simpa using a, by simpa using b, d⟩
theorem opensL_cons {t : TypeId} {ts : List TypeId} {V : α → List Value → Prop} {Ok : α → Prop} {V2 : β → List Value → Prop} {Ok2 : β → Prop} (h : Opens enc P W held t V Ok) (h2 : OpensL enc P W held ts V2 Ok2) :
    OpensL enc P W held (t :: ts) (fun (x : α × β) cs => ∃ c1 c2, cs = c1 ++ c2 ∧ V x.1 c1 ∧ V2 x.2 c2) (fun x => Ok x.1 ∧ Ok2 x.2) := by
  rintro fuel cs xs ⟨c1, c2, x, r, rfl, rfl, h1, h3⟩ hw
  obtain ⟨y, a, b, c, d⟩ := h fuel c1 x h1 (fun n hn => hw n (by simp only [List.map_cons, DataW.weightsEach, List.mem_append]; exact .inl hn))
  obtain ⟨z, a2, b2, d2⟩ := h2 fuel c2 r h3 (fun n hn => hw n (by simp only [List.map_cons, DataW.weightsEach, List.mem_append]; exact .inr hn))
  exact ⟨(y, z), ⟨c1, c2, rfl, a, a2⟩, one_append b b2, d, d2⟩
def laidF (P : Program) : Nat → List Field → Bool
  | _, [] => true
  | k, f :: fs => Nat.beq f.offset k && laidF P (k + P.cellsOf f.type) fs
def sumF (P : Program) : List Field → Nat
  | [] => 0
  | f :: fs => P.cellsOf f.type + sumF P fs
theorem trodL_of (fuel : Nat) : ∀ (fs : List Field) (k : Nat) (cs : List Value) (xs : List (DataW H × List MemPlace)), laidF P k fs = true → cs.length = k + sumF P fs → xs.length = fs.length →
    (∀ (i : Nat) (f : Field), fs[i]? = some f → DataW.trod enc P W 0 (fun _ => true) held fuel f.type ((cs.drop f.offset).take (P.cellsOf f.type)) = xs[i]?) → trodL enc P W held fuel (fs.map (·.type)) (cs.drop k) xs
  | [], k, cs, xs, _, hl, hx, _ => by
    have : xs = [] := List.eq_nil_of_length_eq_zero (by simpa using hx)
    exact ⟨by rw [List.drop_of_length_le (by simp [sumF] at hl; omega)], this⟩
  | f :: fs, k, cs, [], _, _, hx, _ => by simp at hx
  | f :: fs, k, cs, x :: xs, hlaid, hl, hx, h => by
    simp only [laidF, Bool.and_eq_true] at hlaid
    have hoff : f.offset = k := Nat.eq_of_beq_eq_true hlaid.1
    simp only [sumF] at hl
    have h0 := h 0 f rfl
    rw [hoff] at h0
    refine ⟨(cs.drop k).take (P.cellsOf f.type), (cs.drop k).drop (P.cellsOf f.type), x, xs, (List.take_append_drop _ _).symm, rfl, by simpa using h0, ?_⟩
    have := trodL_of fuel fs (k + P.cellsOf f.type) cs xs hlaid.2 (by omega) (by simpa using hx) (fun i g hg => by simpa using h (i + 1) g (by simpa using hg))
    rw [List.drop_drop]
    exact this
theorem opens_struct {t : TypeId} {fs : Array Field} {V : α → List Value → Prop} {Ok : α → Prop} (ht : P.underlying t = some (.struct fs)) (hlaid : laidF P 0 fs.toList = true) (hsum : sumF P fs.toList = P.cellsOf t) {ts : List TypeId} (hts : fs.toList.map (·.type) = ts) (h : OpensL enc P W held ts V Ok) : Opens enc P W held t V Ok := by
  intro fuel cs x hx hw
  obtain ⟨xs, n, rfl, rfl, hl, hxl, hf⟩ := DataW.trod_struct ht hx
  have := trodL_of n fs.toList 0 cs xs hlaid (by rw [hl]; omega) (by simpa using hxl) (fun i f hi => hf i f (by simpa using hi))
  rw [hts] at this
  obtain ⟨y, a, b, c⟩ := h n cs xs (by simpa using this) (fun n hn => hw n (by simp only [DataW.weights, ht, hts]; exact hn))
  exact ⟨y, a, b, hl, c⟩
end
end Go.Proofs.YtbcnegennmpliaaDoor

namespace Go.Proofs.YtbcnegennmpliaaDoor
set_option linter.unusedVariables false
set_option linter.unusedSimpArgs false
open Go.RowKit Go.ChangeShapes Go.WideShapes Go.ChangeAt
class Mu (α : Type) where
  mu : α → Nat
instance : Mu Int := ⟨fun _ => 1⟩
instance : Mu Bool := ⟨fun _ => 1⟩
instance : Mu UInt8 := ⟨fun _ => 1⟩
instance {α β : Type} [Mu α] [Mu β] : Mu (α × β) := ⟨fun x => Mu.mu x.1 + Mu.mu x.2⟩
instance {α : Type} [Mu α] : Mu (List α) := ⟨fun l => (l.map Mu.mu).sum + 1⟩
section
variable {H : Type} {enc : TypeId × Value → H} {P : Program} {W : World} {held : Bool} {α β : Type} [Mu α] [Mu β]
def OpensU (enc : TypeId × Value → H) (P : Program) (W : World) (held : Bool) (t : TypeId) (V : α → List Value → Prop) (Ok : α → Prop) : Prop :=
  ∀ fuel cs x, DataW.trod enc P W 0 (fun _ => true) held fuel t cs = some x → (∀ n ∈ x.1.weights P t, n ≤ reachBytes) → ∃ y, V y cs ∧ one cs ∧ cs.length = P.cellsOf t ∧ Ok y ∧ Mu.mu y ≤ Rows.uptoBulk x.1
theorem OpensU.mono {t : TypeId} {V V' : α → List Value → Prop} {Ok Ok' : α → Prop} (h : OpensU enc P W held t V Ok) (hV : ∀ x r, V x r → V' x r) (hO : ∀ x, Ok x → Ok' x) : OpensU enc P W held t V' Ok' := fun fuel cs x h1 h2 =>
  let ⟨y, a, b, c, d⟩ := h fuel cs x h1 h2; ⟨y, hV _ _ a, b, c, hO _ d.1, d.2⟩
end
end Go.Proofs.YtbcnegennmpliaaDoor

namespace Go.Proofs.YtbcnegennmpliaaDoor
set_option linter.unusedVariables false
set_option linter.unusedSimpArgs false
open Go.RowKit Go.ChangeShapes Go.WideShapes Go.ChangeAt
def VRead (P : Program) (w : World) (n : String) (d : DataW Unit) : Prop :=
  ∃ g t cs fuel p, P.globalNamed n = some g ∧ (P.globals[g]?).map (·.type) = some t ∧ w.var? P n = some cs ∧ DataW.trod (fun _ => ()) P w 0 (fun _ => true) false fuel t cs.toList = some (d, p)
theorem vread_of {P : Program} {w : World} : ∀ {l : List (String × DataW Unit)} {ps : List MemPlace}, DataW.LaidVars P w l ps → ∀ n d, (n, d) ∈ l → VRead P w n d
  | [], _, _, _, _, hm => by cases hm
  | (n', d') :: r, ps, h, n, d, hm => by
    obtain ⟨g, t, cs, fuel, p, q, h1, h2, h3, h4, h5, _⟩ := h
    rcases List.mem_cons.1 hm with e | e
    · cases e
      exact ⟨g, t, cs, fuel, p, h1, h2, h3, h4⟩
    · exact vread_of h5 n d e
theorem laid_vread {P : Program} {w : World} {l : List (String × DataW Unit)} (h : laidMet P l w) {n : String} {d : DataW Unit} (hm : (n, d) ∈ l) : VRead P w n d :=
  let ⟨_, hv, _⟩ := h
  vread_of hv n d hm
theorem tab_of {P : Program} {W : World} {name : String} {k : IntKind} {zs : List Int} {g : Nat} {t e : TypeId} {n : Nat} (hg : P.globalNamed name = some g) (hty : (P.globals[g]?).map (·.type) = some t)
    (ht : P.underlying t = some (.array n e)) (he : P.underlying e = some (.int k)) (hce : P.cellsOf e = 1) (hct : P.cellsOf t = n) (h : VRead P W name (Lib.tabData k zs)) : Lib.TabIs P W name k zs := by
  obtain ⟨g', t', cs, fuel, p, hg', ht', hvar, hd⟩ := h
  obtain rfl := Option.some.inj (hg.symm.trans hg')
  obtain rfl := Option.some.inj (hty.symm.trans ht')
  unfold Lib.TabIs
  rw [hvar, ← Lib.cells_of_tab ht he hce hct hd]
theorem iface_of {P : Program} {W : World} {name nm : String} {d : DataW Unit} {g : Nat} {t : TypeId} {ms : _} (hg : P.globalNamed name = some g) (hty : (P.globals[g]?).map (·.type) = some t)
    (ht : P.underlying t = some (.interface ms)) (h : VRead P W name (.iface nm d)) : ∃ u p, W.var? P name = some #[.iface u p] := by
  obtain ⟨g', t', cs, fuel, p, hg', ht', hvar, hd⟩ := h
  obtain rfl := Option.some.inj (hg.symm.trans hg')
  obtain rfl := Option.some.inj (hty.symm.trans ht')
  cases fuel with
  | zero => simp [DataW.trod] at hd
  | succ m =>
    unfold DataW.trod at hd
    rw [ht] at hd
    split at hd <;> simp_all
    rename_i e
    exact ⟨_, _, Array.toList_inj.1 (e.trans rfl)⟩
theorem var_mono {P : Program} {W w : World} {n : String} {cs : Array Value} (h : HoldsW (heapF W) w) (hv : W.var? P n = some cs) : w.var? P n = some cs := by
  obtain ⟨a, ha, e⟩ := h
  unfold World.var? at hv ⊢
  cases hg : P.globalNamed n with
  | none => rw [hg] at hv; cases hv
  | some g =>
    rw [hg] at hv
    simp only [Option.bind_some] at hv ⊢
    cases ho : W.heap[g]? with
    | none => rw [ho] at hv; cases hv
    | some o =>
      have hlt : g < W.heap.size := (Array.getElem?_eq_some_iff.1 ho).1
      have h1 : w.heap[g]? = some o := e g o ((ha g hlt).trans ho)
      rw [ho] at hv
      rw [h1]
      exact hv
theorem glb_of {P : Program} {W : World} (h1 : Lib.TabIs P W "internal/strconv.uint64pow10" .u64 Lib.pow10Tab) (h2 : ∃ u p, W.var? P "strconv.ErrSyntax" = some #[.iface u p]) (h3 : ∃ u p, W.var? P "strconv.ErrRange" = some #[.iface u p]) :
    Glb P (heapF W) :=
  ⟨fun w h => var_mono h h1, fun w h => let ⟨u, p, e⟩ := h2; ⟨u, p, var_mono h e⟩, fun w h => let ⟨u, p, e⟩ := h3; ⟨u, p, var_mono h e⟩⟩
theorem witness_laid {H : Type} {enc : TypeId × Value → H} {C : Checked} {os : Os} {f : FuncId} {fn : Func} {s : OpenSpec} {conds : List PathCond} {apart : Bool} {laid : List (String × DataW Unit)} (w0 : World) (args : Array Value) (hos : w0.os = os)
    (hsh : (w0.forCall (fun _ _ => 0) ⟨#[], args, []⟩).Shaped C.prog)
    (hok : Input.okWideB C.prog (w0.forCall (fun _ _ => 0) ⟨#[], args, []⟩) f ⟨#[], args, []⟩ = true)
    (hrow : s.preRow enc C.prog fn conds apart laid (w0.forCall (fun _ _ => 0) ⟨#[], args, []⟩).memory args) :
    ∃ (w : World) (tape : Tape) (i : Input), w.os = os ∧ (w.forCall tape i).Shaped C.prog ∧ i.vars = [] ∧ Input.okWide C.prog (w.forCall tape i) .any w.heap.size f i ∧
      s.preRow enc C.prog fn conds apart laid (w.forCall tape i).memory i.args ∧ ({} : Assume).holds C.prog (lone (Frame.enter C.prog f i.args .normal) [] (w.forCall tape i)) :=
  ⟨w0, fun _ _ => 0, ⟨#[], args, []⟩, hos, hsh, (Input.okWide_of_okWideB (base := 0) hok).1, (Input.okWide_of_okWideB hok).2, hrow, by
    simp only [Assume.holds]
    exact ⟨by simp, by simp, fun _ => Modest.zero, by simp, by simp⟩⟩
end Go.Proofs.YtbcnegennmpliaaDoor

namespace Go.Proofs.YtbcnegennmpliaaDoor.textOptsBack
open Go.RowKit Go.ChangeShapes Go.WideShapes Go.ChangeAt
open Go.ChangeMaps (open_string shut_string)
set_option linter.unusedVariables false
theorem own : ownKnob Tryd.prog.godebug = none := by kernel_rfl
theorem laidOut : laidOutB Tryd.prog = true := by kernel_rfl
theorem glb {W : World} (hL : laidMetH Tryd.prog Rows.textOptsBackRow.laid W) : Glb Tryd.prog (heapF W) := by
  rw [MakeChecks.laidMetH_plain _ _ _ (by kernel_rfl)] at hL
  exact glb_of (tab_of (g := 0) (t := 169) (e := 152) (by kernel_rfl) (by kernel_rfl) Tryd.underlying169 Tryd.underlying152 (by kernel_rfl) (by kernel_rfl) (laid_vread hL (n := "internal/strconv.uint64pow10") (d := Rows.laid_internal_strconv_uint64pow10) (.tail _ (.tail _ (.head _))))) (iface_of (g := 1) (t := 137) (by kernel_rfl) (by kernel_rfl) Tryd.underlying137 (laid_vread hL (n := "strconv.ErrSyntax") (d := Rows.laid_strconv_ErrSyntax) (.tail _ (.tail _ (.tail _ (.tail _ (.tail _ (.head _)))))))) (iface_of (g := 2) (t := 137) (by kernel_rfl) (by kernel_rfl) Tryd.underlying137 (laid_vread hL (n := "strconv.ErrRange") (d := Rows.laid_strconv_ErrRange) (.tail _ (.tail _ (.tail _ (.tail _ (.head _)))))))
theorem laid_met (os : Os) (args : Array Value) : laidMetH Tryd.prog Rows.textOptsBackRow.laid ((World.laidAll Tryd.prog os Rows.textOptsBackRow.laid).forCall (fun _ _ => 0) ⟨#[], args, []⟩).memory := by
  rw [MakeChecks.laidMetH_plain _ _ _ (by kernel_rfl)]
  exact laidMet_laidAll args (by kernel_rfl) (by kernel_rfl)
set_option maxRecDepth 100000 in
theorem lifted (os : Os) (started : os.Started) (H : Type) (enc : TypeId × Value → H) (F : Stop.Interp) :
    ReturnsInHanded {} Tryd.checked os 9 .any ((OpenSpec.ofChange Rows.textOptsBackSpec).preRow enc Tryd.prog Tryd.f9 Rows.textOptsBackRow.domain false Rows.textOptsBackRow.laid) (((OpenSpec.ofChange Rows.textOptsBackSpec).at F).post enc Tryd.prog Tryd.f9 false true false false) := by
  refine returnsInHanded_of_row (C := Tryd.checked) (s := (OpenSpec.ofChange Rows.textOptsBackSpec)) own started (by kernel_rfl) Tryd.func9
    (witness_laid (enc := enc) (C := Tryd.checked) (World.laidAll Tryd.prog os Rows.textOptsBackRow.laid) #[.agg #[.int .i64 0, .int .i64 0, .int .i64 0, .int .i64 0, .int .i64 0, .int .i64 0, .int .i64 0, .int .i64 0, .int .i64 0, .int .i64 0, .int .i64 0, .int .i64 0, .int .i64 0, .int .i64 0, .int .i64 0, .int .i64 0, .int .i64 0, .int .i64 0, .int .i64 0]] (World.laidAll_os _ _ _) (World.shaped_of_ZipB (by kernel_rfl) (by kernel_rfl)) (by kernel_rfl)
      (OpenSpec.preRow_of_cond 8 (x := ([.agg [.lit (.int .i64 0), .lit (.int .i64 0), .agg [.agg [.lit (.int .i64 0), .lit (.int .i64 0), .lit (.int .i64 0), .lit (.int .i64 0), .lit (.int .i64 0), .lit (.int .i64 0), .lit (.int .i64 0), .lit (.int .i64 0)], .lit (.int .i64 0), .lit (.int .i64 0), .lit (.int .i64 0), .lit (.int .i64 0), .lit (.int .i64 0), .lit (.int .i64 0), .lit (.int .i64 0), .lit (.int .i64 0), .lit (.int .i64 0)]]], [], [])) (by kernel_rfl) (by kernel_rfl) (fun k hk => by cases hk) (by kernel_rfl) (laid_met os _))) ?_
  intro W base args ds gs before hval0 hW hcnd hk00 hsz0 hL _ _
  have hgl := glb hL
  have hsz : (DataW.weightsEach Tryd.prog (Tryd.f9.params.toList ++ Rows.textOptsBackSpec.plain.varTypes Tryd.prog) (ds ++ gs)).all (· ≤ reachBytes) = true := hsz0
  have hval : ∀ (j : Nat) t v, Tryd.f9.params[j]? = some t → args[j]? = some v → Value.okWide Tryd.prog W .any base t v := hval0
  have hW' := hW
  obtain ⟨p, q, hA0, hV, rfl, hfz, hnd⟩ := hW
  have hA : DataW.TrodAll enc Tryd.prog W 0 (fun _ => true) true Tryd.f9.params.toList args.toList ds p := hA0
  rw [Tryd.params9] at hA hval hsz
  obtain ⟨v0, vs0, d0, ds0, p0, q0, hargs, rfl, rfl, h0, r0⟩ := trodAll_cons hA
  obtain ⟨rfl, rfl, rfl⟩ := trodAll_nil r0
  obtain rfl : args = #[v0] := by cases args; simp_all
  obtain ⟨rfl, rfl⟩ := trodVars_none hV
  obtain ⟨cs0, rfl, _⟩ := okWide_struct Tryd.underlying54 (hval 0 54 v0 rfl rfl)
  have k0 := h0
  have lt0 : ∀ x ∈ p0, x.block < W.heap.size := by obtain ⟨m, hm⟩ := k0; exact DataW.trod_lt m _ _ _ hm
  obtain ⟨fuel0, hf0⟩ := h0
  obtain ⟨⟨z0_0, z0_1, ⟨⟨z0_2, z0_3, z0_4, z0_5, z0_6, z0_7, z0_8, z0_9⟩, z0_10, z0_11, z0_12, z0_13, z0_14, z0_15, z0_16, z0_17, z0_18⟩⟩, ⟨_, _, hcs0, rfl, ⟨_, _, rfl, rfl, ⟨_, _, rfl, ⟨_, _, rfl, rfl, ⟨_, _, rfl, rfl, ⟨_, _, rfl, rfl, ⟨_, _, rfl, rfl, ⟨_, _, rfl, rfl, ⟨_, _, rfl, rfl, ⟨_, _, rfl, rfl, rfl⟩⟩⟩⟩⟩⟩⟩, ⟨_, _, rfl, rfl, ⟨_, _, rfl, rfl, ⟨_, _, rfl, rfl, ⟨_, _, rfl, rfl, ⟨_, _, rfl, rfl, ⟨_, _, rfl, rfl, ⟨_, _, rfl, rfl, ⟨_, _, rfl, rfl, rfl⟩⟩⟩⟩⟩⟩⟩⟩⟩⟩⟩, _, _, ok0⟩ := (opens_struct Tryd.underlying54 (by kernel_rfl) (by kernel_rfl) (by kernel_rfl) (opensL_cons (opens_int Tryd.underlying3 (by kernel_rfl)) (opensL_cons (opens_int Tryd.underlying3 (by kernel_rfl)) (opensL_one (opens_struct Tryd.underlying52 (by kernel_rfl) (by kernel_rfl) (by kernel_rfl) (opensL_cons (opens_struct Tryd.underlying50 (by kernel_rfl) (by kernel_rfl) (by kernel_rfl) (opensL_cons (opens_int Tryd.underlying3 (by kernel_rfl)) (opensL_cons (opens_int Tryd.underlying3 (by kernel_rfl)) (opensL_cons (opens_int Tryd.underlying3 (by kernel_rfl)) (opensL_cons (opens_int Tryd.underlying3 (by kernel_rfl)) (opensL_cons (opens_int Tryd.underlying3 (by kernel_rfl)) (opensL_cons (opens_int Tryd.underlying3 (by kernel_rfl)) (opensL_cons (opens_int Tryd.underlying3 (by kernel_rfl)) (opensL_one (opens_int Tryd.underlying3 (by kernel_rfl))))))))))) (opensL_cons (opens_int Tryd.underlying3 (by kernel_rfl)) (opensL_cons (opens_int Tryd.underlying3 (by kernel_rfl)) (opensL_cons (opens_int Tryd.underlying3 (by kernel_rfl)) (opensL_cons (opens_int Tryd.underlying3 (by kernel_rfl)) (opensL_cons (opens_int Tryd.underlying3 (by kernel_rfl)) (opensL_cons (opens_int Tryd.underlying3 (by kernel_rfl)) (opensL_cons (opens_int Tryd.underlying3 (by kernel_rfl)) (opensL_cons (opens_int Tryd.underlying3 (by kernel_rfl)) (opensL_one (opens_int Tryd.underlying3 (by kernel_rfl))))))))))))))))) _ _ _ hf0 (weights_of hsz (j := 0) (t := 54) rfl rfl)
  have e0 : cs0.toList = [.int .i64 z0_0, .int .i64 z0_1, .int .i64 z0_2, .int .i64 z0_3, .int .i64 z0_4, .int .i64 z0_5, .int .i64 z0_6, .int .i64 z0_7, .int .i64 z0_8, .int .i64 z0_9, .int .i64 z0_10, .int .i64 z0_11, .int .i64 z0_12, .int .i64 z0_13, .int .i64 z0_14, .int .i64 z0_15, .int .i64 z0_16, .int .i64 z0_17, .int .i64 z0_18] := by simpa [Value.cells] using hcs0
  obtain rfl : cs0 = [.int .i64 z0_0, .int .i64 z0_1, .int .i64 z0_2, .int .i64 z0_3, .int .i64 z0_4, .int .i64 z0_5, .int .i64 z0_6, .int .i64 z0_7, .int .i64 z0_8, .int .i64 z0_9, .int .i64 z0_10, .int .i64 z0_11, .int .i64 z0_12, .int .i64 z0_13, .int .i64 z0_14, .int .i64 z0_15, .int .i64 z0_16, .int .i64 z0_17, .int .i64 z0_18].toArray := by rw [← e0, Array.toArray_toList]
  clear hA0 hval0 hsz0 hsz
  obtain ⟨k, hk⟩ := pure_TextOptsBack z0_0 z0_1 z0_2 z0_3 z0_4 z0_5 z0_6 z0_7 z0_8 z0_9 z0_10 z0_11 z0_12 z0_13 z0_14 z0_15 z0_16 z0_17 z0_18 ok0
  refine (row_of_fn (synodlaw17_TextOptsBack.calls W (heapF W) k z0_0 z0_1 z0_2 z0_3 z0_4 z0_5 z0_6 z0_7 z0_8 z0_9 z0_10 z0_11 z0_12 z0_13 z0_14 z0_15 z0_16 z0_17 z0_18 hgl) hk (fun _ => rfl)).mono fun e W' ⟨he, bel⟩ => ?_
  subst he
  exact ⟨_, rfl, _, _, _, [], _, [], hW', trodAll_mk1 (shut_bool Tryd.underlying4 _), (trodAll_cons_mk (Below.trod laidOut (by kernel_rfl) (of_decide_eq_true (by kernel_rfl)) k0 bel lt0) trodAll_mk0), rfl, bel.frame _, fun h => by cases h⟩
theorem said : Rows.TextOptsBackSaid :=
  OpenClaim.holds_of_cond 9 Tryd.f9 rfl rfl rfl rfl rfl rfl rfl ⟨rfl, rfl, rfl, rfl, rfl⟩ rfl rfl rfl rfl rfl (by kernel_rfl) Tryd.func9 (by kernel_rfl)
    (of_decide_eq_true (by kernel_rfl)) (by unfold Func.isWrapper; first | (rw [if_pos (by decide +kernel)]; kernel_rfl) | (rw [if_neg (by decide +kernel)]; exact ⟨rfl, rfl⟩))
    (fun os started H enc _ F => by rw [OpenClaim.pre_eq_preRow]; exact lifted os started H enc F)
theorem plain (f : FuncId) (fn : Func) (hf : Tryd.pinned.checked.prog.funcNamed "synod/synodlaw17.TextOptsBack" = some f) (hfn : Tryd.pinned.checked.prog.funcs[f]? = some fn) :
    true = Tryd.pinned.checked.prog.looks [] ∧ ∀ (j : Nat) t, fn.params[j]? = some t → Tryd.pinned.checked.prog.wantsStandIn t = false := by
  obtain rfl : f = 9 := Option.some.inj ((show Tryd.prog.funcNamed "synod/synodlaw17.TextOptsBack" = some 9 by kernel_rfl).symm.trans hf) |>.symm
  obtain rfl : fn = Tryd.f9 := (Option.some.inj (Tryd.func9.symm.trans hfn)).symm
  refine ⟨by kernel_rfl, fun j t ht => ?_⟩
  rw [Tryd.params9] at ht
  have hm : t ∈ [54] := by simpa using Array.mem_of_getElem? ht
  have hall : ([54].all fun u => !Tryd.prog.wantsStandIn u) = true := by kernel_rfl
  exact (show Tryd.prog.wantsStandIn t = false by simpa using List.all_eq_true.1 hall t hm)
theorem card : Rows.TextOptsBackCardSaid :=
  Claim7.holds_tied_plain_at .later [] _ _ _ _ said (fun _ h => by cases h) (by kernel_rfl) (fun _ h => by cases h) textOptsBack_row_tie rfl ⟨rfl, rfl⟩ (by kernel_rfl) rfl plain (by kernel_rfl)
end Go.Proofs.YtbcnegennmpliaaDoor.textOptsBack
namespace Go.Proofs.YtbcnegennmpliaaDoor
/-- The card, under a short name, for the claim. -/
theorem textOptsBack_holds : Rows.TextOptsBackCardSaid := textOptsBack.card
end Go.Proofs.YtbcnegennmpliaaDoor
