/- The row of the law TextBlanks, out of its pure law and the printed walk. Conditions: none. -/
import Derived.Test.YtbcnegennmpliaaDoorM4
import Derived.Laws.BitsLemmas
import Derived.Lib.ItoaMem
import Derived.Test.YtbcnegennmpliaaDoorRows
import Derived.ProofKit
import Derived.OpenShut
import Derived.ShutString
import Derived.ChangeOld
import Derived.SizedLaws
import Derived.Deep.CondSized
import Derived.JoinedCond
import Derived.Lib.LaidTab
import Derived.Deep.DeepHandedRow
import Derived.Lay
import Derived.MakeChecks
import Derived.Test.YtbcnegennmpliaaDoorCards
import Derived.Test.YtbcnegennmpliaaDoorTie
namespace Go.Proofs.YtbcnegennmpliaaDoor
open Go.RowKit
set_option linter.unusedVariables false
set_option linter.unusedSimpArgs false
set_option maxRecDepth 20000
set_option maxHeartbeats 20000000
def synodlaw17_first.f (k : Nat)  : Option (Bool) := (text_Words.f k ([112, 117, 116, 32, 32, 49, 32, 50, 32, 97, 32, 34, 98, 32, 99, 34] : List UInt8)).bind fun s1v => ((text_ParseAct.f k ([116, 105, 99, 107, 32, 49, 32, 45, 53] : List UInt8)).bind fun s4v => ((text_ParseAct.f k ([116, 105, 99, 107, 32, 48, 49, 32, 50] : List UInt8)).bind fun s8v => ((text_FormatAct.f k (13 : Int) (2 : Int) (1 : Int) (0 : Int) (0 : Int) (4 : Int) ([107] : List UInt8) ([110, 101, 119] : List UInt8) ([111, 32, 100] : List UInt8)).bind fun s12v => ((synodref_SameTexts.f k s1v.1 ([([112, 117, 116] : List UInt8), ([49] : List UInt8), ([50] : List UInt8), ([97] : List UInt8), ([98, 32, 99] : List UInt8)] : List (List UInt8))).bind fun s27v => ((if s27v = true then ((synodref_Num.f s1v.2).bind fun s32v => (some (decide (s32v = (0 : Int))))) else (some false)).bind fun s30v => ((if (s30v && (decide (s4v.1 = (1 : Int)) && (decide (s4v.2.1 = (1 : Int)) && (decide (s4v.2.2.1 = (0 : Int)) && (decide (s4v.2.2.2.1 = (-5)) && (decide (s4v.2.2.2.2.1 = (0 : Int)) && (decide (s4v.2.2.2.2.2.1 = (0 : Int)) && (decide (s4v.2.2.2.2.2.2.1 = ([] : List UInt8)) && (decide (s4v.2.2.2.2.2.2.2.1 = ([] : List UInt8)) && (decide (s4v.2.2.2.2.2.2.2.2.1 = ([] : List UInt8)))))))))))) = true then ((synodref_Num.f s4v.2.2.2.2.2.2.2.2.2).bind fun s39v => (some (decide (s39v = (0 : Int))))) else (some false)).bind fun s37v => ((if s37v = true then ((synodref_Num.f s8v.2.2.2.2.2.2.2.2.2).bind fun s46v => (some (decide (s46v = (22 : Int))))) else (some false)).bind fun s44v => ((if (s44v && (decide (s12v.1 = ([115, 119, 97, 112, 32, 49, 32, 50, 32, 107, 32, 34, 111, 32, 100, 34, 32, 110, 101, 119] : List UInt8)))) = true then ((synodref_Num.f s12v.2).bind fun s53v => (some (decide (s53v = (0 : Int))))) else (some false)).bind fun s51v => (some s51v)))))))))
theorem synodlaw17_first.calls (W : World) (F : HA) (k : Nat)  (hgl : Glb Tryd.prog F) :
    Fn Tryd.prog W 11 [] [] F (synodlaw17_first.f k ) (fun (r : Bool) (y : Unit) => .bool r) (fun r y => []) := by
 unfold synodlaw17_first.f
 refine fn_intro 58 Tryd.func11 rfl Tryd.ntmps11 rfl ?_
 refine sr ?_
 refine va rfl rfl (nx ?_)
 refine simL_bind (fun s1v hs2v => ?_)
 refine simL_eff (re_call (vs := [str ([112, 117, 116, 32, 32, 49, 32, 50, 32, 97, 32, 34, 98, 32, 99, 34] : List UInt8)]) (cap := []) (A := []) (rst := [F]) rfl rfl rfl rfl rfl rfl Tryd.call12 (.sel 0 rfl (.nil _)) (text_Words.calls _ _ k ([112, 117, 116, 32, 32, 49, 32, 50, 32, 97, 32, 34, 98, 32, 99, 34] : List UInt8) ) hs2v) rfl rfl rfl ?_
 intro y3v
 refine vm rfl rfl ?_
 refine vq (q_ext rfl rfl rfl) rfl ?_
 refine vq (q_ext rfl rfl rfl) rfl ?_
 refine va rfl rfl ?_
 refine va rfl rfl (nx ?_)
 refine simL_bind (fun s4v hs5v => ?_)
 refine simL_eff (re_call (vs := [str ([116, 105, 99, 107, 32, 49, 32, 45, 53] : List UInt8)]) (cap := []) (A := []) (rst := [RowV 9 1 (V9 tt) y3v.1 s1v.1 y3v.2, F]) rfl rfl rfl rfl rfl rfl Tryd.call18 (.sel 0 rfl (.sel 0 rfl (.nil _))) (text_ParseAct.calls _ _ k ([116, 105, 99, 107, 32, 49, 32, 45, 53] : List UInt8) (hgl.lend 1 rfl)) hs5v) rfl rfl rfl ?_
 intro y6v
 refine vm rfl rfl ?_
 refine vq (q_ext rfl rfl rfl) rfl ?_
 refine vq (q_ext rfl rfl rfl) rfl ?_
 refine simL_eff (re_alloc rfl Tryd.zeroValue34 rfl) rfl rfl rfl ?_
 intro b7v
 refine simL_do (re_store 0 rfl rfl rfl Tryd.sizeOf34 rfl rfl (one_of (by rfl)) rfl rfl) rfl rfl ?_
 intro _
 refine simL_ent (H' := [obj b7v 34 [.int .i64 s4v.1, .int .i64 s4v.2.1, .int .i64 s4v.2.2.1, .int .i64 s4v.2.2.2.1, .int .i64 s4v.2.2.2.2.1, .int .i64 s4v.2.2.2.2.2.1, str s4v.2.2.2.2.2.2.1, str s4v.2.2.2.2.2.2.2.1, str s4v.2.2.2.2.2.2.2.2.1], RowV 9 1 (V9 tt) y3v.1 s1v.1 y3v.2, F]) (Ent.refl _) ?_
 refine va rfl rfl (nx ?_)
 refine simL_bind (fun s8v hs9v => ?_)
 refine simL_eff (re_call (vs := [str ([116, 105, 99, 107, 32, 48, 49, 32, 50] : List UInt8)]) (cap := []) (A := []) (rst := [obj b7v 34 [.int .i64 s4v.1, .int .i64 s4v.2.1, .int .i64 s4v.2.2.1, .int .i64 s4v.2.2.2.1, .int .i64 s4v.2.2.2.2.1, .int .i64 s4v.2.2.2.2.2.1, str s4v.2.2.2.2.2.2.1, str s4v.2.2.2.2.2.2.2.1, str s4v.2.2.2.2.2.2.2.2.1], RowV 9 1 (V9 tt) y3v.1 s1v.1 y3v.2, F]) rfl rfl rfl rfl rfl rfl Tryd.call18 (.sel 0 rfl (.sel 0 rfl (.sel 0 rfl (.nil _)))) (text_ParseAct.calls _ _ k ([116, 105, 99, 107, 32, 48, 49, 32, 50] : List UInt8) (hgl.lend 2 rfl)) hs9v) rfl rfl rfl ?_
 intro y10v
 refine vm rfl rfl ?_
 refine vq (q_ext rfl rfl rfl) rfl ?_
 refine vq (q_ext rfl rfl rfl) rfl ?_
 refine simL_eff (re_alloc rfl Tryd.zeroValue34 rfl) rfl rfl rfl ?_
 intro b11v
 refine simL_do (re_store 0 rfl rfl rfl Tryd.sizeOf34 rfl rfl (one_of (by rfl)) rfl rfl) rfl rfl ?_
 intro _
 refine simL_ent (H' := [obj b11v 34 [.int .i64 s8v.1, .int .i64 s8v.2.1, .int .i64 s8v.2.2.1, .int .i64 s8v.2.2.2.1, .int .i64 s8v.2.2.2.2.1, .int .i64 s8v.2.2.2.2.2.1, str s8v.2.2.2.2.2.2.1, str s8v.2.2.2.2.2.2.2.1, str s8v.2.2.2.2.2.2.2.2.1], obj b7v 34 [.int .i64 s4v.1, .int .i64 s4v.2.1, .int .i64 s4v.2.2.1, .int .i64 s4v.2.2.2.1, .int .i64 s4v.2.2.2.2.1, .int .i64 s4v.2.2.2.2.2.1, str s4v.2.2.2.2.2.2.1, str s4v.2.2.2.2.2.2.2.1, str s4v.2.2.2.2.2.2.2.2.1], RowV 9 1 (V9 tt) y3v.1 s1v.1 y3v.2, F]) (Ent.refl _) ?_
 refine va rfl rfl (nx ?_)
 refine vq (q_build (v := .agg #[.int .i64 13, .int .i64 2, .int .i64 1, .int .i64 0, .int .i64 0, .int .i64 4, str ([107] : List UInt8), str ([110, 101, 119] : List UInt8), str ([111, 32, 100] : List UInt8)]) rfl rfl (fun _ => by kernel_rfl)) rfl ?_
 refine simL_bind (fun s12v hs13v => ?_)
 refine simL_eff (re_call (vs := [.agg #[.int .i64 13, .int .i64 2, .int .i64 1, .int .i64 0, .int .i64 0, .int .i64 4, str ([107] : List UInt8), str ([110, 101, 119] : List UInt8), str ([111, 32, 100] : List UInt8)]]) (cap := []) (A := []) (rst := [obj b11v 34 [.int .i64 s8v.1, .int .i64 s8v.2.1, .int .i64 s8v.2.2.1, .int .i64 s8v.2.2.2.1, .int .i64 s8v.2.2.2.2.1, .int .i64 s8v.2.2.2.2.2.1, str s8v.2.2.2.2.2.2.1, str s8v.2.2.2.2.2.2.2.1, str s8v.2.2.2.2.2.2.2.2.1], obj b7v 34 [.int .i64 s4v.1, .int .i64 s4v.2.1, .int .i64 s4v.2.2.1, .int .i64 s4v.2.2.2.1, .int .i64 s4v.2.2.2.2.1, .int .i64 s4v.2.2.2.2.2.1, str s4v.2.2.2.2.2.2.1, str s4v.2.2.2.2.2.2.2.1, str s4v.2.2.2.2.2.2.2.2.1], RowV 9 1 (V9 tt) y3v.1 s1v.1 y3v.2, F]) rfl rfl rfl rfl rfl rfl Tryd.call20 (.sel 0 rfl (.sel 0 rfl (.sel 0 rfl (.sel 0 rfl (.nil _))))) (text_FormatAct.calls _ _ k (13 : Int) (2 : Int) (1 : Int) (0 : Int) (0 : Int) (4 : Int) ([107] : List UInt8) ([110, 101, 119] : List UInt8) ([111, 32, 100] : List UInt8) (hgl.lend 3 rfl)) hs13v) rfl rfl rfl ?_
 intro y14v
 refine vm rfl rfl ?_
 refine vq (q_ext rfl rfl rfl) rfl ?_
 refine vq (q_ext rfl rfl rfl) rfl ?_
 refine va rfl rfl ?_
 refine va rfl rfl (nx ?_)
 refine vm rfl rfl ?_
 have hlb16v : ListV 1 (V9 tt) ([([112, 117, 116] : List UInt8), ([49] : List UInt8), ([50] : List UInt8), ([97] : List UInt8), ([98, 32, 99] : List UInt8)] : List (List UInt8)) [[str ([112, 117, 116] : List UInt8)], [str ([49] : List UInt8)], [str ([50] : List UInt8)], [str ([97] : List UInt8)], [str ([98, 32, 99] : List UInt8)]] := ⟨⟨rfl, one_of (by rfl), rfl⟩, ⟨rfl, one_of (by rfl), rfl⟩, ⟨rfl, one_of (by rfl), rfl⟩, ⟨rfl, one_of (by rfl), rfl⟩, ⟨rfl, one_of (by rfl), rfl⟩, trivial⟩
 refine simL_eff (re_litV (V := (V9 tt)) (xs := ([([112, 117, 116] : List UInt8), ([49] : List UInt8), ([50] : List UInt8), ([97] : List UInt8), ([98, 32, 99] : List UInt8)] : List (List UInt8))) [[str ([112, 117, 116] : List UInt8)], [str ([49] : List UInt8)], [str ([50] : List UInt8)], [str ([97] : List UInt8)], [str ([98, 32, 99] : List UInt8)]] rfl rfl Tryd.underlying23 elt9 rfl (by kernel_rfl) rfl hlb16v rfl rfl) rfl rfl rfl ?_
 intro b16v
 refine simL_openV 3 rfl (fun rs17v hl18v => ?_)
 refine simL_bind (fun s27v hs28v => ?_)
 refine simL_lend 3 rfl (fun hq19v hq20v hq21v hq22v => ?_)
 refine simL_lend 0 rfl (fun hq23v hq24v hq25v hq26v => ?_)
 refine simL_eff (re_call (vs := [.slice y3v.1 s1v.1.length y3v.2, .slice (some ⟨b16v, 0, none⟩) (([([112, 117, 116] : List UInt8), ([49] : List UInt8), ([50] : List UInt8), ([97] : List UInt8), ([98, 32, 99] : List UInt8)] : List (List UInt8)).length) 5]) (cap := []) (A := []) (rst := [Row 9 1 (some ⟨b16v, 0, none⟩) ([([112, 117, 116] : List UInt8), ([49] : List UInt8), ([50] : List UInt8), ([97] : List UInt8), ([98, 32, 99] : List UInt8)] : List (List UInt8)).length 5 [[str ([112, 117, 116] : List UInt8)], [str ([49] : List UInt8)], [str ([50] : List UInt8)], [str ([97] : List UInt8)], [str ([98, 32, 99] : List UInt8)]].flatten, obj b11v 34 [.int .i64 s8v.1, .int .i64 s8v.2.1, .int .i64 s8v.2.2.1, .int .i64 s8v.2.2.2.1, .int .i64 s8v.2.2.2.2.1, .int .i64 s8v.2.2.2.2.2.1, str s8v.2.2.2.2.2.2.1, str s8v.2.2.2.2.2.2.2.1, str s8v.2.2.2.2.2.2.2.2.1], obj b7v 34 [.int .i64 s4v.1, .int .i64 s4v.2.1, .int .i64 s4v.2.2.1, .int .i64 s4v.2.2.2.1, .int .i64 s4v.2.2.2.2.1, .int .i64 s4v.2.2.2.2.2.1, str s4v.2.2.2.2.2.2.1, str s4v.2.2.2.2.2.2.2.1, str s4v.2.2.2.2.2.2.2.2.1], Row 9 1 y3v.1 s1v.1.length y3v.2 rs17v.flatten, F]) rfl rfl rfl rfl rfl rfl Tryd.call14 (.sel 0 rfl (.sel 0 rfl (.sel 0 rfl (.sel 0 rfl (.sel 0 rfl (.nil _)))))) (synodref_SameTexts.calls _ _ k y3v.1 y3v.2 s1v.1 (some ⟨b16v, 0, none⟩) 5 ([([112, 117, 116] : List UInt8), ([49] : List UInt8), ([50] : List UInt8), ([97] : List UInt8), ([98, 32, 99] : List UInt8)] : List (List UInt8)) ((Rd.asV hl18v hq19v).up (Up.lend 3 rfl) (fun _ _ h => h)) hq20v hq21v ((Rd.asV hlb16v hq23v).up (Up.lend 0 rfl) (fun _ _ h => h)) hq24v hq25v) hs28v) rfl rfl rfl ?_
 intro y29v
 refine vm rfl rfl ?_
 refine simL_cut' 4 (S := Bool) (Unit) (fun s y => [(3, .pointer (some ⟨b7v, 0, none⟩)), (4, .int .i64 s4v.2.2.2.2.2.2.2.2.2), (6, .int .i64 s8v.2.2.2.2.2.2.2.2.2), (7, str s12v.1), (8, .int .i64 s12v.2), (33, .bool s)]) (fun s y => [obj b7v 34 [.int .i64 s4v.1, .int .i64 s4v.2.1, .int .i64 s4v.2.2.1, .int .i64 s4v.2.2.2.1, .int .i64 s4v.2.2.2.2.1, .int .i64 s4v.2.2.2.2.2.1, str s4v.2.2.2.2.2.2.1, str s4v.2.2.2.2.2.2.2.1, str s4v.2.2.2.2.2.2.2.2.1], F]) ?_ ?_
 refine simL_caseb (fun hb35v => ?_) (fun hb36v => ?_)
 rw [hb35v]
 refine simL_valg (q_move rfl rfl) rfl rfl rfl rfl rfl rfl ?_
 refine simL_bind (fun s32v hs33v => ?_)
 refine simL_effg (re_call (vs := [.int .i64 s1v.2]) (cap := []) (A := []) (rst := [Row 9 1 (some ⟨b16v, 0, none⟩) ([([112, 117, 116] : List UInt8), ([49] : List UInt8), ([50] : List UInt8), ([97] : List UInt8), ([98, 32, 99] : List UInt8)] : List (List UInt8)).length 5 [[str ([112, 117, 116] : List UInt8)], [str ([49] : List UInt8)], [str ([50] : List UInt8)], [str ([97] : List UInt8)], [str ([98, 32, 99] : List UInt8)]].flatten, obj b11v 34 [.int .i64 s8v.1, .int .i64 s8v.2.1, .int .i64 s8v.2.2.1, .int .i64 s8v.2.2.2.1, .int .i64 s8v.2.2.2.2.1, .int .i64 s8v.2.2.2.2.2.1, str s8v.2.2.2.2.2.2.1, str s8v.2.2.2.2.2.2.2.1, str s8v.2.2.2.2.2.2.2.2.1], obj b7v 34 [.int .i64 s4v.1, .int .i64 s4v.2.1, .int .i64 s4v.2.2.1, .int .i64 s4v.2.2.2.1, .int .i64 s4v.2.2.2.2.1, .int .i64 s4v.2.2.2.2.2.1, str s4v.2.2.2.2.2.2.1, str s4v.2.2.2.2.2.2.2.1, str s4v.2.2.2.2.2.2.2.2.1], Row 9 1 y3v.1 s1v.1.length y3v.2 rs17v.flatten, F]) rfl rfl rfl rfl rfl rfl Tryd.call15 (.sel 0 rfl (.sel 0 rfl (.sel 0 rfl (.sel 0 rfl (.sel 0 rfl (.nil _)))))) (synodref_Num.calls _ _ s1v.2 ) hs33v) rfl rfl rfl rfl rfl rfl ?_
 intro y34v
 refine simL_valg (q_eql rfl rfl rfl) rfl rfl rfl rfl rfl rfl ?_
 refine vq (q_pick rfl rfl rfl rfl rfl) rfl (simL_nil ?_)
 exact nrm_cut (s := decide (s32v = (0 : Int))) () ⟨rfl, rfl, rfl, rfl, rfl, rfl, trivial⟩ (.sel 2 rfl (.sel 3 rfl (.nil _)))
 rw [hb36v]
 refine simL_skipd rfl rfl rfl rfl rfl rfl ?_
 refine simL_skipd rfl rfl rfl rfl rfl rfl ?_
 refine simL_skipd rfl rfl rfl rfl rfl rfl ?_
 refine vq (q_pick rfl rfl rfl rfl rfl) rfl (simL_nil ?_)
 exact nrm_cut (s := false) () ⟨rfl, rfl, rfl, rfl, rfl, rfl, trivial⟩ (.sel 2 rfl (.sel 3 rfl (.nil _)))
 intro s30v y31v
 refine vm rfl rfl ?_
 refine simL_valc (b := s30v) (fun hb62v => RQ.sub (E' := [(3, .pointer (some ⟨b7v, 0, none⟩))]) ⟨rfl, trivial⟩ (q_loado 0 rfl rfl Tryd.isAgg34 Tryd.sizeOf34 rfl rfl)) rfl rfl rfl rfl rfl ?_
 refine simL_valc (b := s30v) (fun hb61v => RQ.sub (E' := []) trivial (q_build (v := .agg #[.int .i64 1, .int .i64 1, .int .i64 0, .int .i64 (-5), .int .i64 0, .int .i64 0, str ([] : List UInt8), str ([] : List UInt8), str ([] : List UInt8)]) rfl rfl (fun _ => by kernel_rfl))) rfl rfl rfl rfl rfl ?_
 refine simL_valc (b := s30v) (fun hb60v => RQ.sub (E' := [(35, .agg #[.int .i64 s4v.1, .int .i64 s4v.2.1, .int .i64 s4v.2.2.1, .int .i64 s4v.2.2.2.1, .int .i64 s4v.2.2.2.2.1, .int .i64 s4v.2.2.2.2.2.1, str s4v.2.2.2.2.2.2.1, str s4v.2.2.2.2.2.2.2.1, str s4v.2.2.2.2.2.2.2.2.1]), (36, .agg #[.int .i64 1, .int .i64 1, .int .i64 0, .int .i64 (-5), .int .i64 0, .int .i64 0, str ([] : List UInt8), str ([] : List UInt8), str ([] : List UInt8)])]) ⟨lk_cv rfl hb60v, lk_cv rfl hb60v, trivial⟩ (q_eqagg rfl rfl rfl (by kernel_rfl) (fun d w => eqi_struct Tryd.underlying34 (by kernel_rfl) (eqf_cons (by rfl) (part_of Tryd.isAgg3 rfl) (part_of Tryd.isAgg3 rfl) (eqi_int Tryd.underlying3) (eqf_cons (by rfl) (part_of Tryd.isAgg3 rfl) (part_of Tryd.isAgg3 rfl) (eqi_int Tryd.underlying3) (eqf_cons (by rfl) (part_of Tryd.isAgg3 rfl) (part_of Tryd.isAgg3 rfl) (eqi_int Tryd.underlying3) (eqf_cons (by rfl) (part_of Tryd.isAgg3 rfl) (part_of Tryd.isAgg3 rfl) (eqi_int Tryd.underlying3) (eqf_cons (by rfl) (part_of Tryd.isAgg3 rfl) (part_of Tryd.isAgg3 rfl) (eqi_int Tryd.underlying3) (eqf_cons (by rfl) (part_of Tryd.isAgg3 rfl) (part_of Tryd.isAgg3 rfl) (eqi_int Tryd.underlying3) (eqf_cons (by rfl) (part_of Tryd.isAgg9 rfl) (part_of Tryd.isAgg9 rfl) (eqi_str Tryd.underlying9) (eqf_cons (by rfl) (part_of Tryd.isAgg9 rfl) (part_of Tryd.isAgg9 rfl) (eqi_str Tryd.underlying9) (eqf_last (by rfl) (part_of Tryd.isAgg9 rfl) (part_of Tryd.isAgg9 rfl) (eqi_str Tryd.underlying9))))))))))))) rfl rfl rfl rfl rfl ?_
 refine vq (q_and rfl rfl rfl) rfl ?_
 refine vm rfl rfl ?_
 refine simL_cut' 4 (S := Bool) (Unit) (fun s y => [(6, .int .i64 s8v.2.2.2.2.2.2.2.2.2), (7, str s12v.1), (8, .int .i64 s12v.2), (43, .bool s)]) (fun s y => [F]) ?_ ?_
 refine simL_caseb (fun hb42v => ?_) (fun hb43v => ?_)
 rw [hb42v]
 refine simL_valg (q_move rfl rfl) rfl rfl rfl rfl rfl rfl ?_
 refine simL_bind (fun s39v hs40v => ?_)
 refine simL_effg (re_call (vs := [.int .i64 s4v.2.2.2.2.2.2.2.2.2]) (cap := []) (A := []) (rst := [obj b7v 34 [.int .i64 s4v.1, .int .i64 s4v.2.1, .int .i64 s4v.2.2.1, .int .i64 s4v.2.2.2.1, .int .i64 s4v.2.2.2.2.1, .int .i64 s4v.2.2.2.2.2.1, str s4v.2.2.2.2.2.2.1, str s4v.2.2.2.2.2.2.2.1, str s4v.2.2.2.2.2.2.2.2.1], F]) rfl rfl rfl rfl rfl rfl Tryd.call15 (.sel 0 rfl (.sel 0 rfl (.nil _))) (synodref_Num.calls _ _ s4v.2.2.2.2.2.2.2.2.2 ) hs40v) rfl rfl rfl rfl rfl rfl ?_
 intro y41v
 refine simL_valg (q_eql rfl rfl rfl) rfl rfl rfl rfl rfl rfl ?_
 refine vq (q_pick rfl rfl rfl rfl rfl) rfl (simL_nil ?_)
 exact nrm_cut (s := decide (s39v = (0 : Int))) () ⟨rfl, rfl, rfl, rfl, trivial⟩ (.sel 1 rfl (.nil _))
 rw [hb43v]
 refine simL_skipd rfl rfl rfl rfl rfl rfl ?_
 refine simL_skipd rfl rfl rfl rfl rfl rfl ?_
 refine simL_skipd rfl rfl rfl rfl rfl rfl ?_
 refine vq (q_pick rfl rfl rfl rfl rfl) rfl (simL_nil ?_)
 exact nrm_cut (s := false) () ⟨rfl, rfl, rfl, rfl, trivial⟩ (.sel 1 rfl (.nil _))
 intro s37v y38v
 refine vm rfl rfl ?_
 refine simL_cut' 4 (S := Bool) (Unit) (fun s y => [(7, str s12v.1), (8, .int .i64 s12v.2), (48, .bool s)]) (fun s y => [F]) ?_ ?_
 refine simL_caseb (fun hb49v => ?_) (fun hb50v => ?_)
 rw [hb49v]
 refine simL_valg (q_move rfl rfl) rfl rfl rfl rfl rfl rfl ?_
 refine simL_bind (fun s46v hs47v => ?_)
 refine simL_effg (re_call (vs := [.int .i64 s8v.2.2.2.2.2.2.2.2.2]) (cap := []) (A := []) (rst := [F]) rfl rfl rfl rfl rfl rfl Tryd.call15 (.sel 0 rfl (.nil _)) (synodref_Num.calls _ _ s8v.2.2.2.2.2.2.2.2.2 ) hs47v) rfl rfl rfl rfl rfl rfl ?_
 intro y48v
 refine simL_valg (q_eql rfl rfl rfl) rfl rfl rfl rfl rfl rfl ?_
 refine vq (q_pick rfl rfl rfl rfl rfl) rfl (simL_nil ?_)
 exact nrm_cut (s := decide (s46v = (22 : Int))) () ⟨rfl, rfl, rfl, trivial⟩ (.sel 0 rfl (.nil _))
 rw [hb50v]
 refine simL_skipd rfl rfl rfl rfl rfl rfl ?_
 refine simL_skipd rfl rfl rfl rfl rfl rfl ?_
 refine simL_skipd rfl rfl rfl rfl rfl rfl ?_
 refine vq (q_pick rfl rfl rfl rfl rfl) rfl (simL_nil ?_)
 exact nrm_cut (s := false) () ⟨rfl, rfl, rfl, trivial⟩ (.sel 0 rfl (.nil _))
 intro s44v y45v
 refine vm rfl rfl ?_
 refine simL_valc (b := s44v) (fun hb59v => RQ.sub (E' := [(7, str s12v.1)]) ⟨rfl, trivial⟩ (q_move rfl rfl)) rfl rfl rfl rfl rfl ?_
 refine simL_valc (b := s44v) (fun hb58v => RQ.sub (E' := [(50, str s12v.1)]) ⟨lk_cv rfl hb58v, trivial⟩ (q_eqs rfl rfl rfl)) rfl rfl rfl rfl rfl ?_
 refine vq (q_and rfl rfl rfl) rfl ?_
 refine vm rfl rfl ?_
 refine simL_cut' 4 (S := Bool) (Unit) (fun s y => [(57, .bool s)]) (fun s y => [F]) ?_ ?_
 refine simL_caseb (fun hb56v => ?_) (fun hb57v => ?_)
 rw [hb56v]
 refine simL_valg (q_move rfl rfl) rfl rfl rfl rfl rfl rfl ?_
 refine simL_bind (fun s53v hs54v => ?_)
 refine simL_effg (re_call (vs := [.int .i64 s12v.2]) (cap := []) (A := []) (rst := [F]) rfl rfl rfl rfl rfl rfl Tryd.call15 (.sel 0 rfl (.nil _)) (synodref_Num.calls _ _ s12v.2 ) hs54v) rfl rfl rfl rfl rfl rfl ?_
 intro y55v
 refine simL_valg (q_eql rfl rfl rfl) rfl rfl rfl rfl rfl rfl ?_
 refine vq (q_pick rfl rfl rfl rfl rfl) rfl (simL_nil ?_)
 exact nrm_cut (s := decide (s53v = (0 : Int))) () ⟨rfl, trivial⟩ (.sel 0 rfl (.nil _))
 rw [hb57v]
 refine simL_skipd rfl rfl rfl rfl rfl rfl ?_
 refine simL_skipd rfl rfl rfl rfl rfl rfl ?_
 refine simL_skipd rfl rfl rfl rfl rfl rfl ?_
 refine vq (q_pick rfl rfl rfl rfl rfl) rfl (simL_nil ?_)
 exact nrm_cut (s := false) () ⟨rfl, trivial⟩ (.sel 0 rfl (.nil _))
 intro s51v y52v
 refine va rfl rfl (simL_nil (nrm_then (sim_rtn ?_)))
 exact rtn_fn () rfl rfl rfl (.sel 0 rfl (.nil _))

def synodlaw17_TextBlanks.l0 (s6v : List (List UInt8) × Int) : Nat → List UInt8 → Int → Option (List UInt8)
  | 0, _, _ => none
  | k + 1, z48v, z49v => if z49v < (s6v.1.length : Int) then (if z48v.length + ([32, 32, 32] : List UInt8).length ≤ 9223372036854775807 then (if 0 ≤ z49v ∧ z49v < (s6v.1.length : Int) then ((text_Quote.f k (s6v.1.getD z49v.toNat ([] : List UInt8))).bind fun s63v => (if (z48v ++ ([32, 32, 32] : List UInt8)).length + s63v.length ≤ 9223372036854775807 then (synodlaw17_TextBlanks.l0 s6v k ((z48v ++ ([32, 32, 32] : List UInt8)) ++ s63v) (IntKind.i64.wrap (z49v + 1))) else none)) else none) else none) else (some z48v)
def synodlaw17_TextBlanks.f (k : Nat) (x0 : List UInt8) (x1 : Int) : Option (Bool) := (synodlaw17_first.f k).bind fun s1v => (if ((!s1v) || (decide ((2000 : Int) < (x0.length : Int)))) = true then (some s1v) else ((text_Words.f k x0).bind fun s6v => ((text_ParseAct.f k x0).bind fun s9v => (if ([32] : List UInt8).length + x0.length ≤ 9223372036854775807 then (if (([32] : List UInt8) ++ x0).length + ([32, 32] : List UInt8).length ≤ 9223372036854775807 then ((text_Words.f k ((([32] : List UInt8) ++ x0) ++ ([32, 32] : List UInt8))).bind fun s15v => ((text_ParseAct.f k ((([32] : List UInt8) ++ x0) ++ ([32, 32] : List UInt8))).bind fun s18v => ((synodref_SameTexts.f k s6v.1 s15v.1).bind fun s34v => (if ((((!s34v) || (!decide (s6v.2 = s15v.2))) || (!decide (s9v.2.2.2.2.2.2.2.2.2 = s18v.2.2.2.2.2.2.2.2.2))) || (!(decide (s9v.1 = s18v.1) && (decide (s9v.2.1 = s18v.2.1) && (decide (s9v.2.2.1 = s18v.2.2.1) && (decide (s9v.2.2.2.1 = s18v.2.2.2.1) && (decide (s9v.2.2.2.2.1 = s18v.2.2.2.2.1) && (decide (s9v.2.2.2.2.2.1 = s18v.2.2.2.2.2.1) && (decide (s9v.2.2.2.2.2.2.1 = s18v.2.2.2.2.2.2.1) && (decide (s9v.2.2.2.2.2.2.2.1 = s18v.2.2.2.2.2.2.2.1) && (decide (s9v.2.2.2.2.2.2.2.2.1 = s18v.2.2.2.2.2.2.2.2.1)))))))))))) = true then (some false) else ((synodref_Num.f s6v.2).bind fun s39v => (if s39v = (0 : Int) then ((synodlaw17_TextBlanks.l0 s6v k ([] : List UInt8) 0).bind fun s44v => ((text_Words.f k s44v).bind fun s67v => ((synodref_SameTexts.f k s67v.1 s6v.1).bind fun s82v => ((if (4096 : Int) < (s44v.length : Int) then (some true) else ((if s82v = true then ((synodref_Num.f s67v.2).bind fun s89v => (some (decide (s89v = (0 : Int))))) else (some false)).bind fun s87v => (some s87v))).bind fun s85v => (some s85v))))) else (some true))))))) else none) else none))))
theorem synodlaw17_TextBlanks.calls (W : World) (F : HA) (k : Nat) (x0 : List UInt8) (x1 : Int) (hgl : Glb Tryd.prog F) :
    Fn Tryd.prog W 7 [str x0, .int .i64 x1] [] F (synodlaw17_TextBlanks.f k x0 x1) (fun (r : Bool) (y : Unit) => .bool r) (fun r y => []) := by
 unfold synodlaw17_TextBlanks.f
 refine fn_intro 109 Tryd.func7 rfl Tryd.ntmps7 rfl ?_
 refine sr ?_
 refine va rfl rfl (nx ?_)
 refine simL_bind (fun s1v hs2v => ?_)
 refine simL_eff (re_call (vs := []) (cap := []) (A := []) (rst := [F]) rfl rfl rfl rfl rfl rfl Tryd.call11 (.sel 0 rfl (.nil _)) (synodlaw17_first.calls _ _ k  (hgl.lend 0 rfl)) hs2v) rfl rfl rfl ?_
 intro y3v
 refine va rfl rfl (simL_nil (nrm_then (sim_seq (sr ?_))))
 refine vm rfl rfl ?_
 refine vq (q_not rfl rfl) rfl ?_
 refine vm rfl rfl ?_
 refine simL_valc (b := !s1v) (fun hb107v => RQ.sub (E' := [(0, str x0)]) ⟨rfl, trivial⟩ (q_move rfl rfl)) rfl rfl rfl rfl rfl ?_
 refine simL_valc (b := !s1v) (fun hb106v => RQ.sub (E' := [(25, str x0)]) ⟨lk_cv rfl hb106v, trivial⟩ (q_lens rfl rfl rfl Tryd.underlying9)) rfl rfl rfl rfl rfl ?_
 refine simL_valc (b := !s1v) (fun hb105v => RQ.sub (E' := [(26, .int .i64 (x0.length : Int))]) ⟨lk_cv rfl hb105v, trivial⟩ (q_gtr rfl rfl rfl)) rfl rfl rfl rfl rfl ?_
 refine vq (q_or rfl rfl rfl) rfl (simL_nil (nrm_then ?_))
 refine sim_condb rfl (fun h4v => ?_) (fun h5v => ?_)
 refine sr ?_
 refine vm rfl rfl ?_
 refine va rfl rfl (simL_nil (nrm_then (sim_rtn ?_)))
 refine rtn_then ?_
 exact rtn_fn () rfl rfl rfl (.sel 0 rfl (.nil _))
 refine sim_skip ?_
 refine nrm_then (sr ?_)
 refine vm rfl rfl ?_
 refine simL_bind (fun s6v hs7v => ?_)
 refine simL_eff (re_call (vs := [str x0]) (cap := []) (A := []) (rst := [F]) rfl rfl rfl rfl rfl rfl Tryd.call12 (.sel 0 rfl (.nil _)) (text_Words.calls _ _ k x0 ) hs7v) rfl rfl rfl ?_
 intro y8v
 refine vm rfl rfl ?_
 refine vq (q_ext rfl rfl rfl) rfl ?_
 refine vq (q_ext rfl rfl rfl) rfl ?_
 refine va rfl rfl ?_
 refine va rfl rfl (nx ?_)
 refine vm rfl rfl ?_
 refine simL_bind (fun s9v hs10v => ?_)
 refine simL_eff (re_call (vs := [str x0]) (cap := []) (A := []) (rst := [RowV 9 1 (V9 tt) y8v.1 s6v.1 y8v.2, F]) rfl rfl rfl rfl rfl rfl Tryd.call18 (.sel 0 rfl (.sel 0 rfl (.nil _))) (text_ParseAct.calls _ _ k x0 (hgl.lend 1 rfl)) hs10v) rfl rfl rfl ?_
 intro y11v
 refine vm rfl rfl ?_
 refine vq (q_ext rfl rfl rfl) rfl ?_
 refine vq (q_ext rfl rfl rfl) rfl ?_
 refine simL_eff (re_alloc rfl Tryd.zeroValue34 rfl) rfl rfl rfl ?_
 intro b12v
 refine simL_do (re_store 0 rfl rfl rfl Tryd.sizeOf34 rfl rfl (one_of (by rfl)) rfl rfl) rfl rfl ?_
 intro _
 refine simL_ent (H' := [obj b12v 34 [.int .i64 s9v.1, .int .i64 s9v.2.1, .int .i64 s9v.2.2.1, .int .i64 s9v.2.2.2.1, .int .i64 s9v.2.2.2.2.1, .int .i64 s9v.2.2.2.2.2.1, str s9v.2.2.2.2.2.2.1, str s9v.2.2.2.2.2.2.2.1, str s9v.2.2.2.2.2.2.2.2.1], RowV 9 1 (V9 tt) y8v.1 s6v.1 y8v.2, F]) (Ent.refl _) ?_
 refine va rfl rfl (nx ?_)
 refine vm rfl rfl ?_
 refine simL_ask (fun hb13v => ?_)
 refine vq (q_cat rfl rfl rfl hb13v) rfl ?_
 refine simL_ask (fun hb14v => ?_)
 refine vq (q_cat rfl rfl rfl hb14v) rfl ?_
 refine va rfl rfl (nx ?_)
 refine vm rfl rfl ?_
 refine simL_bind (fun s15v hs16v => ?_)
 refine simL_eff (re_call (vs := [str ((([32] : List UInt8) ++ x0) ++ ([32, 32] : List UInt8))]) (cap := []) (A := []) (rst := [obj b12v 34 [.int .i64 s9v.1, .int .i64 s9v.2.1, .int .i64 s9v.2.2.1, .int .i64 s9v.2.2.2.1, .int .i64 s9v.2.2.2.2.1, .int .i64 s9v.2.2.2.2.2.1, str s9v.2.2.2.2.2.2.1, str s9v.2.2.2.2.2.2.2.1, str s9v.2.2.2.2.2.2.2.2.1], RowV 9 1 (V9 tt) y8v.1 s6v.1 y8v.2, F]) rfl rfl rfl rfl rfl rfl Tryd.call12 (.sel 0 rfl (.sel 0 rfl (.sel 0 rfl (.nil _)))) (text_Words.calls _ _ k ((([32] : List UInt8) ++ x0) ++ ([32, 32] : List UInt8)) ) hs16v) rfl rfl rfl ?_
 intro y17v
 refine vm rfl rfl ?_
 refine vq (q_ext rfl rfl rfl) rfl ?_
 refine vq (q_ext rfl rfl rfl) rfl ?_
 refine va rfl rfl ?_
 refine va rfl rfl (nx ?_)
 refine vm rfl rfl ?_
 refine simL_bind (fun s18v hs19v => ?_)
 refine simL_eff (re_call (vs := [str ((([32] : List UInt8) ++ x0) ++ ([32, 32] : List UInt8))]) (cap := []) (A := []) (rst := [RowV 9 1 (V9 tt) y17v.1 s15v.1 y17v.2, obj b12v 34 [.int .i64 s9v.1, .int .i64 s9v.2.1, .int .i64 s9v.2.2.1, .int .i64 s9v.2.2.2.1, .int .i64 s9v.2.2.2.2.1, .int .i64 s9v.2.2.2.2.2.1, str s9v.2.2.2.2.2.2.1, str s9v.2.2.2.2.2.2.2.1, str s9v.2.2.2.2.2.2.2.2.1], RowV 9 1 (V9 tt) y8v.1 s6v.1 y8v.2, F]) rfl rfl rfl rfl rfl rfl Tryd.call18 (.sel 0 rfl (.sel 0 rfl (.sel 0 rfl (.sel 0 rfl (.nil _))))) (text_ParseAct.calls _ _ k ((([32] : List UInt8) ++ x0) ++ ([32, 32] : List UInt8)) (hgl.lend 3 rfl)) hs19v) rfl rfl rfl ?_
 intro y20v
 refine vm rfl rfl ?_
 refine vq (q_ext rfl rfl rfl) rfl ?_
 refine vq (q_ext rfl rfl rfl) rfl ?_
 refine simL_eff (re_alloc rfl Tryd.zeroValue34 rfl) rfl rfl rfl ?_
 intro b21v
 refine simL_do (re_store 0 rfl rfl rfl Tryd.sizeOf34 rfl rfl (one_of (by rfl)) rfl rfl) rfl rfl ?_
 intro _
 refine simL_ent (H' := [obj b21v 34 [.int .i64 s18v.1, .int .i64 s18v.2.1, .int .i64 s18v.2.2.1, .int .i64 s18v.2.2.2.1, .int .i64 s18v.2.2.2.2.1, .int .i64 s18v.2.2.2.2.2.1, str s18v.2.2.2.2.2.2.1, str s18v.2.2.2.2.2.2.2.1, str s18v.2.2.2.2.2.2.2.2.1], RowV 9 1 (V9 tt) y17v.1 s15v.1 y17v.2, obj b12v 34 [.int .i64 s9v.1, .int .i64 s9v.2.1, .int .i64 s9v.2.2.1, .int .i64 s9v.2.2.2.1, .int .i64 s9v.2.2.2.2.1, .int .i64 s9v.2.2.2.2.2.1, str s9v.2.2.2.2.2.2.1, str s9v.2.2.2.2.2.2.2.1, str s9v.2.2.2.2.2.2.2.2.1], RowV 9 1 (V9 tt) y8v.1 s6v.1 y8v.2, F]) (Ent.refl _) ?_
 refine va rfl rfl (nx ?_)
 refine vm rfl rfl ?_
 refine vm rfl rfl ?_
 refine simL_openV 1 rfl (fun rs22v hl23v => ?_)
 refine simL_openV 3 rfl (fun rs24v hl25v => ?_)
 refine simL_bind (fun s34v hs35v => ?_)
 refine simL_lend 3 rfl (fun hq26v hq27v hq28v hq29v => ?_)
 refine simL_lend 1 rfl (fun hq30v hq31v hq32v hq33v => ?_)
 refine simL_eff (re_call (vs := [.slice y8v.1 s6v.1.length y8v.2, .slice y17v.1 s15v.1.length y17v.2]) (cap := []) (A := []) (rst := [obj b21v 34 [.int .i64 s18v.1, .int .i64 s18v.2.1, .int .i64 s18v.2.2.1, .int .i64 s18v.2.2.2.1, .int .i64 s18v.2.2.2.2.1, .int .i64 s18v.2.2.2.2.2.1, str s18v.2.2.2.2.2.2.1, str s18v.2.2.2.2.2.2.2.1, str s18v.2.2.2.2.2.2.2.2.1], Row 9 1 y17v.1 s15v.1.length y17v.2 rs22v.flatten, obj b12v 34 [.int .i64 s9v.1, .int .i64 s9v.2.1, .int .i64 s9v.2.2.1, .int .i64 s9v.2.2.2.1, .int .i64 s9v.2.2.2.2.1, .int .i64 s9v.2.2.2.2.2.1, str s9v.2.2.2.2.2.2.1, str s9v.2.2.2.2.2.2.2.1, str s9v.2.2.2.2.2.2.2.2.1], Row 9 1 y8v.1 s6v.1.length y8v.2 rs24v.flatten, F]) rfl rfl rfl rfl rfl rfl Tryd.call14 (.sel 0 rfl (.sel 0 rfl (.sel 0 rfl (.sel 0 rfl (.sel 0 rfl (.nil _)))))) (synodref_SameTexts.calls _ _ k y8v.1 y8v.2 s6v.1 y17v.1 y17v.2 s15v.1 ((Rd.asV hl25v hq26v).up (Up.lend 3 rfl) (fun _ _ h => h)) hq27v hq28v ((Rd.asV hl23v hq30v).up (Up.lend 1 rfl) (fun _ _ h => h)) hq31v hq32v) hs35v) rfl rfl rfl ?_
 intro y36v
 refine va rfl rfl (simL_nil (nrm_then (sim_seq (sr ?_))))
 refine vm rfl rfl ?_
 refine vq (q_not rfl rfl) rfl ?_
 refine vm rfl rfl ?_
 refine simL_valc (b := !s34v) (fun hb104v => RQ.sub (E' := [(7, .int .i64 s6v.2)]) ⟨rfl, trivial⟩ (q_move rfl rfl)) rfl rfl rfl rfl rfl ?_
 refine simL_valc (b := !s34v) (fun hb103v => RQ.sub (E' := [(12, .int .i64 s15v.2)]) ⟨rfl, trivial⟩ (q_move rfl rfl)) rfl rfl rfl rfl rfl ?_
 refine simL_valc (b := !s34v) (fun hb102v => RQ.sub (E' := [(59, .int .i64 s6v.2), (60, .int .i64 s15v.2)]) ⟨lk_cv rfl hb102v, lk_cv rfl hb102v, trivial⟩ (q_neq rfl rfl rfl)) rfl rfl rfl rfl rfl ?_
 refine vq (q_or rfl rfl rfl) rfl ?_
 refine vm rfl rfl ?_
 refine simL_valc (b := (!s34v) || (!decide (s6v.2 = s15v.2))) (fun hb101v => RQ.sub (E' := [(9, .int .i64 s9v.2.2.2.2.2.2.2.2.2)]) ⟨rfl, trivial⟩ (q_move rfl rfl)) rfl rfl rfl rfl rfl ?_
 refine simL_valc (b := (!s34v) || (!decide (s6v.2 = s15v.2))) (fun hb100v => RQ.sub (E' := [(14, .int .i64 s18v.2.2.2.2.2.2.2.2.2)]) ⟨rfl, trivial⟩ (q_move rfl rfl)) rfl rfl rfl rfl rfl ?_
 refine simL_valc (b := (!s34v) || (!decide (s6v.2 = s15v.2))) (fun hb99v => RQ.sub (E' := [(64, .int .i64 s9v.2.2.2.2.2.2.2.2.2), (65, .int .i64 s18v.2.2.2.2.2.2.2.2.2)]) ⟨lk_cv rfl hb99v, lk_cv rfl hb99v, trivial⟩ (q_neq rfl rfl rfl)) rfl rfl rfl rfl rfl ?_
 refine vq (q_or rfl rfl rfl) rfl ?_
 refine vm rfl rfl ?_
 refine simL_valc (b := ((!s34v) || (!decide (s6v.2 = s15v.2))) || (!decide (s9v.2.2.2.2.2.2.2.2.2 = s18v.2.2.2.2.2.2.2.2.2))) (fun hb98v => RQ.sub (E' := [(8, .pointer (some ⟨b12v, 0, none⟩))]) ⟨rfl, trivial⟩ (q_loado 2 rfl rfl Tryd.isAgg34 Tryd.sizeOf34 rfl rfl)) rfl rfl rfl rfl rfl ?_
 refine simL_valc (b := ((!s34v) || (!decide (s6v.2 = s15v.2))) || (!decide (s9v.2.2.2.2.2.2.2.2.2 = s18v.2.2.2.2.2.2.2.2.2))) (fun hb97v => RQ.sub (E' := [(13, .pointer (some ⟨b21v, 0, none⟩))]) ⟨rfl, trivial⟩ (q_loado 0 rfl rfl Tryd.isAgg34 Tryd.sizeOf34 rfl rfl)) rfl rfl rfl rfl rfl ?_
 refine simL_valc (b := ((!s34v) || (!decide (s6v.2 = s15v.2))) || (!decide (s9v.2.2.2.2.2.2.2.2.2 = s18v.2.2.2.2.2.2.2.2.2))) (fun hb96v => RQ.sub (E' := [(69, .agg #[.int .i64 s9v.1, .int .i64 s9v.2.1, .int .i64 s9v.2.2.1, .int .i64 s9v.2.2.2.1, .int .i64 s9v.2.2.2.2.1, .int .i64 s9v.2.2.2.2.2.1, str s9v.2.2.2.2.2.2.1, str s9v.2.2.2.2.2.2.2.1, str s9v.2.2.2.2.2.2.2.2.1]), (70, .agg #[.int .i64 s18v.1, .int .i64 s18v.2.1, .int .i64 s18v.2.2.1, .int .i64 s18v.2.2.2.1, .int .i64 s18v.2.2.2.2.1, .int .i64 s18v.2.2.2.2.2.1, str s18v.2.2.2.2.2.2.1, str s18v.2.2.2.2.2.2.2.1, str s18v.2.2.2.2.2.2.2.2.1])]) ⟨lk_cv rfl hb96v, lk_cv rfl hb96v, trivial⟩ (q_neagg rfl rfl rfl (by kernel_rfl) (fun d w => eqi_struct Tryd.underlying34 (by kernel_rfl) (eqf_cons (by rfl) (part_of Tryd.isAgg3 rfl) (part_of Tryd.isAgg3 rfl) (eqi_int Tryd.underlying3) (eqf_cons (by rfl) (part_of Tryd.isAgg3 rfl) (part_of Tryd.isAgg3 rfl) (eqi_int Tryd.underlying3) (eqf_cons (by rfl) (part_of Tryd.isAgg3 rfl) (part_of Tryd.isAgg3 rfl) (eqi_int Tryd.underlying3) (eqf_cons (by rfl) (part_of Tryd.isAgg3 rfl) (part_of Tryd.isAgg3 rfl) (eqi_int Tryd.underlying3) (eqf_cons (by rfl) (part_of Tryd.isAgg3 rfl) (part_of Tryd.isAgg3 rfl) (eqi_int Tryd.underlying3) (eqf_cons (by rfl) (part_of Tryd.isAgg3 rfl) (part_of Tryd.isAgg3 rfl) (eqi_int Tryd.underlying3) (eqf_cons (by rfl) (part_of Tryd.isAgg9 rfl) (part_of Tryd.isAgg9 rfl) (eqi_str Tryd.underlying9) (eqf_cons (by rfl) (part_of Tryd.isAgg9 rfl) (part_of Tryd.isAgg9 rfl) (eqi_str Tryd.underlying9) (eqf_last (by rfl) (part_of Tryd.isAgg9 rfl) (part_of Tryd.isAgg9 rfl) (eqi_str Tryd.underlying9))))))))))))) rfl rfl rfl rfl rfl ?_
 refine vq (q_or rfl rfl rfl) rfl (simL_nil (nrm_then ?_))
 refine sim_condb rfl (fun h37v => ?_) (fun h38v => ?_)
 refine sr ?_
 refine va rfl rfl (simL_nil (nrm_then (sim_rtn ?_)))
 refine rtn_then ?_
 exact rtn_fn () rfl rfl rfl (.sel 4 rfl (.nil _))
 refine sim_skip ?_
 refine nrm_then (sim_seq (sr ?_))
 refine vm rfl rfl ?_
 refine simL_bind (fun s39v hs40v => ?_)
 refine simL_eff (re_call (vs := [.int .i64 s6v.2]) (cap := []) (A := []) (rst := [obj b21v 34 [.int .i64 s18v.1, .int .i64 s18v.2.1, .int .i64 s18v.2.2.1, .int .i64 s18v.2.2.2.1, .int .i64 s18v.2.2.2.2.1, .int .i64 s18v.2.2.2.2.2.1, str s18v.2.2.2.2.2.2.1, str s18v.2.2.2.2.2.2.2.1, str s18v.2.2.2.2.2.2.2.2.1], Row 9 1 y17v.1 s15v.1.length y17v.2 rs22v.flatten, obj b12v 34 [.int .i64 s9v.1, .int .i64 s9v.2.1, .int .i64 s9v.2.2.1, .int .i64 s9v.2.2.2.1, .int .i64 s9v.2.2.2.2.1, .int .i64 s9v.2.2.2.2.2.1, str s9v.2.2.2.2.2.2.1, str s9v.2.2.2.2.2.2.2.1, str s9v.2.2.2.2.2.2.2.2.1], Row 9 1 y8v.1 s6v.1.length y8v.2 rs24v.flatten, F]) rfl rfl rfl rfl rfl rfl Tryd.call15 (.sel 0 rfl (.sel 0 rfl (.sel 0 rfl (.sel 0 rfl (.sel 0 rfl (.nil _)))))) (synodref_Num.calls _ _ s6v.2 ) hs40v) rfl rfl rfl ?_
 intro y41v
 refine vq (q_neq rfl rfl rfl) rfl (simL_nil (nrm_then ?_))
 refine sim_condn rfl (fun h42v => ?_) (fun h43v => ?_)
 refine sim_skip ?_
 refine nrm_then (sr ?_)
 refine va rfl rfl (simL_nil (nrm_then ?_))
 refine sim_cut (S := List UInt8) (Unit) (fun s y => [(6, .slice y8v.1 s6v.1.length y8v.2), (16, str s)]) (fun s y => [RowV 9 1 (V9 tt) y8v.1 s6v.1 y8v.2, F]) ?_ ?_
 refine sr ?_
 refine va rfl rfl (simL_nil (nrm_then ?_))
 refine sim_block ?_
 refine sim_loop (S := List UInt8 × Int) (Unit) (fun k s => synodlaw17_TextBlanks.l0 s6v k s.1 s.2) (fun s y => [(6, .slice y8v.1 s6v.1.length y8v.2), (16, str s.1), (17, .int .i64 s.2)]) (fun s y => [RowV 9 1 (V9 tt) y8v.1 s6v.1 y8v.2, F]) (fun _ => by rw [synodlaw17_TextBlanks.l0]) ?_ k (([] : List UInt8), 0) () ⟨rfl, rfl, rfl, trivial⟩ (.sel' 3 rfl (RowV.mk hl25v) (.sel 3 rfl (.nil _)))
 intro k s46v y47v
 refine sim_eq (by rw [synodlaw17_TextBlanks.l0]) ?_
 refine sim_seq (sr ?_)
 refine vm rfl rfl ?_
 refine vm rfl rfl ?_
 refine vq (q_len rfl rfl rfl Tryd.underlying23) rfl ?_
 refine vq (q_lss rfl rfl rfl) rfl (simL_nil (nrm_then ?_))
 refine sim_cond rfl (fun h50v => ?_) (fun h51v => ?_)
 refine sim_skip ?_
 refine nrm_then (sim_seq ?_)
 refine sim_block ?_
 refine sim_region ?_
 refine vm rfl rfl ?_
 refine simL_ask (fun hb52v => ?_)
 refine vq (q_cat rfl rfl rfl hb52v) rfl ?_
 refine vm rfl rfl ?_
 refine vm rfl rfl ?_
 refine simL_openV 0 rfl (fun rs61v hl62v => ?_)
 refine simL_ask (fun hi53v => ?_)
 refine simL_posV 0 rfl hl62v rfl (i := s46v.2.toNat) (by omega) ([] : List UInt8) (fun b54v b54vo r57v ha55v hV58v hlr59v hcell60v => ?_)
 obtain rfl := hV58v
 refine vq (q_idx rfl rfl rfl ha55v Tryd.underlying23 Tryd.sizeOf9 hi53v.1 hi53v.2) rfl ?_
 refine vq (q_load rfl rfl Tryd.isAgg9 (hcell60v 0 rfl 0 _ rfl)) rfl ?_
 refine simL_bind (fun s63v hs64v => ?_)
 refine simL_eff (re_call (vs := [str (s6v.1.getD s46v.2.toNat ([] : List UInt8))]) (cap := []) (A := []) (rst := [Row 9 1 y8v.1 s6v.1.length y8v.2 rs61v.flatten, F]) rfl rfl rfl rfl rfl rfl Tryd.call16 (.sel 0 rfl (.sel 0 rfl (.nil _))) (text_Quote.calls _ _ k (s6v.1.getD s46v.2.toNat ([] : List UInt8)) ) hs64v) rfl rfl rfl ?_
 intro y65v
 refine simL_ask (fun hb66v => ?_)
 refine vq (q_cat rfl rfl rfl hb66v) rfl ?_
 refine va rfl rfl (simL_nil (nrm_block (nrm_then (sim_region ?_))))
 refine vm rfl rfl ?_
 refine vq (q_add rfl rfl rfl) rfl ?_
 refine va rfl rfl (simL_nil ?_)
 exact nrm_again (s := ((s46v.1 ++ ([32, 32, 32] : List UInt8)) ++ s63v, IntKind.i64.wrap (s46v.2 + 1))) () ⟨rfl, rfl, rfl, trivial⟩ (.sel' 0 rfl (RowV.mk hl62v) (.sel 0 rfl (.nil _)))
 refine sim_exi ?_
 refine exi_then ?_
 refine exi_loop ?_
 refine exi_here ?_
 exact nrm_cut (s := s46v.1) () ⟨rfl, rfl, trivial⟩ (.sel 0 rfl (.sel 0 rfl (.nil _)))
 intro s44v y45v
 refine sr ?_
 refine vm rfl rfl ?_
 refine simL_bind (fun s67v hs68v => ?_)
 refine simL_eff (re_call (vs := [str s44v]) (cap := []) (A := []) (rst := [RowV 9 1 (V9 tt) y8v.1 s6v.1 y8v.2, F]) rfl rfl rfl rfl rfl rfl Tryd.call12 (.sel 0 rfl (.sel 0 rfl (.nil _))) (text_Words.calls _ _ k s44v ) hs68v) rfl rfl rfl ?_
 intro y69v
 refine vm rfl rfl ?_
 refine vq (q_ext rfl rfl rfl) rfl ?_
 refine vq (q_ext rfl rfl rfl) rfl ?_
 refine va rfl rfl ?_
 refine va rfl rfl (nx ?_)
 refine vm rfl rfl ?_
 refine vm rfl rfl ?_
 refine simL_openV 0 rfl (fun rs70v hl71v => ?_)
 refine simL_openV 1 rfl (fun rs72v hl73v => ?_)
 refine simL_bind (fun s82v hs83v => ?_)
 refine simL_lend 0 rfl (fun hq74v hq75v hq76v hq77v => ?_)
 refine simL_lend 1 rfl (fun hq78v hq79v hq80v hq81v => ?_)
 refine simL_eff (re_call (vs := [.slice y69v.1 s67v.1.length y69v.2, .slice y8v.1 s6v.1.length y8v.2]) (cap := []) (A := []) (rst := [Row 9 1 y69v.1 s67v.1.length y69v.2 rs70v.flatten, Row 9 1 y8v.1 s6v.1.length y8v.2 rs72v.flatten, F]) rfl rfl rfl rfl rfl rfl Tryd.call14 (.sel 0 rfl (.sel 0 rfl (.sel 0 rfl (.nil _)))) (synodref_SameTexts.calls _ _ k y69v.1 y69v.2 s67v.1 y8v.1 y8v.2 s6v.1 ((Rd.asV hl71v hq74v).up (Up.lend 0 rfl) (fun _ _ h => h)) hq75v hq76v ((Rd.asV hl73v hq78v).up (Up.lend 1 rfl) (fun _ _ h => h)) hq79v hq80v) hs83v) rfl rfl rfl ?_
 intro y84v
 refine va rfl rfl (nx ?_)
 refine vm rfl rfl ?_
 refine vq (q_lens rfl rfl rfl Tryd.underlying9) rfl ?_
 refine vq (q_gtr rfl rfl rfl) rfl ?_
 refine vm rfl rfl ?_
 refine simL_cut' 7 (S := Bool) (Unit) (fun s y => [(108, .bool s)]) (fun s y => [F]) ?_ ?_
 refine simL_casep (fun hb94v => ?_) (fun hb95v => ?_)
 rw [hb94v]
 refine simL_skipd rfl rfl rfl rfl rfl rfl ?_
 refine simL_skipd rfl rfl rfl rfl rfl rfl ?_
 refine simL_skipu rfl rfl rfl rfl rfl ?_
 refine simL_skipu rfl rfl rfl rfl rfl ?_
 refine simL_skipu rfl rfl rfl rfl rfl ?_
 refine simL_skipd rfl rfl rfl rfl rfl rfl ?_
 refine vq (q_pick rfl rfl rfl rfl rfl) rfl (simL_nil ?_)
 exact nrm_cut (s := true) () ⟨rfl, trivial⟩ (.sel 2 rfl (.nil _))
 rw [hb95v]
 refine simL_valg (q_move rfl rfl) rfl rfl rfl rfl rfl rfl ?_
 refine simL_valg (q_move rfl rfl) rfl rfl rfl rfl rfl rfl ?_
 refine simL_cut' 4 (S := Bool) (Unit) (fun s y => [(101, .bool false), (107, .bool s)]) (fun s y => [F]) ?_ ?_
 refine simL_caseb (fun hb92v => ?_) (fun hb93v => ?_)
 rw [hb92v]
 refine simL_valg (q_move rfl rfl) rfl rfl rfl rfl rfl rfl ?_
 refine simL_bind (fun s89v hs90v => ?_)
 refine simL_effg (re_call (vs := [.int .i64 s67v.2]) (cap := []) (A := []) (rst := [Row 9 1 y69v.1 s67v.1.length y69v.2 rs70v.flatten, Row 9 1 y8v.1 s6v.1.length y8v.2 rs72v.flatten, F]) rfl rfl rfl rfl rfl rfl Tryd.call15 (.sel 0 rfl (.sel 0 rfl (.sel 0 rfl (.nil _)))) (synodref_Num.calls _ _ s67v.2 ) hs90v) rfl rfl rfl rfl rfl rfl ?_
 intro y91v
 refine simL_valg (q_eql rfl rfl rfl) rfl rfl rfl rfl rfl rfl ?_
 refine simL_valg (q_pick rfl rfl rfl rfl rfl) rfl rfl rfl rfl rfl rfl ?_
 refine simL_nil ?_
 exact nrm_cut (s := decide (s89v = (0 : Int))) () ⟨rfl, rfl, trivial⟩ (.sel 2 rfl (.nil _))
 rw [hb93v]
 refine simL_skipd rfl rfl rfl rfl rfl rfl ?_
 refine simL_skipd rfl rfl rfl rfl rfl rfl ?_
 refine simL_skipd rfl rfl rfl rfl rfl rfl ?_
 refine simL_valg (q_pick rfl rfl rfl rfl rfl) rfl rfl rfl rfl rfl rfl ?_
 refine simL_nil ?_
 exact nrm_cut (s := false) () ⟨rfl, rfl, trivial⟩ (.sel 2 rfl (.nil _))
 intro s87v y88v
 refine vq (q_pick rfl rfl rfl rfl rfl) rfl (simL_nil ?_)
 exact nrm_cut (s := s87v) () ⟨rfl, trivial⟩ (.sel 0 rfl (.nil _))
 intro s85v y86v
 refine va rfl rfl (simL_nil (nrm_then (sim_rtn ?_)))
 exact rtn_fn () rfl rfl rfl (.sel 0 rfl (.nil _))
 refine sr ?_
 refine va rfl rfl (simL_nil (nrm_then (sim_rtn ?_)))
 refine rtn_then ?_
 exact rtn_fn () rfl rfl rfl (.sel 4 rfl (.nil _))

def synodref17_Rows.f  : Option ((List (Ty109))) := some ([(([116, 105, 99, 107] : List UInt8), (1 : Int), ([78, 110] : List UInt8), (0 : Int), (0 : Int)), (([112, 105, 99, 107] : List UInt8), (2 : Int), ([78, 112] : List UInt8), (0 : Int), (0 : Int)), (([100, 101, 108, 105, 118, 101, 114] : List UInt8), (3 : Int), ([110] : List UInt8), (0 : Int), (0 : Int)), (([100, 114, 111, 112] : List UInt8), (4 : Int), ([110] : List UInt8), (0 : Int), (0 : Int)), (([99, 111, 112, 121] : List UInt8), (5 : Int), ([110] : List UInt8), (0 : Int), (0 : Int)), (([115, 112, 111, 105, 108] : List UInt8), (6 : Int), ([110, 109] : List UInt8), (0 : Int), (0 : Int)), (([109, 111, 118, 101] : List UInt8), (7 : Int), ([110, 109] : List UInt8), (0 : Int), (0 : Int)), (([108, 105, 110, 107] : List UInt8), (8 : Int), ([78, 110] : List UInt8), (1 : Int), (0 : Int)), (([99, 117, 116] : List UInt8), (8 : Int), ([78, 110] : List UInt8), (0 : Int), (0 : Int)), (([99, 114, 97, 115, 104] : List UInt8), (9 : Int), ([78, 110] : List UInt8), (0 : Int), (0 : Int)), (([115, 116, 97, 114, 116] : List UInt8), (10 : Int), ([78, 110] : List UInt8), (0 : Int), (0 : Int)), (([97, 114, 109] : List UInt8), (12 : Int), ([78, 110] : List UInt8), (0 : Int), (0 : Int)), (([115, 116, 111, 112] : List UInt8), (11 : Int), ([78] : List UInt8), (0 : Int), (0 : Int)), (([103, 101, 116] : List UInt8), (13 : Int), ([67, 78, 107] : List UInt8), (0 : Int), (1 : Int)), (([100, 101, 108, 101, 116, 101] : List UInt8), (13 : Int), ([67, 78, 107] : List UInt8), (0 : Int), (3 : Int)), (([112, 117, 116] : List UInt8), (13 : Int), ([67, 78, 107, 118] : List UInt8), (0 : Int), (2 : Int)), (([115, 119, 97, 112] : List UInt8), (13 : Int), ([67, 78, 107, 111, 118] : List UInt8), (0 : Int), (4 : Int)), (([97, 103, 97, 105, 110] : List UInt8), (14 : Int), ([67, 78] : List UInt8), (0 : Int), (0 : Int)), (([103, 105, 118, 101] : List UInt8), (15 : Int), ([67] : List UInt8), (0 : Int), (0 : Int)), (([99, 97, 108, 109] : List UInt8), (16 : Int), ([78, 110] : List UInt8), (0 : Int), (0 : Int))] : List (Ty109))
theorem synodref17_Rows.calls (W : World) (F : HA)   :
    Fn Tryd.prog W 46 [] [] F (synodref17_Rows.f ) (fun (r : (List (Ty109))) (y : Option Addr × Nat) => .slice y.1 r.length y.2) (fun r y => [RowV 109 5 (V109 tt) y.1 r y.2]) := by
 unfold synodref17_Rows.f
 refine fn_intro 22 Tryd.func46 rfl Tryd.ntmps46 rfl ?_
 refine sr ?_
 refine va rfl rfl (nx ?_)
 refine vq (q_build (v := .agg #[str ([116, 105, 99, 107] : List UInt8), .int .i64 1, str ([78, 110] : List UInt8), .int .i64 0, .int .i64 0]) rfl rfl (fun _ => by kernel_rfl)) rfl ?_
 refine vq (q_build (v := .agg #[str ([112, 105, 99, 107] : List UInt8), .int .i64 2, str ([78, 112] : List UInt8), .int .i64 0, .int .i64 0]) rfl rfl (fun _ => by kernel_rfl)) rfl ?_
 refine vq (q_build (v := .agg #[str ([100, 101, 108, 105, 118, 101, 114] : List UInt8), .int .i64 3, str ([110] : List UInt8), .int .i64 0, .int .i64 0]) rfl rfl (fun _ => by kernel_rfl)) rfl ?_
 refine vq (q_build (v := .agg #[str ([100, 114, 111, 112] : List UInt8), .int .i64 4, str ([110] : List UInt8), .int .i64 0, .int .i64 0]) rfl rfl (fun _ => by kernel_rfl)) rfl ?_
 refine vq (q_build (v := .agg #[str ([99, 111, 112, 121] : List UInt8), .int .i64 5, str ([110] : List UInt8), .int .i64 0, .int .i64 0]) rfl rfl (fun _ => by kernel_rfl)) rfl ?_
 refine vq (q_build (v := .agg #[str ([115, 112, 111, 105, 108] : List UInt8), .int .i64 6, str ([110, 109] : List UInt8), .int .i64 0, .int .i64 0]) rfl rfl (fun _ => by kernel_rfl)) rfl ?_
 refine vq (q_build (v := .agg #[str ([109, 111, 118, 101] : List UInt8), .int .i64 7, str ([110, 109] : List UInt8), .int .i64 0, .int .i64 0]) rfl rfl (fun _ => by kernel_rfl)) rfl ?_
 refine vq (q_build (v := .agg #[str ([108, 105, 110, 107] : List UInt8), .int .i64 8, str ([78, 110] : List UInt8), .int .i64 1, .int .i64 0]) rfl rfl (fun _ => by kernel_rfl)) rfl ?_
 refine vq (q_build (v := .agg #[str ([99, 117, 116] : List UInt8), .int .i64 8, str ([78, 110] : List UInt8), .int .i64 0, .int .i64 0]) rfl rfl (fun _ => by kernel_rfl)) rfl ?_
 refine vq (q_build (v := .agg #[str ([99, 114, 97, 115, 104] : List UInt8), .int .i64 9, str ([78, 110] : List UInt8), .int .i64 0, .int .i64 0]) rfl rfl (fun _ => by kernel_rfl)) rfl ?_
 refine vq (q_build (v := .agg #[str ([115, 116, 97, 114, 116] : List UInt8), .int .i64 10, str ([78, 110] : List UInt8), .int .i64 0, .int .i64 0]) rfl rfl (fun _ => by kernel_rfl)) rfl ?_
 refine vq (q_build (v := .agg #[str ([97, 114, 109] : List UInt8), .int .i64 12, str ([78, 110] : List UInt8), .int .i64 0, .int .i64 0]) rfl rfl (fun _ => by kernel_rfl)) rfl ?_
 refine vq (q_build (v := .agg #[str ([115, 116, 111, 112] : List UInt8), .int .i64 11, str ([78] : List UInt8), .int .i64 0, .int .i64 0]) rfl rfl (fun _ => by kernel_rfl)) rfl ?_
 refine vq (q_build (v := .agg #[str ([103, 101, 116] : List UInt8), .int .i64 13, str ([67, 78, 107] : List UInt8), .int .i64 0, .int .i64 1]) rfl rfl (fun _ => by kernel_rfl)) rfl ?_
 refine vq (q_build (v := .agg #[str ([100, 101, 108, 101, 116, 101] : List UInt8), .int .i64 13, str ([67, 78, 107] : List UInt8), .int .i64 0, .int .i64 3]) rfl rfl (fun _ => by kernel_rfl)) rfl ?_
 refine vq (q_build (v := .agg #[str ([112, 117, 116] : List UInt8), .int .i64 13, str ([67, 78, 107, 118] : List UInt8), .int .i64 0, .int .i64 2]) rfl rfl (fun _ => by kernel_rfl)) rfl ?_
 refine vq (q_build (v := .agg #[str ([115, 119, 97, 112] : List UInt8), .int .i64 13, str ([67, 78, 107, 111, 118] : List UInt8), .int .i64 0, .int .i64 4]) rfl rfl (fun _ => by kernel_rfl)) rfl ?_
 refine vq (q_build (v := .agg #[str ([97, 103, 97, 105, 110] : List UInt8), .int .i64 14, str ([67, 78] : List UInt8), .int .i64 0, .int .i64 0]) rfl rfl (fun _ => by kernel_rfl)) rfl ?_
 refine vq (q_build (v := .agg #[str ([103, 105, 118, 101] : List UInt8), .int .i64 15, str ([67] : List UInt8), .int .i64 0, .int .i64 0]) rfl rfl (fun _ => by kernel_rfl)) rfl ?_
 refine vq (q_build (v := .agg #[str ([99, 97, 108, 109] : List UInt8), .int .i64 16, str ([78, 110] : List UInt8), .int .i64 0, .int .i64 0]) rfl rfl (fun _ => by kernel_rfl)) rfl ?_
 have hlb2v : ListV 5 (V109 tt) ([(([116, 105, 99, 107] : List UInt8), (1 : Int), ([78, 110] : List UInt8), (0 : Int), (0 : Int)), (([112, 105, 99, 107] : List UInt8), (2 : Int), ([78, 112] : List UInt8), (0 : Int), (0 : Int)), (([100, 101, 108, 105, 118, 101, 114] : List UInt8), (3 : Int), ([110] : List UInt8), (0 : Int), (0 : Int)), (([100, 114, 111, 112] : List UInt8), (4 : Int), ([110] : List UInt8), (0 : Int), (0 : Int)), (([99, 111, 112, 121] : List UInt8), (5 : Int), ([110] : List UInt8), (0 : Int), (0 : Int)), (([115, 112, 111, 105, 108] : List UInt8), (6 : Int), ([110, 109] : List UInt8), (0 : Int), (0 : Int)), (([109, 111, 118, 101] : List UInt8), (7 : Int), ([110, 109] : List UInt8), (0 : Int), (0 : Int)), (([108, 105, 110, 107] : List UInt8), (8 : Int), ([78, 110] : List UInt8), (1 : Int), (0 : Int)), (([99, 117, 116] : List UInt8), (8 : Int), ([78, 110] : List UInt8), (0 : Int), (0 : Int)), (([99, 114, 97, 115, 104] : List UInt8), (9 : Int), ([78, 110] : List UInt8), (0 : Int), (0 : Int)), (([115, 116, 97, 114, 116] : List UInt8), (10 : Int), ([78, 110] : List UInt8), (0 : Int), (0 : Int)), (([97, 114, 109] : List UInt8), (12 : Int), ([78, 110] : List UInt8), (0 : Int), (0 : Int)), (([115, 116, 111, 112] : List UInt8), (11 : Int), ([78] : List UInt8), (0 : Int), (0 : Int)), (([103, 101, 116] : List UInt8), (13 : Int), ([67, 78, 107] : List UInt8), (0 : Int), (1 : Int)), (([100, 101, 108, 101, 116, 101] : List UInt8), (13 : Int), ([67, 78, 107] : List UInt8), (0 : Int), (3 : Int)), (([112, 117, 116] : List UInt8), (13 : Int), ([67, 78, 107, 118] : List UInt8), (0 : Int), (2 : Int)), (([115, 119, 97, 112] : List UInt8), (13 : Int), ([67, 78, 107, 111, 118] : List UInt8), (0 : Int), (4 : Int)), (([97, 103, 97, 105, 110] : List UInt8), (14 : Int), ([67, 78] : List UInt8), (0 : Int), (0 : Int)), (([103, 105, 118, 101] : List UInt8), (15 : Int), ([67] : List UInt8), (0 : Int), (0 : Int)), (([99, 97, 108, 109] : List UInt8), (16 : Int), ([78, 110] : List UInt8), (0 : Int), (0 : Int))] : List (Ty109)) [[str ([116, 105, 99, 107] : List UInt8), .int .i64 1, str ([78, 110] : List UInt8), .int .i64 0, .int .i64 0], [str ([112, 105, 99, 107] : List UInt8), .int .i64 2, str ([78, 112] : List UInt8), .int .i64 0, .int .i64 0], [str ([100, 101, 108, 105, 118, 101, 114] : List UInt8), .int .i64 3, str ([110] : List UInt8), .int .i64 0, .int .i64 0], [str ([100, 114, 111, 112] : List UInt8), .int .i64 4, str ([110] : List UInt8), .int .i64 0, .int .i64 0], [str ([99, 111, 112, 121] : List UInt8), .int .i64 5, str ([110] : List UInt8), .int .i64 0, .int .i64 0], [str ([115, 112, 111, 105, 108] : List UInt8), .int .i64 6, str ([110, 109] : List UInt8), .int .i64 0, .int .i64 0], [str ([109, 111, 118, 101] : List UInt8), .int .i64 7, str ([110, 109] : List UInt8), .int .i64 0, .int .i64 0], [str ([108, 105, 110, 107] : List UInt8), .int .i64 8, str ([78, 110] : List UInt8), .int .i64 1, .int .i64 0], [str ([99, 117, 116] : List UInt8), .int .i64 8, str ([78, 110] : List UInt8), .int .i64 0, .int .i64 0], [str ([99, 114, 97, 115, 104] : List UInt8), .int .i64 9, str ([78, 110] : List UInt8), .int .i64 0, .int .i64 0], [str ([115, 116, 97, 114, 116] : List UInt8), .int .i64 10, str ([78, 110] : List UInt8), .int .i64 0, .int .i64 0], [str ([97, 114, 109] : List UInt8), .int .i64 12, str ([78, 110] : List UInt8), .int .i64 0, .int .i64 0], [str ([115, 116, 111, 112] : List UInt8), .int .i64 11, str ([78] : List UInt8), .int .i64 0, .int .i64 0], [str ([103, 101, 116] : List UInt8), .int .i64 13, str ([67, 78, 107] : List UInt8), .int .i64 0, .int .i64 1], [str ([100, 101, 108, 101, 116, 101] : List UInt8), .int .i64 13, str ([67, 78, 107] : List UInt8), .int .i64 0, .int .i64 3], [str ([112, 117, 116] : List UInt8), .int .i64 13, str ([67, 78, 107, 118] : List UInt8), .int .i64 0, .int .i64 2], [str ([115, 119, 97, 112] : List UInt8), .int .i64 13, str ([67, 78, 107, 111, 118] : List UInt8), .int .i64 0, .int .i64 4], [str ([97, 103, 97, 105, 110] : List UInt8), .int .i64 14, str ([67, 78] : List UInt8), .int .i64 0, .int .i64 0], [str ([103, 105, 118, 101] : List UInt8), .int .i64 15, str ([67] : List UInt8), .int .i64 0, .int .i64 0], [str ([99, 97, 108, 109] : List UInt8), .int .i64 16, str ([78, 110] : List UInt8), .int .i64 0, .int .i64 0]] := ⟨⟨rfl, one_of (by rfl), rfl⟩, ⟨rfl, one_of (by rfl), rfl⟩, ⟨rfl, one_of (by rfl), rfl⟩, ⟨rfl, one_of (by rfl), rfl⟩, ⟨rfl, one_of (by rfl), rfl⟩, ⟨rfl, one_of (by rfl), rfl⟩, ⟨rfl, one_of (by rfl), rfl⟩, ⟨rfl, one_of (by rfl), rfl⟩, ⟨rfl, one_of (by rfl), rfl⟩, ⟨rfl, one_of (by rfl), rfl⟩, ⟨rfl, one_of (by rfl), rfl⟩, ⟨rfl, one_of (by rfl), rfl⟩, ⟨rfl, one_of (by rfl), rfl⟩, ⟨rfl, one_of (by rfl), rfl⟩, ⟨rfl, one_of (by rfl), rfl⟩, ⟨rfl, one_of (by rfl), rfl⟩, ⟨rfl, one_of (by rfl), rfl⟩, ⟨rfl, one_of (by rfl), rfl⟩, ⟨rfl, one_of (by rfl), rfl⟩, ⟨rfl, one_of (by rfl), rfl⟩, trivial⟩
 refine simL_eff (re_litV (V := (V109 tt)) (xs := ([(([116, 105, 99, 107] : List UInt8), (1 : Int), ([78, 110] : List UInt8), (0 : Int), (0 : Int)), (([112, 105, 99, 107] : List UInt8), (2 : Int), ([78, 112] : List UInt8), (0 : Int), (0 : Int)), (([100, 101, 108, 105, 118, 101, 114] : List UInt8), (3 : Int), ([110] : List UInt8), (0 : Int), (0 : Int)), (([100, 114, 111, 112] : List UInt8), (4 : Int), ([110] : List UInt8), (0 : Int), (0 : Int)), (([99, 111, 112, 121] : List UInt8), (5 : Int), ([110] : List UInt8), (0 : Int), (0 : Int)), (([115, 112, 111, 105, 108] : List UInt8), (6 : Int), ([110, 109] : List UInt8), (0 : Int), (0 : Int)), (([109, 111, 118, 101] : List UInt8), (7 : Int), ([110, 109] : List UInt8), (0 : Int), (0 : Int)), (([108, 105, 110, 107] : List UInt8), (8 : Int), ([78, 110] : List UInt8), (1 : Int), (0 : Int)), (([99, 117, 116] : List UInt8), (8 : Int), ([78, 110] : List UInt8), (0 : Int), (0 : Int)), (([99, 114, 97, 115, 104] : List UInt8), (9 : Int), ([78, 110] : List UInt8), (0 : Int), (0 : Int)), (([115, 116, 97, 114, 116] : List UInt8), (10 : Int), ([78, 110] : List UInt8), (0 : Int), (0 : Int)), (([97, 114, 109] : List UInt8), (12 : Int), ([78, 110] : List UInt8), (0 : Int), (0 : Int)), (([115, 116, 111, 112] : List UInt8), (11 : Int), ([78] : List UInt8), (0 : Int), (0 : Int)), (([103, 101, 116] : List UInt8), (13 : Int), ([67, 78, 107] : List UInt8), (0 : Int), (1 : Int)), (([100, 101, 108, 101, 116, 101] : List UInt8), (13 : Int), ([67, 78, 107] : List UInt8), (0 : Int), (3 : Int)), (([112, 117, 116] : List UInt8), (13 : Int), ([67, 78, 107, 118] : List UInt8), (0 : Int), (2 : Int)), (([115, 119, 97, 112] : List UInt8), (13 : Int), ([67, 78, 107, 111, 118] : List UInt8), (0 : Int), (4 : Int)), (([97, 103, 97, 105, 110] : List UInt8), (14 : Int), ([67, 78] : List UInt8), (0 : Int), (0 : Int)), (([103, 105, 118, 101] : List UInt8), (15 : Int), ([67] : List UInt8), (0 : Int), (0 : Int)), (([99, 97, 108, 109] : List UInt8), (16 : Int), ([78, 110] : List UInt8), (0 : Int), (0 : Int))] : List (Ty109))) [[str ([116, 105, 99, 107] : List UInt8), .int .i64 1, str ([78, 110] : List UInt8), .int .i64 0, .int .i64 0], [str ([112, 105, 99, 107] : List UInt8), .int .i64 2, str ([78, 112] : List UInt8), .int .i64 0, .int .i64 0], [str ([100, 101, 108, 105, 118, 101, 114] : List UInt8), .int .i64 3, str ([110] : List UInt8), .int .i64 0, .int .i64 0], [str ([100, 114, 111, 112] : List UInt8), .int .i64 4, str ([110] : List UInt8), .int .i64 0, .int .i64 0], [str ([99, 111, 112, 121] : List UInt8), .int .i64 5, str ([110] : List UInt8), .int .i64 0, .int .i64 0], [str ([115, 112, 111, 105, 108] : List UInt8), .int .i64 6, str ([110, 109] : List UInt8), .int .i64 0, .int .i64 0], [str ([109, 111, 118, 101] : List UInt8), .int .i64 7, str ([110, 109] : List UInt8), .int .i64 0, .int .i64 0], [str ([108, 105, 110, 107] : List UInt8), .int .i64 8, str ([78, 110] : List UInt8), .int .i64 1, .int .i64 0], [str ([99, 117, 116] : List UInt8), .int .i64 8, str ([78, 110] : List UInt8), .int .i64 0, .int .i64 0], [str ([99, 114, 97, 115, 104] : List UInt8), .int .i64 9, str ([78, 110] : List UInt8), .int .i64 0, .int .i64 0], [str ([115, 116, 97, 114, 116] : List UInt8), .int .i64 10, str ([78, 110] : List UInt8), .int .i64 0, .int .i64 0], [str ([97, 114, 109] : List UInt8), .int .i64 12, str ([78, 110] : List UInt8), .int .i64 0, .int .i64 0], [str ([115, 116, 111, 112] : List UInt8), .int .i64 11, str ([78] : List UInt8), .int .i64 0, .int .i64 0], [str ([103, 101, 116] : List UInt8), .int .i64 13, str ([67, 78, 107] : List UInt8), .int .i64 0, .int .i64 1], [str ([100, 101, 108, 101, 116, 101] : List UInt8), .int .i64 13, str ([67, 78, 107] : List UInt8), .int .i64 0, .int .i64 3], [str ([112, 117, 116] : List UInt8), .int .i64 13, str ([67, 78, 107, 118] : List UInt8), .int .i64 0, .int .i64 2], [str ([115, 119, 97, 112] : List UInt8), .int .i64 13, str ([67, 78, 107, 111, 118] : List UInt8), .int .i64 0, .int .i64 4], [str ([97, 103, 97, 105, 110] : List UInt8), .int .i64 14, str ([67, 78] : List UInt8), .int .i64 0, .int .i64 0], [str ([103, 105, 118, 101] : List UInt8), .int .i64 15, str ([67] : List UInt8), .int .i64 0, .int .i64 0], [str ([99, 97, 108, 109] : List UInt8), .int .i64 16, str ([78, 110] : List UInt8), .int .i64 0, .int .i64 0]] rfl rfl Tryd.underlying106 elt109 rfl (by kernel_rfl) rfl hlb2v rfl rfl) rfl rfl rfl ?_
 intro b2v
 refine va rfl rfl (simL_nil (nrm_then (sim_rtn ?_)))
 exact rtn_fn ((some ⟨b2v, 0, none⟩), 20) rfl rfl rfl (.sel' 0 rfl (RowV.mk hlb2v) (.sel 0 rfl (.nil _)))
end Go.Proofs.YtbcnegennmpliaaDoor

namespace Go.Proofs.YtbcnegennmpliaaDoor
set_option linter.unusedVariables false
set_option linter.unusedSimpArgs false
open Go.RowKit

theorem w64 {n : Int} (h0 : -9223372036854775808 ≤ n) (h1 : n ≤ 9223372036854775807) : IntKind.i64.wrap n = n := by rw [IntKind.wrap_i64]; omega
theorem w8 {n : Int} (h0 : 0 ≤ n) (h1 : n < 256) : IntKind.u8.wrap n = n := by rw [IntKind.wrap_u8]; omega
end Go.Proofs.YtbcnegennmpliaaDoor

namespace Go.Proofs.YtbcnegennmpliaaDoor
set_option linter.unusedVariables false
set_option linter.unusedSimpArgs false
open Go.RowKit
abbrev hexs : List UInt8 := [48, 49, 50, 51, 52, 53, 54, 55, 56, 57, 97, 98, 99, 100, 101, 102]
def plainB (c : UInt8) : Bool := decide (32 ≤ c.toNat) && decide (c.toNat ≤ 126)
def bareB (c : UInt8) : Bool := plainB c && !decide (c.toNat = 32) && !decide (c.toNat = 34)
def hexI (c : UInt8) : Int := Lib.indexByte hexs c
def escB (a b : UInt8) : Option UInt8 := if 0 ≤ hexI a ∧ 0 ≤ hexI b ∧ plainB (byte (16 * hexI a + hexI b)) = false then some (byte (16 * hexI a + hexI b)) else none
def qd : List UInt8 → Option (List UInt8 × List UInt8)
  | [] => none
  | c :: t =>
    if c.toNat = 34 then some ([], t)
    else if plainB c = false then none
    else if c.toNat ≠ 92 then (qd t).map fun p => (c :: p.1, p.2)
    else match t with
      | [] => none
      | d :: t1 =>
        if d.toNat = 34 ∨ d.toNat = 92 then (qd t1).map fun p => (d :: p.1, p.2)
        else match t1 with
          | h :: l :: t2 => if d.toNat = 120 then (escB h l).bind fun x => (qd t2).map fun p => (x :: p.1, p.2) else none
          | _ => none
theorem qd_nil : qd [] = none := by rw [qd.eq_def]
theorem qd_cons (c : UInt8) (t : List UInt8) : qd (c :: t) =
    if c.toNat = 34 then some ([], t)
    else if plainB c = false then none
    else if c.toNat ≠ 92 then (qd t).map fun p => (c :: p.1, p.2)
    else match t with
      | [] => none
      | d :: t1 =>
        if d.toNat = 34 ∨ d.toNat = 92 then (qd t1).map fun p => (d :: p.1, p.2)
        else match t1 with
          | h :: l :: t2 => if d.toNat = 120 then (escB h l).bind fun x => (qd t2).map fun p => (x :: p.1, p.2) else none
          | _ => none := by rw [qd.eq_def]
theorem getD_at {α : Type} {l : List α} {i : Nat} {d : α} (h : i < l.length) : l.getD i d = l[i] := by
  rw [List.getD_eq_getElem?_getD, List.getElem?_eq_getElem h]; rfl
theorem u8_all {p : UInt8 → Bool} (h : ((List.range 256).all fun n => p (UInt8.ofNat n)) = true) (c : UInt8) : p c = true := by
  have := List.all_eq_true.1 h c.toNat (List.mem_range.2 (UInt8.toNat_lt c))
  simpa using this
theorem hexI_lt (c : UInt8) : -1 ≤ hexI c ∧ hexI c ≤ 15 := by
  have := u8_all (p := fun c => decide (-1 ≤ hexI c) && decide (hexI c ≤ 15)) (by decide +kernel) c
  simpa using this
theorem getD_cons_of {l : List UInt8} {i : Nat} (h : i < l.length) : l.drop i = l.getD i 0 :: l.drop (i + 1) := by
  rw [List.getD_eq_getElem?_getD, List.getElem?_eq_getElem h]
  exact List.drop_eq_getElem_cons h
theorem wi1 {n : Nat} (h : n < 2 ^ 61) : IntKind.i64.wrap ((n : Int) + 1) = ((n + 1 : Nat) : Int) := by rw [w64 (by omega) (by omega)]; simp
theorem wi3 {n : Nat} (h : n < 2 ^ 61) : IntKind.i64.wrap ((n : Int) + 3) = ((n + 3 : Nat) : Int) := by rw [w64 (by omega) (by omega)]; simp
theorem plain_f (c : UInt8) : text_plain.f (c.toNat : Int) = some (plainB c) := by
  unfold text_plain.f plainB
  congr 1
  rw [show decide ((32 : Int) ≤ (c.toNat : Int)) = decide (32 ≤ c.toNat) by congr 1; exact propext (by omega), show decide ((c.toNat : Int) ≤ 126) = decide (c.toNat ≤ 126) by congr 1; exact propext (by omega)]
theorem bare_f (c : UInt8) : text_bare.f (c.toNat : Int) = some (bareB c) := by
  unfold text_bare.f bareB
  rw [plain_f, Option.bind_some]
  congr 3
  · congr 2; exact propext (by omega)
  · congr 1; exact propext (by omega)
theorem hexw {a b : Int} (ha : 0 ≤ a ∧ a ≤ 15) (hb : 0 ≤ b ∧ b ≤ 15) : IntKind.u8.wrap (IntKind.i64.wrap ((IntKind.i64.wrap (16 * a)) + b)) = 16 * a + b := by
  rw [w64 (n := 16 * a) (by omega) (by omega), w64 (by omega) (by omega), w8 (by omega) (by omega)]
theorem byte_eq {n : Int} (h0 : 0 ≤ n) (h1 : n < 256) : ((byte n).toNat : Int) = n := byte_toNat h0 h1
theorem escaped_f (s : List UInt8) : text_escaped.f s = some (match s with
    | d :: h :: l :: _ => if d.toNat = 120 then (IntKind.u8.wrap (IntKind.i64.wrap ((IntKind.i64.wrap (16 * hexI h)) + hexI l)), (escB h l).isSome) else (0, false)
    | _ => (0, false)) := by
  unfold text_escaped.f
  rcases s with _ | ⟨d, _ | ⟨h, _ | ⟨l, t⟩⟩⟩
  · simp
  · simp
  · simp
  · have e1 : ¬ (((d :: h :: l :: t).length : Int) < 3) := by simp; omega
    rw [if_neg e1, if_pos (by simp; omega)]
    simp only [Option.bind_some, List.getD_cons_zero, show (0 : Int).toNat = 0 from rfl, show (1 : Int).toNat = 1 from rfl, show (2 : Int).toNat = 2 from rfl]
    by_cases hd : d.toNat = 120
    · rw [if_neg (by simp [hd]), if_pos (by simp; omega), if_pos hd]
      simp only [List.getD_cons_succ, List.getD_cons_zero]
      rw [strings_IndexByte.f, Option.bind_some, if_pos (by simp; omega), strings_IndexByte.f, Option.bind_some]
      have eh : ∀ c : UInt8, ((c.toNat : Int).toNat).toUInt8 = c := fun c => by simp
      rw [eh, eh]
      have ei : ∀ c : UInt8, Lib.indexByte [48, 49, 50, 51, 52, 53, 54, 55, 56, 57, 97, 98, 99, 100, 101, 102] c = hexI c := fun _ => rfl
      simp only [ei]
      unfold escB
      by_cases h1 : 0 ≤ hexI h ∧ 0 ≤ hexI l
      · have b1 := hexI_lt h
        have b2 := hexI_lt l
        rw [if_pos (by simp [h1])]
        rw [hexw ⟨h1.1, b1.2⟩ ⟨h1.2, b2.2⟩, ← byte_eq (n := 16 * hexI h + hexI l) (by omega) (by omega), plain_f, Option.bind_some, Option.bind_some]
        rw [byte_eq (by omega) (by omega)]
        cases plainB (byte (16 * hexI h + hexI l)) <;> simp [h1] <;> exact hexw ⟨h1.1, b1.2⟩ ⟨h1.2, b2.2⟩
      · rw [if_neg (by simpa using h1), Option.bind_some, if_neg (fun x => h1 ⟨x.1, x.2.1⟩)]
        rfl
    · rw [if_pos (by simp; omega), if_neg hd]
end Go.Proofs.YtbcnegennmpliaaDoor

namespace Go.Proofs.YtbcnegennmpliaaDoor
set_option linter.unusedVariables false
set_option linter.unusedSimpArgs false
open Go.RowKit
abbrev QR := Option (List UInt8 × List UInt8)
def qres (n : Nat) (b : List UInt8) (q : QR) : List UInt8 × Int := match q with
  | some p => (b ++ p.1, ((n - p.2.length : Nat) : Int))
  | none => ([], 0)
theorem qres_cons {n : Nat} {b : List UInt8} {c : UInt8} {q : QR} : qres n (b ++ [c]) q = qres n b (q.map fun p => (c :: p.1, p.2)) := by
  cases q <;> simp [qres]
theorem pre1 {l : List UInt8} {z : UInt8} : Lib.hasPrefix l [z] = (match l with | d :: _ => decide (d.toNat = z.toNat) | [] => false) := by
  cases l with
  | nil => rfl
  | cons d t =>
    show (z == d && _) = _
    rw [List.isPrefixOf, Bool.and_true]
    by_cases h : d = z
    · subst h; simp
    · rw [show (z == d) = false from by simpa using fun e => h e.symm]
      simp only [decide_eq_false (fun e => h (UInt8.toNat_inj.1 e)), Bool.false_and]
theorem drop_cons {x : List UInt8} {i : Nat} {d : UInt8} {t : List UInt8} (h : x.drop i = d :: t) : i < x.length ∧ x.drop (i + 1) = t := by
  have hl : i < x.length := by
    rcases Nat.lt_or_ge i x.length with hh | hh
    · exact hh
    · rw [List.drop_of_length_le hh] at h; cases h
  refine ⟨hl, ?_⟩
  rw [List.drop_eq_getElem_cons hl] at h
  exact (List.cons.inj h).2
theorem quoted_l0 {x : List UInt8} (hx : x.length < 2 ^ 40) : ∀ (k : Nat) (b : List UInt8) (i : Nat), x.length - i < k → i ≤ x.length → b.length ≤ i →
    orR (text_quoted.l0 x k b (i : Int)) (fun _ => some (([] : List UInt8), (0 : Int))) = some (qres x.length b (qd (x.drop i)))
  | 0, b, i, h, _, _ => by omega
  | k + 1, b, i, hk, hi, hb => by
    rw [text_quoted.l0]
    by_cases hlt : i < x.length
    · have ed := getD_cons_of hlt
      have e1 := wi1 (n := i) (by omega)
      simp only [Int.toNat_natCast]
      rw [if_pos (by omega), if_pos (by omega), e1, if_pos (by omega), ed]
      generalize hc : x.getD i 0 = c
      rw [hc] at ed
      have ecut : cut x ((i + 1 : Nat) : Int) (x.length : Int) = x.drop (i + 1) := by rw [cut_to]; simp
      simp only [ecut]
      by_cases h34 : c.toNat = 34
      · rw [if_pos (by omega), qd_cons, if_pos h34]
        simp only [orR, qres, List.append_nil]
        have : (x.drop (i + 1)).length = x.length - (i + 1) := by simp
        rw [this]
        congr 3
        omega
      · rw [if_neg (by omega), plain_f, Option.bind_some, qd_cons, if_neg h34]
        by_cases hp : plainB c = false
        · rw [if_pos (by simp [hp]), if_pos hp]; rfl
        · rw [if_neg (by simp [hp]), if_neg hp]
          by_cases h92 : c.toNat = 92
          · have n92 : ¬ (c.toNat ≠ 92) := by simp [h92]
            rw [if_pos (show (c.toNat : Int) = 92 by omega), if_neg n92]
            simp only [strings_HasPrefix.f, Option.bind_some, pre1]
            rcases hd : x.drop (i + 1) with _ | ⟨d, t1⟩
            · simp only [Bool.false_eq_true, if_false, Option.bind_some, escaped_f]
              rfl
            · obtain ⟨hl1, ht1⟩ := drop_cons hd
              simp only []
              by_cases hq : d.toNat = 34 ∨ d.toNat = 92
              · rw [if_pos hq]
                have e3 : (if decide (d.toNat = (34 : UInt8).toNat) = true then some true else some (decide (d.toNat = (92 : UInt8).toNat))) = some true := by
                  rcases hq with hq | hq
                  · rw [if_pos (by simp [hq])]
                  · rw [if_neg (by simp [hq])]; simp [hq]
                rw [e3, Option.bind_some, if_pos rfl, if_pos (by simp <;> omega)]
                simp only [show (0 : Int).toNat = 0 from rfl, List.getD_cons_zero]
                rw [if_pos (by simp <;> omega)]
                have e2 := wi1 (n := i + 1) (by omega)
                rw [e2, quoted_l0 hx k (b ++ [d]) (i + 1 + 1) (by omega) (by omega) (by simp <;> omega), ht1, qres_cons]
              · rw [if_neg hq]
                have e3 : (if decide (d.toNat = (34 : UInt8).toNat) = true then some true else some (decide (d.toNat = (92 : UInt8).toNat))) = some false := by
                  rw [if_neg (by simp; exact fun h => hq (.inl h))]
                  congr 1
                  simp
                  exact fun h => hq (.inr h)
                rw [e3, Option.bind_some, if_neg (by simp), escaped_f, Option.bind_some]
                rcases t1 with _ | ⟨h, _ | ⟨l, t2⟩⟩
                · simp [orR, qres]
                · simp [orR, qres]
                · obtain ⟨hl2, ht2⟩ := drop_cons ht1
                  obtain ⟨hl3, ht3⟩ := drop_cons ht2
                  simp only []
                  by_cases hxd : d.toNat = 120
                  · rw [if_pos hxd, if_pos hxd]
                    unfold escB
                    by_cases h1 : 0 ≤ hexI h ∧ 0 ≤ hexI l ∧ plainB (byte (16 * hexI h + hexI l)) = false
                    · have b1 := hexI_lt h
                      have b2 := hexI_lt l
                      rw [if_pos h1]
                      simp only [Option.isSome_some, Bool.not_true, Bool.false_eq_true, if_false, Option.bind_some]
                      rw [hexw ⟨h1.1, b1.2⟩ ⟨h1.2.1, b2.2⟩, if_pos (by omega), if_pos (by simp <;> omega)]
                      have e2 := wi3 (n := i) (by omega)
                      have e4 := wi1 (n := i + 3) (by omega)
                      rw [e2, e4, quoted_l0 hx k _ (i + 3 + 1) (by omega) (by omega) (by simp <;> omega), ht3, qres_cons]
                    · rw [if_neg h1]
                      simp [orR, qres]
                  · rw [if_neg hxd, if_neg hxd]
                    simp [orR, qres]
          · rw [if_neg (show ¬ (c.toNat : Int) = 92 by omega), if_pos h92, if_pos (by simp <;> omega), quoted_l0 hx k _ (i + 1) (by omega) (by omega) (by simp <;> omega), qres_cons]
    · rw [if_neg (by omega)]
      have : x.drop i = [] := List.drop_of_length_le (by omega)
      rw [this, qd_nil]
      rfl
theorem quoted_f {x : List UInt8} {k : Nat} (hx : x.length < 2 ^ 40) (hk : x.length < k) : text_quoted.f k x = some (qres x.length [] (qd x)) := by
  have := quoted_l0 hx k [] 0 (by omega) (by omega) (by simp)
  simpa [text_quoted.f] using this
/-! ### The document's -/
end Go.Proofs.YtbcnegennmpliaaDoor

namespace Go.Proofs.YtbcnegennmpliaaDoor
set_option linter.unusedVariables false
set_option linter.unusedSimpArgs false
open Go.RowKit
def endB (r : List UInt8) : Bool := match r with
  | [] => true
  | c :: _ => decide (c.toNat = 32)
def wd : Nat → List UInt8 → Option (List (List UInt8))
  | _, [] => some []
  | 0, _ => none
  | n + 1, c :: t =>
    if c.toNat = 32 then wd n t
    else if c.toNat = 34 then (qd t).bind fun p => if endB p.2 then (wd n p.2).map fun l => p.1 :: l else none
    else if endB ((c :: t).dropWhile bareB) then (wd n ((c :: t).dropWhile bareB)).map fun l => (c :: t).takeWhile bareB :: l else none
def wres (out : List (List UInt8)) (q : Option (List (List UInt8))) : List (List UInt8) × Int := match q with
  | some l => (out ++ l, 0)
  | none => ([], 4)
theorem wres_cons {out : List (List UInt8)} {c : List UInt8} {q : Option (List (List UInt8))} : wres (out ++ [c]) q = wres out (q.map fun l => c :: l) := by
  cases q <;> simp [wres]
def wordsB (x : List UInt8) : List (List UInt8) × Int := if 4096 < x.length then ([], 3) else wres [] (wd (x.length + 1) x)
theorem qd_suf : ∀ (n : Nat) (t a r : List UInt8), t.length ≤ n → qd t = some (a, r) → ∃ p, t = p ++ r ∧ a.length < p.length
  | _, [], a, r, _, h => by rw [qd_nil] at h; cases h
  | 0, c :: t, a, r, hn, _ => by simp at hn
  | n + 1, c :: t, a, r, hn, h => by
    have hn' : t.length ≤ n := by simpa using hn
    rw [qd_cons] at h
    split at h
    · cases h; exact ⟨[c], rfl, by simp⟩
    split at h
    · cases h
    split at h
    · cases hq : qd t with
      | none => rw [hq] at h; cases h
      | some p =>
        rw [hq] at h
        obtain ⟨q, e1, e2⟩ := qd_suf n t p.1 p.2 hn' hq
        simp only [Option.map_some, Option.some.injEq, Prod.mk.injEq] at h
        obtain ⟨rfl, rfl⟩ := h
        exact ⟨c :: q, by rw [List.cons_append, ← e1], by simp; omega⟩
    · rcases t with _ | ⟨d, t1⟩
      · cases h
      · simp only [] at h
        have hn1 : t1.length ≤ n := by simp at hn'; omega
        split at h
        · cases hq : qd t1 with
          | none => rw [hq] at h; cases h
          | some p =>
            rw [hq] at h
            obtain ⟨q, e1, e2⟩ := qd_suf n t1 p.1 p.2 hn1 hq
            simp only [Option.map_some, Option.some.injEq, Prod.mk.injEq] at h
            obtain ⟨rfl, rfl⟩ := h
            exact ⟨c :: d :: q, by rw [List.cons_append, List.cons_append, ← e1], by simp; omega⟩
        · rcases t1 with _ | ⟨h1, _ | ⟨l1, t2⟩⟩
          · cases h
          · cases h
          · simp only [] at h
            split at h
            · cases he : escB h1 l1 with
              | none => rw [he] at h; cases h
              | some x =>
                rw [he, Option.bind_some] at h
                cases hq : qd t2 with
                | none => rw [hq] at h; cases h
                | some p =>
                  rw [hq] at h
                  obtain ⟨q, e1, e2⟩ := qd_suf n t2 p.1 p.2 (by simp at hn1; omega) hq
                  simp only [Option.map_some, Option.some.injEq, Prod.mk.injEq] at h
                  obtain ⟨rfl, rfl⟩ := h
                  exact ⟨c :: d :: h1 :: l1 :: q, by simp only [List.cons_append]; rw [← e1], by simp; omega⟩
            · cases h
theorem run_l1 {x : List UInt8} (hx : x.length < 2 ^ 40) : ∀ (k i : Nat), x.length - i < k → i ≤ x.length → text_Words.l1 x k (i : Int) = some ((i + ((x.drop i).takeWhile bareB).length : Nat) : Int)
  | 0, i, h, _ => by omega
  | k + 1, i, hk, hi => by
    rw [text_Words.l1]
    by_cases hlt : i < x.length
    · have ed := getD_cons_of hlt
      simp only [Int.toNat_natCast]
      rw [if_pos (by omega), if_pos (by omega), bare_f, Option.bind_some, Option.bind_some, wi1 (by omega), ed, List.takeWhile_cons]
      cases hb : bareB (x.getD i 0) with
      | true =>
        rw [if_pos rfl, if_pos rfl, run_l1 hx k (i + 1) (by omega) (by omega)]
        simp; omega
      | false => simp
    · rw [if_neg (by omega), Option.bind_some, if_neg (by simp), List.drop_of_length_le (by omega)]
      simp
theorem tw_len (p : UInt8 → Bool) : ∀ l : List UInt8, (l.takeWhile p).length + (l.dropWhile p).length = l.length
  | [] => rfl
  | c :: l => by
    have := tw_len p l
    rw [List.takeWhile_cons, List.dropWhile_cons]
    cases p c <;> simp <;> omega
theorem drop_tw (p : UInt8 → Bool) : ∀ l : List UInt8, l.drop (l.takeWhile p).length = l.dropWhile p
  | [] => rfl
  | c :: l => by
    have := drop_tw p l
    rw [List.takeWhile_cons, List.dropWhile_cons]
    cases p c <;> simp [this]
theorem take_tw (p : UInt8 → Bool) : ∀ l : List UInt8, l.take (l.takeWhile p).length = l.takeWhile p
  | [] => rfl
  | c :: l => by
    have := take_tw p l
    rw [List.takeWhile_cons]
    cases p c <;> simp [this]
theorem endB_at {x : List UInt8} {i : Nat} (hi : i ≤ x.length) : (if (i : Int) < (x.length : Int) then (if 0 ≤ (i : Int) ∧ (i : Int) < (x.length : Int) then (some (!decide (((x.getD i 0).toNat : Int) = (32 : Int)))) else none) else (some false)) = some (!endB (x.drop i)) := by
  by_cases hlt : i < x.length
  · rw [if_pos (by omega), if_pos (by omega), getD_cons_of hlt, endB]
    congr 3; exact propext (by omega)
  · rw [if_neg (by omega), List.drop_of_length_le (by omega)]; rfl
theorem endB_at3 {x : List UInt8} {i : Nat} (hi : i ≤ x.length) : ((if (i : Int) < (x.length : Int) then (if 0 ≤ (i : Int) ∧ (i : Int) < (x.length : Int) then (some (true, true, !decide (((x.getD i 0).toNat : Int) = (32 : Int)))) else none) else (some (false, false, false))).bind fun s => some s.2.2) = some (!endB (x.drop i)) := by
  by_cases hlt : i < x.length
  · rw [if_pos (by omega), if_pos (by omega), getD_cons_of hlt, endB]
    simp only [Option.bind_some]
    congr 3; exact propext (by omega)
  · rw [if_neg (by omega), List.drop_of_length_le (by omega)]; rfl
theorem wadd {n m : Nat} (h : n + m < 2 ^ 61) : IntKind.i64.wrap ((n : Int) + (m : Int)) = ((n + m : Nat) : Int) := by rw [w64 (by omega) (by omega)]; simp
theorem w1i {m : Nat} (h : m < 2 ^ 61) : IntKind.i64.wrap (1 + (m : Int)) = ((m + 1 : Nat) : Int) := by rw [w64 (by omega) (by omega)]; simp; omega
theorem wd_nil (n : Nat) : wd n [] = some [] := by cases n <;> rfl
theorem words_l0 {x : List UInt8} (hx : x.length ≤ 4096) : ∀ (k n : Nat) (out : List (List UInt8)) (i : Nat), x.length - i < n → x.length - i + x.length + 1 < k → i ≤ x.length → out.length ≤ i →
    orR (text_Words.l0 x k out (i : Int)) (fun s => some (s, (0 : Int))) = some (wres out (wd n (x.drop i)))
  | 0, n, out, i, _, h, _, _ => by omega
  | k + 1, 0, out, i, h, _, _, _ => by omega
  | k + 1, n + 1, out, i, hn, hk, hi, ho => by
    rw [text_Words.l0]
    by_cases hlt : i < x.length
    · have ed := getD_cons_of hlt
      have e1 := wi1 (n := i) (by omega)
      simp only [Int.toNat_natCast]
      rw [if_pos (by omega), if_pos (by omega), e1, ed]
      obtain ⟨c, hc⟩ : ∃ c, x.getD i 0 = c := ⟨_, rfl⟩
      simp only [hc] at ed ⊢
      have ecut : cut x ((i + 1 : Nat) : Int) (x.length : Int) = x.drop (i + 1) := by rw [cut_to]; simp
      simp only [ecut]
      rw [wd]
      by_cases h32 : c.toNat = 32
      · rw [if_pos (show (c.toNat : Int) = 32 by omega), if_pos h32, words_l0 hx k n out (i + 1) (by omega) (by omega) (by omega) (by omega)]
      · rw [if_neg (show ¬ (c.toNat : Int) = 32 by omega), if_neg h32, if_pos (by omega)]
        by_cases h34 : c.toNat = 34
        · rw [if_pos (show (c.toNat : Int) = 34 by omega), if_pos h34, if_pos (by omega), quoted_f (by simp; omega) (by simp; omega), Option.bind_some]
          cases hq : qd (x.drop (i + 1)) with
          | none =>
            simp only [qres, Option.bind_none]
            rfl
          | some p =>
            obtain ⟨a, r⟩ := p
            obtain ⟨q, eq, ha⟩ := qd_suf _ _ a r (Nat.le_refl _) hq
            have hlen := congrArg List.length eq
            simp only [List.length_drop, List.length_append] at hlen
            have er : (x.drop (i + 1)).length - r.length = q.length := by simp; omega
            have edr : x.drop (i + (q.length + 1)) = r := by
              rw [show i + (q.length + 1) = (i + 1) + q.length by omega, ← List.drop_drop, eq, List.drop_left]
            simp only [qres, List.nil_append, Option.bind_some, er]
            rw [if_neg (by omega), w1i (by omega), wadd (by omega)]
            simp only [Int.toNat_natCast]
            rw [endB_at3 (by omega), Option.bind_some, edr]
            cases he : endB r with
            | false => rfl
            | true =>
              rw [if_neg (by simp), if_pos (by simp; omega), if_pos rfl, words_l0 hx k n _ (i + (q.length + 1)) (by omega) (by omega) (by omega) (by simp; omega), edr, wres_cons]
        · rw [if_neg (show ¬ (c.toNat : Int) = 34 by omega), if_neg h34, run_l1 (by omega) k i (by omega) hi, Option.bind_some, ed]
          have tl := tw_len bareB (c :: x.drop (i + 1))
          have hl2 : (c :: x.drop (i + 1)).length = x.length - i := by rw [← ed]; simp
          rw [hl2] at tl
          have edr : x.drop (i + ((c :: x.drop (i + 1)).takeWhile bareB).length) = (c :: x.drop (i + 1)).dropWhile bareB := by
            rw [← List.drop_drop, ed, drop_tw]
          simp only [Int.toNat_natCast]
          rw [endB_at (by omega), Option.bind_some, edr]
          cases he : endB ((c :: x.drop (i + 1)).dropWhile bareB) with
          | false => rfl
          | true =>
            have hpos : 0 < ((c :: x.drop (i + 1)).takeWhile bareB).length := by
              rw [List.takeWhile_cons]
              cases hb : bareB c with
              | true => simp
              | false =>
                rw [List.dropWhile_cons, hb] at he
                simp [endB, h32] at he
            have ecw : cut x (i : Int) ((i + ((c :: x.drop (i + 1)).takeWhile bareB).length : Nat) : Int) = (c :: x.drop (i + 1)).takeWhile bareB := by
              unfold cut
              simp only [Int.toNat_natCast]
              rw [List.drop_take, ed, Nat.add_sub_cancel_left]
              exact take_tw bareB (c :: x.drop (i + 1))
            rw [if_neg (by simp), if_pos (by omega), if_pos (by simp; omega), if_pos rfl, words_l0 hx k n _ _ (by omega) (by omega) (by omega) (by simp; omega), edr, ecw, wres_cons]
    · rw [if_neg (by omega), List.drop_of_length_le (by omega), wd_nil]
      simp [orR, wres]
theorem words_f {x : List UInt8} {k : Nat} (hk : 2 * x.length + 1 < k) : text_Words.f k x = some (wordsB x) := by
  unfold text_Words.f wordsB
  by_cases h : 4096 < x.length
  · rw [if_pos (by omega), if_pos h]
  · rw [if_neg (by omega), if_neg h]
    have := words_l0 (x := x) (by omega) k (x.length + 1) [] 0 (by omega) (by omega) (by omega) (by simp)
    simpa using this
end Go.Proofs.YtbcnegennmpliaaDoor

namespace Go.Proofs.YtbcnegennmpliaaDoor
set_option linter.unusedVariables false
set_option linter.unusedSimpArgs false
open Go.RowKit
def encC (c : UInt8) : List UInt8 :=
  if c.toNat = 34 ∨ c.toNat = 92 then [92, c]
  else if plainB c then [c]
  else [92, 120, hexs.getD (c.toNat / 16) 0, hexs.getD (c.toNat % 16) 0]
def headB (s : List UInt8) : Bool := match s with
  | [] => false
  | c :: _ => !decide (c.toNat = 35)
def bareW (s : List UInt8) : Bool := headB s && s.all bareB
def quoteB (s : List UInt8) : List UInt8 := if bareW s then s else 34 :: (s.flatMap encC ++ [34])
theorem encC_len (c : UInt8) : 1 ≤ (encC c).length ∧ (encC c).length ≤ 4 := by
  unfold encC
  split
  · simp
  · split <;> simp
theorem enc_len : ∀ s : List UInt8, (s.flatMap encC).length ≤ 4 * s.length
  | [] => by simp
  | c :: s => by
    have := enc_len s
    have := encC_len c
    simp only [List.flatMap_cons, List.length_append, List.length_cons]; omega
theorem quote_len (s : List UInt8) : (quoteB s).length ≤ 4 * s.length + 2 := by
  unfold quoteB
  have := enc_len s
  split
  · omega
  · simp only [List.length_cons, List.length_append, List.length_nil]; omega
theorem q_l0 {x : List UInt8} (hx : x.length < 2 ^ 40) : ∀ (k : Nat) (z : Bool) (i : Nat), x.length - i < k → i ≤ x.length → text_Quote.l0 x k z (i : Int) = some (z && (x.drop i).all bareB)
  | 0, z, i, h, _ => by omega
  | k + 1, z, i, hk, hi => by
    rw [text_Quote.l0]
    by_cases hlt : i < x.length
    · rw [if_pos (by omega), wi1 (by omega), getD_cons_of hlt]
      simp only [Int.toNat_natCast]
      cases z with
      | true => rw [if_pos rfl, if_pos (by omega), bare_f, Option.bind_some, Option.bind_some, q_l0 hx k _ (i + 1) (by omega) (by omega)]; simp
      | false => rw [if_neg (by simp), Option.bind_some, q_l0 hx k _ (i + 1) (by omega) (by omega)]; simp
    · rw [if_neg (by omega), List.drop_of_length_le (by omega)]; simp
theorem q_l1 {x : List UInt8} (hx : x.length < 2 ^ 40) : ∀ (k : Nat) (z : List UInt8) (i : Nat), x.length - i < k → i ≤ x.length → z.length ≤ 4 * i + 1 → text_Quote.l1 x k z (i : Int) = some (z ++ (x.drop i).flatMap encC)
  | 0, z, i, h, _, _ => by omega
  | k + 1, z, i, hk, hi, hz => by
    rw [text_Quote.l1]
    by_cases hlt : i < x.length
    · rw [if_pos (by omega), if_pos (by omega), wi1 (by omega), getD_cons_of hlt, List.flatMap_cons]
      simp only [Int.toNat_natCast]
      obtain ⟨c, hc⟩ : ∃ c, x.getD i 0 = c := ⟨_, rfl⟩
      simp only [hc]
      rw [encC]
      by_cases h1 : c.toNat = 34 ∨ c.toNat = 92
      · rw [if_pos (by simp; omega), if_pos (by simp; omega), if_pos h1, q_l1 hx k _ (i + 1) (by omega) (by omega) (by simp; omega), List.append_assoc]
      · rw [if_neg (by simp; omega), if_neg h1, plain_f, Option.bind_some]
        cases hp : plainB c with
        | true => rw [if_pos rfl, if_pos rfl, if_pos (by simp; omega), q_l1 hx k _ (i + 1) (by omega) (by omega) (by simp; omega), List.append_assoc]
        | false =>
          have hc := UInt8.toNat_lt c
          have e1 : Int.tdiv (c.toNat : Int) 16 = ((c.toNat / 16 : Nat) : Int) := by rw [Int.tdiv_eq_ediv_of_nonneg (by omega)]; simp
          have e2 : Int.tmod (c.toNat : Int) 16 = ((c.toNat % 16 : Nat) : Int) := by rw [Int.tmod_eq_emod_of_nonneg (by omega)]; simp
          rw [if_neg Bool.false_ne_true, e1, e2, w8 (by omega) (by omega)]
          simp only [Int.toNat_natCast]
          rw [if_pos (by simp; omega), if_pos (by simp; omega), if_pos (by simp; omega), if_neg Bool.false_ne_true, q_l1 hx k _ (i + 1) (by omega) (by omega) (by simp; omega), List.append_assoc]
    · rw [if_neg (by omega), List.drop_of_length_le (by omega)]; simp
theorem quote_f {x : List UInt8} {k : Nat} (hx : x.length < 2 ^ 40) (hk : x.length < k) : text_Quote.f k x = some (quoteB x) := by
  unfold text_Quote.f
  have e0 : (if x = ([] : List UInt8) then (some false) else (if 0 ≤ (0 : Int) ∧ (0 : Int) < (x.length : Int) then (some (!decide (((x.getD (0 : Int).toNat 0).toNat : Int) = (35 : Int)))) else none)) = some (headB x) := by
    cases x with
    | nil => rfl
    | cons c t =>
      rw [if_neg (by simp), if_pos (by simp)]
      simp only [show (0 : Int).toNat = 0 from rfl, List.getD_cons_zero]
      show some (!decide ((c.toNat : Int) = 35)) = some (!decide (c.toNat = 35))
      congr 3; exact propext (by omega)
  have e1 := fun z => q_l0 hx k z 0 (by omega) (by omega)
  have e2 := q_l1 hx k [34] 0 (by omega) (by omega) (by simp)
  have := enc_len x
  simp only [List.drop_zero] at e1 e2
  rw [e0, Option.bind_some]
  rw [show (0 : Int) = ((0 : Nat) : Int) from rfl, e1, Option.bind_some, e2, Option.bind_some]
  unfold quoteB bareW
  by_cases hw : (headB x && x.all bareB) = true
  · rw [if_pos hw, if_pos hw]
  · rw [if_neg hw, if_neg hw, if_pos (by simp only [List.length_append, List.length_cons, List.length_nil]; omega)]; simp
end Go.Proofs.YtbcnegennmpliaaDoor

namespace Go.Proofs.YtbcnegennmpliaaDoor
set_option linter.unusedVariables false
set_option linter.unusedSimpArgs false
open Go.RowKit
def dg (c : UInt8) : Prop := 48 ≤ c.toNat ∧ c.toNat ≤ 57
def fold10 (a : Nat) (l : List UInt8) : Nat := l.foldl (fun a c => a * 10 + (c.toNat - 48)) a
theorem fold10_cons (a : Nat) (c : UInt8) (l : List UInt8) : fold10 a (c :: l) = fold10 (a * 10 + (c.toNat - 48)) l := by simp only [fold10, List.foldl_cons]
theorem fold10_snoc (a : Nat) (c : UInt8) (l : List UInt8) : fold10 a (l ++ [c]) = fold10 a l * 10 + (c.toNat - 48) := by simp [fold10, List.foldl_append]
theorem fold10_ge : ∀ (l : List UInt8) (a : Nat), a ≤ fold10 a l
  | [], a => Nat.le_refl _
  | c :: l, a => by
    have := fold10_ge l (a * 10 + (c.toNat - 48))
    rw [fold10_cons]; omega
theorem u8_of {n : Nat} (h : n < 256) : (UInt8.ofNat n).toNat = n := by simp; omega
theorem dec_spec (u : Nat) : (∀ c, c ∈ Lib.decDigits u → dg c) ∧ fold10 0 (Lib.decDigits u) = u ∧ Lib.decDigits u ≠ [] ∧ (1 ≤ u → ∀ c t, Lib.decDigits u = c :: t → c.toNat ≠ 48) := by
  induction u using Nat.strongRecOn with
  | _ u ih =>
    by_cases h : u < 10
    · rw [Lib.decDigits, dif_pos h]
      have e : (UInt8.ofNat (48 + u)).toNat = 48 + u := u8_of (by omega)
      refine ⟨fun c hc => ?_, ?_, by simp, fun h1 c t e1 => ?_⟩
      · rw [List.mem_singleton.1 hc, dg, e]; omega
      · simp only [fold10, List.foldl_cons, List.foldl_nil]; rw [e]; omega
      · rw [← (List.cons.inj e1).1, e]; omega
    · rw [Lib.decDigits, dif_neg h]
      obtain ⟨h1, h2, h3, h4⟩ := ih (u / 10) (by omega)
      have e : (UInt8.ofNat (48 + u % 10)).toNat = 48 + u % 10 := u8_of (by omega)
      refine ⟨fun c hc => ?_, ?_, by simp, fun _ c t e1 => ?_⟩
      · rcases List.mem_append.1 hc with hc | hc
        · exact h1 c hc
        · rw [List.mem_singleton.1 hc, dg, e]; omega
      · rw [fold10_snoc, h2, e]; omega
      · cases hd : Lib.decDigits (u / 10) with
        | nil => exact absurd hd h3
        | cons d r =>
          rw [hd, List.cons_append] at e1
          rw [← (List.cons.inj e1).1]
          exact h4 (by omega) d r hd
def canon (x : List UInt8) (n : Int) : Prop := x = Lib.itoa n ∧ -4611686018427387904 ≤ n ∧ n ≤ 4611686018427387904
theorem itoa_pos {n : Int} (h : 0 ≤ n) : Lib.itoa n = Lib.decDigits n.toNat := by unfold Lib.itoa; rw [if_neg (by omega)]
theorem itoa_neg' {n : Int} (h : n < 0) : Lib.itoa n = 45 :: Lib.decDigits n.natAbs := by unfold Lib.itoa; rw [if_pos h]
theorem dec_head {u : Nat} {c : UInt8} {t : List UInt8} (h : Lib.decDigits u = c :: t) : dg c := (dec_spec u).1 c (by rw [h]; simp)
theorem parseM_ok : ∀ (l : List UInt8) (a : Nat), (∀ c, c ∈ l → dg c) → fold10 a l ≤ 4611686018427387904 → Lib.parseUintM (2 ^ 64 - 1) a l = .ok (fold10 a l)
  | [], a, _, _ => rfl
  | c :: l, a, hd, hf => by
    have hc := hd c (by simp)
    rw [fold10_cons] at hf ⊢
    have := fold10_ge l (a * 10 + (c.toNat - 48))
    rw [Lib.parseUintM, if_pos (show 48 ≤ c.toNat ∧ c.toNat ≤ 57 from hc), if_neg (by omega), if_neg (by omega)]
    exact parseM_ok l _ (fun x hx => hd x (List.mem_cons_of_mem _ hx)) hf
theorem parse_itoa {n : Int} (h0 : -4611686018427387904 ≤ n) (h1 : n ≤ 4611686018427387904) : parseV (Lib.itoa n) = (n, true) := by
  have key : Lib.parseIntB 64 (Lib.itoa n) = .ok n := by
    by_cases hn : n < 0
    · rw [itoa_neg' hn]
      obtain ⟨s1, s2, s3, s4⟩ := dec_spec n.natAbs
      unfold Lib.parseIntB
      simp only []
      rw [if_pos (by right; decide), Lib.parseUintB, if_neg s3, parseM_ok _ _ s1 (by rw [s2]; omega), s2]
      simp only []
      rw [if_neg (by simp), if_neg (by simp; omega), if_pos (by decide)]
      congr 1; omega
    · rw [itoa_pos (by omega)]
      obtain ⟨s1, s2, s3, s4⟩ := dec_spec n.toNat
      cases hd : Lib.decDigits n.toNat with
      | nil => exact absurd hd s3
      | cons c t =>
        have hc := dec_head hd
        unfold Lib.parseIntB
        simp only []
        have e1 : ¬ (c.toNat = 43 ∨ c.toNat = 45) := by have := hc.1; omega
        have e2 : ¬ (c.toNat = 45) := by have := hc.1; omega
        rw [if_neg e1, Lib.parseUintB, if_neg (by simp), ← hd, parseM_ok _ _ s1 (by rw [s2]; omega), s2]
        simp only []
        rw [if_neg (by simp; omega), if_neg (fun h => e2 h.1), if_neg e2]
        congr 1; omega
  unfold parseV
  rw [key]
theorem dg_mem {c : UInt8} (h : dg c) : ([48, 49, 50, 51, 52, 53, 54, 55, 56, 57] : List UInt8).contains c = true := by
  have := u8_all (p := fun c => !(decide (48 ≤ c.toNat) && decide (c.toNat ≤ 57)) || ([48, 49, 50, 51, 52, 53, 54, 55, 56, 57] : List UInt8).contains c) (by decide +kernel) c
  simp only [decide_eq_true h.1, decide_eq_true h.2, Bool.and_self, Bool.not_true, Bool.false_or] at this
  exact this
theorem trim_digits {l : List UInt8} (h : ∀ c, c ∈ l → dg c) : Lib.trimS l [48, 49, 50, 51, 52, 53, 54, 55, 56, 57] = [] := by
  have e : Lib.trimRightS l [48, 49, 50, 51, 52, 53, 54, 55, 56, 57] = l.take 0 := Lib.trimRightS_take l _ 0 (by omega) (fun j b _ hb => dg_mem (h b (List.mem_of_getElem? hb))) (fun b hb => absurd hb (by omega))
  unfold Lib.trimS
  rw [e, List.take_zero]
  rfl
theorem trimP_itoa (n : Int) : ∀ c, c ∈ Lib.trimPrefix (Lib.itoa n) [45] → dg c := by
  intro c hc
  by_cases hn : n < 0
  · rw [itoa_neg' hn] at hc
    unfold Lib.trimPrefix at hc
    rw [pre1] at hc
    simp at hc
    exact (dec_spec _).1 c hc
  · rw [itoa_pos (by omega)] at hc
    obtain ⟨s1, s2, s3, s4⟩ := dec_spec n.toNat
    unfold Lib.trimPrefix at hc
    split at hc
    · exact s1 c (List.mem_of_mem_drop hc)
    · exact s1 c hc
theorem number_f {x : List UInt8} (hx : x.length ≤ 2 ^ 40) : ∃ n ok, text_number.f x = some (n, ok) ∧ (ok = true ↔ ∃ m, canon x m) ∧ (ok = true → canon x n) := by
  have ht : (Lib.trimPrefix x [45]).length ≤ x.length := by unfold Lib.trimPrefix; split <;> simp
  have hdig : ∀ b ∈ ([48, 49, 50, 51, 52, 53, 54, 55, 56, 57] : List UInt8), b.toNat < 128 := by decide
  unfold text_number.f
  rw [strings_TrimPrefix.f, Option.bind_some, strconv_ParseInt.f, if_pos ⟨rfl, rfl, by omega⟩, Option.bind_some]
  obtain ⟨v, hv⟩ : ∃ v, parseV x = v := ⟨_, rfl⟩
  rw [hv]
  by_cases hb : ((v.2 && (decide ((-4611686018427387904) ≤ v.1))) && (decide (v.1 ≤ (4611686018427387904 : Int)))) = true
  · have hb' := hb
    simp only [Bool.and_eq_true, decide_eq_true_eq] at hb'
    rw [if_pos hb, strings_Trim.f, if_pos ⟨by omega, by simp, hdig⟩, Option.bind_some, Option.bind_some]
    by_cases htr : Lib.trimS (Lib.trimPrefix x [45]) [48, 49, 50, 51, 52, 53, 54, 55, 56, 57] = []
    · rw [if_pos (by simpa using htr), strconv_FormatInt.f, if_pos ⟨rfl, by omega, by omega⟩, Option.bind_some, Option.bind_some]
      refine ⟨_, _, rfl, ⟨fun h => ⟨v.1, ?_⟩, fun ⟨m, hm⟩ => ?_⟩, fun h => ?_⟩
      · exact ⟨(of_decide_eq_true h).symm, hb'.1.2, hb'.2⟩
      · have := parse_itoa hm.2.1 hm.2.2
        rw [← hm.1, hv] at this
        rw [decide_eq_true_eq, this]
        exact hm.1.symm
      · exact ⟨(of_decide_eq_true h).symm, hb'.1.2, hb'.2⟩
    · rw [if_neg (by simpa using htr), Option.bind_some]
      refine ⟨_, _, rfl, ⟨fun h => (by cases h), fun ⟨m, hm⟩ => ?_⟩, fun h => (by cases h)⟩
      exact absurd (by rw [hm.1]; exact trim_digits (trimP_itoa m)) htr
  · rw [if_neg hb, Option.bind_some, if_neg Bool.false_ne_true, Option.bind_some]
    refine ⟨_, _, rfl, ⟨fun h => (by cases h), fun ⟨m, hm⟩ => ?_⟩, fun h => (by cases h)⟩
    refine absurd ?_ hb
    have := parse_itoa hm.2.1 hm.2.2
    rw [← hm.1, hv] at this
    rw [this]
    simp [hm.2.1, hm.2.2]
/-! ### The document's -/
end Go.Proofs.YtbcnegennmpliaaDoor

namespace Go.Proofs.YtbcnegennmpliaaDoor
set_option linter.unusedVariables false
set_option linter.unusedSimpArgs false
open Go.RowKit
end Go.Proofs.YtbcnegennmpliaaDoor

namespace Go.Proofs.YtbcnegennmpliaaDoor
set_option linter.unusedVariables false
set_option linter.unusedSimpArgs false
open Go.RowKit
abbrev ActT : Type := Int × Int × Int × Int × Int × Int × List UInt8 × List UInt8 × List UInt8
abbrev act0 : ActT := (0, 0, 0, 0, 0, 0, [], [], [])
def fl (a : ActT) (e : Int) : Int × Int × Int × Int × Int × Int × List UInt8 × List UInt8 × List UInt8 × Int := (a.1, a.2.1, a.2.2.1, a.2.2.2.1, a.2.2.2.2.1, a.2.2.2.2.2.1, a.2.2.2.2.2.2.1, a.2.2.2.2.2.2.2.1, a.2.2.2.2.2.2.2.2, e)
def numM (x : List UInt8) : Option Int := match text_number.f x with
  | some (n, true) => some n
  | _ => none
theorem num_p {x : List UInt8} (hx : x.length ≤ 2 ^ 40) : ∃ n, text_number.f x = some (match numM x with | some v => (v, true) | none => (n, false)) := by
  obtain ⟨n, ok, h1, h2, h3⟩ := number_f hx
  refine ⟨n, ?_⟩
  unfold numM
  rw [h1]
  cases ok <;> rfl
abbrev picksL : List (List UInt8) := [[110, 111, 116, 105, 99, 101], [119, 111, 114, 107], [105, 110, 98, 111, 120], [116, 105, 99, 107], [99, 97, 108, 108], [119, 114, 105, 116, 101], [115, 121, 110, 99], [97, 112, 112, 108, 121], [115, 101, 110, 100]]
def pickN : List (List UInt8) → List UInt8 → Nat → Option Nat
  | [], _, _ => none
  | p :: ps, w, i => if p = w then some (i + 1) else pickN ps w (i + 1)
def fillM (l : UInt8) (a : ActT) (w : List UInt8) : ActT ⊕ Int :=
  if l = 107 then .inl (a.1, a.2.1, a.2.2.1, a.2.2.2.1, a.2.2.2.2.1, a.2.2.2.2.2.1, w, a.2.2.2.2.2.2.2.1, a.2.2.2.2.2.2.2.2)
  else if l = 118 then .inl (a.1, a.2.1, a.2.2.1, a.2.2.2.1, a.2.2.2.2.1, a.2.2.2.2.2.1, a.2.2.2.2.2.2.1, w, a.2.2.2.2.2.2.2.2)
  else if l = 111 then .inl (a.1, a.2.1, a.2.2.1, a.2.2.2.1, a.2.2.2.2.1, a.2.2.2.2.2.1, a.2.2.2.2.2.2.1, a.2.2.2.2.2.2.2.1, w)
  else if l = 112 then match pickN picksL w 0 with
    | some n => .inl (a.1, a.2.1, a.2.2.1, (n : Int), a.2.2.2.2.1, a.2.2.2.2.2.1, a.2.2.2.2.2.2.1, a.2.2.2.2.2.2.2.1, a.2.2.2.2.2.2.2.2)
    | none => .inr 20
  else match numM w with
    | none => .inr 22
    | some n =>
      if l = 78 then .inl (a.1, n, a.2.2.1, a.2.2.2.1, a.2.2.2.2.1, a.2.2.2.2.2.1, a.2.2.2.2.2.2.1, a.2.2.2.2.2.2.2.1, a.2.2.2.2.2.2.2.2)
      else if l = 67 then .inl (a.1, a.2.1, n, a.2.2.2.1, a.2.2.2.2.1, a.2.2.2.2.2.1, a.2.2.2.2.2.2.1, a.2.2.2.2.2.2.2.1, a.2.2.2.2.2.2.2.2)
      else if l = 110 then .inl (a.1, a.2.1, a.2.2.1, n, a.2.2.2.2.1, a.2.2.2.2.2.1, a.2.2.2.2.2.2.1, a.2.2.2.2.2.2.2.1, a.2.2.2.2.2.2.2.2)
      else .inl (a.1, a.2.1, a.2.2.1, a.2.2.2.1, n, a.2.2.2.2.2.1, a.2.2.2.2.2.2.1, a.2.2.2.2.2.2.2.1, a.2.2.2.2.2.2.2.2)
def fres (a : ActT) (r : ActT ⊕ Int) : Int × Int × Int × Int × Int × Int × Int × List UInt8 × List UInt8 × List UInt8 := match r with
  | .inl b => (0, b)
  | .inr c => (c, a)
def fld (l : UInt8) : Ty103 :=
  if l = 78 then (some 65, none, false) else if l = 67 then (some 66, none, false) else if l = 110 then (some 67, none, false) else if l = 109 then (some 68, none, false)
  else if l = 112 then (some 69, none, true) else if l = 107 then (none, some 70, false) else if l = 118 then (none, some 71, false) else (none, some 72, false)
abbrev lets : List UInt8 := [78, 67, 110, 109, 112, 107, 118, 111]
theorem picksP : text_picks.f = some picksL := rfl
theorem pick_l0 (a : ActT) (w : List UInt8) : ∀ (ps : List (List UInt8)) (pre : List (List UInt8)) (k : Nat), ps.length < k → (pre ++ ps).length < 100 →
    text_field_fill.l0 (some 69) a.1 a.2.1 a.2.2.1 a.2.2.2.1 a.2.2.2.2.1 a.2.2.2.2.2.1 a.2.2.2.2.2.2.1 a.2.2.2.2.2.2.2.1 a.2.2.2.2.2.2.2.2 w (pre ++ ps) k (pre.length : Int) = some (match pickN ps w pre.length with
      | some n => .inr (0, a.1, a.2.1, a.2.2.1, (n : Int), a.2.2.2.2.1, a.2.2.2.2.2.1, a.2.2.2.2.2.2.1, a.2.2.2.2.2.2.2.1, a.2.2.2.2.2.2.2.2)
      | none => .inl ())
  | _, _, 0, h, _ => by omega
  | [], pre, k + 1, _, _ => by
    rw [text_field_fill.l0, List.append_nil, if_neg (by omega)]; rfl
  | p :: ps, pre, k + 1, hk, hl => by
    have hl' := hl
    rw [List.length_append, List.length_cons] at hl'
    rw [text_field_fill.l0, if_pos (by rw [List.length_append, List.length_cons]; omega), if_pos (by rw [List.length_append, List.length_cons]; omega)]
    have e : (pre ++ p :: ps).getD (pre.length : Int).toNat [] = p := by simp
    rw [e, pickN, wi1 (by omega)]
    by_cases h : p = w
    · rw [if_pos h, if_pos h]
      simp [text_lines_5.f]
    · rw [if_neg h, if_neg h]
      have := pick_l0 a w ps (pre ++ [p]) k (by simp at hk ⊢; omega) (by simpa using hl)
      simpa using this
theorem fill_f {l : UInt8} (hl : l ∈ lets) (a : ActT) {w : List UInt8} {k : Nat} (hw : w.length ≤ 2 ^ 40) (hk : 20 < k) :
    text_field_fill.f k (fld l).1 (fld l).2.1 (fld l).2.2 a.1 a.2.1 a.2.2.1 a.2.2.2.1 a.2.2.2.2.1 a.2.2.2.2.2.1 a.2.2.2.2.2.2.1 a.2.2.2.2.2.2.2.1 a.2.2.2.2.2.2.2.2 w = some (fres a (fillM l a w)) := by
  obtain ⟨n, hn⟩ := num_p hw
  have hp := pick_l0 a w picksL [] k (by simp; omega) (by simp)
  simp only [List.mem_cons, List.not_mem_nil, or_false] at hl
  unfold text_field_fill.f
  rcases hl with rfl | rfl | rfl | rfl | rfl | rfl | rfl | rfl
  · rw [hn]; unfold fillM; cases numM w <;> simp [fld, fres, text_lines_1.f]
  · rw [hn]; unfold fillM; cases numM w <;> simp [fld, fres, text_lines_2.f]
  · rw [hn]; unfold fillM; cases numM w <;> simp [fld, fres, text_lines_3.f]
  · rw [hn]; unfold fillM; cases numM w <;> simp [fld, fres, text_lines_4.f]
  · rw [picksP, Option.bind_some]
    rw [show (fld 112).1 = some 69 from rfl, show (fld 112).2.1 = none from rfl, show (fld 112).2.2 = true from rfl, if_neg (by simp), if_pos rfl]
    rw [show (([] : List (List UInt8)).length : Int) = (0 : Int) from rfl, List.nil_append] at hp
    rw [hp]
    unfold fillM
    cases hq : pickN picksL w 0 <;> simp [fres, orR]
  · simp [fld, fres, fillM, text_lines_6.f]
  · simp [fld, fres, fillM, text_lines_7.f]
  · simp [fld, fres, fillM, text_lines_8.f]
end Go.Proofs.YtbcnegennmpliaaDoor

namespace Go.Proofs.YtbcnegennmpliaaDoor
set_option linter.unusedVariables false
set_option linter.unusedSimpArgs false
open Go.RowKit
abbrev RowT : Type := List UInt8 × Int × List UInt8 × Int × Int
def rowsL : List RowT := (synodref17_Rows.f).getD []
def actOf (r : RowT) : ActT := (r.2.1, 0, 0, 0, r.2.2.2.1, r.2.2.2.2, [], [], [])
def toLine (r : RowT) : Ty99 := (r.1, r.2.1, 0, 0, 0, r.2.2.2.1, r.2.2.2.2, [], [], [], r.2.2.1.map fld)
theorem linesP : text_lines.f = some (rowsL.map toLine) := by kernel_rfl
theorem rows_lets : ∀ r, r ∈ rowsL → ∀ l, l ∈ r.2.2.1 → l ∈ lets := by
  have : (rowsL.all fun r => r.2.2.1.all fun l => lets.contains l) = true := by decide +kernel
  intro r hr l hl
  exact List.contains_iff_mem.1 (List.all_eq_true.1 (List.all_eq_true.1 this r hr) l hl)
theorem rows_len : rowsL.length = 20 := by decide +kernel
theorem rows_of_len : ∀ r, r ∈ rowsL → r.2.2.1.length ≤ 5 := by
  have : (rowsL.all fun r => decide (r.2.2.1.length ≤ 5)) = true := by decide +kernel
  intro r hr
  simpa using List.all_eq_true.1 this r hr
def fillAll : List UInt8 → ActT → List (List UInt8) → ActT ⊕ Int
  | [], a, _ => .inl a
  | l :: ls, a, w :: ws => match fillM l a w with
    | .inl b => fillAll ls b ws
    | .inr c => .inr c
  | _ :: _, _, [] => .inr 21
def parseR : List RowT → List (List UInt8) → ActT × Int
  | [], _ => (act0, 20)
  | r :: rs, ws =>
    if ws = [] ∨ r.1 ≠ ws.headD [] then parseR rs ws
    else if ws.length ≠ 1 + r.2.2.1.length then (act0, 21)
    else match fillAll r.2.2.1 (actOf r) (ws.drop 1) with
      | .inl a => (a, 0)
      | .inr c => (act0, c)
def parseB (x : List UInt8) : ActT × Int := if (wordsB x).2 = 0 then parseR rowsL (wordsB x).1 else (act0, (wordsB x).2)
theorem fill_ne {l : UInt8} {a : ActT} {w : List UInt8} {c : Int} (h : fillM l a w = .inr c) : c = 20 ∨ c = 22 := by
  unfold fillM at h
  split at h
  · cases h
  split at h
  · cases h
  split at h
  · cases h
  split at h
  · split at h
    · cases h
    · cases h; exact .inl rfl
  · split at h
    · cases h; exact .inr rfl
    · split at h
      · cases h
      split at h
      · cases h
      split at h <;> cases h
abbrev w1 (ws : List (List UInt8)) (i : Nat) : List UInt8 := ws.getD i []
theorem getD_dropS {ws : List (List UInt8)} {i : Nat} {w : List UInt8} {t : List (List UInt8)} (h : ws.drop i = w :: t) : i < ws.length ∧ ws.getD i [] = w ∧ ws.drop (i + 1) = t := by
  have hl : i < ws.length := by
    rcases Nat.lt_or_ge i ws.length with hh | hh
    · exact hh
    · rw [List.drop_of_length_le hh] at h; cases h
  rw [List.drop_eq_getElem_cons hl] at h
  refine ⟨hl, ?_, (List.cons.inj h).2⟩
  rw [List.getD_eq_getElem?_getD, List.getElem?_eq_getElem hl]
  exact (List.cons.inj h).1
abbrev L1T : Type := ActT ⊕ (Unit ⊕ (Unit ⊕ (Int × Int × Int × Int × Int × Int × List UInt8 × List UInt8 × List UInt8 × Int)))
def l1res (r : ActT ⊕ Int) : L1T := match r with
  | .inl b => .inl b
  | .inr c => .inr (.inr (.inr (fl act0 c)))
theorem act_l1 {ws : List (List UInt8)} {e : Int} {lines : List Ty99} {j : Nat} {r : RowT} (hj : ∀ d, lines.getD j d = toLine r) (hwl : ws.length < 2 ^ 40) (hw : ∀ w, w ∈ ws → w.length ≤ 2 ^ 40) (hlt : ∀ l, l ∈ r.2.2.1 → l ∈ lets) :
    ∀ (ls pre : List UInt8) (wr : List (List UInt8)) (k : Nat) (a : ActT), r.2.2.1 = pre ++ ls → ws.drop (pre.length + 1) = wr → ls.length ≤ wr.length → ls.length + 25 < k →
      text_ParseAct.l1 (ws, e) lines (j : Int) k (pre.length : Int) a.1 a.2.1 a.2.2.1 a.2.2.2.1 a.2.2.2.2.1 a.2.2.2.2.2.1 a.2.2.2.2.2.2.1 a.2.2.2.2.2.2.2.1 a.2.2.2.2.2.2.2.2 = some (l1res (fillAll ls a wr))
  | _, _, _, 0, _, _, _, _, h => by omega
  | [], pre, wr, k + 1, a, hp, _, _, _ => by
    rw [text_ParseAct.l1]
    simp only [Int.toNat_natCast, hj]
    rw [if_neg (by simp [toLine, hp])]
    rfl
  | l :: ls, pre, [], k + 1, a, hp, hd, hlen, _ => by simp at hlen
  | l :: ls, pre, w :: wr, k + 1, a, hp, hd, hlen, hk => by
    obtain ⟨g1, g2, g3⟩ := getD_dropS hd
    have hwm : w ∈ ws := List.mem_of_mem_drop (by rw [hd]; simp)
    have hll : l ∈ lets := hlt l (by rw [hp]; simp)
    have hpl : pre.length < (pre ++ l :: ls).length := by simp
    rw [text_ParseAct.l1]
    simp only [Int.toNat_natCast, hj]
    have ef : ∀ d, (toLine r).2.2.2.2.2.2.2.2.2.2.getD pre.length d = fld l := fun d => by
      show (r.2.2.1.map fld).getD pre.length d = _
      rw [hp]; simp
    have el : (((toLine r).2.2.2.2.2.2.2.2.2.2).length : Int) = ((pre ++ l :: ls).length : Int) := by
      show (((r.2.2.1.map fld).length : Nat) : Int) = _
      rw [List.length_map, hp]
    rw [el, if_pos (by omega), if_pos (by omega), wi1 (by omega), if_pos (by omega)]
    simp only [Int.toNat_natCast, ef, g2]
    rw [fill_f hll a (hw w hwm) (by simp at hk; omega), Option.bind_some, fillAll]
    cases hf : fillM l a w with
    | inl b =>
      simp only [fres, if_true]
      have := act_l1 (e := e) hj hwl hw hlt ls (pre ++ [l]) wr k b (by rw [hp]; simp) (by simpa using g3) (by simp at hlen; omega) (by simp at hk; omega)
      simpa using this
    | inr c =>
      have hc0 : c ≠ 0 := by have := fill_ne hf; omega
      simp [fres, hc0, l1res, fl]
def l0res (r : ActT × Int) : Int × Int × Int × Int × Int × Int × List UInt8 × List UInt8 × List UInt8 × Int := fl r.1 r.2
theorem getD_map_at {rs : List RowT} {i : Nat} (h : i < rs.length) (d : Ty99) : (rs.map toLine).getD i d = toLine (rs.getD i dz109) := by
  rw [List.getD_eq_getElem?_getD, List.getElem?_map, List.getD_eq_getElem?_getD, List.getElem?_eq_getElem h]; rfl
theorem getD_consR {rs : List RowT} {i : Nat} (h : i < rs.length) : rs.drop i = rs.getD i dz109 :: rs.drop (i + 1) := by
  rw [List.getD_eq_getElem?_getD, List.getElem?_eq_getElem h]
  exact List.drop_eq_getElem_cons h
theorem act_l0 {ws : List (List UInt8)} {e : Int} (hwl : ws.length < 2 ^ 40) (hw : ∀ w, w ∈ ws → w.length ≤ 2 ^ 40) : ∀ (k i : Nat), rowsL.length - i + 40 < k → i ≤ rowsL.length →
    orR (text_ParseAct.l0 (ws, e) (rowsL.map toLine) k (i : Int)) (fun _ => some (fl act0 20)) = some (l0res (parseR (rowsL.drop i) ws))
  | 0, i, h, _ => by omega
  | k + 1, i, hk, hi => by
    rw [text_ParseAct.l0, List.length_map]
    by_cases hlt : i < rowsL.length
    · have hm : rowsL.getD i dz109 ∈ rowsL := by rw [getD_at hlt]; exact List.getElem_mem hlt
      have hr := getD_consR hlt
      rw [if_pos (by omega), if_pos (by omega), hr, wi1 (by have := rows_len; omega)]
      simp only [Int.toNat_natCast, getD_map_at hlt]
      obtain ⟨r, hrr⟩ : ∃ r, rowsL.getD i dz109 = r := ⟨_, rfl⟩
      simp only [hrr] at hm hr ⊢
      rw [parseR]
      have ih := act_l0 hwl hw k (i + 1) (by omega) (by omega) (e := e)
      by_cases hws : ws = []
      · rw [if_pos (show (ws.length : Int) = 0 by simp [hws]), Option.bind_some, if_pos rfl, if_pos (Or.inl hws)]
        exact ih
      · have hne : ws.length ≠ 0 := fun h => hws (List.length_eq_zero_iff.1 h)
        have ehd : ws.getD (0 : Int).toNat [] = ws.headD [] := by cases ws <;> rfl
        rw [if_neg (by omega), if_pos (by omega), Option.bind_some, ehd]
        by_cases hh : r.1 = ws.headD []
        · have ec : (!decide ((toLine r).1 = ws.headD [])) = false := by rw [decide_eq_true (show (toLine r).1 = ws.headD [] from hh)]; rfl
          rw [ec, if_neg Bool.false_ne_true, if_neg (show ¬ (ws = [] ∨ r.1 ≠ ws.headD []) from fun h => h.elim hws fun h => h hh)]
          have ol := rows_of_len r hm
          have el : (((toLine r).2.2.2.2.2.2.2.2.2.2).length : Int) = (r.2.2.1.length : Int) := by
            show (((r.2.2.1.map fld).length : Nat) : Int) = _
            rw [List.length_map]
          rw [el, w1i (by omega)]
          by_cases hl : ws.length = 1 + r.2.2.1.length
          · rw [if_pos (by omega), if_neg (show ¬ ws.length ≠ 1 + r.2.2.1.length by omega)]
            have := act_l1 (e := e) (lines := rowsL.map toLine) (j := i) (r := r) (fun d => by rw [getD_map_at hlt, hrr]) hwl hw (rows_lets r hm) r.2.2.1 [] (ws.drop 1) k (actOf r) rfl rfl (by simp; omega) (by omega)
            simp only [actOf] at this
            rw [show (toLine r).2.1 = r.2.1 from rfl, show (toLine r).2.2.1 = 0 from rfl, show (toLine r).2.2.2.1 = 0 from rfl, show (toLine r).2.2.2.2.1 = 0 from rfl, show (toLine r).2.2.2.2.2.1 = r.2.2.2.1 from rfl, show (toLine r).2.2.2.2.2.2.1 = r.2.2.2.2 from rfl, show (toLine r).2.2.2.2.2.2.2.1 = [] from rfl, show (toLine r).2.2.2.2.2.2.2.2.1 = [] from rfl, show (toLine r).2.2.2.2.2.2.2.2.2.1 = [] from rfl]
            rw [show (([] : List UInt8).length : Int) = (0 : Int) from rfl] at this
            rw [this]
            unfold actOf
            cases fillAll r.2.2.1 (r.2.1, 0, 0, 0, r.2.2.2.1, r.2.2.2.2, [], [], []) (ws.drop 1) with
            | inl b => rfl
            | inr c => rfl
          · rw [if_neg (by omega), if_pos hl]
            rfl
        · have ec : (!decide ((toLine r).1 = ws.headD [])) = true := by rw [decide_eq_false (show ¬ (toLine r).1 = ws.headD [] from hh)]; rfl
          rw [ec, if_pos rfl, if_pos (.inr hh)]
          exact ih
    · rw [if_neg (by omega), List.drop_of_length_le (by omega)]
      rfl
theorem wd_mem : ∀ (n : Nat) (x : List UInt8) (l : List (List UInt8)), wd n x = some l → ∀ w, w ∈ l → w.length ≤ x.length
  | n, [], l, h => by rw [wd_nil] at h; cases h; intro w hw; cases hw
  | 0, c :: t, l, h => by simp [wd] at h
  | n + 1, c :: t, l, h => by
    rw [wd] at h
    split at h
    · intro w hw; have := wd_mem n t l h w hw; simp; omega
    split at h
    · cases hq : qd t with
      | none => rw [hq] at h; cases h
      | some p =>
        obtain ⟨a, r⟩ := p
        rw [hq, Option.bind_some] at h
        obtain ⟨q, eq, hal⟩ := qd_suf _ _ a r (Nat.le_refl _) hq
        have hlen := congrArg List.length eq
        simp only [List.length_append] at hlen
        split at h
        · cases hw : wd n r with
          | none => rw [hw] at h; cases h
          | some m =>
            rw [hw] at h
            simp only [Option.map_some, Option.some.injEq] at h
            subst h
            intro w hm
            rcases List.mem_cons.1 hm with rfl | hm
            · simp; omega
            · have := wd_mem n r m hw w hm
              simp; omega
        · cases h
    · split at h
      · cases hw : wd n ((c :: t).dropWhile bareB) with
        | none => rw [hw] at h; cases h
        | some m =>
          rw [hw] at h
          simp only [Option.map_some, Option.some.injEq] at h
          subst h
          have tl := tw_len bareB (c :: t)
          intro w hm
          rcases List.mem_cons.1 hm with rfl | hm
          · omega
          · have := wd_mem n _ m hw w hm
            omega
      · cases h
theorem wordsB_mem (x : List UInt8) : ∀ w, w ∈ (wordsB x).1 → w.length ≤ 4096 := by
  unfold wordsB
  split
  · intro w hw; cases hw
  · cases h : wd (x.length + 1) x with
    | none => intro w hw; simp [wres] at hw
    | some l =>
      intro w hw
      simp only [wres, List.nil_append] at hw
      have := wd_mem _ _ _ h w hw
      omega
theorem parse_f {x : List UInt8} {k : Nat} (hl : (wordsB x).1.length ≤ 4096) (hk : 2 * x.length + 5000 < k) : text_ParseAct.f k x = some (l0res (parseB x)) := by
  unfold text_ParseAct.f parseB
  rw [words_f (by omega), Option.bind_some]
  by_cases h : (wordsB x).2 = 0
  · rw [if_pos h, if_pos h, linesP, Option.bind_some]
    have := act_l0 (ws := (wordsB x).1) (e := (wordsB x).2) (by omega) (fun w hw => by have := wordsB_mem x w hw; omega) k 0 (by have := rows_len; omega) (by omega)
    exact this
  · rw [if_neg h, if_neg h]; rfl
end Go.Proofs.YtbcnegennmpliaaDoor

namespace Go.Proofs.YtbcnegennmpliaaDoor
set_option linter.unusedVariables false
set_option linter.unusedSimpArgs false
open Go.RowKit
theorem texts_loop (x y : List (List UInt8)) (hl : x.length = y.length) (hm : x.length < 2 ^ 62) : ∀ (d i k : Nat), i + d = x.length → d + 1 ≤ k → x.take i = y.take i →
    (orR (synodref_SameTexts.l0 x y k (i : Int)) fun _ => some true) = some (decide (x = y))
  | d, i, 0, _, hk, _ => by omega
  | 0, i, k + 1, hd, hk, ht => by
    simp only [synodref_SameTexts.l0]
    rw [if_neg (by omega)]
    have : x = y := by rwa [List.take_of_length_le (by omega), List.take_of_length_le (by omega)] at ht
    simp [orR, this]
  | d + 1, i, k + 1, hd, hk, ht => by
    simp only [synodref_SameTexts.l0]
    rw [if_pos (by omega), if_pos (by omega), if_pos (by omega)]
    have hix : i < x.length := by omega
    have hiy : i < y.length := by omega
    simp only [Int.toNat_natCast]
    by_cases he : x[i] = y[i]
    · rw [if_pos (by rw [getD_at hix, getD_at hiy, he]), w64 (by omega) (by omega)]
      exact texts_loop x y hl hm d (i + 1) k (by omega) (by omega) (by rw [List.take_succ_eq_append_getElem hix, List.take_succ_eq_append_getElem hiy, ht, he])
    · rw [if_neg (by rw [getD_at hix, getD_at hiy]; exact he)]
      have : x ≠ y := by rintro rfl; exact he rfl
      simp [orR, this]
theorem SameTexts_eq {k : Nat} {x y : List (List UInt8)} (hm : x.length < 2 ^ 62) (hk : x.length + 1 ≤ k) : synodref_SameTexts.f k x y = some (decide (x = y)) := by
  unfold synodref_SameTexts.f
  by_cases h : x.length = y.length
  · rw [if_pos (by omega)]
    exact texts_loop x y h hm x.length 0 k (by omega) hk rfl
  · rw [if_neg (by omega)]
    have : x ≠ y := by rintro rfl; exact h rfl
    simp [this]
theorem first_eq (m : Nat) : synodlaw17_first.f (m + 60) = some true := by kernel_rfl
theorem wd_len : ∀ (n : Nat) (x : List UInt8) (l : List (List UInt8)), wd n x = some l → l.length ≤ x.length
  | n, [], l, h => by rw [wd_nil] at h; cases h; simp
  | 0, c :: t, l, h => by simp [wd] at h
  | n + 1, c :: t, l, h => by
    rw [wd] at h
    split at h
    · have := wd_len n t l h; simp; omega
    split at h
    · cases hq : qd t with
      | none => rw [hq] at h; cases h
      | some p =>
        obtain ⟨a, r⟩ := p
        rw [hq, Option.bind_some] at h
        obtain ⟨q, eq, _⟩ := qd_suf _ _ a r (Nat.le_refl _) hq
        have hlen := congrArg List.length eq
        simp only [List.length_append] at hlen
        split at h
        · cases hw : wd n r with
          | none => rw [hw] at h; cases h
          | some m =>
            rw [hw] at h
            simp only [Option.map_some, Option.some.injEq] at h
            subst h
            have := wd_len n r m hw
            simp; omega
        · cases h
    · split at h
      · rename_i he
        cases hw : wd n ((c :: t).dropWhile bareB) with
        | none => rw [hw] at h; cases h
        | some m =>
          rw [hw] at h
          simp only [Option.map_some, Option.some.injEq] at h
          subst h
          have := wd_len n _ m hw
          have tl := tw_len bareB (c :: t)
          have : 0 < ((c :: t).takeWhile bareB).length := by
            rw [List.takeWhile_cons]
            cases hb : bareB c with
            | true => simp
            | false =>
              rw [List.dropWhile_cons, hb] at he
              rename_i h32 _
              simp [endB, h32] at he
          simp only [List.length_cons] at *
          omega
      · cases h
theorem wordsB_len (x : List UInt8) : (wordsB x).1.length ≤ 4096 := by
  unfold wordsB
  split
  · simp
  · cases h : wd (x.length + 1) x with
    | none => simp [wres]
    | some l =>
      have := wd_len _ _ _ h
      simp [wres]; omega
end Go.Proofs.YtbcnegennmpliaaDoor

namespace Go.Proofs.YtbcnegennmpliaaDoor
set_option linter.unusedVariables false
set_option linter.unusedSimpArgs false
open Go.RowKit
theorem esc_dig (c : UInt8) : escB (hexs.getD (c.toNat / 16) 0) (hexs.getD (c.toNat % 16) 0) = if plainB c then none else some c := by
  have := u8_all (p := fun c => decide (escB (hexs.getD (c.toNat / 16) 0) (hexs.getD (c.toNat % 16) 0) = if plainB c then none else some c)) (by decide +kernel) c
  simpa using this
theorem qd_enc1 (c : UInt8) (t : List UInt8) : qd (encC c ++ t) = (qd t).map fun p => (c :: p.1, p.2) := by
  unfold encC
  by_cases h : c.toNat = 34 ∨ c.toNat = 92
  · rw [if_pos h]
    simp only [List.cons_append, List.nil_append]
    rw [qd_cons, if_neg (by decide), if_neg (by decide), if_neg (by decide)]
    simp only []
    rw [if_pos h]
  · rw [if_neg h]
    cases hp : plainB c with
    | true =>
      simp only [if_true, List.cons_append, List.nil_append]
      rw [qd_cons, if_neg (fun e => h (.inl e)), if_neg (by simp [hp]), if_pos (fun e => h (.inr e))]
    | false =>
      simp only [Bool.false_eq_true, if_false, List.cons_append, List.nil_append]
      rw [qd_cons, if_neg (by decide), if_neg (by decide), if_neg (by decide)]
      simp only []
      rw [if_neg (by decide), if_pos (by decide), esc_dig, hp]
      rfl
theorem qd_enc : ∀ (s t : List UInt8), qd (s.flatMap encC ++ 34 :: t) = some (s, t)
  | [], t => by
    rw [List.flatMap_nil, List.nil_append, qd_cons, if_pos (by decide)]
  | c :: s, t => by
    rw [List.flatMap_cons, List.append_assoc, qd_enc1, qd_enc s t]
    rfl
theorem bare_ne {c : UInt8} (h : bareB c = true) : c.toNat ≠ 32 ∧ c.toNat ≠ 34 := by
  simp only [bareB, Bool.and_eq_true, Bool.not_eq_true', decide_eq_false_iff_not] at h
  exact ⟨h.1.2, h.2⟩
theorem tw_all {p : UInt8 → Bool} : ∀ {s t : List UInt8}, s.all p = true → (∀ c r, t = c :: r → p c = false) → (s ++ t).takeWhile p = s ∧ (s ++ t).dropWhile p = t
  | [], [], _, _ => ⟨rfl, rfl⟩
  | [], c :: r, _, h => by
    have := h c r rfl
    simp [this]
  | c :: s, t, hs, ht => by
    rw [List.all_cons, Bool.and_eq_true] at hs
    have ih := tw_all (p := p) hs.2 ht
    rw [List.cons_append, List.takeWhile_cons, List.dropWhile_cons, hs.1]
    simp [ih.1, ih.2]
theorem wd_quote (s r : List UInt8) (hr : endB r = true) (n : Nat) : wd (n + 1) (quoteB s ++ r) = (wd n r).map fun l => s :: l := by
  unfold quoteB
  by_cases hb : bareW s = true
  · rw [if_pos hb]
    unfold bareW at hb
    rw [Bool.and_eq_true] at hb
    cases s with
    | nil => exact absurd hb.1 (by decide)
    | cons c t =>
      have hc : bareB c = true := by have := hb.2; rw [List.all_cons, Bool.and_eq_true] at this; exact this.1
      have hne := bare_ne hc
      have hrr : ∀ d q, r = d :: q → bareB d = false := fun d q e => by
        subst e
        simp only [endB, decide_eq_true_eq] at hr
        have : d = 32 := UInt8.toNat_inj.1 hr
        subst this
        decide
      have tw := tw_all (p := bareB) hb.2 hrr
      rw [List.cons_append] at tw ⊢
      rw [wd, if_neg hne.1, if_neg hne.2, tw.1, tw.2, if_pos hr]
  · rw [if_neg hb, List.cons_append, wd, if_neg (by decide), if_pos (by decide), List.append_assoc]
    show (qd (s.flatMap encC ++ (34 :: r))).bind _ = _
    rw [qd_enc]
    simp [hr]
theorem wd_blank (n : Nat) (t : List UInt8) : wd (n + 1) (32 :: t) = wd n t := by rw [wd, if_pos (by decide)]
theorem wd_more : ∀ (n m : Nat) (x : List UInt8), x.length < n → x.length < m → wd n x = wd m x
  | 0, _, x, h, _ => by omega
  | _, 0, x, _, h => by omega
  | n + 1, m + 1, [], _, _ => by rw [wd_nil, wd_nil]
  | n + 1, m + 1, c :: t, h1, h2 => by
    simp only [List.length_cons] at h1 h2
    rw [wd, wd]
    by_cases h32 : c.toNat = 32
    · rw [if_pos h32, if_pos h32, wd_more n m t (by omega) (by omega)]
    · rw [if_neg h32, if_neg h32]
      by_cases h34 : c.toNat = 34
      · rw [if_pos h34, if_pos h34]
        cases hq : qd t with
        | none => rfl
        | some p =>
          obtain ⟨a, r⟩ := p
          obtain ⟨q, eq, _⟩ := qd_suf _ _ a r (Nat.le_refl _) hq
          have hlen := congrArg List.length eq
          simp only [List.length_append] at hlen
          simp only [Option.bind_some]
          rw [wd_more n m r (by omega) (by omega)]
      · rw [if_neg h34, if_neg h34]
        have tl := tw_len bareB (c :: t)
        simp only [List.length_cons] at tl
        by_cases he : endB ((c :: t).dropWhile bareB) = true
        · have hpos : 0 < ((c :: t).takeWhile bareB).length := by
            rw [List.takeWhile_cons]
            cases hb : bareB c with
            | true => simp
            | false =>
              rw [List.dropWhile_cons, hb] at he
              simp [endB, h32] at he
          rw [if_pos he, if_pos he, wd_more n m _ (by omega) (by omega)]
        · rw [if_neg he, if_neg he]
theorem quote_pos (s : List UInt8) : 0 < (quoteB s).length := by
  unfold quoteB
  split
  · rename_i hb
    cases s with
    | nil => exact absurd hb (by decide)
    | cons => simp
  · simp
end Go.Proofs.YtbcnegennmpliaaDoor

namespace Go.Proofs.YtbcnegennmpliaaDoor
set_option linter.unusedVariables false
set_option linter.unusedSimpArgs false
open Go.RowKit
theorem escB_r (c : UInt8) : escB c 32 = none := by
  have h32 : hexI 32 = -1 := by decide +kernel
  unfold escB
  rw [h32, if_neg (fun h => by omega)]
def bl (n : Nat) : List UInt8 := List.replicate n 32
theorem qd_bl : ∀ n, qd (bl n) = none
  | 0 => qd_nil
  | n + 1 => by
    show qd (32 :: bl n) = none
    rw [qd_cons, if_neg (by decide), if_neg (by decide), if_pos (by decide), qd_bl n]
    rfl
theorem qd_app : ∀ (m : Nat) (t : List UInt8) (n : Nat), t.length ≤ m → qd (t ++ bl n) = (qd t).map fun p => (p.1, p.2 ++ bl n)
  | m, [], n, _ => by rw [List.nil_append, qd_bl, qd_nil]; rfl
  | 0, c :: t, n, h => by simp at h
  | m + 1, c :: t, n, h => by
    have ht : t.length ≤ m := by simpa using h
    rw [List.cons_append, qd_cons, qd_cons]
    by_cases h34 : c.toNat = 34
    · rw [if_pos h34, if_pos h34]; rfl
    · rw [if_neg h34, if_neg h34]
      by_cases hp : plainB c = false
      · rw [if_pos hp, if_pos hp]; rfl
      · rw [if_neg hp, if_neg hp]
        by_cases h92 : c.toNat = 92
        · have n92 : ¬ (c.toNat ≠ 92) := fun h => h h92
          rw [if_neg n92, if_neg n92]
          rcases t with _ | ⟨d, t1⟩
          · cases n with
            | zero => rfl
            | succ n =>
              show (match (32 : UInt8) :: bl n with | [] => none | d :: t1 => _) = none
              simp only []
              rw [if_neg (by decide)]
              cases n with
              | zero => rfl
              | succ n =>
                cases n with
                | zero => rfl
                | succ n => rfl
          · have ht1 : t1.length ≤ m := by simp at ht; omega
            simp only [List.cons_append]
            by_cases hq : d.toNat = 34 ∨ d.toNat = 92
            · rw [if_pos hq, if_pos hq, qd_app m t1 n ht1]
              cases qd t1 <;> rfl
            · rw [if_neg hq, if_neg hq]
              rcases t1 with _ | ⟨h1, _ | ⟨l1, t2⟩⟩
              · cases n with
                | zero => rfl
                | succ n =>
                  cases n with
                  | zero => rfl
                  | succ n =>
                    show (if d.toNat = 120 then (escB 32 32).bind _ else none) = none
                    rw [escB_r]; split <;> rfl
              · cases n with
                | zero => rfl
                | succ n =>
                  show (if d.toNat = 120 then (escB h1 32).bind _ else none) = none
                  rw [escB_r]; split <;> rfl
              · simp only [List.cons_append]
                by_cases hx : d.toNat = 120
                · rw [if_pos hx, if_pos hx, qd_app m t2 n (by simp at ht1; omega)]
                  cases escB h1 l1 with
                  | none => rfl
                  | some x => cases qd t2 <;> rfl
                · rw [if_neg hx, if_neg hx]; rfl
        · rw [if_pos h92, if_pos h92, qd_app m t n ht]
          cases qd t <;> rfl
theorem tw_app : ∀ (x : List UInt8) (n : Nat), (x ++ bl n).takeWhile bareB = x.takeWhile bareB ∧ (x ++ bl n).dropWhile bareB = x.dropWhile bareB ++ bl n
  | [], 0 => ⟨rfl, rfl⟩
  | [], n + 1 => by
    have : bareB 32 = false := by decide
    constructor
    · show (32 :: bl n).takeWhile bareB = _
      rw [List.takeWhile_cons, this]; rfl
    · show (32 :: bl n).dropWhile bareB = _
      rw [List.dropWhile_cons, this]; rfl
  | c :: x, n => by
    have ih := tw_app x n
    rw [List.cons_append, List.takeWhile_cons, List.takeWhile_cons, List.dropWhile_cons, List.dropWhile_cons]
    cases bareB c
    · exact ⟨rfl, rfl⟩
    · simp only [if_true]
      exact ⟨by rw [ih.1], ih.2⟩
theorem endB_app (r : List UInt8) (n : Nat) : endB (r ++ bl n) = endB r := by
  cases r with
  | nil => cases n <;> rfl
  | cons c r => rfl
theorem wd_bl : ∀ (n m : Nat), n < m → wd m (bl n) = some []
  | 0, m, _ => wd_nil m
  | n + 1, 0, h => by omega
  | n + 1, m + 1, h => by
    show wd (m + 1) (32 :: bl n) = _
    rw [wd_blank, wd_bl n m (by omega)]
theorem wd_app : ∀ (m : Nat) (x : List UInt8) (n : Nat), x.length + n < m → wd m (x ++ bl n) = wd m x
  | 0, x, n, h => by omega
  | m + 1, [], n, h => by rw [List.nil_append, wd_bl n _ (by simp at h; omega), wd_nil]
  | m + 1, c :: t, n, h => by
    simp only [List.length_cons] at h
    rw [List.cons_append, wd, wd]
    by_cases h32 : c.toNat = 32
    · rw [if_pos h32, if_pos h32, wd_app m t n (by omega)]
    · rw [if_neg h32, if_neg h32]
      by_cases h34 : c.toNat = 34
      · rw [if_pos h34, if_pos h34, qd_app _ t n (Nat.le_refl _)]
        cases hq : qd t with
        | none => rfl
        | some p =>
          obtain ⟨a, r⟩ := p
          obtain ⟨q, eq, _⟩ := qd_suf _ _ a r (Nat.le_refl _) hq
          have hlen := congrArg List.length eq
          simp only [List.length_append] at hlen
          simp only [Option.map_some, Option.bind_some]
          rw [endB_app, wd_app m r n (by omega)]
      · rw [if_neg h34, if_neg h34]
        have tl := tw_len bareB (c :: t)
        simp only [List.length_cons] at tl
        have ta := tw_app (c :: t) n
        rw [List.cons_append] at ta
        rw [ta.1, ta.2, endB_app]
        by_cases he : endB ((c :: t).dropWhile bareB) = true
        · have hpos : 0 < ((c :: t).takeWhile bareB).length := by
            rw [List.takeWhile_cons]
            cases hb : bareB c with
            | true => simp
            | false =>
              rw [List.dropWhile_cons, hb] at he
              simp [endB, h32] at he
          rw [if_pos he, if_pos he, wd_app m _ n (by omega)]
        · rw [if_neg he, if_neg he]
theorem words_spread {x : List UInt8} (h : x.length ≤ 2000) : wordsB (([32] ++ x) ++ [32, 32]) = wordsB x := by
  have e : ([32] ++ x) ++ [32, 32] = 32 :: (x ++ bl 2) := rfl
  unfold wordsB
  rw [e, if_neg (by simp [bl]; omega), if_neg (by omega), wd_blank, wd_app _ x 2 (by simp [bl]), wd_more _ (x.length + 1) x (by simp [bl]; omega) (by omega)]
theorem parse_spread {x : List UInt8} (h : x.length ≤ 2000) : parseB (([32] ++ x) ++ [32, 32]) = parseB x := by
  unfold parseB
  rw [words_spread h]
theorem wd_wide : ∀ (l : List (List UInt8)) (n : Nat), (l.flatMap fun s => [32, 32, 32] ++ quoteB s).length < n → wd n (l.flatMap fun s => [32, 32, 32] ++ quoteB s) = some l
  | [], n, _ => wd_nil n
  | s :: l, n, h => by
    have := quote_pos s
    have he : endB (l.flatMap fun s => [32, 32, 32] ++ quoteB s) = true := by cases l <;> rfl
    rw [List.flatMap_cons] at h ⊢
    simp only [List.cons_append, List.nil_append, List.length_cons, List.length_append] at h
    obtain ⟨n, rfl⟩ : ∃ m, n = m + 1 + 1 + 1 := ⟨n - 3, by omega⟩
    rw [show ([32, 32, 32] ++ quoteB s) ++ (l.flatMap fun s => [32, 32, 32] ++ quoteB s) = 32 :: 32 :: 32 :: (quoteB s ++ l.flatMap fun s => [32, 32, 32] ++ quoteB s) by simp, wd_blank, wd_blank, wd_blank, wd_more n ((quoteB s ++ l.flatMap fun s => [32, 32, 32] ++ quoteB s).length + 1) _ (by simp only [List.length_append]; simp only [List.cons_append, List.nil_append]; omega) (by omega), wd_quote _ _ he, wd_wide l _ (by simp only [List.length_append]; omega)]
    rfl
theorem tb_l0 {s : List (List UInt8) × Int} (hw : ∀ w, w ∈ s.1 → w.length ≤ 4096) (hn : s.1.length ≤ 4096) : ∀ (k i : Nat) (out : List UInt8), 10000 - i < k → i ≤ s.1.length → out.length ≤ i * 2 ^ 20 →
    synodlaw17_TextBlanks.l0 s k out (i : Int) = some (out ++ (s.1.drop i).flatMap fun s => [32, 32, 32] ++ quoteB s)
  | 0, i, out, h, _, _ => by omega
  | k + 1, i, out, h, hi, ho => by
    rw [synodlaw17_TextBlanks.l0]
    by_cases hlt : i < s.1.length
    · have hm : s.1.getD i [] ∈ s.1 := by rw [getD_at hlt]; exact List.getElem_mem hlt
      have hl := hw _ hm
      have ql := quote_len (s.1.getD i [])
      have ed : s.1.drop i = s.1.getD i [] :: s.1.drop (i + 1) := by rw [getD_at hlt]; exact List.drop_eq_getElem_cons hlt
      rw [if_pos (by omega), if_pos (by simp only [List.length_cons, List.length_nil]; omega), if_pos (by omega), wi1 (by omega), ed]
      simp only [Int.toNat_natCast]
      rw [quote_f (by omega) (by omega), Option.bind_some, if_pos (by simp only [List.length_append, List.length_cons, List.length_nil]; omega),
        tb_l0 hw hn k (i + 1) _ (by omega) (by omega) (by simp only [List.length_append, List.length_cons, List.length_nil]; omega)]
      simp
    · rw [if_neg (by omega), List.drop_of_length_le (by omega)]
      simp
theorem wide_len (l : List (List UInt8)) (h : ∀ w, w ∈ l → w.length ≤ 4096) : (l.flatMap fun s => [32, 32, 32] ++ quoteB s).length ≤ l.length * 16400 := by
  induction l with
  | nil => simp
  | cons s l ih =>
    have := ih fun w hw => h w (by simp [hw])
    have := h s (by simp)
    have := quote_len s
    simp only [List.flatMap_cons, List.length_append, List.length_cons, List.length_nil] at *
    omega
theorem pure_TextBlanks (x : List UInt8) (hx : x.length ≤ reachBytes) (n : Int) (hn : (Lit.int .i64 n).wf = true) : ∃ k, synodlaw17_TextBlanks.f k x n = some true := by
  refine ⟨200000000 + 60, ?_⟩
  unfold synodlaw17_TextBlanks.f
  rw [first_eq, Option.bind_some]
  by_cases hb : ((!true) || (decide ((2000 : Int) < (x.length : Int)))) = true
  · rw [if_pos hb]
  · rw [if_neg hb]
    simp only [Bool.not_true, Bool.false_or, decide_eq_true_eq] at hb
    have hl := wordsB_len x
    have hm := wordsB_mem x
    have ws := words_spread (x := x) (by omega)
    have hsl : ((([32] : List UInt8) ++ x) ++ [32, 32]).length ≤ 2010 := by simp; omega
    rw [words_f (by omega), Option.bind_some, parse_f hl (by omega), Option.bind_some, if_pos (by simp only [List.length_cons, List.length_nil]; omega), if_pos (by simp only [List.length_append, List.length_cons, List.length_nil]; omega), words_f (by omega), Option.bind_some, parse_f (by rw [ws]; exact hl) (by omega), Option.bind_some, ws, parse_spread (by omega), SameTexts_eq (by omega) (by omega), Option.bind_some, if_neg (by simp), synodref_Num.f, Option.bind_some]
    by_cases he : (wordsB x).2 = 0
    · have t0 := tb_l0 hm hl (200000000 + 60) 0 [] (by omega) (by omega) (by simp)
      rw [show ((0 : Nat) : Int) = (0 : Int) from rfl, List.nil_append, List.drop_zero] at t0
      have wl := wide_len _ hm
      rw [if_pos he, t0, Option.bind_some, words_f (by omega), Option.bind_some]
      by_cases hlong : 4096 < ((wordsB x).1.flatMap fun s => [32, 32, 32] ++ quoteB s).length
      · have : wordsB ((wordsB x).1.flatMap fun s => [32, 32, 32] ++ quoteB s) = ([], 3) := by rw [wordsB, if_pos hlong]
        rw [this]
        simp only []
        rw [SameTexts_eq (by simp) (by simp), Option.bind_some, if_pos (by omega)]
        rfl
      · have : wordsB ((wordsB x).1.flatMap fun s => [32, 32, 32] ++ quoteB s) = ((wordsB x).1, 0) := by
          rw [wordsB, if_neg hlong, wd_wide _ _ (by omega)]; rfl
        rw [this]
        simp only []
        rw [SameTexts_eq (by omega) (by omega), Option.bind_some, if_neg (by omega)]
        simp [synodref_Num.f]
    · rw [if_neg he]
end Go.Proofs.YtbcnegennmpliaaDoor

namespace Go.Proofs.YtbcnegennmpliaaDoor
set_option linter.unusedVariables false
set_option linter.unusedSimpArgs false
open Go.RowKit Go.ChangeShapes Go.WideShapes Go.ChangeAt

def heapF (W : World) : HA := fun h => ∀ i, i < W.heap.size → h i = W.heap[i]?
theorem sat_start (W : World) : Sat W ([] ++ [heapF W]) W := ⟨rfl, rfl, rfl, Nat.le_refl _, star_tt (fun _ _ => rfl)⟩
theorem below_of {W w : World} {l : List HA} (s : Sat W l w) (k : Nat) (hk : l[k]? = some (heapF W)) : Below W.heap.size W w := by
  obtain ⟨a, ha, hz⟩ := s.at hk
  refine ⟨s.os, s.tape, s.output, s.size, fun i hi => ?_⟩
  have h1 := ha i hi
  obtain ⟨o, ho⟩ : ∃ o, W.heap[i]? = some o := ⟨_, Array.getElem?_eq_getElem hi⟩
  rw [ho] at h1
  rw [hz i o h1, ho]
theorem row_of_fn {P : Program} {W : World} {f : FuncId} {args : List Value} {R Y : Type} {o : Option R} {val : R → Y → Value} {r : R}
    (h : Fn P W f args [] (heapF W) o val (fun _ _ => [])) (hs : o = some r) (hv : ∀ y, val r y = .bool true) :
    Calls P f args.toArray W fun e w' => e = .returned (.bool true) ∧ Below W.heap.size W w' := by
  refine (h r hs W (sat_start W)).mono ?_
  rintro e w' ⟨y, rfl, s⟩
  exact ⟨by rw [hv], below_of s 0 rfl⟩
theorem weights_of {H : Type} {P : Program} {ts : List TypeId} {ds : List (DataW H)} (h : (DataW.weightsEach P ts ds).all (· ≤ reachBytes) = true) {j : Nat} {t : TypeId} {d : DataW H} (ht : ts[j]? = some t) (hd : ds[j]? = some d) : ∀ n ∈ d.weights P t, n ≤ reachBytes := fun n hn => by
  have := List.all_eq_true.1 h n (DataW.weights_mem_each ht hd n hn)
  simpa using this
end Go.Proofs.YtbcnegennmpliaaDoor

namespace Go.Proofs.YtbcnegennmpliaaDoor
set_option linter.unusedVariables false
set_option linter.unusedSimpArgs false
open Go.RowKit Go.ChangeShapes Go.WideShapes Go.ChangeAt
section
variable {H : Type} {enc : TypeId × Value → H} {P : Program} {W : World} {held : Bool} {α β : Type}
def Opens (enc : TypeId × Value → H) (P : Program) (W : World) (held : Bool) (t : TypeId) (V : α → List Value → Prop) (Ok : α → Prop) : Prop :=
  ∀ fuel cs x, DataW.trod enc P W 0 (fun _ => true) held fuel t cs = some x → (∀ n ∈ x.1.weights P t, n ≤ reachBytes) → ∃ y, V y cs ∧ one cs ∧ cs.length = P.cellsOf t ∧ Ok y
theorem Opens.map {t : TypeId} {V : α → List Value → Prop} {V' : β → List Value → Prop} {Ok : α → Prop} {Ok' : β → Prop} (f : α → β) (h : Opens enc P W held t V Ok) (hV : ∀ x r, V x r → V' (f x) r) (hO : ∀ x, Ok x → Ok' (f x)) : Opens enc P W held t V' Ok' := fun fuel cs x h1 h2 =>
  let ⟨y, a, b, c, d⟩ := h fuel cs x h1 h2; ⟨f y, hV _ _ a, b, c, hO _ d⟩
theorem Opens.mono {t : TypeId} {V V' : α → List Value → Prop} {Ok Ok' : α → Prop} (h : Opens enc P W held t V Ok) (hV : ∀ x r, V x r → V' x r) (hO : ∀ x, Ok x → Ok' x) : Opens enc P W held t V' Ok' := fun fuel cs x h1 h2 =>
  let ⟨y, a, b, c, d⟩ := h fuel cs x h1 h2; ⟨y, hV _ _ a, b, c, hO _ d⟩
theorem opens_str {t : TypeId} (ht : P.underlying t = some .string) (hc : P.cellsOf t = 1) : Opens enc P W held t (fun x r => r = [str x]) (fun x => x.length ≤ reachBytes) := by
  intro fuel cs x h hw
  cases fuel with
  | zero => simp [DataW.trod] at h
  | succ n =>
    unfold DataW.trod at h
    rw [ht] at h
    split at h <;> simp_all
    rename_i s
    obtain ⟨h1, rfl⟩ := h
    refine ⟨s.data.toList, ?_, one_of rfl, ?_⟩
    · simp [str]
    · exact hw s.data.toList.length (by simp [DataW.weights])
/-! Structs: their fields, one behind the other. -/
end
end Go.Proofs.YtbcnegennmpliaaDoor

namespace Go.Proofs.YtbcnegennmpliaaDoor
set_option linter.unusedVariables false
set_option linter.unusedSimpArgs false
open Go.RowKit Go.ChangeShapes Go.WideShapes Go.ChangeAt
class Mu (α : Type) where
  mu : α → Nat
instance : Mu Int := ⟨fun _ => 1⟩
instance : Mu Bool := ⟨fun _ => 1⟩
instance : Mu UInt8 := ⟨fun _ => 1⟩
instance {α β : Type} [Mu α] [Mu β] : Mu (α × β) := ⟨fun x => Mu.mu x.1 + Mu.mu x.2⟩
instance {α : Type} [Mu α] : Mu (List α) := ⟨fun l => (l.map Mu.mu).sum + 1⟩
section
variable {H : Type} {enc : TypeId × Value → H} {P : Program} {W : World} {held : Bool} {α β : Type} [Mu α] [Mu β]
def OpensU (enc : TypeId × Value → H) (P : Program) (W : World) (held : Bool) (t : TypeId) (V : α → List Value → Prop) (Ok : α → Prop) : Prop :=
  ∀ fuel cs x, DataW.trod enc P W 0 (fun _ => true) held fuel t cs = some x → (∀ n ∈ x.1.weights P t, n ≤ reachBytes) → ∃ y, V y cs ∧ one cs ∧ cs.length = P.cellsOf t ∧ Ok y ∧ Mu.mu y ≤ Rows.uptoBulk x.1
theorem OpensU.mono {t : TypeId} {V V' : α → List Value → Prop} {Ok Ok' : α → Prop} (h : OpensU enc P W held t V Ok) (hV : ∀ x r, V x r → V' x r) (hO : ∀ x, Ok x → Ok' x) : OpensU enc P W held t V' Ok' := fun fuel cs x h1 h2 =>
  let ⟨y, a, b, c, d⟩ := h fuel cs x h1 h2; ⟨y, hV _ _ a, b, c, hO _ d.1, d.2⟩
end
end Go.Proofs.YtbcnegennmpliaaDoor

namespace Go.Proofs.YtbcnegennmpliaaDoor
set_option linter.unusedVariables false
set_option linter.unusedSimpArgs false
open Go.RowKit Go.ChangeShapes Go.WideShapes Go.ChangeAt
def VRead (P : Program) (w : World) (n : String) (d : DataW Unit) : Prop :=
  ∃ g t cs fuel p, P.globalNamed n = some g ∧ (P.globals[g]?).map (·.type) = some t ∧ w.var? P n = some cs ∧ DataW.trod (fun _ => ()) P w 0 (fun _ => true) false fuel t cs.toList = some (d, p)
theorem vread_of {P : Program} {w : World} : ∀ {l : List (String × DataW Unit)} {ps : List MemPlace}, DataW.LaidVars P w l ps → ∀ n d, (n, d) ∈ l → VRead P w n d
  | [], _, _, _, _, hm => by cases hm
  | (n', d') :: r, ps, h, n, d, hm => by
    obtain ⟨g, t, cs, fuel, p, q, h1, h2, h3, h4, h5, _⟩ := h
    rcases List.mem_cons.1 hm with e | e
    · cases e
      exact ⟨g, t, cs, fuel, p, h1, h2, h3, h4⟩
    · exact vread_of h5 n d e
theorem laid_vread {P : Program} {w : World} {l : List (String × DataW Unit)} (h : laidMet P l w) {n : String} {d : DataW Unit} (hm : (n, d) ∈ l) : VRead P w n d :=
  let ⟨_, hv, _⟩ := h
  vread_of hv n d hm
theorem tab_of {P : Program} {W : World} {name : String} {k : IntKind} {zs : List Int} {g : Nat} {t e : TypeId} {n : Nat} (hg : P.globalNamed name = some g) (hty : (P.globals[g]?).map (·.type) = some t)
    (ht : P.underlying t = some (.array n e)) (he : P.underlying e = some (.int k)) (hce : P.cellsOf e = 1) (hct : P.cellsOf t = n) (h : VRead P W name (Lib.tabData k zs)) : Lib.TabIs P W name k zs := by
  obtain ⟨g', t', cs, fuel, p, hg', ht', hvar, hd⟩ := h
  obtain rfl := Option.some.inj (hg.symm.trans hg')
  obtain rfl := Option.some.inj (hty.symm.trans ht')
  unfold Lib.TabIs
  rw [hvar, ← Lib.cells_of_tab ht he hce hct hd]
theorem iface_of {P : Program} {W : World} {name nm : String} {d : DataW Unit} {g : Nat} {t : TypeId} {ms : _} (hg : P.globalNamed name = some g) (hty : (P.globals[g]?).map (·.type) = some t)
    (ht : P.underlying t = some (.interface ms)) (h : VRead P W name (.iface nm d)) : ∃ u p, W.var? P name = some #[.iface u p] := by
  obtain ⟨g', t', cs, fuel, p, hg', ht', hvar, hd⟩ := h
  obtain rfl := Option.some.inj (hg.symm.trans hg')
  obtain rfl := Option.some.inj (hty.symm.trans ht')
  cases fuel with
  | zero => simp [DataW.trod] at hd
  | succ m =>
    unfold DataW.trod at hd
    rw [ht] at hd
    split at hd <;> simp_all
    rename_i e
    exact ⟨_, _, Array.toList_inj.1 (e.trans rfl)⟩
theorem var_mono {P : Program} {W w : World} {n : String} {cs : Array Value} (h : HoldsW (heapF W) w) (hv : W.var? P n = some cs) : w.var? P n = some cs := by
  obtain ⟨a, ha, e⟩ := h
  unfold World.var? at hv ⊢
  cases hg : P.globalNamed n with
  | none => rw [hg] at hv; cases hv
  | some g =>
    rw [hg] at hv
    simp only [Option.bind_some] at hv ⊢
    cases ho : W.heap[g]? with
    | none => rw [ho] at hv; cases hv
    | some o =>
      have hlt : g < W.heap.size := (Array.getElem?_eq_some_iff.1 ho).1
      have h1 : w.heap[g]? = some o := e g o ((ha g hlt).trans ho)
      rw [ho] at hv
      rw [h1]
      exact hv
theorem glb_of {P : Program} {W : World} (h1 : Lib.TabIs P W "internal/strconv.uint64pow10" .u64 Lib.pow10Tab) (h2 : ∃ u p, W.var? P "strconv.ErrSyntax" = some #[.iface u p]) (h3 : ∃ u p, W.var? P "strconv.ErrRange" = some #[.iface u p]) :
    Glb P (heapF W) :=
  ⟨fun w h => var_mono h h1, fun w h => let ⟨u, p, e⟩ := h2; ⟨u, p, var_mono h e⟩, fun w h => let ⟨u, p, e⟩ := h3; ⟨u, p, var_mono h e⟩⟩
theorem witness_laid {H : Type} {enc : TypeId × Value → H} {C : Checked} {os : Os} {f : FuncId} {fn : Func} {s : OpenSpec} {conds : List PathCond} {apart : Bool} {laid : List (String × DataW Unit)} (w0 : World) (args : Array Value) (hos : w0.os = os)
    (hsh : (w0.forCall (fun _ _ => 0) ⟨#[], args, []⟩).Shaped C.prog)
    (hok : Input.okWideB C.prog (w0.forCall (fun _ _ => 0) ⟨#[], args, []⟩) f ⟨#[], args, []⟩ = true)
    (hrow : s.preRow enc C.prog fn conds apart laid (w0.forCall (fun _ _ => 0) ⟨#[], args, []⟩).memory args) :
    ∃ (w : World) (tape : Tape) (i : Input), w.os = os ∧ (w.forCall tape i).Shaped C.prog ∧ i.vars = [] ∧ Input.okWide C.prog (w.forCall tape i) .any w.heap.size f i ∧
      s.preRow enc C.prog fn conds apart laid (w.forCall tape i).memory i.args ∧ ({} : Assume).holds C.prog (lone (Frame.enter C.prog f i.args .normal) [] (w.forCall tape i)) :=
  ⟨w0, fun _ _ => 0, ⟨#[], args, []⟩, hos, hsh, (Input.okWide_of_okWideB (base := 0) hok).1, (Input.okWide_of_okWideB hok).2, hrow, by
    simp only [Assume.holds]
    exact ⟨by simp, by simp, fun _ => Modest.zero, by simp, by simp⟩⟩
end Go.Proofs.YtbcnegennmpliaaDoor

namespace Go.Proofs.YtbcnegennmpliaaDoor.textBlanks
open Go.RowKit Go.ChangeShapes Go.WideShapes Go.ChangeAt
open Go.ChangeMaps (open_string shut_string)
set_option linter.unusedVariables false
theorem own : ownKnob Tryd.prog.godebug = none := by kernel_rfl
theorem laidOut : laidOutB Tryd.prog = true := by kernel_rfl
theorem glb {W : World} (hL : laidMetH Tryd.prog Rows.textBlanksRow.laid W) : Glb Tryd.prog (heapF W) := by
  rw [MakeChecks.laidMetH_plain _ _ _ (by kernel_rfl)] at hL
  exact glb_of (tab_of (g := 0) (t := 169) (e := 152) (by kernel_rfl) (by kernel_rfl) Tryd.underlying169 Tryd.underlying152 (by kernel_rfl) (by kernel_rfl) (laid_vread hL (n := "internal/strconv.uint64pow10") (d := Rows.laid_internal_strconv_uint64pow10) (.tail _ (.tail _ (.head _))))) (iface_of (g := 1) (t := 137) (by kernel_rfl) (by kernel_rfl) Tryd.underlying137 (laid_vread hL (n := "strconv.ErrSyntax") (d := Rows.laid_strconv_ErrSyntax) (.tail _ (.tail _ (.tail _ (.tail _ (.tail _ (.head _)))))))) (iface_of (g := 2) (t := 137) (by kernel_rfl) (by kernel_rfl) Tryd.underlying137 (laid_vread hL (n := "strconv.ErrRange") (d := Rows.laid_strconv_ErrRange) (.tail _ (.tail _ (.tail _ (.tail _ (.head _)))))))
theorem laid_met (os : Os) (args : Array Value) : laidMetH Tryd.prog Rows.textBlanksRow.laid ((World.laidAll Tryd.prog os Rows.textBlanksRow.laid).forCall (fun _ _ => 0) ⟨#[], args, []⟩).memory := by
  rw [MakeChecks.laidMetH_plain _ _ _ (by kernel_rfl)]
  exact laidMet_laidAll args (by kernel_rfl) (by kernel_rfl)
set_option maxRecDepth 100000 in
theorem lifted (os : Os) (started : os.Started) (H : Type) (enc : TypeId × Value → H) (F : Stop.Interp) :
    ReturnsInHanded {} Tryd.checked os 7 .any ((OpenSpec.ofChange Rows.textBlanksSpec).preRow enc Tryd.prog Tryd.f7 Rows.textBlanksRow.domain false Rows.textBlanksRow.laid) (((OpenSpec.ofChange Rows.textBlanksSpec).at F).post enc Tryd.prog Tryd.f7 false true false false) := by
  refine returnsInHanded_of_row (C := Tryd.checked) (s := (OpenSpec.ofChange Rows.textBlanksSpec)) own started (by kernel_rfl) Tryd.func7
    (witness_laid (enc := enc) (C := Tryd.checked) (World.laidAll Tryd.prog os Rows.textBlanksRow.laid) #[.string ⟨#[]⟩, .int .i64 0] (World.laidAll_os _ _ _) (World.shaped_of_ZipB (by kernel_rfl) (by kernel_rfl)) (by kernel_rfl)
      (OpenSpec.preRow_of_cond 8 (x := ([.lit (.string []), .lit (.int .i64 0)], [], [])) (by kernel_rfl) (by kernel_rfl) (fun k hk => by cases hk) (by kernel_rfl) (laid_met os _))) ?_
  intro W base args ds gs before hval0 hW hcnd hk00 hsz0 hL _ _
  have hgl := glb hL
  have hsz : (DataW.weightsEach Tryd.prog (Tryd.f7.params.toList ++ Rows.textBlanksSpec.plain.varTypes Tryd.prog) (ds ++ gs)).all (· ≤ reachBytes) = true := hsz0
  have hval : ∀ (j : Nat) t v, Tryd.f7.params[j]? = some t → args[j]? = some v → Value.okWide Tryd.prog W .any base t v := hval0
  have hW' := hW
  obtain ⟨p, q, hA0, hV, rfl, hfz, hnd⟩ := hW
  have hA : DataW.TrodAll enc Tryd.prog W 0 (fun _ => true) true Tryd.f7.params.toList args.toList ds p := hA0
  rw [Tryd.params7] at hA hval hsz
  obtain ⟨v0, vs0, d0, ds0, p0, q0, hargs, rfl, rfl, h0, r0⟩ := trodAll_cons hA
  obtain ⟨v1, vs1, d1, ds1, p1, q1, rfl, rfl, rfl, h1, r1⟩ := trodAll_cons r0
  obtain ⟨rfl, rfl, rfl⟩ := trodAll_nil r1
  obtain rfl : args = #[v0, v1] := by cases args; simp_all
  obtain ⟨rfl, rfl⟩ := trodVars_none hV
  obtain ⟨ss0, rfl⟩ := okWide_string Tryd.underlying9 (hval 0 9 v0 rfl rfl)
  have k0 := h0
  have lt0 : ∀ x ∈ p0, x.block < W.heap.size := by obtain ⟨m, hm⟩ := k0; exact DataW.trod_lt m _ _ _ hm
  obtain ⟨fuel0, hf0⟩ := h0
  obtain ⟨z0_0, hcs0, _, _, ok0⟩ := (opens_str Tryd.underlying9 (by kernel_rfl)) _ _ _ hf0 (weights_of hsz (j := 0) (t := 9) rfl rfl)
  have e0 : Value.string ss0 = str z0_0 := by simpa [Value.cells] using hcs0
  unfold str at e0
  injection e0 with ea0
  subst ea0
  obtain ⟨a1, rfl, rfl, rfl, w1⟩ := open_int Tryd.underlying3 (hval 1 3 v1 rfl rfl) h1
  clear hA0 hval0 hsz0 hsz
  obtain ⟨k, hk⟩ := pure_TextBlanks z0_0 ok0 a1 w1
  refine (row_of_fn (synodlaw17_TextBlanks.calls W (heapF W) k z0_0 a1 hgl) hk (fun _ => rfl)).mono fun e W' ⟨he, bel⟩ => ?_
  subst he
  exact ⟨_, rfl, _, _, _, [], _, [], hW', trodAll_mk1 (shut_bool Tryd.underlying4 _), (trodAll_cons_mk (Below.trod laidOut (by kernel_rfl) (of_decide_eq_true (by kernel_rfl)) k0 bel lt0) (trodAll_cons_mk (shut_int Tryd.underlying3 w1) trodAll_mk0)), rfl, bel.frame _, fun h => by cases h⟩
theorem said : Rows.TextBlanksSaid :=
  OpenClaim.holds_of_cond 7 Tryd.f7 rfl rfl rfl rfl rfl rfl rfl ⟨rfl, rfl, rfl, rfl, rfl⟩ rfl rfl rfl rfl rfl (by kernel_rfl) Tryd.func7 (by kernel_rfl)
    (of_decide_eq_true (by kernel_rfl)) (by unfold Func.isWrapper; first | (rw [if_pos (by decide +kernel)]; kernel_rfl) | (rw [if_neg (by decide +kernel)]; exact ⟨rfl, rfl⟩))
    (fun os started H enc _ F => by rw [OpenClaim.pre_eq_preRow]; exact lifted os started H enc F)
theorem plain (f : FuncId) (fn : Func) (hf : Tryd.pinned.checked.prog.funcNamed "synod/synodlaw17.TextBlanks" = some f) (hfn : Tryd.pinned.checked.prog.funcs[f]? = some fn) :
    true = Tryd.pinned.checked.prog.looks [] ∧ ∀ (j : Nat) t, fn.params[j]? = some t → Tryd.pinned.checked.prog.wantsStandIn t = false := by
  obtain rfl : f = 7 := Option.some.inj ((show Tryd.prog.funcNamed "synod/synodlaw17.TextBlanks" = some 7 by kernel_rfl).symm.trans hf) |>.symm
  obtain rfl : fn = Tryd.f7 := (Option.some.inj (Tryd.func7.symm.trans hfn)).symm
  refine ⟨by kernel_rfl, fun j t ht => ?_⟩
  rw [Tryd.params7] at ht
  have hm : t ∈ [9, 3] := by simpa using Array.mem_of_getElem? ht
  have hall : ([9, 3].all fun u => !Tryd.prog.wantsStandIn u) = true := by kernel_rfl
  exact (show Tryd.prog.wantsStandIn t = false by simpa using List.all_eq_true.1 hall t hm)
theorem card : Rows.TextBlanksCardSaid :=
  Claim7.holds_tied_plain_at .later [] _ _ _ _ said (fun _ h => by cases h) (by kernel_rfl) (fun _ h => by cases h) textBlanks_row_tie rfl ⟨rfl, rfl⟩ (by kernel_rfl) rfl plain (by kernel_rfl)
end Go.Proofs.YtbcnegennmpliaaDoor.textBlanks
namespace Go.Proofs.YtbcnegennmpliaaDoor
/-- The card, under a short name, for the claim. -/
theorem textBlanks_holds : Rows.TextBlanksCardSaid := textBlanks.card
end Go.Proofs.YtbcnegennmpliaaDoor
