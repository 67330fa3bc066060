/- The row of the law TextQuotes, out of its pure law and the printed walk. Conditions: none. -/
import Derived.Test.YtbcnegennmpliaaDoorM4
import Derived.Laws.BitsLemmas
import Derived.Test.YtbcnegennmpliaaDoorRows
import Derived.ProofKit
import Derived.OpenShut
import Derived.ShutString
import Derived.ChangeOld
import Derived.SizedLaws
import Derived.Deep.CondSized
import Derived.JoinedCond
import Derived.Lib.LaidTab
import Derived.Deep.DeepHandedRow
import Derived.Lay
import Derived.MakeChecks
import Derived.Test.YtbcnegennmpliaaDoorCards
import Derived.Test.YtbcnegennmpliaaDoorTie
namespace Go.Proofs.YtbcnegennmpliaaDoor
open Go.RowKit
set_option linter.unusedVariables false
set_option linter.unusedSimpArgs false
set_option maxRecDepth 20000
set_option maxHeartbeats 20000000
def synodlaw17_first.f (k : Nat)  : Option (Bool) := (text_Words.f k ([112, 117, 116, 32, 32, 49, 32, 50, 32, 97, 32, 34, 98, 32, 99, 34] : List UInt8)).bind fun s1v => ((text_ParseAct.f k ([116, 105, 99, 107, 32, 49, 32, 45, 53] : List UInt8)).bind fun s4v => ((text_ParseAct.f k ([116, 105, 99, 107, 32, 48, 49, 32, 50] : List UInt8)).bind fun s8v => ((text_FormatAct.f k (13 : Int) (2 : Int) (1 : Int) (0 : Int) (0 : Int) (4 : Int) ([107] : List UInt8) ([110, 101, 119] : List UInt8) ([111, 32, 100] : List UInt8)).bind fun s12v => ((synodref_SameTexts.f k s1v.1 ([([112, 117, 116] : List UInt8), ([49] : List UInt8), ([50] : List UInt8), ([97] : List UInt8), ([98, 32, 99] : List UInt8)] : List (List UInt8))).bind fun s27v => ((if s27v = true then ((synodref_Num.f s1v.2).bind fun s32v => (some (decide (s32v = (0 : Int))))) else (some false)).bind fun s30v => ((if (s30v && (decide (s4v.1 = (1 : Int)) && (decide (s4v.2.1 = (1 : Int)) && (decide (s4v.2.2.1 = (0 : Int)) && (decide (s4v.2.2.2.1 = (-5)) && (decide (s4v.2.2.2.2.1 = (0 : Int)) && (decide (s4v.2.2.2.2.2.1 = (0 : Int)) && (decide (s4v.2.2.2.2.2.2.1 = ([] : List UInt8)) && (decide (s4v.2.2.2.2.2.2.2.1 = ([] : List UInt8)) && (decide (s4v.2.2.2.2.2.2.2.2.1 = ([] : List UInt8)))))))))))) = true then ((synodref_Num.f s4v.2.2.2.2.2.2.2.2.2).bind fun s39v => (some (decide (s39v = (0 : Int))))) else (some false)).bind fun s37v => ((if s37v = true then ((synodref_Num.f s8v.2.2.2.2.2.2.2.2.2).bind fun s46v => (some (decide (s46v = (22 : Int))))) else (some false)).bind fun s44v => ((if (s44v && (decide (s12v.1 = ([115, 119, 97, 112, 32, 49, 32, 50, 32, 107, 32, 34, 111, 32, 100, 34, 32, 110, 101, 119] : List UInt8)))) = true then ((synodref_Num.f s12v.2).bind fun s53v => (some (decide (s53v = (0 : Int))))) else (some false)).bind fun s51v => (some s51v)))))))))
theorem synodlaw17_first.calls (W : World) (F : HA) (k : Nat)  (hgl : Glb Tryd.prog F) :
    Fn Tryd.prog W 11 [] [] F (synodlaw17_first.f k ) (fun (r : Bool) (y : Unit) => .bool r) (fun r y => []) := by
 unfold synodlaw17_first.f
 refine fn_intro 58 Tryd.func11 rfl Tryd.ntmps11 rfl ?_
 refine sr ?_
 refine va rfl rfl (nx ?_)
 refine simL_bind (fun s1v hs2v => ?_)
 refine simL_eff (re_call (vs := [str ([112, 117, 116, 32, 32, 49, 32, 50, 32, 97, 32, 34, 98, 32, 99, 34] : List UInt8)]) (cap := []) (A := []) (rst := [F]) rfl rfl rfl rfl rfl rfl Tryd.call12 (.sel 0 rfl (.nil _)) (text_Words.calls _ _ k ([112, 117, 116, 32, 32, 49, 32, 50, 32, 97, 32, 34, 98, 32, 99, 34] : List UInt8) ) hs2v) rfl rfl rfl ?_
 intro y3v
 refine vm rfl rfl ?_
 refine vq (q_ext rfl rfl rfl) rfl ?_
 refine vq (q_ext rfl rfl rfl) rfl ?_
 refine va rfl rfl ?_
 refine va rfl rfl (nx ?_)
 refine simL_bind (fun s4v hs5v => ?_)
 refine simL_eff (re_call (vs := [str ([116, 105, 99, 107, 32, 49, 32, 45, 53] : List UInt8)]) (cap := []) (A := []) (rst := [RowV 9 1 (V9 tt) y3v.1 s1v.1 y3v.2, F]) rfl rfl rfl rfl rfl rfl Tryd.call18 (.sel 0 rfl (.sel 0 rfl (.nil _))) (text_ParseAct.calls _ _ k ([116, 105, 99, 107, 32, 49, 32, 45, 53] : List UInt8) (hgl.lend 1 rfl)) hs5v) rfl rfl rfl ?_
 intro y6v
 refine vm rfl rfl ?_
 refine vq (q_ext rfl rfl rfl) rfl ?_
 refine vq (q_ext rfl rfl rfl) rfl ?_
 refine simL_eff (re_alloc rfl Tryd.zeroValue34 rfl) rfl rfl rfl ?_
 intro b7v
 refine simL_do (re_store 0 rfl rfl rfl Tryd.sizeOf34 rfl rfl (one_of (by rfl)) rfl rfl) rfl rfl ?_
 intro _
 refine simL_ent (H' := [obj b7v 34 [.int .i64 s4v.1, .int .i64 s4v.2.1, .int .i64 s4v.2.2.1, .int .i64 s4v.2.2.2.1, .int .i64 s4v.2.2.2.2.1, .int .i64 s4v.2.2.2.2.2.1, str s4v.2.2.2.2.2.2.1, str s4v.2.2.2.2.2.2.2.1, str s4v.2.2.2.2.2.2.2.2.1], RowV 9 1 (V9 tt) y3v.1 s1v.1 y3v.2, F]) (Ent.refl _) ?_
 refine va rfl rfl (nx ?_)
 refine simL_bind (fun s8v hs9v => ?_)
 refine simL_eff (re_call (vs := [str ([116, 105, 99, 107, 32, 48, 49, 32, 50] : List UInt8)]) (cap := []) (A := []) (rst := [obj b7v 34 [.int .i64 s4v.1, .int .i64 s4v.2.1, .int .i64 s4v.2.2.1, .int .i64 s4v.2.2.2.1, .int .i64 s4v.2.2.2.2.1, .int .i64 s4v.2.2.2.2.2.1, str s4v.2.2.2.2.2.2.1, str s4v.2.2.2.2.2.2.2.1, str s4v.2.2.2.2.2.2.2.2.1], RowV 9 1 (V9 tt) y3v.1 s1v.1 y3v.2, F]) rfl rfl rfl rfl rfl rfl Tryd.call18 (.sel 0 rfl (.sel 0 rfl (.sel 0 rfl (.nil _)))) (text_ParseAct.calls _ _ k ([116, 105, 99, 107, 32, 48, 49, 32, 50] : List UInt8) (hgl.lend 2 rfl)) hs9v) rfl rfl rfl ?_
 intro y10v
 refine vm rfl rfl ?_
 refine vq (q_ext rfl rfl rfl) rfl ?_
 refine vq (q_ext rfl rfl rfl) rfl ?_
 refine simL_eff (re_alloc rfl Tryd.zeroValue34 rfl) rfl rfl rfl ?_
 intro b11v
 refine simL_do (re_store 0 rfl rfl rfl Tryd.sizeOf34 rfl rfl (one_of (by rfl)) rfl rfl) rfl rfl ?_
 intro _
 refine simL_ent (H' := [obj b11v 34 [.int .i64 s8v.1, .int .i64 s8v.2.1, .int .i64 s8v.2.2.1, .int .i64 s8v.2.2.2.1, .int .i64 s8v.2.2.2.2.1, .int .i64 s8v.2.2.2.2.2.1, str s8v.2.2.2.2.2.2.1, str s8v.2.2.2.2.2.2.2.1, str s8v.2.2.2.2.2.2.2.2.1], obj b7v 34 [.int .i64 s4v.1, .int .i64 s4v.2.1, .int .i64 s4v.2.2.1, .int .i64 s4v.2.2.2.1, .int .i64 s4v.2.2.2.2.1, .int .i64 s4v.2.2.2.2.2.1, str s4v.2.2.2.2.2.2.1, str s4v.2.2.2.2.2.2.2.1, str s4v.2.2.2.2.2.2.2.2.1], RowV 9 1 (V9 tt) y3v.1 s1v.1 y3v.2, F]) (Ent.refl _) ?_
 refine va rfl rfl (nx ?_)
 refine vq (q_build (v := .agg #[.int .i64 13, .int .i64 2, .int .i64 1, .int .i64 0, .int .i64 0, .int .i64 4, str ([107] : List UInt8), str ([110, 101, 119] : List UInt8), str ([111, 32, 100] : List UInt8)]) rfl rfl (fun _ => by kernel_rfl)) rfl ?_
 refine simL_bind (fun s12v hs13v => ?_)
 refine simL_eff (re_call (vs := [.agg #[.int .i64 13, .int .i64 2, .int .i64 1, .int .i64 0, .int .i64 0, .int .i64 4, str ([107] : List UInt8), str ([110, 101, 119] : List UInt8), str ([111, 32, 100] : List UInt8)]]) (cap := []) (A := []) (rst := [obj b11v 34 [.int .i64 s8v.1, .int .i64 s8v.2.1, .int .i64 s8v.2.2.1, .int .i64 s8v.2.2.2.1, .int .i64 s8v.2.2.2.2.1, .int .i64 s8v.2.2.2.2.2.1, str s8v.2.2.2.2.2.2.1, str s8v.2.2.2.2.2.2.2.1, str s8v.2.2.2.2.2.2.2.2.1], obj b7v 34 [.int .i64 s4v.1, .int .i64 s4v.2.1, .int .i64 s4v.2.2.1, .int .i64 s4v.2.2.2.1, .int .i64 s4v.2.2.2.2.1, .int .i64 s4v.2.2.2.2.2.1, str s4v.2.2.2.2.2.2.1, str s4v.2.2.2.2.2.2.2.1, str s4v.2.2.2.2.2.2.2.2.1], RowV 9 1 (V9 tt) y3v.1 s1v.1 y3v.2, F]) rfl rfl rfl rfl rfl rfl Tryd.call20 (.sel 0 rfl (.sel 0 rfl (.sel 0 rfl (.sel 0 rfl (.nil _))))) (text_FormatAct.calls _ _ k (13 : Int) (2 : Int) (1 : Int) (0 : Int) (0 : Int) (4 : Int) ([107] : List UInt8) ([110, 101, 119] : List UInt8) ([111, 32, 100] : List UInt8) (hgl.lend 3 rfl)) hs13v) rfl rfl rfl ?_
 intro y14v
 refine vm rfl rfl ?_
 refine vq (q_ext rfl rfl rfl) rfl ?_
 refine vq (q_ext rfl rfl rfl) rfl ?_
 refine va rfl rfl ?_
 refine va rfl rfl (nx ?_)
 refine vm rfl rfl ?_
 have hlb16v : ListV 1 (V9 tt) ([([112, 117, 116] : List UInt8), ([49] : List UInt8), ([50] : List UInt8), ([97] : List UInt8), ([98, 32, 99] : List UInt8)] : List (List UInt8)) [[str ([112, 117, 116] : List UInt8)], [str ([49] : List UInt8)], [str ([50] : List UInt8)], [str ([97] : List UInt8)], [str ([98, 32, 99] : List UInt8)]] := ⟨⟨rfl, one_of (by rfl), rfl⟩, ⟨rfl, one_of (by rfl), rfl⟩, ⟨rfl, one_of (by rfl), rfl⟩, ⟨rfl, one_of (by rfl), rfl⟩, ⟨rfl, one_of (by rfl), rfl⟩, trivial⟩
 refine simL_eff (re_litV (V := (V9 tt)) (xs := ([([112, 117, 116] : List UInt8), ([49] : List UInt8), ([50] : List UInt8), ([97] : List UInt8), ([98, 32, 99] : List UInt8)] : List (List UInt8))) [[str ([112, 117, 116] : List UInt8)], [str ([49] : List UInt8)], [str ([50] : List UInt8)], [str ([97] : List UInt8)], [str ([98, 32, 99] : List UInt8)]] rfl rfl Tryd.underlying23 elt9 rfl (by kernel_rfl) rfl hlb16v rfl rfl) rfl rfl rfl ?_
 intro b16v
 refine simL_openV 3 rfl (fun rs17v hl18v => ?_)
 refine simL_bind (fun s27v hs28v => ?_)
 refine simL_lend 3 rfl (fun hq19v hq20v hq21v hq22v => ?_)
 refine simL_lend 0 rfl (fun hq23v hq24v hq25v hq26v => ?_)
 refine simL_eff (re_call (vs := [.slice y3v.1 s1v.1.length y3v.2, .slice (some ⟨b16v, 0, none⟩) (([([112, 117, 116] : List UInt8), ([49] : List UInt8), ([50] : List UInt8), ([97] : List UInt8), ([98, 32, 99] : List UInt8)] : List (List UInt8)).length) 5]) (cap := []) (A := []) (rst := [Row 9 1 (some ⟨b16v, 0, none⟩) ([([112, 117, 116] : List UInt8), ([49] : List UInt8), ([50] : List UInt8), ([97] : List UInt8), ([98, 32, 99] : List UInt8)] : List (List UInt8)).length 5 [[str ([112, 117, 116] : List UInt8)], [str ([49] : List UInt8)], [str ([50] : List UInt8)], [str ([97] : List UInt8)], [str ([98, 32, 99] : List UInt8)]].flatten, obj b11v 34 [.int .i64 s8v.1, .int .i64 s8v.2.1, .int .i64 s8v.2.2.1, .int .i64 s8v.2.2.2.1, .int .i64 s8v.2.2.2.2.1, .int .i64 s8v.2.2.2.2.2.1, str s8v.2.2.2.2.2.2.1, str s8v.2.2.2.2.2.2.2.1, str s8v.2.2.2.2.2.2.2.2.1], obj b7v 34 [.int .i64 s4v.1, .int .i64 s4v.2.1, .int .i64 s4v.2.2.1, .int .i64 s4v.2.2.2.1, .int .i64 s4v.2.2.2.2.1, .int .i64 s4v.2.2.2.2.2.1, str s4v.2.2.2.2.2.2.1, str s4v.2.2.2.2.2.2.2.1, str s4v.2.2.2.2.2.2.2.2.1], Row 9 1 y3v.1 s1v.1.length y3v.2 rs17v.flatten, F]) rfl rfl rfl rfl rfl rfl Tryd.call14 (.sel 0 rfl (.sel 0 rfl (.sel 0 rfl (.sel 0 rfl (.sel 0 rfl (.nil _)))))) (synodref_SameTexts.calls _ _ k y3v.1 y3v.2 s1v.1 (some ⟨b16v, 0, none⟩) 5 ([([112, 117, 116] : List UInt8), ([49] : List UInt8), ([50] : List UInt8), ([97] : List UInt8), ([98, 32, 99] : List UInt8)] : List (List UInt8)) ((Rd.asV hl18v hq19v).up (Up.lend 3 rfl) (fun _ _ h => h)) hq20v hq21v ((Rd.asV hlb16v hq23v).up (Up.lend 0 rfl) (fun _ _ h => h)) hq24v hq25v) hs28v) rfl rfl rfl ?_
 intro y29v
 refine vm rfl rfl ?_
 refine simL_cut' 4 (S := Bool) (Unit) (fun s y => [(3, .pointer (some ⟨b7v, 0, none⟩)), (4, .int .i64 s4v.2.2.2.2.2.2.2.2.2), (6, .int .i64 s8v.2.2.2.2.2.2.2.2.2), (7, str s12v.1), (8, .int .i64 s12v.2), (33, .bool s)]) (fun s y => [obj b7v 34 [.int .i64 s4v.1, .int .i64 s4v.2.1, .int .i64 s4v.2.2.1, .int .i64 s4v.2.2.2.1, .int .i64 s4v.2.2.2.2.1, .int .i64 s4v.2.2.2.2.2.1, str s4v.2.2.2.2.2.2.1, str s4v.2.2.2.2.2.2.2.1, str s4v.2.2.2.2.2.2.2.2.1], F]) ?_ ?_
 refine simL_caseb (fun hb35v => ?_) (fun hb36v => ?_)
 rw [hb35v]
 refine simL_valg (q_move rfl rfl) rfl rfl rfl rfl rfl rfl ?_
 refine simL_bind (fun s32v hs33v => ?_)
 refine simL_effg (re_call (vs := [.int .i64 s1v.2]) (cap := []) (A := []) (rst := [Row 9 1 (some ⟨b16v, 0, none⟩) ([([112, 117, 116] : List UInt8), ([49] : List UInt8), ([50] : List UInt8), ([97] : List UInt8), ([98, 32, 99] : List UInt8)] : List (List UInt8)).length 5 [[str ([112, 117, 116] : List UInt8)], [str ([49] : List UInt8)], [str ([50] : List UInt8)], [str ([97] : List UInt8)], [str ([98, 32, 99] : List UInt8)]].flatten, obj b11v 34 [.int .i64 s8v.1, .int .i64 s8v.2.1, .int .i64 s8v.2.2.1, .int .i64 s8v.2.2.2.1, .int .i64 s8v.2.2.2.2.1, .int .i64 s8v.2.2.2.2.2.1, str s8v.2.2.2.2.2.2.1, str s8v.2.2.2.2.2.2.2.1, str s8v.2.2.2.2.2.2.2.2.1], obj b7v 34 [.int .i64 s4v.1, .int .i64 s4v.2.1, .int .i64 s4v.2.2.1, .int .i64 s4v.2.2.2.1, .int .i64 s4v.2.2.2.2.1, .int .i64 s4v.2.2.2.2.2.1, str s4v.2.2.2.2.2.2.1, str s4v.2.2.2.2.2.2.2.1, str s4v.2.2.2.2.2.2.2.2.1], Row 9 1 y3v.1 s1v.1.length y3v.2 rs17v.flatten, F]) rfl rfl rfl rfl rfl rfl Tryd.call15 (.sel 0 rfl (.sel 0 rfl (.sel 0 rfl (.sel 0 rfl (.sel 0 rfl (.nil _)))))) (synodref_Num.calls _ _ s1v.2 ) hs33v) rfl rfl rfl rfl rfl rfl ?_
 intro y34v
 refine simL_valg (q_eql rfl rfl rfl) rfl rfl rfl rfl rfl rfl ?_
 refine vq (q_pick rfl rfl rfl rfl rfl) rfl (simL_nil ?_)
 exact nrm_cut (s := decide (s32v = (0 : Int))) () ⟨rfl, rfl, rfl, rfl, rfl, rfl, trivial⟩ (.sel 2 rfl (.sel 3 rfl (.nil _)))
 rw [hb36v]
 refine simL_skipd rfl rfl rfl rfl rfl rfl ?_
 refine simL_skipd rfl rfl rfl rfl rfl rfl ?_
 refine simL_skipd rfl rfl rfl rfl rfl rfl ?_
 refine vq (q_pick rfl rfl rfl rfl rfl) rfl (simL_nil ?_)
 exact nrm_cut (s := false) () ⟨rfl, rfl, rfl, rfl, rfl, rfl, trivial⟩ (.sel 2 rfl (.sel 3 rfl (.nil _)))
 intro s30v y31v
 refine vm rfl rfl ?_
 refine simL_valc (b := s30v) (fun hb62v => RQ.sub (E' := [(3, .pointer (some ⟨b7v, 0, none⟩))]) ⟨rfl, trivial⟩ (q_loado 0 rfl rfl Tryd.isAgg34 Tryd.sizeOf34 rfl rfl)) rfl rfl rfl rfl rfl ?_
 refine simL_valc (b := s30v) (fun hb61v => RQ.sub (E' := []) trivial (q_build (v := .agg #[.int .i64 1, .int .i64 1, .int .i64 0, .int .i64 (-5), .int .i64 0, .int .i64 0, str ([] : List UInt8), str ([] : List UInt8), str ([] : List UInt8)]) rfl rfl (fun _ => by kernel_rfl))) rfl rfl rfl rfl rfl ?_
 refine simL_valc (b := s30v) (fun hb60v => RQ.sub (E' := [(35, .agg #[.int .i64 s4v.1, .int .i64 s4v.2.1, .int .i64 s4v.2.2.1, .int .i64 s4v.2.2.2.1, .int .i64 s4v.2.2.2.2.1, .int .i64 s4v.2.2.2.2.2.1, str s4v.2.2.2.2.2.2.1, str s4v.2.2.2.2.2.2.2.1, str s4v.2.2.2.2.2.2.2.2.1]), (36, .agg #[.int .i64 1, .int .i64 1, .int .i64 0, .int .i64 (-5), .int .i64 0, .int .i64 0, str ([] : List UInt8), str ([] : List UInt8), str ([] : List UInt8)])]) ⟨lk_cv rfl hb60v, lk_cv rfl hb60v, trivial⟩ (q_eqagg rfl rfl rfl (by kernel_rfl) (fun d w => eqi_struct Tryd.underlying34 (by kernel_rfl) (eqf_cons (by rfl) (part_of Tryd.isAgg3 rfl) (part_of Tryd.isAgg3 rfl) (eqi_int Tryd.underlying3) (eqf_cons (by rfl) (part_of Tryd.isAgg3 rfl) (part_of Tryd.isAgg3 rfl) (eqi_int Tryd.underlying3) (eqf_cons (by rfl) (part_of Tryd.isAgg3 rfl) (part_of Tryd.isAgg3 rfl) (eqi_int Tryd.underlying3) (eqf_cons (by rfl) (part_of Tryd.isAgg3 rfl) (part_of Tryd.isAgg3 rfl) (eqi_int Tryd.underlying3) (eqf_cons (by rfl) (part_of Tryd.isAgg3 rfl) (part_of Tryd.isAgg3 rfl) (eqi_int Tryd.underlying3) (eqf_cons (by rfl) (part_of Tryd.isAgg3 rfl) (part_of Tryd.isAgg3 rfl) (eqi_int Tryd.underlying3) (eqf_cons (by rfl) (part_of Tryd.isAgg9 rfl) (part_of Tryd.isAgg9 rfl) (eqi_str Tryd.underlying9) (eqf_cons (by rfl) (part_of Tryd.isAgg9 rfl) (part_of Tryd.isAgg9 rfl) (eqi_str Tryd.underlying9) (eqf_last (by rfl) (part_of Tryd.isAgg9 rfl) (part_of Tryd.isAgg9 rfl) (eqi_str Tryd.underlying9))))))))))))) rfl rfl rfl rfl rfl ?_
 refine vq (q_and rfl rfl rfl) rfl ?_
 refine vm rfl rfl ?_
 refine simL_cut' 4 (S := Bool) (Unit) (fun s y => [(6, .int .i64 s8v.2.2.2.2.2.2.2.2.2), (7, str s12v.1), (8, .int .i64 s12v.2), (43, .bool s)]) (fun s y => [F]) ?_ ?_
 refine simL_caseb (fun hb42v => ?_) (fun hb43v => ?_)
 rw [hb42v]
 refine simL_valg (q_move rfl rfl) rfl rfl rfl rfl rfl rfl ?_
 refine simL_bind (fun s39v hs40v => ?_)
 refine simL_effg (re_call (vs := [.int .i64 s4v.2.2.2.2.2.2.2.2.2]) (cap := []) (A := []) (rst := [obj b7v 34 [.int .i64 s4v.1, .int .i64 s4v.2.1, .int .i64 s4v.2.2.1, .int .i64 s4v.2.2.2.1, .int .i64 s4v.2.2.2.2.1, .int .i64 s4v.2.2.2.2.2.1, str s4v.2.2.2.2.2.2.1, str s4v.2.2.2.2.2.2.2.1, str s4v.2.2.2.2.2.2.2.2.1], F]) rfl rfl rfl rfl rfl rfl Tryd.call15 (.sel 0 rfl (.sel 0 rfl (.nil _))) (synodref_Num.calls _ _ s4v.2.2.2.2.2.2.2.2.2 ) hs40v) rfl rfl rfl rfl rfl rfl ?_
 intro y41v
 refine simL_valg (q_eql rfl rfl rfl) rfl rfl rfl rfl rfl rfl ?_
 refine vq (q_pick rfl rfl rfl rfl rfl) rfl (simL_nil ?_)
 exact nrm_cut (s := decide (s39v = (0 : Int))) () ⟨rfl, rfl, rfl, rfl, trivial⟩ (.sel 1 rfl (.nil _))
 rw [hb43v]
 refine simL_skipd rfl rfl rfl rfl rfl rfl ?_
 refine simL_skipd rfl rfl rfl rfl rfl rfl ?_
 refine simL_skipd rfl rfl rfl rfl rfl rfl ?_
 refine vq (q_pick rfl rfl rfl rfl rfl) rfl (simL_nil ?_)
 exact nrm_cut (s := false) () ⟨rfl, rfl, rfl, rfl, trivial⟩ (.sel 1 rfl (.nil _))
 intro s37v y38v
 refine vm rfl rfl ?_
 refine simL_cut' 4 (S := Bool) (Unit) (fun s y => [(7, str s12v.1), (8, .int .i64 s12v.2), (48, .bool s)]) (fun s y => [F]) ?_ ?_
 refine simL_caseb (fun hb49v => ?_) (fun hb50v => ?_)
 rw [hb49v]
 refine simL_valg (q_move rfl rfl) rfl rfl rfl rfl rfl rfl ?_
 refine simL_bind (fun s46v hs47v => ?_)
 refine simL_effg (re_call (vs := [.int .i64 s8v.2.2.2.2.2.2.2.2.2]) (cap := []) (A := []) (rst := [F]) rfl rfl rfl rfl rfl rfl Tryd.call15 (.sel 0 rfl (.nil _)) (synodref_Num.calls _ _ s8v.2.2.2.2.2.2.2.2.2 ) hs47v) rfl rfl rfl rfl rfl rfl ?_
 intro y48v
 refine simL_valg (q_eql rfl rfl rfl) rfl rfl rfl rfl rfl rfl ?_
 refine vq (q_pick rfl rfl rfl rfl rfl) rfl (simL_nil ?_)
 exact nrm_cut (s := decide (s46v = (22 : Int))) () ⟨rfl, rfl, rfl, trivial⟩ (.sel 0 rfl (.nil _))
 rw [hb50v]
 refine simL_skipd rfl rfl rfl rfl rfl rfl ?_
 refine simL_skipd rfl rfl rfl rfl rfl rfl ?_
 refine simL_skipd rfl rfl rfl rfl rfl rfl ?_
 refine vq (q_pick rfl rfl rfl rfl rfl) rfl (simL_nil ?_)
 exact nrm_cut (s := false) () ⟨rfl, rfl, rfl, trivial⟩ (.sel 0 rfl (.nil _))
 intro s44v y45v
 refine vm rfl rfl ?_
 refine simL_valc (b := s44v) (fun hb59v => RQ.sub (E' := [(7, str s12v.1)]) ⟨rfl, trivial⟩ (q_move rfl rfl)) rfl rfl rfl rfl rfl ?_
 refine simL_valc (b := s44v) (fun hb58v => RQ.sub (E' := [(50, str s12v.1)]) ⟨lk_cv rfl hb58v, trivial⟩ (q_eqs rfl rfl rfl)) rfl rfl rfl rfl rfl ?_
 refine vq (q_and rfl rfl rfl) rfl ?_
 refine vm rfl rfl ?_
 refine simL_cut' 4 (S := Bool) (Unit) (fun s y => [(57, .bool s)]) (fun s y => [F]) ?_ ?_
 refine simL_caseb (fun hb56v => ?_) (fun hb57v => ?_)
 rw [hb56v]
 refine simL_valg (q_move rfl rfl) rfl rfl rfl rfl rfl rfl ?_
 refine simL_bind (fun s53v hs54v => ?_)
 refine simL_effg (re_call (vs := [.int .i64 s12v.2]) (cap := []) (A := []) (rst := [F]) rfl rfl rfl rfl rfl rfl Tryd.call15 (.sel 0 rfl (.nil _)) (synodref_Num.calls _ _ s12v.2 ) hs54v) rfl rfl rfl rfl rfl rfl ?_
 intro y55v
 refine simL_valg (q_eql rfl rfl rfl) rfl rfl rfl rfl rfl rfl ?_
 refine vq (q_pick rfl rfl rfl rfl rfl) rfl (simL_nil ?_)
 exact nrm_cut (s := decide (s53v = (0 : Int))) () ⟨rfl, trivial⟩ (.sel 0 rfl (.nil _))
 rw [hb57v]
 refine simL_skipd rfl rfl rfl rfl rfl rfl ?_
 refine simL_skipd rfl rfl rfl rfl rfl rfl ?_
 refine simL_skipd rfl rfl rfl rfl rfl rfl ?_
 refine vq (q_pick rfl rfl rfl rfl rfl) rfl (simL_nil ?_)
 exact nrm_cut (s := false) () ⟨rfl, trivial⟩ (.sel 0 rfl (.nil _))
 intro s51v y52v
 refine va rfl rfl (simL_nil (nrm_then (sim_rtn ?_)))
 exact rtn_fn () rfl rfl rfl (.sel 0 rfl (.nil _))

def synodlaw17_TextQuotes.l1 (x0 : List (List UInt8)) : Nat → List UInt8 → Int → Option (List UInt8)
  | 0, _, _ => none
  | k + 1, z28v, z29v => if z29v < (x0.length : Int) then ((if (0 : Int) < z29v then (if z28v.length + ([32] : List UInt8).length ≤ 9223372036854775807 then (some (z28v ++ ([32] : List UInt8))) else none) else (some z28v)).bind fun s32v => (if 0 ≤ z29v ∧ z29v < (x0.length : Int) then ((text_Quote.f k (x0.getD z29v.toNat ([] : List UInt8))).bind fun s45v => (if s32v.length + s45v.length ≤ 9223372036854775807 then (synodlaw17_TextQuotes.l1 x0 k (s32v ++ s45v) (IntKind.i64.wrap (z29v + 1))) else none)) else none)) else (some z28v)
def synodlaw17_TextQuotes.l0 (x0 : List (List UInt8)) : Nat → Int → Int → Option (Int)
  | 0, _, _ => none
  | k + 1, z8v, z9v => if ((decide (z9v < (x0.length : Int))) && (decide (z9v ≤ (50 : Int)))) = true then (if 0 ≤ z9v ∧ z9v < (x0.length : Int) then (synodlaw17_TextQuotes.l0 x0 k (min (IntKind.i64.wrap (z8v + (min ((x0.getD z9v.toNat ([] : List UInt8)).length : Int) (20000 : Int)))) (40000 : Int)) (IntKind.i64.wrap (z9v + 1))) else none) else (some z8v)
def synodlaw17_TextQuotes.f (k : Nat) (x0 : List (List UInt8)) : Option (Bool) := (synodlaw17_first.f k).bind fun s1v => ((synodlaw17_TextQuotes.l0 x0 k 0 0).bind fun s4v => (if (((!s1v) || (decide ((50 : Int) < (x0.length : Int)))) || (decide ((20000 : Int) < s4v))) = true then (some s1v) else ((synodlaw17_TextQuotes.l1 x0 k ([] : List UInt8) 0).bind fun s24v => ((text_Words.f k s24v).bind fun s49v => (if (4096 : Int) < (s24v.length : Int) then ((synodref_Num.f s49v.2).bind fun s54v => (some ((decide (s54v = (3 : Int))) && (decide ((s49v.1.length : Int) = (0 : Int)))))) else ((synodref_SameTexts.f k s49v.1 x0).bind fun s66v => ((if s66v = true then ((synodref_Num.f s49v.2).bind fun s71v => (some (decide (s71v = (0 : Int))))) else (some false)).bind fun s69v => (some s69v))))))))
theorem synodlaw17_TextQuotes.calls (W : World) (F : HA) (k : Nat) (a0 : Option Addr) (c0 : Nat) (x0 : List (List UInt8)) (h0 : RdV F 1 (V9 tt) a0 x0) (hc0 : x0.length ≤ c0) (hm0 : c0 ≤ maxLen) (hgl : Glb Tryd.prog F) :
    Fn Tryd.prog W 6 [.slice a0 x0.length c0] [] F (synodlaw17_TextQuotes.f k x0) (fun (r : Bool) (y : Unit) => .bool r) (fun r y => []) := by
 unfold synodlaw17_TextQuotes.f
 refine fn_intro 85 Tryd.func6 rfl Tryd.ntmps6 rfl ?_
 refine sr ?_
 refine va rfl rfl (nx ?_)
 refine simL_bind (fun s1v hs2v => ?_)
 refine simL_eff (re_call (vs := []) (cap := []) (A := []) (rst := [F]) rfl rfl rfl rfl rfl rfl Tryd.call11 (.sel 0 rfl (.nil _)) (synodlaw17_first.calls _ _ k  (hgl.lend 0 rfl)) hs2v) rfl rfl rfl ?_
 intro y3v
 refine va rfl rfl (nx ?_)
 refine va rfl rfl (simL_nil (nrm_then ?_))
 refine sim_cut (S := Int) (Unit) (fun s y => [(0, .slice a0 x0.length c0), (3, .bool s1v), (4, .int .i64 s)]) (fun s y => [F]) ?_ ?_
 refine sr ?_
 refine va rfl rfl (simL_nil (nrm_then ?_))
 refine sim_block ?_
 refine sim_loop (S := Int × Int) (Unit) (fun k s => synodlaw17_TextQuotes.l0 x0 k s.1 s.2) (fun s y => [(0, .slice a0 x0.length c0), (3, .bool s1v), (4, .int .i64 s.1), (5, .int .i64 s.2)]) (fun s y => [F]) (fun _ => by rw [synodlaw17_TextQuotes.l0]) ?_ k (0, 0) () ⟨rfl, rfl, rfl, rfl, trivial⟩ (.sel 0 rfl (.nil _))
 intro k s6v y7v
 refine sim_eq (by rw [synodlaw17_TextQuotes.l0]) ?_
 refine sim_seq (sr ?_)
 refine vm rfl rfl ?_
 refine vm rfl rfl ?_
 refine vq (q_len rfl rfl rfl Tryd.underlying23) rfl ?_
 refine vq (q_lss rfl rfl rfl) rfl ?_
 refine vm rfl rfl ?_
 refine simL_valc (b := decide (s6v.2 < (x0.length : Int))) (fun hb21v => RQ.sub (E' := [(5, .int .i64 s6v.2)]) ⟨rfl, trivial⟩ (q_move rfl rfl)) rfl rfl rfl rfl rfl ?_
 refine simL_valc (b := decide (s6v.2 < (x0.length : Int))) (fun hb20v => RQ.sub (E' := [(17, .int .i64 s6v.2)]) ⟨lk_cv rfl hb20v, trivial⟩ (q_leq rfl rfl rfl)) rfl rfl rfl rfl rfl ?_
 refine vq (q_and rfl rfl rfl) rfl (simL_nil (nrm_then ?_))
 refine sim_condb rfl (fun h10v => ?_) (fun h11v => ?_)
 refine sim_skip ?_
 refine nrm_then (sim_seq ?_)
 refine sim_block ?_
 refine sim_region ?_
 refine vm rfl rfl ?_
 refine vm rfl rfl ?_
 refine vm rfl rfl ?_
 refine simL_ask (fun hi12v => ?_)
 obtain ⟨b13v, b13vo, r16v, ha14v, hV17v, hlr18v, hcell19v⟩ := RdV.pos h0 (Up.refl _) rfl (i := s6v.2.toNat) (by omega) ([] : List UInt8)
 obtain rfl := hV17v
 refine vq (q_idx rfl rfl rfl ha14v Tryd.underlying23 Tryd.sizeOf9 hi12v.1 hi12v.2) rfl ?_
 refine vq (q_load rfl rfl Tryd.isAgg9 (hcell19v 0 rfl 0 _ rfl)) rfl ?_
 refine vq (q_lens rfl rfl rfl Tryd.underlying9) rfl ?_
 refine vq (q_min rfl rfl rfl) rfl ?_
 refine vq (q_add rfl rfl rfl) rfl ?_
 refine vq (q_min rfl rfl rfl) rfl ?_
 refine va rfl rfl (simL_nil (nrm_block (nrm_then (sim_region ?_))))
 refine vm rfl rfl ?_
 refine vq (q_add rfl rfl rfl) rfl ?_
 refine va rfl rfl (simL_nil ?_)
 exact nrm_again (s := (min (IntKind.i64.wrap (s6v.1 + (min ((x0.getD s6v.2.toNat ([] : List UInt8)).length : Int) (20000 : Int)))) (40000 : Int), IntKind.i64.wrap (s6v.2 + 1))) () ⟨rfl, rfl, rfl, rfl, trivial⟩ (.sel 0 rfl (.nil _))
 refine sim_exi ?_
 refine exi_then ?_
 refine exi_loop ?_
 refine exi_here ?_
 exact nrm_cut (s := s6v.1) () ⟨rfl, rfl, rfl, trivial⟩ (.sel 0 rfl (.nil _))
 intro s4v y5v
 refine sim_seq (sr ?_)
 refine vm rfl rfl ?_
 refine vq (q_not rfl rfl) rfl ?_
 refine vm rfl rfl ?_
 refine simL_valc (b := !s1v) (fun hb80v => RQ.sub (E' := [(0, .slice a0 x0.length c0)]) ⟨rfl, trivial⟩ (q_move rfl rfl)) rfl rfl rfl rfl rfl ?_
 refine simL_valc (b := !s1v) (fun hb79v => RQ.sub (E' := [(34, .slice a0 x0.length c0)]) ⟨lk_cv rfl hb79v, trivial⟩ (q_len rfl rfl rfl Tryd.underlying23)) rfl rfl rfl rfl rfl ?_
 refine simL_valc (b := !s1v) (fun hb78v => RQ.sub (E' := [(35, .int .i64 (x0.length : Int))]) ⟨lk_cv rfl hb78v, trivial⟩ (q_gtr rfl rfl rfl)) rfl rfl rfl rfl rfl ?_
 refine vq (q_or rfl rfl rfl) rfl ?_
 refine vm rfl rfl ?_
 refine simL_valc (b := (!s1v) || (decide ((50 : Int) < (x0.length : Int)))) (fun hb77v => RQ.sub (E' := [(4, .int .i64 s4v)]) ⟨rfl, trivial⟩ (q_move rfl rfl)) rfl rfl rfl rfl rfl ?_
 refine simL_valc (b := (!s1v) || (decide ((50 : Int) < (x0.length : Int)))) (fun hb76v => RQ.sub (E' := [(39, .int .i64 s4v)]) ⟨lk_cv rfl hb76v, trivial⟩ (q_gtr rfl rfl rfl)) rfl rfl rfl rfl rfl ?_
 refine vq (q_or rfl rfl rfl) rfl (simL_nil (nrm_then ?_))
 refine sim_condb rfl (fun h22v => ?_) (fun h23v => ?_)
 refine sr ?_
 refine vm rfl rfl ?_
 refine va rfl rfl (simL_nil (nrm_then (sim_rtn ?_)))
 refine rtn_then ?_
 exact rtn_fn () rfl rfl rfl (.sel 0 rfl (.nil _))
 refine sim_skip ?_
 refine nrm_then (sr ?_)
 refine va rfl rfl (simL_nil (nrm_then ?_))
 refine sim_cut (S := List UInt8) (Unit) (fun s y => [(0, .slice a0 x0.length c0), (6, str s)]) (fun s y => [F]) ?_ ?_
 refine sr ?_
 refine va rfl rfl (simL_nil (nrm_then ?_))
 refine sim_block ?_
 refine sim_loop (S := List UInt8 × Int) (Unit) (fun k s => synodlaw17_TextQuotes.l1 x0 k s.1 s.2) (fun s y => [(0, .slice a0 x0.length c0), (6, str s.1), (7, .int .i64 s.2)]) (fun s y => [F]) (fun _ => by rw [synodlaw17_TextQuotes.l1]) ?_ k (([] : List UInt8), 0) () ⟨rfl, rfl, rfl, trivial⟩ (.sel 0 rfl (.nil _))
 intro k s26v y27v
 refine sim_eq (by rw [synodlaw17_TextQuotes.l1]) ?_
 refine sim_seq (sr ?_)
 refine vm rfl rfl ?_
 refine vm rfl rfl ?_
 refine vq (q_len rfl rfl rfl Tryd.underlying23) rfl ?_
 refine vq (q_lss rfl rfl rfl) rfl (simL_nil (nrm_then ?_))
 refine sim_cond rfl (fun h30v => ?_) (fun h31v => ?_)
 refine sim_skip ?_
 refine nrm_then (sim_seq ?_)
 refine sim_block ?_
 refine sim_cut (S := List UInt8) (Unit) (fun s y => [(0, .slice a0 x0.length c0), (6, str s), (7, .int .i64 s26v.2)]) (fun s y => [F]) ?_ ?_
 refine sr ?_
 refine vm rfl rfl ?_
 refine vq (q_gtr rfl rfl rfl) rfl (simL_nil (nrm_then ?_))
 refine sim_cond rfl (fun h34v => ?_) (fun h35v => ?_)
 refine sim_region ?_
 refine vm rfl rfl ?_
 refine simL_ask (fun hb36v => ?_)
 refine vq (q_cat rfl rfl rfl hb36v) rfl ?_
 refine va rfl rfl (simL_nil ?_)
 exact nrm_cut (s := s26v.1 ++ ([32] : List UInt8)) () ⟨rfl, rfl, rfl, trivial⟩ (.sel 0 rfl (.nil _))
 refine sim_skip ?_
 exact nrm_cut (s := s26v.1) () ⟨rfl, rfl, rfl, trivial⟩ (.sel 0 rfl (.nil _))
 intro s32v y33v
 refine sim_region ?_
 refine vm rfl rfl ?_
 refine vm rfl rfl ?_
 refine vm rfl rfl ?_
 refine simL_ask (fun hi37v => ?_)
 obtain ⟨b38v, b38vo, r41v, ha39v, hV42v, hlr43v, hcell44v⟩ := RdV.pos h0 (Up.refl _) rfl (i := s26v.2.toNat) (by omega) ([] : List UInt8)
 obtain rfl := hV42v
 refine vq (q_idx rfl rfl rfl ha39v Tryd.underlying23 Tryd.sizeOf9 hi37v.1 hi37v.2) rfl ?_
 refine vq (q_load rfl rfl Tryd.isAgg9 (hcell44v 0 rfl 0 _ rfl)) rfl ?_
 refine simL_bind (fun s45v hs46v => ?_)
 refine simL_eff (re_call (vs := [str (x0.getD s26v.2.toNat ([] : List UInt8))]) (cap := []) (A := []) (rst := [F]) rfl rfl rfl rfl rfl rfl Tryd.call16 (.sel 0 rfl (.nil _)) (text_Quote.calls _ _ k (x0.getD s26v.2.toNat ([] : List UInt8)) ) hs46v) rfl rfl rfl ?_
 intro y47v
 refine simL_ask (fun hb48v => ?_)
 refine vq (q_cat rfl rfl rfl hb48v) rfl ?_
 refine va rfl rfl (simL_nil (nrm_block (nrm_then (sim_region ?_))))
 refine vm rfl rfl ?_
 refine vq (q_add rfl rfl rfl) rfl ?_
 refine va rfl rfl (simL_nil ?_)
 exact nrm_again (s := (s32v ++ s45v, IntKind.i64.wrap (s26v.2 + 1))) () ⟨rfl, rfl, rfl, trivial⟩ (.sel 0 rfl (.nil _))
 refine sim_exi ?_
 refine exi_then ?_
 refine exi_loop ?_
 refine exi_here ?_
 exact nrm_cut (s := s26v.1) () ⟨rfl, rfl, trivial⟩ (.sel 0 rfl (.nil _))
 intro s24v y25v
 refine sr ?_
 refine vm rfl rfl ?_
 refine simL_bind (fun s49v hs50v => ?_)
 refine simL_eff (re_call (vs := [str s24v]) (cap := []) (A := []) (rst := [F]) rfl rfl rfl rfl rfl rfl Tryd.call12 (.sel 0 rfl (.nil _)) (text_Words.calls _ _ k s24v ) hs50v) rfl rfl rfl ?_
 intro y51v
 refine vm rfl rfl ?_
 refine vq (q_ext rfl rfl rfl) rfl ?_
 refine vq (q_ext rfl rfl rfl) rfl ?_
 refine va rfl rfl ?_
 refine va rfl rfl (simL_nil (nrm_then (sim_seq (sr ?_))))
 refine vm rfl rfl ?_
 refine vq (q_lens rfl rfl rfl Tryd.underlying9) rfl ?_
 refine vq (q_gtr rfl rfl rfl) rfl (simL_nil (nrm_then ?_))
 refine sim_cond rfl (fun h52v => ?_) (fun h53v => ?_)
 refine sr ?_
 refine vm rfl rfl ?_
 refine simL_bind (fun s54v hs55v => ?_)
 refine simL_eff (re_call (vs := [.int .i64 s49v.2]) (cap := []) (A := []) (rst := [RowV 9 1 (V9 tt) y51v.1 s49v.1 y51v.2, F]) rfl rfl rfl rfl rfl rfl Tryd.call15 (.sel 0 rfl (.sel 0 rfl (.nil _))) (synodref_Num.calls _ _ s49v.2 ) hs55v) rfl rfl rfl ?_
 intro y56v
 refine vq (q_eql rfl rfl rfl) rfl ?_
 refine vm rfl rfl ?_
 refine simL_valc (b := decide (s54v = (3 : Int))) (fun hb59v => RQ.sub (E' := [(8, .slice y51v.1 s49v.1.length y51v.2)]) ⟨rfl, trivial⟩ (q_move rfl rfl)) rfl rfl rfl rfl rfl ?_
 refine simL_valc (b := decide (s54v = (3 : Int))) (fun hb58v => RQ.sub (E' := [(72, .slice y51v.1 s49v.1.length y51v.2)]) ⟨lk_cv rfl hb58v, trivial⟩ (q_len rfl rfl rfl Tryd.underlying23)) rfl rfl rfl rfl rfl ?_
 refine simL_valc (b := decide (s54v = (3 : Int))) (fun hb57v => RQ.sub (E' := [(73, .int .i64 (s49v.1.length : Int))]) ⟨lk_cv rfl hb57v, trivial⟩ (q_eql rfl rfl rfl)) rfl rfl rfl rfl rfl ?_
 refine vq (q_and rfl rfl rfl) rfl ?_
 refine va rfl rfl (simL_nil (nrm_then (sim_rtn ?_)))
 refine rtn_then ?_
 exact rtn_fn () rfl rfl rfl (.sel 1 rfl (.nil _))
 refine sim_skip ?_
 refine nrm_then (sr ?_)
 refine vm rfl rfl ?_
 refine vm rfl rfl ?_
 refine simL_openV 0 rfl (fun rs60v hl61v => ?_)
 refine simL_bind (fun s66v hs67v => ?_)
 refine simL_lend 0 rfl (fun hq62v hq63v hq64v hq65v => ?_)
 refine simL_eff (re_call (vs := [.slice y51v.1 s49v.1.length y51v.2, .slice a0 x0.length c0]) (cap := []) (A := []) (rst := [Row 9 1 y51v.1 s49v.1.length y51v.2 rs60v.flatten, F]) rfl rfl rfl rfl rfl rfl Tryd.call14 (.sel 0 rfl (.sel 0 rfl (.nil _))) (synodref_SameTexts.calls _ _ k y51v.1 y51v.2 s49v.1 a0 c0 x0 ((Rd.asV hl61v hq62v).up (Up.lend 0 rfl) (fun _ _ h => h)) hq63v hq64v (h0.up (Up.lend 1 rfl) (fun _ _ h => h)) hc0 hm0) hs67v) rfl rfl rfl ?_
 intro y68v
 refine va rfl rfl (nx ?_)
 refine vm rfl rfl ?_
 refine vm rfl rfl ?_
 refine simL_cut' 4 (S := Bool) (Unit) (fun s y => [(84, .bool s)]) (fun s y => [F]) ?_ ?_
 refine simL_caseb (fun hb74v => ?_) (fun hb75v => ?_)
 rw [hb74v]
 refine simL_valg (q_move rfl rfl) rfl rfl rfl rfl rfl rfl ?_
 refine simL_bind (fun s71v hs72v => ?_)
 refine simL_effg (re_call (vs := [.int .i64 s49v.2]) (cap := []) (A := []) (rst := [Row 9 1 y51v.1 s49v.1.length y51v.2 rs60v.flatten, F]) rfl rfl rfl rfl rfl rfl Tryd.call15 (.sel 0 rfl (.sel 0 rfl (.nil _))) (synodref_Num.calls _ _ s49v.2 ) hs72v) rfl rfl rfl rfl rfl rfl ?_
 intro y73v
 refine simL_valg (q_eql rfl rfl rfl) rfl rfl rfl rfl rfl rfl ?_
 refine vq (q_pick rfl rfl rfl rfl rfl) rfl (simL_nil ?_)
 exact nrm_cut (s := decide (s71v = (0 : Int))) () ⟨rfl, trivial⟩ (.sel 1 rfl (.nil _))
 rw [hb75v]
 refine simL_skipd rfl rfl rfl rfl rfl rfl ?_
 refine simL_skipd rfl rfl rfl rfl rfl rfl ?_
 refine simL_skipd rfl rfl rfl rfl rfl rfl ?_
 refine vq (q_pick rfl rfl rfl rfl rfl) rfl (simL_nil ?_)
 exact nrm_cut (s := false) () ⟨rfl, trivial⟩ (.sel 1 rfl (.nil _))
 intro s69v y70v
 refine va rfl rfl (simL_nil (nrm_then (sim_rtn ?_)))
 exact rtn_fn () rfl rfl rfl (.sel 0 rfl (.nil _))
end Go.Proofs.YtbcnegennmpliaaDoor

namespace Go.Proofs.YtbcnegennmpliaaDoor
set_option linter.unusedVariables false
set_option linter.unusedSimpArgs false
open Go.RowKit

theorem w64 {n : Int} (h0 : -9223372036854775808 ≤ n) (h1 : n ≤ 9223372036854775807) : IntKind.i64.wrap n = n := by rw [IntKind.wrap_i64]; omega
theorem w8 {n : Int} (h0 : 0 ≤ n) (h1 : n < 256) : IntKind.u8.wrap n = n := by rw [IntKind.wrap_u8]; omega
end Go.Proofs.YtbcnegennmpliaaDoor

namespace Go.Proofs.YtbcnegennmpliaaDoor
set_option linter.unusedVariables false
set_option linter.unusedSimpArgs false
open Go.RowKit
abbrev hexs : List UInt8 := [48, 49, 50, 51, 52, 53, 54, 55, 56, 57, 97, 98, 99, 100, 101, 102]
def plainB (c : UInt8) : Bool := decide (32 ≤ c.toNat) && decide (c.toNat ≤ 126)
def bareB (c : UInt8) : Bool := plainB c && !decide (c.toNat = 32) && !decide (c.toNat = 34)
def hexI (c : UInt8) : Int := Lib.indexByte hexs c
def escB (a b : UInt8) : Option UInt8 := if 0 ≤ hexI a ∧ 0 ≤ hexI b ∧ plainB (byte (16 * hexI a + hexI b)) = false then some (byte (16 * hexI a + hexI b)) else none
def qd : List UInt8 → Option (List UInt8 × List UInt8)
  | [] => none
  | c :: t =>
    if c.toNat = 34 then some ([], t)
    else if plainB c = false then none
    else if c.toNat ≠ 92 then (qd t).map fun p => (c :: p.1, p.2)
    else match t with
      | [] => none
      | d :: t1 =>
        if d.toNat = 34 ∨ d.toNat = 92 then (qd t1).map fun p => (d :: p.1, p.2)
        else match t1 with
          | h :: l :: t2 => if d.toNat = 120 then (escB h l).bind fun x => (qd t2).map fun p => (x :: p.1, p.2) else none
          | _ => none
theorem qd_nil : qd [] = none := by rw [qd.eq_def]
theorem qd_cons (c : UInt8) (t : List UInt8) : qd (c :: t) =
    if c.toNat = 34 then some ([], t)
    else if plainB c = false then none
    else if c.toNat ≠ 92 then (qd t).map fun p => (c :: p.1, p.2)
    else match t with
      | [] => none
      | d :: t1 =>
        if d.toNat = 34 ∨ d.toNat = 92 then (qd t1).map fun p => (d :: p.1, p.2)
        else match t1 with
          | h :: l :: t2 => if d.toNat = 120 then (escB h l).bind fun x => (qd t2).map fun p => (x :: p.1, p.2) else none
          | _ => none := by rw [qd.eq_def]
theorem getD_at {α : Type} {l : List α} {i : Nat} {d : α} (h : i < l.length) : l.getD i d = l[i] := by
  rw [List.getD_eq_getElem?_getD, List.getElem?_eq_getElem h]; rfl
theorem u8_all {p : UInt8 → Bool} (h : ((List.range 256).all fun n => p (UInt8.ofNat n)) = true) (c : UInt8) : p c = true := by
  have := List.all_eq_true.1 h c.toNat (List.mem_range.2 (UInt8.toNat_lt c))
  simpa using this
theorem hexI_lt (c : UInt8) : -1 ≤ hexI c ∧ hexI c ≤ 15 := by
  have := u8_all (p := fun c => decide (-1 ≤ hexI c) && decide (hexI c ≤ 15)) (by decide +kernel) c
  simpa using this
theorem getD_cons_of {l : List UInt8} {i : Nat} (h : i < l.length) : l.drop i = l.getD i 0 :: l.drop (i + 1) := by
  rw [List.getD_eq_getElem?_getD, List.getElem?_eq_getElem h]
  exact List.drop_eq_getElem_cons h
theorem wi1 {n : Nat} (h : n < 2 ^ 61) : IntKind.i64.wrap ((n : Int) + 1) = ((n + 1 : Nat) : Int) := by rw [w64 (by omega) (by omega)]; simp
theorem wi3 {n : Nat} (h : n < 2 ^ 61) : IntKind.i64.wrap ((n : Int) + 3) = ((n + 3 : Nat) : Int) := by rw [w64 (by omega) (by omega)]; simp
theorem plain_f (c : UInt8) : text_plain.f (c.toNat : Int) = some (plainB c) := by
  unfold text_plain.f plainB
  congr 1
  rw [show decide ((32 : Int) ≤ (c.toNat : Int)) = decide (32 ≤ c.toNat) by congr 1; exact propext (by omega), show decide ((c.toNat : Int) ≤ 126) = decide (c.toNat ≤ 126) by congr 1; exact propext (by omega)]
theorem bare_f (c : UInt8) : text_bare.f (c.toNat : Int) = some (bareB c) := by
  unfold text_bare.f bareB
  rw [plain_f, Option.bind_some]
  congr 3
  · congr 2; exact propext (by omega)
  · congr 1; exact propext (by omega)
theorem hexw {a b : Int} (ha : 0 ≤ a ∧ a ≤ 15) (hb : 0 ≤ b ∧ b ≤ 15) : IntKind.u8.wrap (IntKind.i64.wrap ((IntKind.i64.wrap (16 * a)) + b)) = 16 * a + b := by
  rw [w64 (n := 16 * a) (by omega) (by omega), w64 (by omega) (by omega), w8 (by omega) (by omega)]
theorem byte_eq {n : Int} (h0 : 0 ≤ n) (h1 : n < 256) : ((byte n).toNat : Int) = n := byte_toNat h0 h1
theorem escaped_f (s : List UInt8) : text_escaped.f s = some (match s with
    | d :: h :: l :: _ => if d.toNat = 120 then (IntKind.u8.wrap (IntKind.i64.wrap ((IntKind.i64.wrap (16 * hexI h)) + hexI l)), (escB h l).isSome) else (0, false)
    | _ => (0, false)) := by
  unfold text_escaped.f
  rcases s with _ | ⟨d, _ | ⟨h, _ | ⟨l, t⟩⟩⟩
  · simp
  · simp
  · simp
  · have e1 : ¬ (((d :: h :: l :: t).length : Int) < 3) := by simp; omega
    rw [if_neg e1, if_pos (by simp; omega)]
    simp only [Option.bind_some, List.getD_cons_zero, show (0 : Int).toNat = 0 from rfl, show (1 : Int).toNat = 1 from rfl, show (2 : Int).toNat = 2 from rfl]
    by_cases hd : d.toNat = 120
    · rw [if_neg (by simp [hd]), if_pos (by simp; omega), if_pos hd]
      simp only [List.getD_cons_succ, List.getD_cons_zero]
      rw [strings_IndexByte.f, Option.bind_some, if_pos (by simp; omega), strings_IndexByte.f, Option.bind_some]
      have eh : ∀ c : UInt8, ((c.toNat : Int).toNat).toUInt8 = c := fun c => by simp
      rw [eh, eh]
      have ei : ∀ c : UInt8, Lib.indexByte [48, 49, 50, 51, 52, 53, 54, 55, 56, 57, 97, 98, 99, 100, 101, 102] c = hexI c := fun _ => rfl
      simp only [ei]
      unfold escB
      by_cases h1 : 0 ≤ hexI h ∧ 0 ≤ hexI l
      · have b1 := hexI_lt h
        have b2 := hexI_lt l
        rw [if_pos (by simp [h1])]
        rw [hexw ⟨h1.1, b1.2⟩ ⟨h1.2, b2.2⟩, ← byte_eq (n := 16 * hexI h + hexI l) (by omega) (by omega), plain_f, Option.bind_some, Option.bind_some]
        rw [byte_eq (by omega) (by omega)]
        cases plainB (byte (16 * hexI h + hexI l)) <;> simp [h1] <;> exact hexw ⟨h1.1, b1.2⟩ ⟨h1.2, b2.2⟩
      · rw [if_neg (by simpa using h1), Option.bind_some, if_neg (fun x => h1 ⟨x.1, x.2.1⟩)]
        rfl
    · rw [if_pos (by simp; omega), if_neg hd]
end Go.Proofs.YtbcnegennmpliaaDoor

namespace Go.Proofs.YtbcnegennmpliaaDoor
set_option linter.unusedVariables false
set_option linter.unusedSimpArgs false
open Go.RowKit
abbrev QR := Option (List UInt8 × List UInt8)
def qres (n : Nat) (b : List UInt8) (q : QR) : List UInt8 × Int := match q with
  | some p => (b ++ p.1, ((n - p.2.length : Nat) : Int))
  | none => ([], 0)
theorem qres_cons {n : Nat} {b : List UInt8} {c : UInt8} {q : QR} : qres n (b ++ [c]) q = qres n b (q.map fun p => (c :: p.1, p.2)) := by
  cases q <;> simp [qres]
theorem pre1 {l : List UInt8} {z : UInt8} : Lib.hasPrefix l [z] = (match l with | d :: _ => decide (d.toNat = z.toNat) | [] => false) := by
  cases l with
  | nil => rfl
  | cons d t =>
    show (z == d && _) = _
    rw [List.isPrefixOf, Bool.and_true]
    by_cases h : d = z
    · subst h; simp
    · rw [show (z == d) = false from by simpa using fun e => h e.symm]
      simp only [decide_eq_false (fun e => h (UInt8.toNat_inj.1 e)), Bool.false_and]
theorem drop_cons {x : List UInt8} {i : Nat} {d : UInt8} {t : List UInt8} (h : x.drop i = d :: t) : i < x.length ∧ x.drop (i + 1) = t := by
  have hl : i < x.length := by
    rcases Nat.lt_or_ge i x.length with hh | hh
    · exact hh
    · rw [List.drop_of_length_le hh] at h; cases h
  refine ⟨hl, ?_⟩
  rw [List.drop_eq_getElem_cons hl] at h
  exact (List.cons.inj h).2
theorem quoted_l0 {x : List UInt8} (hx : x.length < 2 ^ 40) : ∀ (k : Nat) (b : List UInt8) (i : Nat), x.length - i < k → i ≤ x.length → b.length ≤ i →
    orR (text_quoted.l0 x k b (i : Int)) (fun _ => some (([] : List UInt8), (0 : Int))) = some (qres x.length b (qd (x.drop i)))
  | 0, b, i, h, _, _ => by omega
  | k + 1, b, i, hk, hi, hb => by
    rw [text_quoted.l0]
    by_cases hlt : i < x.length
    · have ed := getD_cons_of hlt
      have e1 := wi1 (n := i) (by omega)
      simp only [Int.toNat_natCast]
      rw [if_pos (by omega), if_pos (by omega), e1, if_pos (by omega), ed]
      generalize hc : x.getD i 0 = c
      rw [hc] at ed
      have ecut : cut x ((i + 1 : Nat) : Int) (x.length : Int) = x.drop (i + 1) := by rw [cut_to]; simp
      simp only [ecut]
      by_cases h34 : c.toNat = 34
      · rw [if_pos (by omega), qd_cons, if_pos h34]
        simp only [orR, qres, List.append_nil]
        have : (x.drop (i + 1)).length = x.length - (i + 1) := by simp
        rw [this]
        congr 3
        omega
      · rw [if_neg (by omega), plain_f, Option.bind_some, qd_cons, if_neg h34]
        by_cases hp : plainB c = false
        · rw [if_pos (by simp [hp]), if_pos hp]; rfl
        · rw [if_neg (by simp [hp]), if_neg hp]
          by_cases h92 : c.toNat = 92
          · have n92 : ¬ (c.toNat ≠ 92) := by simp [h92]
            rw [if_pos (show (c.toNat : Int) = 92 by omega), if_neg n92]
            simp only [strings_HasPrefix.f, Option.bind_some, pre1]
            rcases hd : x.drop (i + 1) with _ | ⟨d, t1⟩
            · simp only [Bool.false_eq_true, if_false, Option.bind_some, escaped_f]
              rfl
            · obtain ⟨hl1, ht1⟩ := drop_cons hd
              simp only []
              by_cases hq : d.toNat = 34 ∨ d.toNat = 92
              · rw [if_pos hq]
                have e3 : (if decide (d.toNat = (34 : UInt8).toNat) = true then some true else some (decide (d.toNat = (92 : UInt8).toNat))) = some true := by
                  rcases hq with hq | hq
                  · rw [if_pos (by simp [hq])]
                  · rw [if_neg (by simp [hq])]; simp [hq]
                rw [e3, Option.bind_some, if_pos rfl, if_pos (by simp <;> omega)]
                simp only [show (0 : Int).toNat = 0 from rfl, List.getD_cons_zero]
                rw [if_pos (by simp <;> omega)]
                have e2 := wi1 (n := i + 1) (by omega)
                rw [e2, quoted_l0 hx k (b ++ [d]) (i + 1 + 1) (by omega) (by omega) (by simp <;> omega), ht1, qres_cons]
              · rw [if_neg hq]
                have e3 : (if decide (d.toNat = (34 : UInt8).toNat) = true then some true else some (decide (d.toNat = (92 : UInt8).toNat))) = some false := by
                  rw [if_neg (by simp; exact fun h => hq (.inl h))]
                  congr 1
                  simp
                  exact fun h => hq (.inr h)
                rw [e3, Option.bind_some, if_neg (by simp), escaped_f, Option.bind_some]
                rcases t1 with _ | ⟨h, _ | ⟨l, t2⟩⟩
                · simp [orR, qres]
                · simp [orR, qres]
                · obtain ⟨hl2, ht2⟩ := drop_cons ht1
                  obtain ⟨hl3, ht3⟩ := drop_cons ht2
                  simp only []
                  by_cases hxd : d.toNat = 120
                  · rw [if_pos hxd, if_pos hxd]
                    unfold escB
                    by_cases h1 : 0 ≤ hexI h ∧ 0 ≤ hexI l ∧ plainB (byte (16 * hexI h + hexI l)) = false
                    · have b1 := hexI_lt h
                      have b2 := hexI_lt l
                      rw [if_pos h1]
                      simp only [Option.isSome_some, Bool.not_true, Bool.false_eq_true, if_false, Option.bind_some]
                      rw [hexw ⟨h1.1, b1.2⟩ ⟨h1.2.1, b2.2⟩, if_pos (by omega), if_pos (by simp <;> omega)]
                      have e2 := wi3 (n := i) (by omega)
                      have e4 := wi1 (n := i + 3) (by omega)
                      rw [e2, e4, quoted_l0 hx k _ (i + 3 + 1) (by omega) (by omega) (by simp <;> omega), ht3, qres_cons]
                    · rw [if_neg h1]
                      simp [orR, qres]
                  · rw [if_neg hxd, if_neg hxd]
                    simp [orR, qres]
          · rw [if_neg (show ¬ (c.toNat : Int) = 92 by omega), if_pos h92, if_pos (by simp <;> omega), quoted_l0 hx k _ (i + 1) (by omega) (by omega) (by simp <;> omega), qres_cons]
    · rw [if_neg (by omega)]
      have : x.drop i = [] := List.drop_of_length_le (by omega)
      rw [this, qd_nil]
      rfl
theorem quoted_f {x : List UInt8} {k : Nat} (hx : x.length < 2 ^ 40) (hk : x.length < k) : text_quoted.f k x = some (qres x.length [] (qd x)) := by
  have := quoted_l0 hx k [] 0 (by omega) (by omega) (by simp)
  simpa [text_quoted.f] using this
/-! ### The document's -/
end Go.Proofs.YtbcnegennmpliaaDoor

namespace Go.Proofs.YtbcnegennmpliaaDoor
set_option linter.unusedVariables false
set_option linter.unusedSimpArgs false
open Go.RowKit
def endB (r : List UInt8) : Bool := match r with
  | [] => true
  | c :: _ => decide (c.toNat = 32)
def wd : Nat → List UInt8 → Option (List (List UInt8))
  | _, [] => some []
  | 0, _ => none
  | n + 1, c :: t =>
    if c.toNat = 32 then wd n t
    else if c.toNat = 34 then (qd t).bind fun p => if endB p.2 then (wd n p.2).map fun l => p.1 :: l else none
    else if endB ((c :: t).dropWhile bareB) then (wd n ((c :: t).dropWhile bareB)).map fun l => (c :: t).takeWhile bareB :: l else none
def wres (out : List (List UInt8)) (q : Option (List (List UInt8))) : List (List UInt8) × Int := match q with
  | some l => (out ++ l, 0)
  | none => ([], 4)
theorem wres_cons {out : List (List UInt8)} {c : List UInt8} {q : Option (List (List UInt8))} : wres (out ++ [c]) q = wres out (q.map fun l => c :: l) := by
  cases q <;> simp [wres]
def wordsB (x : List UInt8) : List (List UInt8) × Int := if 4096 < x.length then ([], 3) else wres [] (wd (x.length + 1) x)
theorem qd_suf : ∀ (n : Nat) (t a r : List UInt8), t.length ≤ n → qd t = some (a, r) → ∃ p, t = p ++ r ∧ a.length < p.length
  | _, [], a, r, _, h => by rw [qd_nil] at h; cases h
  | 0, c :: t, a, r, hn, _ => by simp at hn
  | n + 1, c :: t, a, r, hn, h => by
    have hn' : t.length ≤ n := by simpa using hn
    rw [qd_cons] at h
    split at h
    · cases h; exact ⟨[c], rfl, by simp⟩
    split at h
    · cases h
    split at h
    · cases hq : qd t with
      | none => rw [hq] at h; cases h
      | some p =>
        rw [hq] at h
        obtain ⟨q, e1, e2⟩ := qd_suf n t p.1 p.2 hn' hq
        simp only [Option.map_some, Option.some.injEq, Prod.mk.injEq] at h
        obtain ⟨rfl, rfl⟩ := h
        exact ⟨c :: q, by rw [List.cons_append, ← e1], by simp; omega⟩
    · rcases t with _ | ⟨d, t1⟩
      · cases h
      · simp only [] at h
        have hn1 : t1.length ≤ n := by simp at hn'; omega
        split at h
        · cases hq : qd t1 with
          | none => rw [hq] at h; cases h
          | some p =>
            rw [hq] at h
            obtain ⟨q, e1, e2⟩ := qd_suf n t1 p.1 p.2 hn1 hq
            simp only [Option.map_some, Option.some.injEq, Prod.mk.injEq] at h
            obtain ⟨rfl, rfl⟩ := h
            exact ⟨c :: d :: q, by rw [List.cons_append, List.cons_append, ← e1], by simp; omega⟩
        · rcases t1 with _ | ⟨h1, _ | ⟨l1, t2⟩⟩
          · cases h
          · cases h
          · simp only [] at h
            split at h
            · cases he : escB h1 l1 with
              | none => rw [he] at h; cases h
              | some x =>
                rw [he, Option.bind_some] at h
                cases hq : qd t2 with
                | none => rw [hq] at h; cases h
                | some p =>
                  rw [hq] at h
                  obtain ⟨q, e1, e2⟩ := qd_suf n t2 p.1 p.2 (by simp at hn1; omega) hq
                  simp only [Option.map_some, Option.some.injEq, Prod.mk.injEq] at h
                  obtain ⟨rfl, rfl⟩ := h
                  exact ⟨c :: d :: h1 :: l1 :: q, by simp only [List.cons_append]; rw [← e1], by simp; omega⟩
            · cases h
theorem run_l1 {x : List UInt8} (hx : x.length < 2 ^ 40) : ∀ (k i : Nat), x.length - i < k → i ≤ x.length → text_Words.l1 x k (i : Int) = some ((i + ((x.drop i).takeWhile bareB).length : Nat) : Int)
  | 0, i, h, _ => by omega
  | k + 1, i, hk, hi => by
    rw [text_Words.l1]
    by_cases hlt : i < x.length
    · have ed := getD_cons_of hlt
      simp only [Int.toNat_natCast]
      rw [if_pos (by omega), if_pos (by omega), bare_f, Option.bind_some, Option.bind_some, wi1 (by omega), ed, List.takeWhile_cons]
      cases hb : bareB (x.getD i 0) with
      | true =>
        rw [if_pos rfl, if_pos rfl, run_l1 hx k (i + 1) (by omega) (by omega)]
        simp; omega
      | false => simp
    · rw [if_neg (by omega), Option.bind_some, if_neg (by simp), List.drop_of_length_le (by omega)]
      simp
theorem tw_len (p : UInt8 → Bool) : ∀ l : List UInt8, (l.takeWhile p).length + (l.dropWhile p).length = l.length
  | [] => rfl
  | c :: l => by
    have := tw_len p l
    rw [List.takeWhile_cons, List.dropWhile_cons]
    cases p c <;> simp <;> omega
theorem drop_tw (p : UInt8 → Bool) : ∀ l : List UInt8, l.drop (l.takeWhile p).length = l.dropWhile p
  | [] => rfl
  | c :: l => by
    have := drop_tw p l
    rw [List.takeWhile_cons, List.dropWhile_cons]
    cases p c <;> simp [this]
theorem take_tw (p : UInt8 → Bool) : ∀ l : List UInt8, l.take (l.takeWhile p).length = l.takeWhile p
  | [] => rfl
  | c :: l => by
    have := take_tw p l
    rw [List.takeWhile_cons]
    cases p c <;> simp [this]
theorem endB_at {x : List UInt8} {i : Nat} (hi : i ≤ x.length) : (if (i : Int) < (x.length : Int) then (if 0 ≤ (i : Int) ∧ (i : Int) < (x.length : Int) then (some (!decide (((x.getD i 0).toNat : Int) = (32 : Int)))) else none) else (some false)) = some (!endB (x.drop i)) := by
  by_cases hlt : i < x.length
  · rw [if_pos (by omega), if_pos (by omega), getD_cons_of hlt, endB]
    congr 3; exact propext (by omega)
  · rw [if_neg (by omega), List.drop_of_length_le (by omega)]; rfl
theorem endB_at3 {x : List UInt8} {i : Nat} (hi : i ≤ x.length) : ((if (i : Int) < (x.length : Int) then (if 0 ≤ (i : Int) ∧ (i : Int) < (x.length : Int) then (some (true, true, !decide (((x.getD i 0).toNat : Int) = (32 : Int)))) else none) else (some (false, false, false))).bind fun s => some s.2.2) = some (!endB (x.drop i)) := by
  by_cases hlt : i < x.length
  · rw [if_pos (by omega), if_pos (by omega), getD_cons_of hlt, endB]
    simp only [Option.bind_some]
    congr 3; exact propext (by omega)
  · rw [if_neg (by omega), List.drop_of_length_le (by omega)]; rfl
theorem wadd {n m : Nat} (h : n + m < 2 ^ 61) : IntKind.i64.wrap ((n : Int) + (m : Int)) = ((n + m : Nat) : Int) := by rw [w64 (by omega) (by omega)]; simp
theorem w1i {m : Nat} (h : m < 2 ^ 61) : IntKind.i64.wrap (1 + (m : Int)) = ((m + 1 : Nat) : Int) := by rw [w64 (by omega) (by omega)]; simp; omega
theorem wd_nil (n : Nat) : wd n [] = some [] := by cases n <;> rfl
theorem words_l0 {x : List UInt8} (hx : x.length ≤ 4096) : ∀ (k n : Nat) (out : List (List UInt8)) (i : Nat), x.length - i < n → x.length - i + x.length + 1 < k → i ≤ x.length → out.length ≤ i →
    orR (text_Words.l0 x k out (i : Int)) (fun s => some (s, (0 : Int))) = some (wres out (wd n (x.drop i)))
  | 0, n, out, i, _, h, _, _ => by omega
  | k + 1, 0, out, i, h, _, _, _ => by omega
  | k + 1, n + 1, out, i, hn, hk, hi, ho => by
    rw [text_Words.l0]
    by_cases hlt : i < x.length
    · have ed := getD_cons_of hlt
      have e1 := wi1 (n := i) (by omega)
      simp only [Int.toNat_natCast]
      rw [if_pos (by omega), if_pos (by omega), e1, ed]
      obtain ⟨c, hc⟩ : ∃ c, x.getD i 0 = c := ⟨_, rfl⟩
      simp only [hc] at ed ⊢
      have ecut : cut x ((i + 1 : Nat) : Int) (x.length : Int) = x.drop (i + 1) := by rw [cut_to]; simp
      simp only [ecut]
      rw [wd]
      by_cases h32 : c.toNat = 32
      · rw [if_pos (show (c.toNat : Int) = 32 by omega), if_pos h32, words_l0 hx k n out (i + 1) (by omega) (by omega) (by omega) (by omega)]
      · rw [if_neg (show ¬ (c.toNat : Int) = 32 by omega), if_neg h32, if_pos (by omega)]
        by_cases h34 : c.toNat = 34
        · rw [if_pos (show (c.toNat : Int) = 34 by omega), if_pos h34, if_pos (by omega), quoted_f (by simp; omega) (by simp; omega), Option.bind_some]
          cases hq : qd (x.drop (i + 1)) with
          | none =>
            simp only [qres, Option.bind_none]
            rfl
          | some p =>
            obtain ⟨a, r⟩ := p
            obtain ⟨q, eq, ha⟩ := qd_suf _ _ a r (Nat.le_refl _) hq
            have hlen := congrArg List.length eq
            simp only [List.length_drop, List.length_append] at hlen
            have er : (x.drop (i + 1)).length - r.length = q.length := by simp; omega
            have edr : x.drop (i + (q.length + 1)) = r := by
              rw [show i + (q.length + 1) = (i + 1) + q.length by omega, ← List.drop_drop, eq, List.drop_left]
            simp only [qres, List.nil_append, Option.bind_some, er]
            rw [if_neg (by omega), w1i (by omega), wadd (by omega)]
            simp only [Int.toNat_natCast]
            rw [endB_at3 (by omega), Option.bind_some, edr]
            cases he : endB r with
            | false => rfl
            | true =>
              rw [if_neg (by simp), if_pos (by simp; omega), if_pos rfl, words_l0 hx k n _ (i + (q.length + 1)) (by omega) (by omega) (by omega) (by simp; omega), edr, wres_cons]
        · rw [if_neg (show ¬ (c.toNat : Int) = 34 by omega), if_neg h34, run_l1 (by omega) k i (by omega) hi, Option.bind_some, ed]
          have tl := tw_len bareB (c :: x.drop (i + 1))
          have hl2 : (c :: x.drop (i + 1)).length = x.length - i := by rw [← ed]; simp
          rw [hl2] at tl
          have edr : x.drop (i + ((c :: x.drop (i + 1)).takeWhile bareB).length) = (c :: x.drop (i + 1)).dropWhile bareB := by
            rw [← List.drop_drop, ed, drop_tw]
          simp only [Int.toNat_natCast]
          rw [endB_at (by omega), Option.bind_some, edr]
          cases he : endB ((c :: x.drop (i + 1)).dropWhile bareB) with
          | false => rfl
          | true =>
            have hpos : 0 < ((c :: x.drop (i + 1)).takeWhile bareB).length := by
              rw [List.takeWhile_cons]
              cases hb : bareB c with
              | true => simp
              | false =>
                rw [List.dropWhile_cons, hb] at he
                simp [endB, h32] at he
            have ecw : cut x (i : Int) ((i + ((c :: x.drop (i + 1)).takeWhile bareB).length : Nat) : Int) = (c :: x.drop (i + 1)).takeWhile bareB := by
              unfold cut
              simp only [Int.toNat_natCast]
              rw [List.drop_take, ed, Nat.add_sub_cancel_left]
              exact take_tw bareB (c :: x.drop (i + 1))
            rw [if_neg (by simp), if_pos (by omega), if_pos (by simp; omega), if_pos rfl, words_l0 hx k n _ _ (by omega) (by omega) (by omega) (by simp; omega), edr, ecw, wres_cons]
    · rw [if_neg (by omega), List.drop_of_length_le (by omega), wd_nil]
      simp [orR, wres]
theorem words_f {x : List UInt8} {k : Nat} (hk : 2 * x.length + 1 < k) : text_Words.f k x = some (wordsB x) := by
  unfold text_Words.f wordsB
  by_cases h : 4096 < x.length
  · rw [if_pos (by omega), if_pos h]
  · rw [if_neg (by omega), if_neg h]
    have := words_l0 (x := x) (by omega) k (x.length + 1) [] 0 (by omega) (by omega) (by omega) (by simp)
    simpa using this
end Go.Proofs.YtbcnegennmpliaaDoor

namespace Go.Proofs.YtbcnegennmpliaaDoor
set_option linter.unusedVariables false
set_option linter.unusedSimpArgs false
open Go.RowKit
def encC (c : UInt8) : List UInt8 :=
  if c.toNat = 34 ∨ c.toNat = 92 then [92, c]
  else if plainB c then [c]
  else [92, 120, hexs.getD (c.toNat / 16) 0, hexs.getD (c.toNat % 16) 0]
def headB (s : List UInt8) : Bool := match s with
  | [] => false
  | c :: _ => !decide (c.toNat = 35)
def bareW (s : List UInt8) : Bool := headB s && s.all bareB
def quoteB (s : List UInt8) : List UInt8 := if bareW s then s else 34 :: (s.flatMap encC ++ [34])
theorem encC_len (c : UInt8) : 1 ≤ (encC c).length ∧ (encC c).length ≤ 4 := by
  unfold encC
  split
  · simp
  · split <;> simp
theorem enc_len : ∀ s : List UInt8, (s.flatMap encC).length ≤ 4 * s.length
  | [] => by simp
  | c :: s => by
    have := enc_len s
    have := encC_len c
    simp only [List.flatMap_cons, List.length_append, List.length_cons]; omega
theorem quote_len (s : List UInt8) : (quoteB s).length ≤ 4 * s.length + 2 := by
  unfold quoteB
  have := enc_len s
  split
  · omega
  · simp only [List.length_cons, List.length_append, List.length_nil]; omega
theorem q_l0 {x : List UInt8} (hx : x.length < 2 ^ 40) : ∀ (k : Nat) (z : Bool) (i : Nat), x.length - i < k → i ≤ x.length → text_Quote.l0 x k z (i : Int) = some (z && (x.drop i).all bareB)
  | 0, z, i, h, _ => by omega
  | k + 1, z, i, hk, hi => by
    rw [text_Quote.l0]
    by_cases hlt : i < x.length
    · rw [if_pos (by omega), wi1 (by omega), getD_cons_of hlt]
      simp only [Int.toNat_natCast]
      cases z with
      | true => rw [if_pos rfl, if_pos (by omega), bare_f, Option.bind_some, Option.bind_some, q_l0 hx k _ (i + 1) (by omega) (by omega)]; simp
      | false => rw [if_neg (by simp), Option.bind_some, q_l0 hx k _ (i + 1) (by omega) (by omega)]; simp
    · rw [if_neg (by omega), List.drop_of_length_le (by omega)]; simp
theorem q_l1 {x : List UInt8} (hx : x.length < 2 ^ 40) : ∀ (k : Nat) (z : List UInt8) (i : Nat), x.length - i < k → i ≤ x.length → z.length ≤ 4 * i + 1 → text_Quote.l1 x k z (i : Int) = some (z ++ (x.drop i).flatMap encC)
  | 0, z, i, h, _, _ => by omega
  | k + 1, z, i, hk, hi, hz => by
    rw [text_Quote.l1]
    by_cases hlt : i < x.length
    · rw [if_pos (by omega), if_pos (by omega), wi1 (by omega), getD_cons_of hlt, List.flatMap_cons]
      simp only [Int.toNat_natCast]
      obtain ⟨c, hc⟩ : ∃ c, x.getD i 0 = c := ⟨_, rfl⟩
      simp only [hc]
      rw [encC]
      by_cases h1 : c.toNat = 34 ∨ c.toNat = 92
      · rw [if_pos (by simp; omega), if_pos (by simp; omega), if_pos h1, q_l1 hx k _ (i + 1) (by omega) (by omega) (by simp; omega), List.append_assoc]
      · rw [if_neg (by simp; omega), if_neg h1, plain_f, Option.bind_some]
        cases hp : plainB c with
        | true => rw [if_pos rfl, if_pos rfl, if_pos (by simp; omega), q_l1 hx k _ (i + 1) (by omega) (by omega) (by simp; omega), List.append_assoc]
        | false =>
          have hc := UInt8.toNat_lt c
          have e1 : Int.tdiv (c.toNat : Int) 16 = ((c.toNat / 16 : Nat) : Int) := by rw [Int.tdiv_eq_ediv_of_nonneg (by omega)]; simp
          have e2 : Int.tmod (c.toNat : Int) 16 = ((c.toNat % 16 : Nat) : Int) := by rw [Int.tmod_eq_emod_of_nonneg (by omega)]; simp
          rw [if_neg Bool.false_ne_true, e1, e2, w8 (by omega) (by omega)]
          simp only [Int.toNat_natCast]
          rw [if_pos (by simp; omega), if_pos (by simp; omega), if_pos (by simp; omega), if_neg Bool.false_ne_true, q_l1 hx k _ (i + 1) (by omega) (by omega) (by simp; omega), List.append_assoc]
    · rw [if_neg (by omega), List.drop_of_length_le (by omega)]; simp
theorem quote_f {x : List UInt8} {k : Nat} (hx : x.length < 2 ^ 40) (hk : x.length < k) : text_Quote.f k x = some (quoteB x) := by
  unfold text_Quote.f
  have e0 : (if x = ([] : List UInt8) then (some false) else (if 0 ≤ (0 : Int) ∧ (0 : Int) < (x.length : Int) then (some (!decide (((x.getD (0 : Int).toNat 0).toNat : Int) = (35 : Int)))) else none)) = some (headB x) := by
    cases x with
    | nil => rfl
    | cons c t =>
      rw [if_neg (by simp), if_pos (by simp)]
      simp only [show (0 : Int).toNat = 0 from rfl, List.getD_cons_zero]
      show some (!decide ((c.toNat : Int) = 35)) = some (!decide (c.toNat = 35))
      congr 3; exact propext (by omega)
  have e1 := fun z => q_l0 hx k z 0 (by omega) (by omega)
  have e2 := q_l1 hx k [34] 0 (by omega) (by omega) (by simp)
  have := enc_len x
  simp only [List.drop_zero] at e1 e2
  rw [e0, Option.bind_some]
  rw [show (0 : Int) = ((0 : Nat) : Int) from rfl, e1, Option.bind_some, e2, Option.bind_some]
  unfold quoteB bareW
  by_cases hw : (headB x && x.all bareB) = true
  · rw [if_pos hw, if_pos hw]
  · rw [if_neg hw, if_neg hw, if_pos (by simp only [List.length_append, List.length_cons, List.length_nil]; omega)]; simp
end Go.Proofs.YtbcnegennmpliaaDoor

namespace Go.Proofs.YtbcnegennmpliaaDoor
set_option linter.unusedVariables false
set_option linter.unusedSimpArgs false
open Go.RowKit
theorem texts_loop (x y : List (List UInt8)) (hl : x.length = y.length) (hm : x.length < 2 ^ 62) : ∀ (d i k : Nat), i + d = x.length → d + 1 ≤ k → x.take i = y.take i →
    (orR (synodref_SameTexts.l0 x y k (i : Int)) fun _ => some true) = some (decide (x = y))
  | d, i, 0, _, hk, _ => by omega
  | 0, i, k + 1, hd, hk, ht => by
    simp only [synodref_SameTexts.l0]
    rw [if_neg (by omega)]
    have : x = y := by rwa [List.take_of_length_le (by omega), List.take_of_length_le (by omega)] at ht
    simp [orR, this]
  | d + 1, i, k + 1, hd, hk, ht => by
    simp only [synodref_SameTexts.l0]
    rw [if_pos (by omega), if_pos (by omega), if_pos (by omega)]
    have hix : i < x.length := by omega
    have hiy : i < y.length := by omega
    simp only [Int.toNat_natCast]
    by_cases he : x[i] = y[i]
    · rw [if_pos (by rw [getD_at hix, getD_at hiy, he]), w64 (by omega) (by omega)]
      exact texts_loop x y hl hm d (i + 1) k (by omega) (by omega) (by rw [List.take_succ_eq_append_getElem hix, List.take_succ_eq_append_getElem hiy, ht, he])
    · rw [if_neg (by rw [getD_at hix, getD_at hiy]; exact he)]
      have : x ≠ y := by rintro rfl; exact he rfl
      simp [orR, this]
theorem SameTexts_eq {k : Nat} {x y : List (List UInt8)} (hm : x.length < 2 ^ 62) (hk : x.length + 1 ≤ k) : synodref_SameTexts.f k x y = some (decide (x = y)) := by
  unfold synodref_SameTexts.f
  by_cases h : x.length = y.length
  · rw [if_pos (by omega)]
    exact texts_loop x y h hm x.length 0 k (by omega) hk rfl
  · rw [if_neg (by omega)]
    have : x ≠ y := by rintro rfl; exact h rfl
    simp [this]
theorem first_eq (m : Nat) : synodlaw17_first.f (m + 60) = some true := by kernel_rfl
end Go.Proofs.YtbcnegennmpliaaDoor

namespace Go.Proofs.YtbcnegennmpliaaDoor
set_option linter.unusedVariables false
set_option linter.unusedSimpArgs false
open Go.RowKit
theorem esc_dig (c : UInt8) : escB (hexs.getD (c.toNat / 16) 0) (hexs.getD (c.toNat % 16) 0) = if plainB c then none else some c := by
  have := u8_all (p := fun c => decide (escB (hexs.getD (c.toNat / 16) 0) (hexs.getD (c.toNat % 16) 0) = if plainB c then none else some c)) (by decide +kernel) c
  simpa using this
theorem qd_enc1 (c : UInt8) (t : List UInt8) : qd (encC c ++ t) = (qd t).map fun p => (c :: p.1, p.2) := by
  unfold encC
  by_cases h : c.toNat = 34 ∨ c.toNat = 92
  · rw [if_pos h]
    simp only [List.cons_append, List.nil_append]
    rw [qd_cons, if_neg (by decide), if_neg (by decide), if_neg (by decide)]
    simp only []
    rw [if_pos h]
  · rw [if_neg h]
    cases hp : plainB c with
    | true =>
      simp only [if_true, List.cons_append, List.nil_append]
      rw [qd_cons, if_neg (fun e => h (.inl e)), if_neg (by simp [hp]), if_pos (fun e => h (.inr e))]
    | false =>
      simp only [Bool.false_eq_true, if_false, List.cons_append, List.nil_append]
      rw [qd_cons, if_neg (by decide), if_neg (by decide), if_neg (by decide)]
      simp only []
      rw [if_neg (by decide), if_pos (by decide), esc_dig, hp]
      rfl
theorem qd_enc : ∀ (s t : List UInt8), qd (s.flatMap encC ++ 34 :: t) = some (s, t)
  | [], t => by
    rw [List.flatMap_nil, List.nil_append, qd_cons, if_pos (by decide)]
  | c :: s, t => by
    rw [List.flatMap_cons, List.append_assoc, qd_enc1, qd_enc s t]
    rfl
theorem bare_ne {c : UInt8} (h : bareB c = true) : c.toNat ≠ 32 ∧ c.toNat ≠ 34 := by
  simp only [bareB, Bool.and_eq_true, Bool.not_eq_true', decide_eq_false_iff_not] at h
  exact ⟨h.1.2, h.2⟩
theorem tw_all {p : UInt8 → Bool} : ∀ {s t : List UInt8}, s.all p = true → (∀ c r, t = c :: r → p c = false) → (s ++ t).takeWhile p = s ∧ (s ++ t).dropWhile p = t
  | [], [], _, _ => ⟨rfl, rfl⟩
  | [], c :: r, _, h => by
    have := h c r rfl
    simp [this]
  | c :: s, t, hs, ht => by
    rw [List.all_cons, Bool.and_eq_true] at hs
    have ih := tw_all (p := p) hs.2 ht
    rw [List.cons_append, List.takeWhile_cons, List.dropWhile_cons, hs.1]
    simp [ih.1, ih.2]
theorem wd_quote (s r : List UInt8) (hr : endB r = true) (n : Nat) : wd (n + 1) (quoteB s ++ r) = (wd n r).map fun l => s :: l := by
  unfold quoteB
  by_cases hb : bareW s = true
  · rw [if_pos hb]
    unfold bareW at hb
    rw [Bool.and_eq_true] at hb
    cases s with
    | nil => exact absurd hb.1 (by decide)
    | cons c t =>
      have hc : bareB c = true := by have := hb.2; rw [List.all_cons, Bool.and_eq_true] at this; exact this.1
      have hne := bare_ne hc
      have hrr : ∀ d q, r = d :: q → bareB d = false := fun d q e => by
        subst e
        simp only [endB, decide_eq_true_eq] at hr
        have : d = 32 := UInt8.toNat_inj.1 hr
        subst this
        decide
      have tw := tw_all (p := bareB) hb.2 hrr
      rw [List.cons_append] at tw ⊢
      rw [wd, if_neg hne.1, if_neg hne.2, tw.1, tw.2, if_pos hr]
  · rw [if_neg hb, List.cons_append, wd, if_neg (by decide), if_pos (by decide), List.append_assoc]
    show (qd (s.flatMap encC ++ (34 :: r))).bind _ = _
    rw [qd_enc]
    simp [hr]
theorem wd_blank (n : Nat) (t : List UInt8) : wd (n + 1) (32 :: t) = wd n t := by rw [wd, if_pos (by decide)]
theorem wd_more : ∀ (n m : Nat) (x : List UInt8), x.length < n → x.length < m → wd n x = wd m x
  | 0, _, x, h, _ => by omega
  | _, 0, x, _, h => by omega
  | n + 1, m + 1, [], _, _ => by rw [wd_nil, wd_nil]
  | n + 1, m + 1, c :: t, h1, h2 => by
    simp only [List.length_cons] at h1 h2
    rw [wd, wd]
    by_cases h32 : c.toNat = 32
    · rw [if_pos h32, if_pos h32, wd_more n m t (by omega) (by omega)]
    · rw [if_neg h32, if_neg h32]
      by_cases h34 : c.toNat = 34
      · rw [if_pos h34, if_pos h34]
        cases hq : qd t with
        | none => rfl
        | some p =>
          obtain ⟨a, r⟩ := p
          obtain ⟨q, eq, _⟩ := qd_suf _ _ a r (Nat.le_refl _) hq
          have hlen := congrArg List.length eq
          simp only [List.length_append] at hlen
          simp only [Option.bind_some]
          rw [wd_more n m r (by omega) (by omega)]
      · rw [if_neg h34, if_neg h34]
        have tl := tw_len bareB (c :: t)
        simp only [List.length_cons] at tl
        by_cases he : endB ((c :: t).dropWhile bareB) = true
        · have hpos : 0 < ((c :: t).takeWhile bareB).length := by
            rw [List.takeWhile_cons]
            cases hb : bareB c with
            | true => simp
            | false =>
              rw [List.dropWhile_cons, hb] at he
              simp [endB, h32] at he
          rw [if_pos he, if_pos he, wd_more n m _ (by omega) (by omega)]
        · rw [if_neg he, if_neg he]
theorem quote_pos (s : List UInt8) : 0 < (quoteB s).length := by
  unfold quoteB
  split
  · rename_i hb
    cases s with
    | nil => exact absurd hb (by decide)
    | cons => simp
  · simp
theorem endB_line (l : List (List UInt8)) : endB (l.flatMap fun s => 32 :: quoteB s) = true := by
  cases l with
  | nil => rfl
  | cons s l => rfl
theorem wd_line : ∀ (l : List (List UInt8)) (n : Nat), (l.flatMap fun s => 32 :: quoteB s).length < n → wd n (l.flatMap fun s => 32 :: quoteB s) = some l
  | [], n, _ => wd_nil n
  | s :: l, 0, h => by omega
  | s :: l, n + 1, h => by
    have := quote_pos s
    rw [List.flatMap_cons] at h ⊢
    simp only [List.cons_append, List.length_cons, List.length_append] at h
    rw [List.cons_append, wd_blank, wd_more n ((quoteB s ++ l.flatMap fun s => 32 :: quoteB s).length + 1) _ (by rw [List.length_append]; omega) (by omega), wd_quote _ _ (endB_line l), wd_line l _ (by rw [List.length_append]; omega)]
    rfl
def joinQ : List (List UInt8) → List UInt8
  | [] => []
  | s :: l => quoteB s ++ l.flatMap fun s => 32 :: quoteB s
theorem wd_join (l : List (List UInt8)) (n : Nat) (h : (joinQ l).length < n) : wd n (joinQ l) = some l := by
  cases l with
  | nil => exact wd_nil n
  | cons s l =>
    cases n with
    | zero => omega
    | succ n =>
      have := quote_pos s
      simp only [joinQ, List.length_append] at h
      rw [joinQ, wd_quote _ _ (endB_line l), wd_line l n (by omega)]
      rfl
theorem words_join (l : List (List UInt8)) (h : (joinQ l).length ≤ 4096) : wordsB (joinQ l) = (l, 0) := by
  unfold wordsB
  rw [if_neg (by omega), wd_join l _ (by omega)]
  rfl
end Go.Proofs.YtbcnegennmpliaaDoor

namespace Go.Proofs.YtbcnegennmpliaaDoor
set_option linter.unusedVariables false
set_option linter.unusedSimpArgs false
open Go.RowKit Go.ChangeShapes Go.WideShapes Go.ChangeAt

def heapF (W : World) : HA := fun h => ∀ i, i < W.heap.size → h i = W.heap[i]?
theorem sat_start (W : World) : Sat W ([] ++ [heapF W]) W := ⟨rfl, rfl, rfl, Nat.le_refl _, star_tt (fun _ _ => rfl)⟩
theorem below_of {W w : World} {l : List HA} (s : Sat W l w) (k : Nat) (hk : l[k]? = some (heapF W)) : Below W.heap.size W w := by
  obtain ⟨a, ha, hz⟩ := s.at hk
  refine ⟨s.os, s.tape, s.output, s.size, fun i hi => ?_⟩
  have h1 := ha i hi
  obtain ⟨o, ho⟩ : ∃ o, W.heap[i]? = some o := ⟨_, Array.getElem?_eq_getElem hi⟩
  rw [ho] at h1
  rw [hz i o h1, ho]
theorem row_of_fn {P : Program} {W : World} {f : FuncId} {args : List Value} {R Y : Type} {o : Option R} {val : R → Y → Value} {r : R}
    (h : Fn P W f args [] (heapF W) o val (fun _ _ => [])) (hs : o = some r) (hv : ∀ y, val r y = .bool true) :
    Calls P f args.toArray W fun e w' => e = .returned (.bool true) ∧ Below W.heap.size W w' := by
  refine (h r hs W (sat_start W)).mono ?_
  rintro e w' ⟨y, rfl, s⟩
  exact ⟨by rw [hv], below_of s 0 rfl⟩
theorem rd_cells {W : World} {x : Addr} {cs : List Value} (h : ∀ j v, cs[j]? = some v → W.cell? (x.add j) = some v) : Rd (heapF W) (some x) cs := by
  cases cs with
  | nil => exact .inl rfl
  | cons v vs =>
    right
    have h0 := h 0 v rfl
    have hsp : x.spot = none := by
      have e : (x.add 0).spot = x.spot ∨ x.spot ≠ none := by cases hx : x.spot <;> simp [Addr.add, hx]
      refine Classical.byContradiction fun hne => ?_
      obtain ⟨s, hs⟩ := Option.ne_none_iff_exists'.1 hne
      unfold World.cell? at h0
      simp only [Addr.add, hs] at h0
      split at h0 <;> simp_all
    obtain ⟨b, off, sp⟩ := x
    simp only at hsp
    subst hsp
    have hadd : ∀ j, (⟨b, off, none⟩ : Addr).add j = ⟨b, off + j, none⟩ := fun j => by unfold Addr.add; split <;> simp_all
    simp only [hadd] at h
    refine ⟨b, off, rfl, fun g hg => ?_⟩
    have h0 := h 0 v rfl
    unfold World.cell? at h0
    simp only at h0
    split at h0
    · rename_i c T fz hb
      have hlt : b < W.heap.size := (Array.getElem?_eq_some_iff.1 hb).1
      refine ⟨c, T, fz, by rw [hg b hlt, hb], fun j v hj => ?_⟩
      have := h j v hj
      simpa [World.cell?, hb] using this
    · simp at h0
theorem weights_of {H : Type} {P : Program} {ts : List TypeId} {ds : List (DataW H)} (h : (DataW.weightsEach P ts ds).all (· ≤ reachBytes) = true) {j : Nat} {t : TypeId} {d : DataW H} (ht : ts[j]? = some t) (hd : ds[j]? = some d) : ∀ n ∈ d.weights P t, n ≤ reachBytes := fun n hn => by
  have := List.all_eq_true.1 h n (DataW.weights_mem_each ht hd n hn)
  simpa using this
end Go.Proofs.YtbcnegennmpliaaDoor

namespace Go.Proofs.YtbcnegennmpliaaDoor
set_option linter.unusedVariables false
set_option linter.unusedSimpArgs false
open Go.RowKit Go.ChangeShapes Go.WideShapes Go.ChangeAt
section
variable {H : Type} {enc : TypeId × Value → H} {P : Program} {W : World} {held : Bool} {α β : Type}
def Opens (enc : TypeId × Value → H) (P : Program) (W : World) (held : Bool) (t : TypeId) (V : α → List Value → Prop) (Ok : α → Prop) : Prop :=
  ∀ fuel cs x, DataW.trod enc P W 0 (fun _ => true) held fuel t cs = some x → (∀ n ∈ x.1.weights P t, n ≤ reachBytes) → ∃ y, V y cs ∧ one cs ∧ cs.length = P.cellsOf t ∧ Ok y
theorem Opens.map {t : TypeId} {V : α → List Value → Prop} {V' : β → List Value → Prop} {Ok : α → Prop} {Ok' : β → Prop} (f : α → β) (h : Opens enc P W held t V Ok) (hV : ∀ x r, V x r → V' (f x) r) (hO : ∀ x, Ok x → Ok' (f x)) : Opens enc P W held t V' Ok' := fun fuel cs x h1 h2 =>
  let ⟨y, a, b, c, d⟩ := h fuel cs x h1 h2; ⟨f y, hV _ _ a, b, c, hO _ d⟩
theorem Opens.mono {t : TypeId} {V V' : α → List Value → Prop} {Ok Ok' : α → Prop} (h : Opens enc P W held t V Ok) (hV : ∀ x r, V x r → V' x r) (hO : ∀ x, Ok x → Ok' x) : Opens enc P W held t V' Ok' := fun fuel cs x h1 h2 =>
  let ⟨y, a, b, c, d⟩ := h fuel cs x h1 h2; ⟨y, hV _ _ a, b, c, hO _ d⟩
theorem weightsAll_mem {e : TypeId} : ∀ {ds : List (DataW H)} {d : DataW H}, d ∈ ds → ∀ n ∈ d.weights P e, n ∈ DataW.weightsAll P e ds
  | d' :: ds, d, h, n, hn => by
    simp only [DataW.weightsAll, List.mem_append]
    rcases List.mem_cons.1 h with rfl | h
    · exact .inl hn
    · exact .inr (weightsAll_mem h n hn)
theorem cells_mapM {W : World} {a : Addr} {n : Nat} {cs : List Value} (h : W.cells? 0 a n = some cs) : cs.length = n ∧ ∀ j v, cs[j]? = some v → W.cell? (a.add j) = some v := by
  unfold World.cells? at h
  rw [if_pos (Nat.zero_le _)] at h
  have hl := mapM_some_length h
  have hl : cs.length = n := by simpa using hl
  refine ⟨hl, fun j v hj => ?_⟩
  have hjn : j < n := by have := (List.getElem?_eq_some_iff.1 hj).1; omega
  have := mapM_some_get h j j (by simp [hjn])
  rw [this, hj]
/-! Structs: their fields, one behind the other. -/
end
end Go.Proofs.YtbcnegennmpliaaDoor

namespace Go.Proofs.YtbcnegennmpliaaDoor
set_option linter.unusedVariables false
set_option linter.unusedSimpArgs false
open Go.RowKit Go.ChangeShapes Go.WideShapes Go.ChangeAt
class Mu (α : Type) where
  mu : α → Nat
instance : Mu Int := ⟨fun _ => 1⟩
instance : Mu Bool := ⟨fun _ => 1⟩
instance : Mu UInt8 := ⟨fun _ => 1⟩
instance {α β : Type} [Mu α] [Mu β] : Mu (α × β) := ⟨fun x => Mu.mu x.1 + Mu.mu x.2⟩
instance {α : Type} [Mu α] : Mu (List α) := ⟨fun l => (l.map Mu.mu).sum + 1⟩
theorem mu_list {α : Type} [Mu α] (l : List α) : Mu.mu l = (l.map Mu.mu).sum + 1 := rfl
theorem mu_bytes (l : List UInt8) : Mu.mu l = l.length + 1 := by
  have : ∀ l : List UInt8, (l.map Mu.mu).sum = l.length := by
    intro l
    induction l with
    | nil => rfl
    | cons x l ih =>
      simp only [List.map_cons, List.sum_cons, ih, List.length_cons]
      show 1 + _ = _
      omega
  rw [mu_list, this]
theorem bulk_one {H : Type} (d : DataW H) : 1 ≤ Rows.uptoBulk d := by
  cases d with
  | lit l => cases l <;> simp [Rows.uptoBulk]
  | nil => simp [Rows.uptoBulk]
  | ptr d => simp [Rows.uptoBulk]
  | slice elems spare => simp [Rows.uptoBulk]
  | agg parts => simp [Rows.uptoBulk]
  | iface t d => simp [Rows.uptoBulk]
  | map entries => simp [Rows.uptoBulk]
  | held h => simp [Rows.uptoBulk]
section
variable {H : Type} {enc : TypeId × Value → H} {P : Program} {W : World} {held : Bool} {α β : Type} [Mu α] [Mu β]
def OpensU (enc : TypeId × Value → H) (P : Program) (W : World) (held : Bool) (t : TypeId) (V : α → List Value → Prop) (Ok : α → Prop) : Prop :=
  ∀ fuel cs x, DataW.trod enc P W 0 (fun _ => true) held fuel t cs = some x → (∀ n ∈ x.1.weights P t, n ≤ reachBytes) → ∃ y, V y cs ∧ one cs ∧ cs.length = P.cellsOf t ∧ Ok y ∧ Mu.mu y ≤ Rows.uptoBulk x.1
theorem OpensU.mono {t : TypeId} {V V' : α → List Value → Prop} {Ok Ok' : α → Prop} (h : OpensU enc P W held t V Ok) (hV : ∀ x r, V x r → V' x r) (hO : ∀ x, Ok x → Ok' x) : OpensU enc P W held t V' Ok' := fun fuel cs x h1 h2 =>
  let ⟨y, a, b, c, d⟩ := h fuel cs x h1 h2; ⟨y, hV _ _ a, b, c, hO _ d.1, d.2⟩
theorem opensU_str {t : TypeId} (ht : P.underlying t = some .string) (hc : P.cellsOf t = 1) : OpensU enc P W held t (fun x r => r = [str x]) (fun x => x.length ≤ reachBytes) := by
  intro fuel cs x h hw
  cases fuel with
  | zero => simp [DataW.trod] at h
  | succ n =>
    unfold DataW.trod at h
    rw [ht] at h
    split at h <;> simp_all
    rename_i s
    obtain ⟨h1, rfl⟩ := h
    refine ⟨s.data.toList, ?_, one_of rfl, ?_, ?_⟩
    · simp [str]
    · exact hw s.data.toList.length (by simp [DataW.weights])
    · rw [mu_bytes]; simp [Rows.uptoBulk]
theorem opensU_list {t e : TypeId} {n B : Nat} {V : α → List Value → Prop} {Ok : α → Prop} (ht : P.underlying t = some (.slice e)) (hn : P.cellsOf e = n) (hB : P.bytesOf e = B) (hct : P.cellsOf t = 1) (hel : OpensU enc P W held e V Ok) :
    OpensU enc P W held t (fun (xs : List α) r => ∃ a c, r = [.slice a xs.length c] ∧ RdV (heapF W) n V a xs ∧ xs.length ≤ c ∧ c ≤ maxLen) (fun xs => xs.length * B ≤ reachBytes ∧ ∀ y ∈ xs, Ok y) := by
  intro fuel cs x h hw
  rcases DataW.trod_slice ht h with ⟨hcs, _⟩ | ⟨a, len, cap, elems, rest, m, _, rfl, rfl, hb, hl, hm, hlen, he2, _, _⟩
  · exact ⟨[], ⟨none, 0, hcs, RdV.nil, Nat.le_refl _, Nat.zero_le _⟩, by rw [hcs]; exact one_of rfl, by rw [hcs, hct]; rfl, ⟨by simp, by simp⟩, by rw [mu_list]; exact bulk_one _⟩
  · subst hn
    have hsz : len * B ≤ reachBytes := by
      have := hw (((elems.map (·.1)).length + (rest.map (·.1)).length) * P.bytesOf e) (by simp [DataW.weights, ht])
      rw [hB] at this
      simp only [List.length_map, hlen] at this
      exact Nat.le_trans (Nat.mul_le_mul_right _ (Nat.le_add_right _ _)) this
    have each : ∀ i, i < len → ∃ y r, V y r ∧ one r ∧ r.length = P.cellsOf e ∧ (Ok y ∧ ∀ q, elems[i]? = some q → Mu.mu y ≤ Rows.uptoBulk q.1) ∧ ∀ j v, r[j]? = some v → W.cell? (a.add (i * P.cellsOf e + j)) = some v := by
      intro i hi
      have h1 := he2 i hi
      obtain ⟨q, hq⟩ : ∃ q, elems[i]? = some q := ⟨_, List.getElem?_eq_getElem (by omega)⟩
      rw [hq] at h1
      obtain ⟨r, hr, htr⟩ := Option.bind_eq_some_iff.1 h1
      obtain ⟨hrl, hrc⟩ := cells_mapM hr
      obtain ⟨y, v1, v2, v3, v4⟩ := hel _ r q htr (fun n hn => hw n (by
        simp only [DataW.weights, ht, List.mem_cons, List.mem_append]
        exact .inr (.inl (weightsAll_mem (List.mem_map_of_mem (List.mem_of_getElem? hq)) n hn))))
      refine ⟨y, r, v1, v2, hrl, ⟨v4.1, fun q' hq' => by rw [hq] at hq'; cases hq'; exact v4.2⟩, fun j v hj => ?_⟩
      have := hrc j v hj
      have hadd : (a.add (i * P.cellsOf e)).add j = a.add (i * P.cellsOf e + j) := by
        by_cases h1 : i * P.cellsOf e = 0 <;> by_cases h2 : j = 0 <;> simp [Addr.add, h1, h2, Nat.add_assoc]
      rwa [hadd] at this
    have build : ∀ d i, i + d = len → ∃ xs rs, ListV (P.cellsOf e) V xs rs ∧ xs.length = d ∧ ((∀ y ∈ xs, Ok y) ∧ (xs.map Mu.mu).sum ≤ Rows.uptoBulkAll ((elems.drop i).map (·.1))) ∧ ∀ j v, rs.flatten[j]? = some v → W.cell? (a.add (i * P.cellsOf e + j)) = some v := by
      intro d
      induction d with
      | zero => intro i hi; exact ⟨[], [], trivial, rfl, ⟨by simp, by simp⟩, by simp⟩
      | succ d ih =>
        intro i hi
        obtain ⟨y, r, v1, v2, v3, v4, v5⟩ := each i (by omega)
        obtain ⟨xs, rs, w1, w2, w3, w4⟩ := ih (i + 1) (by omega)
        refine ⟨y :: xs, r :: rs, ⟨⟨v3, v2, v1⟩, w1⟩, by simp [w2], ⟨?_, ?_⟩, fun j v hj => ?_⟩
        · intro z hz
          rcases List.mem_cons.1 hz with rfl | hz
          · exact v4.1
          · exact w3.1 z hz
        · obtain ⟨q, hq⟩ : ∃ q, elems[i]? = some q := ⟨_, List.getElem?_eq_getElem (by omega)⟩
          have h1 := v4.2 q hq
          have h2 := w3.2
          obtain ⟨hi', hq'⟩ := List.getElem?_eq_some_iff.1 hq
          rw [List.drop_eq_getElem_cons hi', hq']
          simp only [List.map_cons, List.sum_cons, Rows.uptoBulkAll]
          omega
        · simp only [List.flatten_cons] at hj
          by_cases hjl : j < r.length
          · rw [List.getElem?_append_left hjl] at hj; exact v5 j v hj
          · rw [List.getElem?_append_right (by omega)] at hj
            have := w4 _ v hj
            rw [v3, Nat.add_mul] at this
            have e1 : i * P.cellsOf e + 1 * P.cellsOf e + (j - P.cellsOf e) = i * P.cellsOf e + j := by omega
            rwa [e1] at this
    obtain ⟨xs, rs, w1, w2, w3, w4⟩ := build len 0 (by omega)
    refine ⟨xs, ⟨some a, cap, by rw [w2], ⟨rs, w1, rd_cells fun j v hj => ?_⟩, by rw [w2]; exact hl, hm⟩, one_of rfl, by rw [hct]; rfl, ⟨by rw [w2]; exact hsz, w3.1⟩, by have h2 := w3.2; simp only [List.drop_zero] at h2; rw [mu_list]; simp only [Rows.uptoBulk]; omega⟩
    have := w4 j v hj
    simpa using this
end
end Go.Proofs.YtbcnegennmpliaaDoor

namespace Go.Proofs.YtbcnegennmpliaaDoor
set_option linter.unusedVariables false
set_option linter.unusedSimpArgs false
open Go.RowKit
theorem tq_l0 (x : List (List UInt8)) (hx : ∀ w, w ∈ x → w.length ≤ 2 ^ 40) (hn : x.length < 2 ^ 40) : ∀ (k i : Nat) (z : Int), x.length - i < k → i ≤ x.length → 0 ≤ z → z ≤ 40000 → ∃ v, synodlaw17_TextQuotes.l0 x k z (i : Int) = some v
  | 0, i, z, h, _, _, _ => by omega
  | k + 1, i, z, h, hi, h0, h1 => by
    rw [synodlaw17_TextQuotes.l0]
    by_cases hc : ((decide ((i : Int) < (x.length : Int))) && (decide ((i : Int) ≤ (50 : Int)))) = true
    · rw [if_pos hc]
      simp only [Bool.and_eq_true, decide_eq_true_eq] at hc
      have hlt : i < x.length := by omega
      rw [if_pos (by omega), wi1 (by omega)]
      exact tq_l0 x hx hn k (i + 1) _ (by omega) (by omega) (by
        simp only [Int.toNat_natCast]
        rw [w64 (by omega) (by omega)]
        omega) (by omega)
    · rw [if_neg hc]; exact ⟨_, rfl⟩
theorem tq_l1 (x : List (List UInt8)) {M : Nat} (hx : ∀ w, w ∈ x → w.length ≤ M) (hM : M ≤ 2 ^ 30) (hn : x.length ≤ 50) : ∀ (k i : Nat) (out : List UInt8), M + x.length - i < k → 0 < i → i ≤ x.length → out.length ≤ i * 2 ^ 40 →
    synodlaw17_TextQuotes.l1 x k out (i : Int) = some (out ++ (x.drop i).flatMap fun s => 32 :: quoteB s)
  | 0, i, out, h, _, _, _ => by omega
  | k + 1, i, out, h, hp, hi, ho => by
    rw [synodlaw17_TextQuotes.l1]
    by_cases hlt : i < x.length
    · have hm : x.getD i [] ∈ x := by rw [getD_at hlt]; exact List.getElem_mem hlt
      have hl := hx _ hm
      have ql := quote_len (x.getD i [])
      have ed : x.drop i = x.getD i [] :: x.drop (i + 1) := by rw [getD_at hlt]; exact List.drop_eq_getElem_cons hlt
      rw [if_pos (by omega), if_pos (by omega), if_pos (by simp only [List.length_cons, List.length_nil]; omega), Option.bind_some, if_pos (by omega), wi1 (by omega), ed]
      simp only [Int.toNat_natCast]
      rw [quote_f (by omega) (by omega), Option.bind_some, if_pos (by simp only [List.length_append, List.length_cons, List.length_nil]; omega),
        tq_l1 x hx hM hn k (i + 1) _ (by omega) (by omega) (by omega) (by simp only [List.length_append, List.length_cons, List.length_nil]; omega)]
      simp
    · rw [if_neg (by omega), List.drop_of_length_le (by omega)]
      simp
theorem tq_line (x : List (List UInt8)) {M : Nat} (hx : ∀ w, w ∈ x → w.length ≤ M) (hM : M ≤ 2 ^ 30) (hn : x.length ≤ 50) {k : Nat} (hk : M + 52 < k) : synodlaw17_TextQuotes.l1 x k [] 0 = some (joinQ x) := by
  obtain ⟨k, rfl⟩ : ∃ m, k = m + 1 := ⟨k - 1, by omega⟩
  rw [synodlaw17_TextQuotes.l1]
  cases x with
  | nil => rfl
  | cons s l =>
    have hl := hx s (by simp)
    have ql := quote_len s
    rw [if_pos (by simp), if_neg (by omega), Option.bind_some, if_pos (by simp)]
    rw [show ((s :: l).getD (0 : Int).toNat []) = s from rfl, quote_f (by omega) (by omega), Option.bind_some, if_pos (by simp only [List.length_nil]; omega), List.nil_append]
    have := tq_l1 (s :: l) hx hM hn k 1 (quoteB s) (by simp at hn ⊢; omega) (by omega) (by simp) (by omega)
    rw [show IntKind.i64.wrap (0 + 1) = ((1 : Nat) : Int) by rw [w64 (by omega) (by omega)]; rfl, this]
    rfl
theorem sum_ge : ∀ (l : List (List UInt8)) (w : List UInt8), w ∈ l → w.length ≤ (l.map Mu.mu).sum
  | a :: l, w, h => by
    rw [List.map_cons, List.sum_cons, mu_bytes]
    rcases List.mem_cons.1 h with rfl | h
    · omega
    · have := sum_ge l w h; omega
theorem sum_len : ∀ l : List (List UInt8), l.length ≤ (l.map Mu.mu).sum
  | [] => by simp
  | a :: l => by
    have := sum_len l
    rw [List.map_cons, List.sum_cons, mu_bytes, List.length_cons]; omega
theorem join_len (x : List (List UInt8)) {M : Nat} (hx : ∀ w, w ∈ x → w.length ≤ M) : (joinQ x).length ≤ x.length * (4 * M + 3) := by
  have key : ∀ l : List (List UInt8), (∀ w, w ∈ l → w.length ≤ M) → (l.flatMap fun s => 32 :: quoteB s).length ≤ l.length * (4 * M + 3) := by
    intro l
    induction l with
    | nil => intro _; simp
    | cons s l ih =>
      intro h
      have := ih fun w hw => h w (by simp [hw])
      have := h s (by simp)
      have := quote_len s
      rw [List.flatMap_cons, List.length_append, List.length_cons, List.length_cons, Nat.succ_mul]
      omega
  cases x with
  | nil => simp [joinQ]
  | cons s l =>
    have := key l fun w hw => hx w (by simp [hw])
    have := hx s (by simp)
    have := quote_len s
    rw [joinQ, List.length_append, List.length_cons, Nat.succ_mul]
    omega
theorem pure_TextQuotes (x : List (List UInt8)) (h : x.length * 16 ≤ reachBytes ∧ ∀ w ∈ x, w.length ≤ reachBytes) (hu : Mu.mu x ≤ 1048576) : ∃ k, synodlaw17_TextQuotes.f k x = some true := by
  refine ⟨600000000 + 60, ?_⟩
  have hw : ∀ w, w ∈ x → w.length ≤ 1048576 := fun w hw => by have := sum_ge x w hw; rw [mu_list] at hu; omega
  have hxl : x.length ≤ reachBytes := by have := h.1; omega
  have hr : reachBytes < 2 ^ 48 := by decide
  unfold synodlaw17_TextQuotes.f
  rw [first_eq, Option.bind_some]
  obtain ⟨v, hv⟩ := tq_l0 x (fun w hm => by have := hw w hm; omega) (by rw [mu_list] at hu; have : x.length ≤ (x.map Mu.mu).sum := sum_len x; omega) (600000000 + 60) 0 0 (by rw [mu_list] at hu; have : x.length ≤ (x.map Mu.mu).sum := sum_len x; omega) (by omega) (by omega) (by omega)
  rw [show ((0 : Nat) : Int) = (0 : Int) from rfl] at hv
  rw [hv, Option.bind_some]
  by_cases hb : (((!true) || (decide ((50 : Int) < (x.length : Int)))) || (decide ((20000 : Int) < v))) = true
  · rw [if_pos hb]
  · rw [if_neg hb]
    simp only [Bool.not_true, Bool.false_or, Bool.or_eq_true, decide_eq_true_eq, not_or] at hb
    have hjl := join_len x (M := 1048576) hw
    rw [tq_line x hw (by omega) (by omega) (by omega), Option.bind_some, words_f (by omega), Option.bind_some]
    by_cases hl : 4096 < (joinQ x).length
    · rw [if_pos (by omega)]
      have : wordsB (joinQ x) = ([], 3) := by unfold wordsB; rw [if_pos hl]
      rw [this]
      simp [synodref_Num.f]
    · rw [if_neg (by omega), words_join x (by omega)]
      simp only []
      rw [SameTexts_eq (by omega) (by omega), Option.bind_some]
      simp [synodref_Num.f]
end Go.Proofs.YtbcnegennmpliaaDoor

namespace Go.Proofs.YtbcnegennmpliaaDoor
set_option linter.unusedVariables false
set_option linter.unusedSimpArgs false
open Go.RowKit Go.ChangeShapes Go.WideShapes Go.ChangeAt
def VRead (P : Program) (w : World) (n : String) (d : DataW Unit) : Prop :=
  ∃ g t cs fuel p, P.globalNamed n = some g ∧ (P.globals[g]?).map (·.type) = some t ∧ w.var? P n = some cs ∧ DataW.trod (fun _ => ()) P w 0 (fun _ => true) false fuel t cs.toList = some (d, p)
theorem vread_of {P : Program} {w : World} : ∀ {l : List (String × DataW Unit)} {ps : List MemPlace}, DataW.LaidVars P w l ps → ∀ n d, (n, d) ∈ l → VRead P w n d
  | [], _, _, _, _, hm => by cases hm
  | (n', d') :: r, ps, h, n, d, hm => by
    obtain ⟨g, t, cs, fuel, p, q, h1, h2, h3, h4, h5, _⟩ := h
    rcases List.mem_cons.1 hm with e | e
    · cases e
      exact ⟨g, t, cs, fuel, p, h1, h2, h3, h4⟩
    · exact vread_of h5 n d e
theorem laid_vread {P : Program} {w : World} {l : List (String × DataW Unit)} (h : laidMet P l w) {n : String} {d : DataW Unit} (hm : (n, d) ∈ l) : VRead P w n d :=
  let ⟨_, hv, _⟩ := h
  vread_of hv n d hm
theorem tab_of {P : Program} {W : World} {name : String} {k : IntKind} {zs : List Int} {g : Nat} {t e : TypeId} {n : Nat} (hg : P.globalNamed name = some g) (hty : (P.globals[g]?).map (·.type) = some t)
    (ht : P.underlying t = some (.array n e)) (he : P.underlying e = some (.int k)) (hce : P.cellsOf e = 1) (hct : P.cellsOf t = n) (h : VRead P W name (Lib.tabData k zs)) : Lib.TabIs P W name k zs := by
  obtain ⟨g', t', cs, fuel, p, hg', ht', hvar, hd⟩ := h
  obtain rfl := Option.some.inj (hg.symm.trans hg')
  obtain rfl := Option.some.inj (hty.symm.trans ht')
  unfold Lib.TabIs
  rw [hvar, ← Lib.cells_of_tab ht he hce hct hd]
theorem iface_of {P : Program} {W : World} {name nm : String} {d : DataW Unit} {g : Nat} {t : TypeId} {ms : _} (hg : P.globalNamed name = some g) (hty : (P.globals[g]?).map (·.type) = some t)
    (ht : P.underlying t = some (.interface ms)) (h : VRead P W name (.iface nm d)) : ∃ u p, W.var? P name = some #[.iface u p] := by
  obtain ⟨g', t', cs, fuel, p, hg', ht', hvar, hd⟩ := h
  obtain rfl := Option.some.inj (hg.symm.trans hg')
  obtain rfl := Option.some.inj (hty.symm.trans ht')
  cases fuel with
  | zero => simp [DataW.trod] at hd
  | succ m =>
    unfold DataW.trod at hd
    rw [ht] at hd
    split at hd <;> simp_all
    rename_i e
    exact ⟨_, _, Array.toList_inj.1 (e.trans rfl)⟩
theorem var_mono {P : Program} {W w : World} {n : String} {cs : Array Value} (h : HoldsW (heapF W) w) (hv : W.var? P n = some cs) : w.var? P n = some cs := by
  obtain ⟨a, ha, e⟩ := h
  unfold World.var? at hv ⊢
  cases hg : P.globalNamed n with
  | none => rw [hg] at hv; cases hv
  | some g =>
    rw [hg] at hv
    simp only [Option.bind_some] at hv ⊢
    cases ho : W.heap[g]? with
    | none => rw [ho] at hv; cases hv
    | some o =>
      have hlt : g < W.heap.size := (Array.getElem?_eq_some_iff.1 ho).1
      have h1 : w.heap[g]? = some o := e g o ((ha g hlt).trans ho)
      rw [ho] at hv
      rw [h1]
      exact hv
theorem glb_of {P : Program} {W : World} (h1 : Lib.TabIs P W "internal/strconv.uint64pow10" .u64 Lib.pow10Tab) (h2 : ∃ u p, W.var? P "strconv.ErrSyntax" = some #[.iface u p]) (h3 : ∃ u p, W.var? P "strconv.ErrRange" = some #[.iface u p]) :
    Glb P (heapF W) :=
  ⟨fun w h => var_mono h h1, fun w h => let ⟨u, p, e⟩ := h2; ⟨u, p, var_mono h e⟩, fun w h => let ⟨u, p, e⟩ := h3; ⟨u, p, var_mono h e⟩⟩
theorem witness_laid {H : Type} {enc : TypeId × Value → H} {C : Checked} {os : Os} {f : FuncId} {fn : Func} {s : OpenSpec} {conds : List PathCond} {apart : Bool} {laid : List (String × DataW Unit)} (w0 : World) (args : Array Value) (hos : w0.os = os)
    (hsh : (w0.forCall (fun _ _ => 0) ⟨#[], args, []⟩).Shaped C.prog)
    (hok : Input.okWideB C.prog (w0.forCall (fun _ _ => 0) ⟨#[], args, []⟩) f ⟨#[], args, []⟩ = true)
    (hrow : s.preRow enc C.prog fn conds apart laid (w0.forCall (fun _ _ => 0) ⟨#[], args, []⟩).memory args) :
    ∃ (w : World) (tape : Tape) (i : Input), w.os = os ∧ (w.forCall tape i).Shaped C.prog ∧ i.vars = [] ∧ Input.okWide C.prog (w.forCall tape i) .any w.heap.size f i ∧
      s.preRow enc C.prog fn conds apart laid (w.forCall tape i).memory i.args ∧ ({} : Assume).holds C.prog (lone (Frame.enter C.prog f i.args .normal) [] (w.forCall tape i)) :=
  ⟨w0, fun _ _ => 0, ⟨#[], args, []⟩, hos, hsh, (Input.okWide_of_okWideB (base := 0) hok).1, (Input.okWide_of_okWideB hok).2, hrow, by
    simp only [Assume.holds]
    exact ⟨by simp, by simp, fun _ => Modest.zero, by simp, by simp⟩⟩
end Go.Proofs.YtbcnegennmpliaaDoor

namespace Go.Proofs.YtbcnegennmpliaaDoor.textQuotes
open Go.RowKit Go.ChangeShapes Go.WideShapes Go.ChangeAt
open Go.ChangeMaps (open_string shut_string)
set_option linter.unusedVariables false
theorem own : ownKnob Tryd.prog.godebug = none := by kernel_rfl
theorem laidOut : laidOutB Tryd.prog = true := by kernel_rfl
theorem glb {W : World} (hL : laidMetH Tryd.prog Rows.textQuotesUptoRow.laid W) : Glb Tryd.prog (heapF W) := by
  rw [MakeChecks.laidMetH_plain _ _ _ (by kernel_rfl)] at hL
  exact glb_of (tab_of (g := 0) (t := 169) (e := 152) (by kernel_rfl) (by kernel_rfl) Tryd.underlying169 Tryd.underlying152 (by kernel_rfl) (by kernel_rfl) (laid_vread hL (n := "internal/strconv.uint64pow10") (d := Rows.laid_internal_strconv_uint64pow10) (.tail _ (.tail _ (.head _))))) (iface_of (g := 1) (t := 137) (by kernel_rfl) (by kernel_rfl) Tryd.underlying137 (laid_vread hL (n := "strconv.ErrSyntax") (d := Rows.laid_strconv_ErrSyntax) (.tail _ (.tail _ (.tail _ (.tail _ (.tail _ (.head _)))))))) (iface_of (g := 2) (t := 137) (by kernel_rfl) (by kernel_rfl) Tryd.underlying137 (laid_vread hL (n := "strconv.ErrRange") (d := Rows.laid_strconv_ErrRange) (.tail _ (.tail _ (.tail _ (.tail _ (.head _)))))))
theorem laid_met (os : Os) (args : Array Value) : laidMetH Tryd.prog Rows.textQuotesUptoRow.laid ((World.laidAll Tryd.prog os Rows.textQuotesUptoRow.laid).forCall (fun _ _ => 0) ⟨#[], args, []⟩).memory := by
  rw [MakeChecks.laidMetH_plain _ _ _ (by kernel_rfl)]
  exact laidMet_laidAll args (by kernel_rfl) (by kernel_rfl)
theorem opensT9 {H : Type} (W : World) (held : Bool) (enc : TypeId × Value → H) : OpensU enc Tryd.prog W held 9 (V9 tt) Ok9 :=
  (opensU_str Tryd.underlying9 (by kernel_rfl)).mono (fun x r h => by obtain rfl := h; exact rfl) (fun x h => h)
set_option maxRecDepth 100000 in
theorem lifted (os : Os) (started : os.Started) (H : Type) (enc : TypeId × Value → H) (F : Stop.Interp) :
    ReturnsInHanded {} Tryd.checked os 6 .any ((Rows.OpenSpec.upto Rows.textQuotesSpec).preRow enc Tryd.prog Tryd.f6 Rows.textQuotesUptoRow.domain false Rows.textQuotesUptoRow.laid) (((Rows.OpenSpec.upto Rows.textQuotesSpec).at F).post enc Tryd.prog Tryd.f6 false true false false) := by
  refine returnsInHanded_of_row (C := Tryd.checked) (s := (Rows.OpenSpec.upto Rows.textQuotesSpec)) own started (by kernel_rfl) Tryd.func6
    (witness_laid (enc := enc) (C := Tryd.checked) (World.laidAll Tryd.prog os Rows.textQuotesUptoRow.laid) #[.slice none 0 0] (World.laidAll_os _ _ _) (World.shaped_of_ZipB (by kernel_rfl) (by kernel_rfl)) (by kernel_rfl)
      (OpenSpec.preRow_of_cond 8 (x := ([.nil], [], [])) (by kernel_rfl) (by kernel_rfl) (fun k hk => by cases hk; kernel_rfl) (by kernel_rfl) (laid_met os _))) ?_
  intro W base args ds gs before hval0 hW hcnd hk00 hsz0 hL _ _
  have hgl := glb hL
  have hk0 := hk00 _ rfl
  have hsz : (DataW.weightsEach Tryd.prog (Tryd.f6.params.toList ++ (Rows.OpenSpec.upto Rows.textQuotesSpec).bare.plain.varTypes Tryd.prog) (ds ++ gs)).all (· ≤ reachBytes) = true := hsz0
  have hval : ∀ (j : Nat) t v, Tryd.f6.params[j]? = some t → args[j]? = some v → Value.okWide Tryd.prog W .any base t v := hval0
  have hW' := hW
  obtain ⟨p, q, hA0, hV, rfl, hfz, hnd⟩ := hW
  have hA : DataW.TrodAll enc Tryd.prog W 0 (fun _ => true) true Tryd.f6.params.toList args.toList ds p := hA0
  rw [Tryd.params6] at hA hval hsz
  obtain ⟨v0, vs0, d0, ds0, p0, q0, hargs, rfl, rfl, h0, r0⟩ := trodAll_cons hA
  obtain ⟨rfl, rfl, rfl⟩ := trodAll_nil r0
  obtain rfl : args = #[v0] := by cases args; simp_all
  obtain ⟨rfl, rfl⟩ := trodVars_none hV
  obtain ⟨aa0, len0, cap0, rfl⟩ := okWide_slice Tryd.underlying23 (hval 0 23 v0 rfl rfl)
  have k0 := h0
  have lt0 : ∀ x ∈ p0, x.block < W.heap.size := by obtain ⟨m, hm⟩ := k0; exact DataW.trod_lt m _ _ _ hm
  obtain ⟨fuel0, hf0⟩ := h0
  obtain ⟨z0_0, ⟨a0_0, c0_0, hcs0, h0_0, k0_0, m0_0⟩, _, _, ok0, mu0⟩ := (opensU_list (n := 1) (B := 16) Tryd.underlying23 (by kernel_rfl) (by kernel_rfl) (by kernel_rfl) (opensT9 W true enc)) _ _ _ hf0 (weights_of hsz (j := 0) (t := 23) rfl rfl)
  replace mu0 : _ ≤ Rows.uptoBulk d0 := mu0
  have e0 : Value.slice aa0 len0 cap0 = .slice a0_0 z0_0.length c0_0 := by simpa [Value.cells] using hcs0
  injection e0 with ea0 eb0 ec0
  subst ea0 eb0 ec0
  have hu0 : Rows.uptoBulkAll [_] ≤ 1048576 := of_decide_eq_true hk0
  simp only [Rows.uptoBulkAll] at hu0
  have hu : Mu.mu z0_0 ≤ 1048576 := by omega
  clear hA0 hval0 hsz0 hsz
  obtain ⟨k, hk⟩ := pure_TextQuotes z0_0 ok0 hu
  refine (row_of_fn (synodlaw17_TextQuotes.calls W (heapF W) k _ _ z0_0 h0_0 k0_0 m0_0 hgl) hk (fun _ => rfl)).mono fun e W' ⟨he, bel⟩ => ?_
  subst he
  exact ⟨_, rfl, _, _, _, [], _, [], hW', trodAll_mk1 (shut_bool Tryd.underlying4 _), (trodAll_cons_mk (Below.trod laidOut (by kernel_rfl) (of_decide_eq_true (by kernel_rfl)) k0 bel lt0) trodAll_mk0), rfl, bel.frame _, fun h => by cases h⟩
theorem said : Rows.TextQuotesUptoSaid :=
  OpenClaim.holds_of_cond 6 Tryd.f6 rfl rfl rfl rfl rfl rfl rfl ⟨rfl, rfl, rfl, rfl, rfl⟩ rfl rfl rfl rfl rfl (by kernel_rfl) Tryd.func6 (by kernel_rfl)
    (of_decide_eq_true (by kernel_rfl)) (by unfold Func.isWrapper; first | (rw [if_pos (by decide +kernel)]; kernel_rfl) | (rw [if_neg (by decide +kernel)]; exact ⟨rfl, rfl⟩))
    (fun os started H enc _ F => by rw [OpenClaim.pre_eq_preRow]; exact lifted os started H enc F)
theorem plain (f : FuncId) (fn : Func) (hf : Tryd.pinned.checked.prog.funcNamed "synod/synodlaw17.TextQuotes" = some f) (hfn : Tryd.pinned.checked.prog.funcs[f]? = some fn) :
    true = Tryd.pinned.checked.prog.looks [] ∧ ∀ (j : Nat) t, fn.params[j]? = some t → Tryd.pinned.checked.prog.wantsStandIn t = false := by
  obtain rfl : f = 6 := Option.some.inj ((show Tryd.prog.funcNamed "synod/synodlaw17.TextQuotes" = some 6 by kernel_rfl).symm.trans hf) |>.symm
  obtain rfl : fn = Tryd.f6 := (Option.some.inj (Tryd.func6.symm.trans hfn)).symm
  refine ⟨by kernel_rfl, fun j t ht => ?_⟩
  rw [Tryd.params6] at ht
  have hm : t ∈ [23] := by simpa using Array.mem_of_getElem? ht
  have hall : ([23].all fun u => !Tryd.prog.wantsStandIn u) = true := by kernel_rfl
  exact (show Tryd.prog.wantsStandIn t = false by simpa using List.all_eq_true.1 hall t hm)
theorem card : Rows.TextQuotesUptoCardSaid :=
  Claim7.holds_tied_plain_at .later [] _ _ _ _ said (fun _ h => by cases h) (by kernel_rfl) (fun _ h => by cases h) textQuotesUpto_row_tie rfl ⟨rfl, rfl⟩ (by kernel_rfl) rfl plain (by kernel_rfl)
end Go.Proofs.YtbcnegennmpliaaDoor.textQuotes
namespace Go.Proofs.YtbcnegennmpliaaDoor
/-- The card, under a short name, for the claim. -/
theorem textQuotes_holds : Rows.TextQuotesUptoCardSaid := textQuotes.card
end Go.Proofs.YtbcnegennmpliaaDoor
