/- Texts that lead to the law TextBack: G, Pl1, PlTx0, PlTx1, PlTx2, PlTx3, PlTx4, PlTx5, PlTx6, PlTx7, PlTx8, PlTx9, PlTxA, PlTxB, PlTxV, PlTxD, PlTxG, PlTxI, PlTxH, Rw. Conditions: as each says. -/
import Derived.Test.YtbcnegennmpliaaDoorM4
import Derived.Laws.BitsLemmas
import Derived.Lib.ItoaMem
import Derived.Test.YtbcnegennmpliaaDoorRows
import Derived.ProofKit
import Derived.OpenShut
import Derived.ShutString
import Derived.ChangeOld
import Derived.SizedLaws
namespace Go.Proofs.YtbcnegennmpliaaDoor
open Go.RowKit
set_option linter.unusedVariables false
set_option linter.unusedSimpArgs false
set_option maxRecDepth 20000
set_option maxHeartbeats 20000000
def synodlaw17_first.f (k : Nat)  : Option (Bool) := (text_Words.f k ([112, 117, 116, 32, 32, 49, 32, 50, 32, 97, 32, 34, 98, 32, 99, 34] : List UInt8)).bind fun s1v => ((text_ParseAct.f k ([116, 105, 99, 107, 32, 49, 32, 45, 53] : List UInt8)).bind fun s4v => ((text_ParseAct.f k ([116, 105, 99, 107, 32, 48, 49, 32, 50] : List UInt8)).bind fun s8v => ((text_FormatAct.f k (13 : Int) (2 : Int) (1 : Int) (0 : Int) (0 : Int) (4 : Int) ([107] : List UInt8) ([110, 101, 119] : List UInt8) ([111, 32, 100] : List UInt8)).bind fun s12v => ((synodref_SameTexts.f k s1v.1 ([([112, 117, 116] : List UInt8), ([49] : List UInt8), ([50] : List UInt8), ([97] : List UInt8), ([98, 32, 99] : List UInt8)] : List (List UInt8))).bind fun s27v => ((if s27v = true then ((synodref_Num.f s1v.2).bind fun s32v => (some (decide (s32v = (0 : Int))))) else (some false)).bind fun s30v => ((if (s30v && (decide (s4v.1 = (1 : Int)) && (decide (s4v.2.1 = (1 : Int)) && (decide (s4v.2.2.1 = (0 : Int)) && (decide (s4v.2.2.2.1 = (-5)) && (decide (s4v.2.2.2.2.1 = (0 : Int)) && (decide (s4v.2.2.2.2.2.1 = (0 : Int)) && (decide (s4v.2.2.2.2.2.2.1 = ([] : List UInt8)) && (decide (s4v.2.2.2.2.2.2.2.1 = ([] : List UInt8)) && (decide (s4v.2.2.2.2.2.2.2.2.1 = ([] : List UInt8)))))))))))) = true then ((synodref_Num.f s4v.2.2.2.2.2.2.2.2.2).bind fun s39v => (some (decide (s39v = (0 : Int))))) else (some false)).bind fun s37v => ((if s37v = true then ((synodref_Num.f s8v.2.2.2.2.2.2.2.2.2).bind fun s46v => (some (decide (s46v = (22 : Int))))) else (some false)).bind fun s44v => ((if (s44v && (decide (s12v.1 = ([115, 119, 97, 112, 32, 49, 32, 50, 32, 107, 32, 34, 111, 32, 100, 34, 32, 110, 101, 119] : List UInt8)))) = true then ((synodref_Num.f s12v.2).bind fun s53v => (some (decide (s53v = (0 : Int))))) else (some false)).bind fun s51v => (some s51v)))))))))
theorem synodlaw17_first.calls (W : World) (F : HA) (k : Nat)  (hgl : Glb Tryd.prog F) :
    Fn Tryd.prog W 11 [] [] F (synodlaw17_first.f k ) (fun (r : Bool) (y : Unit) => .bool r) (fun r y => []) := by
 unfold synodlaw17_first.f
 refine fn_intro 58 Tryd.func11 rfl Tryd.ntmps11 rfl ?_
 refine sr ?_
 refine va rfl rfl (nx ?_)
 refine simL_bind (fun s1v hs2v => ?_)
 refine simL_eff (re_call (vs := [str ([112, 117, 116, 32, 32, 49, 32, 50, 32, 97, 32, 34, 98, 32, 99, 34] : List UInt8)]) (cap := []) (A := []) (rst := [F]) rfl rfl rfl rfl rfl rfl Tryd.call12 (.sel 0 rfl (.nil _)) (text_Words.calls _ _ k ([112, 117, 116, 32, 32, 49, 32, 50, 32, 97, 32, 34, 98, 32, 99, 34] : List UInt8) ) hs2v) rfl rfl rfl ?_
 intro y3v
 refine vm rfl rfl ?_
 refine vq (q_ext rfl rfl rfl) rfl ?_
 refine vq (q_ext rfl rfl rfl) rfl ?_
 refine va rfl rfl ?_
 refine va rfl rfl (nx ?_)
 refine simL_bind (fun s4v hs5v => ?_)
 refine simL_eff (re_call (vs := [str ([116, 105, 99, 107, 32, 49, 32, 45, 53] : List UInt8)]) (cap := []) (A := []) (rst := [RowV 9 1 (V9 tt) y3v.1 s1v.1 y3v.2, F]) rfl rfl rfl rfl rfl rfl Tryd.call18 (.sel 0 rfl (.sel 0 rfl (.nil _))) (text_ParseAct.calls _ _ k ([116, 105, 99, 107, 32, 49, 32, 45, 53] : List UInt8) (hgl.lend 1 rfl)) hs5v) rfl rfl rfl ?_
 intro y6v
 refine vm rfl rfl ?_
 refine vq (q_ext rfl rfl rfl) rfl ?_
 refine vq (q_ext rfl rfl rfl) rfl ?_
 refine simL_eff (re_alloc rfl Tryd.zeroValue34 rfl) rfl rfl rfl ?_
 intro b7v
 refine simL_do (re_store 0 rfl rfl rfl Tryd.sizeOf34 rfl rfl (one_of (by rfl)) rfl rfl) rfl rfl ?_
 intro _
 refine simL_ent (H' := [obj b7v 34 [.int .i64 s4v.1, .int .i64 s4v.2.1, .int .i64 s4v.2.2.1, .int .i64 s4v.2.2.2.1, .int .i64 s4v.2.2.2.2.1, .int .i64 s4v.2.2.2.2.2.1, str s4v.2.2.2.2.2.2.1, str s4v.2.2.2.2.2.2.2.1, str s4v.2.2.2.2.2.2.2.2.1], RowV 9 1 (V9 tt) y3v.1 s1v.1 y3v.2, F]) (Ent.refl _) ?_
 refine va rfl rfl (nx ?_)
 refine simL_bind (fun s8v hs9v => ?_)
 refine simL_eff (re_call (vs := [str ([116, 105, 99, 107, 32, 48, 49, 32, 50] : List UInt8)]) (cap := []) (A := []) (rst := [obj b7v 34 [.int .i64 s4v.1, .int .i64 s4v.2.1, .int .i64 s4v.2.2.1, .int .i64 s4v.2.2.2.1, .int .i64 s4v.2.2.2.2.1, .int .i64 s4v.2.2.2.2.2.1, str s4v.2.2.2.2.2.2.1, str s4v.2.2.2.2.2.2.2.1, str s4v.2.2.2.2.2.2.2.2.1], RowV 9 1 (V9 tt) y3v.1 s1v.1 y3v.2, F]) rfl rfl rfl rfl rfl rfl Tryd.call18 (.sel 0 rfl (.sel 0 rfl (.sel 0 rfl (.nil _)))) (text_ParseAct.calls _ _ k ([116, 105, 99, 107, 32, 48, 49, 32, 50] : List UInt8) (hgl.lend 2 rfl)) hs9v) rfl rfl rfl ?_
 intro y10v
 refine vm rfl rfl ?_
 refine vq (q_ext rfl rfl rfl) rfl ?_
 refine vq (q_ext rfl rfl rfl) rfl ?_
 refine simL_eff (re_alloc rfl Tryd.zeroValue34 rfl) rfl rfl rfl ?_
 intro b11v
 refine simL_do (re_store 0 rfl rfl rfl Tryd.sizeOf34 rfl rfl (one_of (by rfl)) rfl rfl) rfl rfl ?_
 intro _
 refine simL_ent (H' := [obj b11v 34 [.int .i64 s8v.1, .int .i64 s8v.2.1, .int .i64 s8v.2.2.1, .int .i64 s8v.2.2.2.1, .int .i64 s8v.2.2.2.2.1, .int .i64 s8v.2.2.2.2.2.1, str s8v.2.2.2.2.2.2.1, str s8v.2.2.2.2.2.2.2.1, str s8v.2.2.2.2.2.2.2.2.1], obj b7v 34 [.int .i64 s4v.1, .int .i64 s4v.2.1, .int .i64 s4v.2.2.1, .int .i64 s4v.2.2.2.1, .int .i64 s4v.2.2.2.2.1, .int .i64 s4v.2.2.2.2.2.1, str s4v.2.2.2.2.2.2.1, str s4v.2.2.2.2.2.2.2.1, str s4v.2.2.2.2.2.2.2.2.1], RowV 9 1 (V9 tt) y3v.1 s1v.1 y3v.2, F]) (Ent.refl _) ?_
 refine va rfl rfl (nx ?_)
 refine vq (q_build (v := .agg #[.int .i64 13, .int .i64 2, .int .i64 1, .int .i64 0, .int .i64 0, .int .i64 4, str ([107] : List UInt8), str ([110, 101, 119] : List UInt8), str ([111, 32, 100] : List UInt8)]) rfl rfl (fun _ => by kernel_rfl)) rfl ?_
 refine simL_bind (fun s12v hs13v => ?_)
 refine simL_eff (re_call (vs := [.agg #[.int .i64 13, .int .i64 2, .int .i64 1, .int .i64 0, .int .i64 0, .int .i64 4, str ([107] : List UInt8), str ([110, 101, 119] : List UInt8), str ([111, 32, 100] : List UInt8)]]) (cap := []) (A := []) (rst := [obj b11v 34 [.int .i64 s8v.1, .int .i64 s8v.2.1, .int .i64 s8v.2.2.1, .int .i64 s8v.2.2.2.1, .int .i64 s8v.2.2.2.2.1, .int .i64 s8v.2.2.2.2.2.1, str s8v.2.2.2.2.2.2.1, str s8v.2.2.2.2.2.2.2.1, str s8v.2.2.2.2.2.2.2.2.1], obj b7v 34 [.int .i64 s4v.1, .int .i64 s4v.2.1, .int .i64 s4v.2.2.1, .int .i64 s4v.2.2.2.1, .int .i64 s4v.2.2.2.2.1, .int .i64 s4v.2.2.2.2.2.1, str s4v.2.2.2.2.2.2.1, str s4v.2.2.2.2.2.2.2.1, str s4v.2.2.2.2.2.2.2.2.1], RowV 9 1 (V9 tt) y3v.1 s1v.1 y3v.2, F]) rfl rfl rfl rfl rfl rfl Tryd.call20 (.sel 0 rfl (.sel 0 rfl (.sel 0 rfl (.sel 0 rfl (.nil _))))) (text_FormatAct.calls _ _ k (13 : Int) (2 : Int) (1 : Int) (0 : Int) (0 : Int) (4 : Int) ([107] : List UInt8) ([110, 101, 119] : List UInt8) ([111, 32, 100] : List UInt8) (hgl.lend 3 rfl)) hs13v) rfl rfl rfl ?_
 intro y14v
 refine vm rfl rfl ?_
 refine vq (q_ext rfl rfl rfl) rfl ?_
 refine vq (q_ext rfl rfl rfl) rfl ?_
 refine va rfl rfl ?_
 refine va rfl rfl (nx ?_)
 refine vm rfl rfl ?_
 have hlb16v : ListV 1 (V9 tt) ([([112, 117, 116] : List UInt8), ([49] : List UInt8), ([50] : List UInt8), ([97] : List UInt8), ([98, 32, 99] : List UInt8)] : List (List UInt8)) [[str ([112, 117, 116] : List UInt8)], [str ([49] : List UInt8)], [str ([50] : List UInt8)], [str ([97] : List UInt8)], [str ([98, 32, 99] : List UInt8)]] := ⟨⟨rfl, one_of (by rfl), rfl⟩, ⟨rfl, one_of (by rfl), rfl⟩, ⟨rfl, one_of (by rfl), rfl⟩, ⟨rfl, one_of (by rfl), rfl⟩, ⟨rfl, one_of (by rfl), rfl⟩, trivial⟩
 refine simL_eff (re_litV (V := (V9 tt)) (xs := ([([112, 117, 116] : List UInt8), ([49] : List UInt8), ([50] : List UInt8), ([97] : List UInt8), ([98, 32, 99] : List UInt8)] : List (List UInt8))) [[str ([112, 117, 116] : List UInt8)], [str ([49] : List UInt8)], [str ([50] : List UInt8)], [str ([97] : List UInt8)], [str ([98, 32, 99] : List UInt8)]] rfl rfl Tryd.underlying23 elt9 rfl (by kernel_rfl) rfl hlb16v rfl rfl) rfl rfl rfl ?_
 intro b16v
 refine simL_openV 3 rfl (fun rs17v hl18v => ?_)
 refine simL_bind (fun s27v hs28v => ?_)
 refine simL_lend 3 rfl (fun hq19v hq20v hq21v hq22v => ?_)
 refine simL_lend 0 rfl (fun hq23v hq24v hq25v hq26v => ?_)
 refine simL_eff (re_call (vs := [.slice y3v.1 s1v.1.length y3v.2, .slice (some ⟨b16v, 0, none⟩) (([([112, 117, 116] : List UInt8), ([49] : List UInt8), ([50] : List UInt8), ([97] : List UInt8), ([98, 32, 99] : List UInt8)] : List (List UInt8)).length) 5]) (cap := []) (A := []) (rst := [Row 9 1 (some ⟨b16v, 0, none⟩) ([([112, 117, 116] : List UInt8), ([49] : List UInt8), ([50] : List UInt8), ([97] : List UInt8), ([98, 32, 99] : List UInt8)] : List (List UInt8)).length 5 [[str ([112, 117, 116] : List UInt8)], [str ([49] : List UInt8)], [str ([50] : List UInt8)], [str ([97] : List UInt8)], [str ([98, 32, 99] : List UInt8)]].flatten, obj b11v 34 [.int .i64 s8v.1, .int .i64 s8v.2.1, .int .i64 s8v.2.2.1, .int .i64 s8v.2.2.2.1, .int .i64 s8v.2.2.2.2.1, .int .i64 s8v.2.2.2.2.2.1, str s8v.2.2.2.2.2.2.1, str s8v.2.2.2.2.2.2.2.1, str s8v.2.2.2.2.2.2.2.2.1], obj b7v 34 [.int .i64 s4v.1, .int .i64 s4v.2.1, .int .i64 s4v.2.2.1, .int .i64 s4v.2.2.2.1, .int .i64 s4v.2.2.2.2.1, .int .i64 s4v.2.2.2.2.2.1, str s4v.2.2.2.2.2.2.1, str s4v.2.2.2.2.2.2.2.1, str s4v.2.2.2.2.2.2.2.2.1], Row 9 1 y3v.1 s1v.1.length y3v.2 rs17v.flatten, F]) rfl rfl rfl rfl rfl rfl Tryd.call14 (.sel 0 rfl (.sel 0 rfl (.sel 0 rfl (.sel 0 rfl (.sel 0 rfl (.nil _)))))) (synodref_SameTexts.calls _ _ k y3v.1 y3v.2 s1v.1 (some ⟨b16v, 0, none⟩) 5 ([([112, 117, 116] : List UInt8), ([49] : List UInt8), ([50] : List UInt8), ([97] : List UInt8), ([98, 32, 99] : List UInt8)] : List (List UInt8)) ((Rd.asV hl18v hq19v).up (Up.lend 3 rfl) (fun _ _ h => h)) hq20v hq21v ((Rd.asV hlb16v hq23v).up (Up.lend 0 rfl) (fun _ _ h => h)) hq24v hq25v) hs28v) rfl rfl rfl ?_
 intro y29v
 refine vm rfl rfl ?_
 refine simL_cut' 4 (S := Bool) (Unit) (fun s y => [(3, .pointer (some ⟨b7v, 0, none⟩)), (4, .int .i64 s4v.2.2.2.2.2.2.2.2.2), (6, .int .i64 s8v.2.2.2.2.2.2.2.2.2), (7, str s12v.1), (8, .int .i64 s12v.2), (33, .bool s)]) (fun s y => [obj b7v 34 [.int .i64 s4v.1, .int .i64 s4v.2.1, .int .i64 s4v.2.2.1, .int .i64 s4v.2.2.2.1, .int .i64 s4v.2.2.2.2.1, .int .i64 s4v.2.2.2.2.2.1, str s4v.2.2.2.2.2.2.1, str s4v.2.2.2.2.2.2.2.1, str s4v.2.2.2.2.2.2.2.2.1], F]) ?_ ?_
 refine simL_caseb (fun hb35v => ?_) (fun hb36v => ?_)
 rw [hb35v]
 refine simL_valg (q_move rfl rfl) rfl rfl rfl rfl rfl rfl ?_
 refine simL_bind (fun s32v hs33v => ?_)
 refine simL_effg (re_call (vs := [.int .i64 s1v.2]) (cap := []) (A := []) (rst := [Row 9 1 (some ⟨b16v, 0, none⟩) ([([112, 117, 116] : List UInt8), ([49] : List UInt8), ([50] : List UInt8), ([97] : List UInt8), ([98, 32, 99] : List UInt8)] : List (List UInt8)).length 5 [[str ([112, 117, 116] : List UInt8)], [str ([49] : List UInt8)], [str ([50] : List UInt8)], [str ([97] : List UInt8)], [str ([98, 32, 99] : List UInt8)]].flatten, obj b11v 34 [.int .i64 s8v.1, .int .i64 s8v.2.1, .int .i64 s8v.2.2.1, .int .i64 s8v.2.2.2.1, .int .i64 s8v.2.2.2.2.1, .int .i64 s8v.2.2.2.2.2.1, str s8v.2.2.2.2.2.2.1, str s8v.2.2.2.2.2.2.2.1, str s8v.2.2.2.2.2.2.2.2.1], obj b7v 34 [.int .i64 s4v.1, .int .i64 s4v.2.1, .int .i64 s4v.2.2.1, .int .i64 s4v.2.2.2.1, .int .i64 s4v.2.2.2.2.1, .int .i64 s4v.2.2.2.2.2.1, str s4v.2.2.2.2.2.2.1, str s4v.2.2.2.2.2.2.2.1, str s4v.2.2.2.2.2.2.2.2.1], Row 9 1 y3v.1 s1v.1.length y3v.2 rs17v.flatten, F]) rfl rfl rfl rfl rfl rfl Tryd.call15 (.sel 0 rfl (.sel 0 rfl (.sel 0 rfl (.sel 0 rfl (.sel 0 rfl (.nil _)))))) (synodref_Num.calls _ _ s1v.2 ) hs33v) rfl rfl rfl rfl rfl rfl ?_
 intro y34v
 refine simL_valg (q_eql rfl rfl rfl) rfl rfl rfl rfl rfl rfl ?_
 refine vq (q_pick rfl rfl rfl rfl rfl) rfl (simL_nil ?_)
 exact nrm_cut (s := decide (s32v = (0 : Int))) () ⟨rfl, rfl, rfl, rfl, rfl, rfl, trivial⟩ (.sel 2 rfl (.sel 3 rfl (.nil _)))
 rw [hb36v]
 refine simL_skipd rfl rfl rfl rfl rfl rfl ?_
 refine simL_skipd rfl rfl rfl rfl rfl rfl ?_
 refine simL_skipd rfl rfl rfl rfl rfl rfl ?_
 refine vq (q_pick rfl rfl rfl rfl rfl) rfl (simL_nil ?_)
 exact nrm_cut (s := false) () ⟨rfl, rfl, rfl, rfl, rfl, rfl, trivial⟩ (.sel 2 rfl (.sel 3 rfl (.nil _)))
 intro s30v y31v
 refine vm rfl rfl ?_
 refine simL_valc (b := s30v) (fun hb62v => RQ.sub (E' := [(3, .pointer (some ⟨b7v, 0, none⟩))]) ⟨rfl, trivial⟩ (q_loado 0 rfl rfl Tryd.isAgg34 Tryd.sizeOf34 rfl rfl)) rfl rfl rfl rfl rfl ?_
 refine simL_valc (b := s30v) (fun hb61v => RQ.sub (E' := []) trivial (q_build (v := .agg #[.int .i64 1, .int .i64 1, .int .i64 0, .int .i64 (-5), .int .i64 0, .int .i64 0, str ([] : List UInt8), str ([] : List UInt8), str ([] : List UInt8)]) rfl rfl (fun _ => by kernel_rfl))) rfl rfl rfl rfl rfl ?_
 refine simL_valc (b := s30v) (fun hb60v => RQ.sub (E' := [(35, .agg #[.int .i64 s4v.1, .int .i64 s4v.2.1, .int .i64 s4v.2.2.1, .int .i64 s4v.2.2.2.1, .int .i64 s4v.2.2.2.2.1, .int .i64 s4v.2.2.2.2.2.1, str s4v.2.2.2.2.2.2.1, str s4v.2.2.2.2.2.2.2.1, str s4v.2.2.2.2.2.2.2.2.1]), (36, .agg #[.int .i64 1, .int .i64 1, .int .i64 0, .int .i64 (-5), .int .i64 0, .int .i64 0, str ([] : List UInt8), str ([] : List UInt8), str ([] : List UInt8)])]) ⟨lk_cv rfl hb60v, lk_cv rfl hb60v, trivial⟩ (q_eqagg rfl rfl rfl (by kernel_rfl) (fun d w => eqi_struct Tryd.underlying34 (by kernel_rfl) (eqf_cons (by rfl) (part_of Tryd.isAgg3 rfl) (part_of Tryd.isAgg3 rfl) (eqi_int Tryd.underlying3) (eqf_cons (by rfl) (part_of Tryd.isAgg3 rfl) (part_of Tryd.isAgg3 rfl) (eqi_int Tryd.underlying3) (eqf_cons (by rfl) (part_of Tryd.isAgg3 rfl) (part_of Tryd.isAgg3 rfl) (eqi_int Tryd.underlying3) (eqf_cons (by rfl) (part_of Tryd.isAgg3 rfl) (part_of Tryd.isAgg3 rfl) (eqi_int Tryd.underlying3) (eqf_cons (by rfl) (part_of Tryd.isAgg3 rfl) (part_of Tryd.isAgg3 rfl) (eqi_int Tryd.underlying3) (eqf_cons (by rfl) (part_of Tryd.isAgg3 rfl) (part_of Tryd.isAgg3 rfl) (eqi_int Tryd.underlying3) (eqf_cons (by rfl) (part_of Tryd.isAgg9 rfl) (part_of Tryd.isAgg9 rfl) (eqi_str Tryd.underlying9) (eqf_cons (by rfl) (part_of Tryd.isAgg9 rfl) (part_of Tryd.isAgg9 rfl) (eqi_str Tryd.underlying9) (eqf_last (by rfl) (part_of Tryd.isAgg9 rfl) (part_of Tryd.isAgg9 rfl) (eqi_str Tryd.underlying9))))))))))))) rfl rfl rfl rfl rfl ?_
 refine vq (q_and rfl rfl rfl) rfl ?_
 refine vm rfl rfl ?_
 refine simL_cut' 4 (S := Bool) (Unit) (fun s y => [(6, .int .i64 s8v.2.2.2.2.2.2.2.2.2), (7, str s12v.1), (8, .int .i64 s12v.2), (43, .bool s)]) (fun s y => [F]) ?_ ?_
 refine simL_caseb (fun hb42v => ?_) (fun hb43v => ?_)
 rw [hb42v]
 refine simL_valg (q_move rfl rfl) rfl rfl rfl rfl rfl rfl ?_
 refine simL_bind (fun s39v hs40v => ?_)
 refine simL_effg (re_call (vs := [.int .i64 s4v.2.2.2.2.2.2.2.2.2]) (cap := []) (A := []) (rst := [obj b7v 34 [.int .i64 s4v.1, .int .i64 s4v.2.1, .int .i64 s4v.2.2.1, .int .i64 s4v.2.2.2.1, .int .i64 s4v.2.2.2.2.1, .int .i64 s4v.2.2.2.2.2.1, str s4v.2.2.2.2.2.2.1, str s4v.2.2.2.2.2.2.2.1, str s4v.2.2.2.2.2.2.2.2.1], F]) rfl rfl rfl rfl rfl rfl Tryd.call15 (.sel 0 rfl (.sel 0 rfl (.nil _))) (synodref_Num.calls _ _ s4v.2.2.2.2.2.2.2.2.2 ) hs40v) rfl rfl rfl rfl rfl rfl ?_
 intro y41v
 refine simL_valg (q_eql rfl rfl rfl) rfl rfl rfl rfl rfl rfl ?_
 refine vq (q_pick rfl rfl rfl rfl rfl) rfl (simL_nil ?_)
 exact nrm_cut (s := decide (s39v = (0 : Int))) () ⟨rfl, rfl, rfl, rfl, trivial⟩ (.sel 1 rfl (.nil _))
 rw [hb43v]
 refine simL_skipd rfl rfl rfl rfl rfl rfl ?_
 refine simL_skipd rfl rfl rfl rfl rfl rfl ?_
 refine simL_skipd rfl rfl rfl rfl rfl rfl ?_
 refine vq (q_pick rfl rfl rfl rfl rfl) rfl (simL_nil ?_)
 exact nrm_cut (s := false) () ⟨rfl, rfl, rfl, rfl, trivial⟩ (.sel 1 rfl (.nil _))
 intro s37v y38v
 refine vm rfl rfl ?_
 refine simL_cut' 4 (S := Bool) (Unit) (fun s y => [(7, str s12v.1), (8, .int .i64 s12v.2), (48, .bool s)]) (fun s y => [F]) ?_ ?_
 refine simL_caseb (fun hb49v => ?_) (fun hb50v => ?_)
 rw [hb49v]
 refine simL_valg (q_move rfl rfl) rfl rfl rfl rfl rfl rfl ?_
 refine simL_bind (fun s46v hs47v => ?_)
 refine simL_effg (re_call (vs := [.int .i64 s8v.2.2.2.2.2.2.2.2.2]) (cap := []) (A := []) (rst := [F]) rfl rfl rfl rfl rfl rfl Tryd.call15 (.sel 0 rfl (.nil _)) (synodref_Num.calls _ _ s8v.2.2.2.2.2.2.2.2.2 ) hs47v) rfl rfl rfl rfl rfl rfl ?_
 intro y48v
 refine simL_valg (q_eql rfl rfl rfl) rfl rfl rfl rfl rfl rfl ?_
 refine vq (q_pick rfl rfl rfl rfl rfl) rfl (simL_nil ?_)
 exact nrm_cut (s := decide (s46v = (22 : Int))) () ⟨rfl, rfl, rfl, trivial⟩ (.sel 0 rfl (.nil _))
 rw [hb50v]
 refine simL_skipd rfl rfl rfl rfl rfl rfl ?_
 refine simL_skipd rfl rfl rfl rfl rfl rfl ?_
 refine simL_skipd rfl rfl rfl rfl rfl rfl ?_
 refine vq (q_pick rfl rfl rfl rfl rfl) rfl (simL_nil ?_)
 exact nrm_cut (s := false) () ⟨rfl, rfl, rfl, trivial⟩ (.sel 0 rfl (.nil _))
 intro s44v y45v
 refine vm rfl rfl ?_
 refine simL_valc (b := s44v) (fun hb59v => RQ.sub (E' := [(7, str s12v.1)]) ⟨rfl, trivial⟩ (q_move rfl rfl)) rfl rfl rfl rfl rfl ?_
 refine simL_valc (b := s44v) (fun hb58v => RQ.sub (E' := [(50, str s12v.1)]) ⟨lk_cv rfl hb58v, trivial⟩ (q_eqs rfl rfl rfl)) rfl rfl rfl rfl rfl ?_
 refine vq (q_and rfl rfl rfl) rfl ?_
 refine vm rfl rfl ?_
 refine simL_cut' 4 (S := Bool) (Unit) (fun s y => [(57, .bool s)]) (fun s y => [F]) ?_ ?_
 refine simL_caseb (fun hb56v => ?_) (fun hb57v => ?_)
 rw [hb56v]
 refine simL_valg (q_move rfl rfl) rfl rfl rfl rfl rfl rfl ?_
 refine simL_bind (fun s53v hs54v => ?_)
 refine simL_effg (re_call (vs := [.int .i64 s12v.2]) (cap := []) (A := []) (rst := [F]) rfl rfl rfl rfl rfl rfl Tryd.call15 (.sel 0 rfl (.nil _)) (synodref_Num.calls _ _ s12v.2 ) hs54v) rfl rfl rfl rfl rfl rfl ?_
 intro y55v
 refine simL_valg (q_eql rfl rfl rfl) rfl rfl rfl rfl rfl rfl ?_
 refine vq (q_pick rfl rfl rfl rfl rfl) rfl (simL_nil ?_)
 exact nrm_cut (s := decide (s53v = (0 : Int))) () ⟨rfl, trivial⟩ (.sel 0 rfl (.nil _))
 rw [hb57v]
 refine simL_skipd rfl rfl rfl rfl rfl rfl ?_
 refine simL_skipd rfl rfl rfl rfl rfl rfl ?_
 refine simL_skipd rfl rfl rfl rfl rfl rfl ?_
 refine vq (q_pick rfl rfl rfl rfl rfl) rfl (simL_nil ?_)
 exact nrm_cut (s := false) () ⟨rfl, trivial⟩ (.sel 0 rfl (.nil _))
 intro s51v y52v
 refine va rfl rfl (simL_nil (nrm_then (sim_rtn ?_)))
 exact rtn_fn () rfl rfl rfl (.sel 0 rfl (.nil _))

def synodlaw17_TextBack.f (k : Nat) (x0 : List UInt8) (x1_0 : Int) (x1_1 : Int) (x1_2 : Int) (x1_3 : Int) (x1_4 : Int) (x1_5 : Int) (x1_6 : List UInt8) (x1_7 : List UInt8) (x1_8 : List UInt8) : Option (Bool) := (synodlaw17_first.f k).bind fun s2v => (if (((((!s2v) || (decide ((20000 : Int) < (x0.length : Int)))) || (decide ((20000 : Int) < (x1_6.length : Int)))) || (decide ((20000 : Int) < (x1_7.length : Int)))) || (decide ((20000 : Int) < (x1_8.length : Int)))) = true then (some s2v) else ((text_FormatAct.f k x1_0 x1_1 x1_2 x1_3 x1_4 x1_5 x1_6 x1_7 x1_8).bind fun s7v => (orR ((synodref_Num.f s7v.2).bind fun s12v => (if s12v = (0 : Int) then ((text_ParseAct.f k s7v.1).bind fun s17v => ((if (!(decide (s17v.1 = x1_0) && (decide (s17v.2.1 = x1_1) && (decide (s17v.2.2.1 = x1_2) && (decide (s17v.2.2.2.1 = x1_3) && (decide (s17v.2.2.2.2.1 = x1_4) && (decide (s17v.2.2.2.2.2.1 = x1_5) && (decide (s17v.2.2.2.2.2.2.1 = x1_6) && (decide (s17v.2.2.2.2.2.2.2.1 = x1_7) && (decide (s17v.2.2.2.2.2.2.2.2.1 = x1_8))))))))))) = true then (some true) else ((synodref_Num.f s17v.2.2.2.2.2.2.2.2.2).bind fun s23v => (some (!decide (s23v = (0 : Int)))))).bind fun s21v => (if s21v = true then (some (.inr false)) else (some (.inl ()))))) else (some (.inl ())))) fun s10v => ((text_ParseAct.f k x0).bind fun s30v => ((synodref_Num.f s30v.2.2.2.2.2.2.2.2.2).bind fun s34v => (if s34v = (0 : Int) then ((text_FormatAct.f k s30v.1 s30v.2.1 s30v.2.2.1 s30v.2.2.2.1 s30v.2.2.2.2.1 s30v.2.2.2.2.2.1 s30v.2.2.2.2.2.2.1 s30v.2.2.2.2.2.2.2.1 s30v.2.2.2.2.2.2.2.2.1).bind fun s39v => ((synodref_Num.f s39v.2).bind fun s42v => (if s42v = (3 : Int) then (some (decide ((0 : Int) < (x0.length : Int)))) else ((text_ParseAct.f k s39v.1).bind fun s47v => ((synodref_Num.f s39v.2).bind fun s51v => ((if s51v = (0 : Int) then ((synodref_Num.f s47v.2.2.2.2.2.2.2.2.2).bind fun s56v => (some (decide (s56v = (0 : Int))))) else (some false)).bind fun s54v => (some (s54v && (decide (s47v.1 = s30v.1) && (decide (s47v.2.1 = s30v.2.1) && (decide (s47v.2.2.1 = s30v.2.2.1) && (decide (s47v.2.2.2.1 = s30v.2.2.2.1) && (decide (s47v.2.2.2.2.1 = s30v.2.2.2.2.1) && (decide (s47v.2.2.2.2.2.1 = s30v.2.2.2.2.2.1) && (decide (s47v.2.2.2.2.2.2.1 = s30v.2.2.2.2.2.2.1) && (decide (s47v.2.2.2.2.2.2.2.1 = s30v.2.2.2.2.2.2.2.1) && (decide (s47v.2.2.2.2.2.2.2.2.1 = s30v.2.2.2.2.2.2.2.2.1)))))))))))))))))) else (some (decide (s30v.1 = (0 : Int)) && (decide (s30v.2.1 = (0 : Int)) && (decide (s30v.2.2.1 = (0 : Int)) && (decide (s30v.2.2.2.1 = (0 : Int)) && (decide (s30v.2.2.2.2.1 = (0 : Int)) && (decide (s30v.2.2.2.2.2.1 = (0 : Int)) && (decide (s30v.2.2.2.2.2.2.1 = ([] : List UInt8)) && (decide (s30v.2.2.2.2.2.2.2.1 = ([] : List UInt8)) && (decide (s30v.2.2.2.2.2.2.2.2.1 = ([] : List UInt8))))))))))))))))))
theorem synodlaw17_TextBack.calls (W : World) (F : HA) (k : Nat) (x0 : List UInt8) (x1_0 : Int) (x1_1 : Int) (x1_2 : Int) (x1_3 : Int) (x1_4 : Int) (x1_5 : Int) (x1_6 : List UInt8) (x1_7 : List UInt8) (x1_8 : List UInt8) (hgl : Glb Tryd.prog F) :
    Fn Tryd.prog W 5 [str x0, .agg #[.int .i64 x1_0, .int .i64 x1_1, .int .i64 x1_2, .int .i64 x1_3, .int .i64 x1_4, .int .i64 x1_5, str x1_6, str x1_7, str x1_8]] [] F (synodlaw17_TextBack.f k x0 x1_0 x1_1 x1_2 x1_3 x1_4 x1_5 x1_6 x1_7 x1_8) (fun (r : Bool) (y : Unit) => .bool r) (fun r y => []) := by
 unfold synodlaw17_TextBack.f
 refine fn_intro 104 Tryd.func5 rfl Tryd.ntmps5 rfl ?_
 refine sr ?_
 refine simL_eff (re_box rfl rfl rfl) rfl rfl rfl ?_
 intro b1v
 refine va rfl rfl (nx ?_)
 refine simL_bind (fun s2v hs3v => ?_)
 refine simL_eff (re_call (vs := []) (cap := []) (A := []) (rst := [obj b1v 34 [.int .i64 x1_0, .int .i64 x1_1, .int .i64 x1_2, .int .i64 x1_3, .int .i64 x1_4, .int .i64 x1_5, str x1_6, str x1_7, str x1_8], F]) rfl rfl rfl rfl rfl rfl Tryd.call11 (.sel 0 rfl (.sel 0 rfl (.nil _))) (synodlaw17_first.calls _ _ k  (hgl.lend 1 rfl)) hs3v) rfl rfl rfl ?_
 intro y4v
 refine va rfl rfl (simL_nil (nrm_then (sim_seq (sr ?_))))
 refine vm rfl rfl ?_
 refine vq (q_not rfl rfl) rfl ?_
 refine vm rfl rfl ?_
 refine simL_valc (b := !s2v) (fun hb78v => RQ.sub (E' := [(0, str x0)]) ⟨rfl, trivial⟩ (q_move rfl rfl)) rfl rfl rfl rfl rfl ?_
 refine simL_valc (b := !s2v) (fun hb77v => RQ.sub (E' := [(20, str x0)]) ⟨lk_cv rfl hb77v, trivial⟩ (q_lens rfl rfl rfl Tryd.underlying9)) rfl rfl rfl rfl rfl ?_
 refine simL_valc (b := !s2v) (fun hb76v => RQ.sub (E' := [(21, .int .i64 (x0.length : Int))]) ⟨lk_cv rfl hb76v, trivial⟩ (q_gtr rfl rfl rfl)) rfl rfl rfl rfl rfl ?_
 refine vq (q_or rfl rfl rfl) rfl ?_
 refine vm rfl rfl ?_
 refine simL_valc (b := (!s2v) || (decide ((20000 : Int) < (x0.length : Int)))) (fun hb75v => RQ.sub (E' := [(3, .pointer (some ⟨b1v, 0, none⟩))]) ⟨rfl, trivial⟩ (q_fa rfl rfl Tryd.underlying34 rfl rfl Tryd.sizeOf9 rfl)) rfl rfl rfl rfl rfl ?_
 refine simL_valc (b := (!s2v) || (decide ((20000 : Int) < (x0.length : Int)))) (fun hb74v => RQ.sub (E' := [(25, .pointer (some ⟨b1v, 6, none⟩))]) ⟨lk_cv rfl hb74v, trivial⟩ (q_load rfl rfl Tryd.isAgg9 (.obj 0 rfl rfl))) rfl rfl rfl rfl rfl ?_
 refine simL_valc (b := (!s2v) || (decide ((20000 : Int) < (x0.length : Int)))) (fun hb73v => RQ.sub (E' := [(26, str x1_6)]) ⟨lk_cv rfl hb73v, trivial⟩ (q_lens rfl rfl rfl Tryd.underlying9)) rfl rfl rfl rfl rfl ?_
 refine simL_valc (b := (!s2v) || (decide ((20000 : Int) < (x0.length : Int)))) (fun hb72v => RQ.sub (E' := [(27, .int .i64 (x1_6.length : Int))]) ⟨lk_cv rfl hb72v, trivial⟩ (q_gtr rfl rfl rfl)) rfl rfl rfl rfl rfl ?_
 refine vq (q_or rfl rfl rfl) rfl ?_
 refine vm rfl rfl ?_
 refine simL_valc (b := ((!s2v) || (decide ((20000 : Int) < (x0.length : Int)))) || (decide ((20000 : Int) < (x1_6.length : Int)))) (fun hb71v => RQ.sub (E' := [(3, .pointer (some ⟨b1v, 0, none⟩))]) ⟨rfl, trivial⟩ (q_fa rfl rfl Tryd.underlying34 rfl rfl Tryd.sizeOf9 rfl)) rfl rfl rfl rfl rfl ?_
 refine simL_valc (b := ((!s2v) || (decide ((20000 : Int) < (x0.length : Int)))) || (decide ((20000 : Int) < (x1_6.length : Int)))) (fun hb70v => RQ.sub (E' := [(31, .pointer (some ⟨b1v, 7, none⟩))]) ⟨lk_cv rfl hb70v, trivial⟩ (q_load rfl rfl Tryd.isAgg9 (.obj 0 rfl rfl))) rfl rfl rfl rfl rfl ?_
 refine simL_valc (b := ((!s2v) || (decide ((20000 : Int) < (x0.length : Int)))) || (decide ((20000 : Int) < (x1_6.length : Int)))) (fun hb69v => RQ.sub (E' := [(32, str x1_7)]) ⟨lk_cv rfl hb69v, trivial⟩ (q_lens rfl rfl rfl Tryd.underlying9)) rfl rfl rfl rfl rfl ?_
 refine simL_valc (b := ((!s2v) || (decide ((20000 : Int) < (x0.length : Int)))) || (decide ((20000 : Int) < (x1_6.length : Int)))) (fun hb68v => RQ.sub (E' := [(33, .int .i64 (x1_7.length : Int))]) ⟨lk_cv rfl hb68v, trivial⟩ (q_gtr rfl rfl rfl)) rfl rfl rfl rfl rfl ?_
 refine vq (q_or rfl rfl rfl) rfl ?_
 refine vm rfl rfl ?_
 refine simL_valc (b := (((!s2v) || (decide ((20000 : Int) < (x0.length : Int)))) || (decide ((20000 : Int) < (x1_6.length : Int)))) || (decide ((20000 : Int) < (x1_7.length : Int)))) (fun hb67v => RQ.sub (E' := [(3, .pointer (some ⟨b1v, 0, none⟩))]) ⟨rfl, trivial⟩ (q_fa rfl rfl Tryd.underlying34 rfl rfl Tryd.sizeOf9 rfl)) rfl rfl rfl rfl rfl ?_
 refine simL_valc (b := (((!s2v) || (decide ((20000 : Int) < (x0.length : Int)))) || (decide ((20000 : Int) < (x1_6.length : Int)))) || (decide ((20000 : Int) < (x1_7.length : Int)))) (fun hb66v => RQ.sub (E' := [(37, .pointer (some ⟨b1v, 8, none⟩))]) ⟨lk_cv rfl hb66v, trivial⟩ (q_load rfl rfl Tryd.isAgg9 (.obj 0 rfl rfl))) rfl rfl rfl rfl rfl ?_
 refine simL_valc (b := (((!s2v) || (decide ((20000 : Int) < (x0.length : Int)))) || (decide ((20000 : Int) < (x1_6.length : Int)))) || (decide ((20000 : Int) < (x1_7.length : Int)))) (fun hb65v => RQ.sub (E' := [(38, str x1_8)]) ⟨lk_cv rfl hb65v, trivial⟩ (q_lens rfl rfl rfl Tryd.underlying9)) rfl rfl rfl rfl rfl ?_
 refine simL_valc (b := (((!s2v) || (decide ((20000 : Int) < (x0.length : Int)))) || (decide ((20000 : Int) < (x1_6.length : Int)))) || (decide ((20000 : Int) < (x1_7.length : Int)))) (fun hb64v => RQ.sub (E' := [(39, .int .i64 (x1_8.length : Int))]) ⟨lk_cv rfl hb64v, trivial⟩ (q_gtr rfl rfl rfl)) rfl rfl rfl rfl rfl ?_
 refine vq (q_or rfl rfl rfl) rfl (simL_nil (nrm_then ?_))
 refine sim_condb rfl (fun h5v => ?_) (fun h6v => ?_)
 refine sr ?_
 refine vm rfl rfl ?_
 refine va rfl rfl (simL_nil (nrm_then (sim_rtn ?_)))
 refine rtn_then ?_
 exact rtn_fn () rfl rfl rfl (.sel 1 rfl (.nil _))
 refine sim_skip ?_
 refine nrm_then (sr ?_)
 refine vq (q_loado 0 rfl rfl Tryd.isAgg34 Tryd.sizeOf34 rfl rfl) rfl ?_
 refine simL_bind (fun s7v hs8v => ?_)
 refine simL_eff (re_call (vs := [.agg #[.int .i64 x1_0, .int .i64 x1_1, .int .i64 x1_2, .int .i64 x1_3, .int .i64 x1_4, .int .i64 x1_5, str x1_6, str x1_7, str x1_8]]) (cap := []) (A := []) (rst := [obj b1v 34 [.int .i64 x1_0, .int .i64 x1_1, .int .i64 x1_2, .int .i64 x1_3, .int .i64 x1_4, .int .i64 x1_5, str x1_6, str x1_7, str x1_8], F]) rfl rfl rfl rfl rfl rfl Tryd.call20 (.sel 0 rfl (.sel 0 rfl (.nil _))) (text_FormatAct.calls _ _ k x1_0 x1_1 x1_2 x1_3 x1_4 x1_5 x1_6 x1_7 x1_8 (hgl.lend 1 rfl)) hs8v) rfl rfl rfl ?_
 intro y9v
 refine vm rfl rfl ?_
 refine vq (q_ext rfl rfl rfl) rfl ?_
 refine vq (q_ext rfl rfl rfl) rfl ?_
 refine va rfl rfl ?_
 refine va rfl rfl (simL_nil (nrm_then ?_))
 refine sim_cutR (S := Unit) (Unit) (fun s y => [(0, str x0)]) (fun s y => [F]) ?_ ?_
 refine sr ?_
 refine vm rfl rfl ?_
 refine simL_bind (fun s12v hs13v => ?_)
 refine simL_eff (re_call (vs := [.int .i64 s7v.2]) (cap := []) (A := []) (rst := [obj b1v 34 [.int .i64 x1_0, .int .i64 x1_1, .int .i64 x1_2, .int .i64 x1_3, .int .i64 x1_4, .int .i64 x1_5, str x1_6, str x1_7, str x1_8], F]) rfl rfl rfl rfl rfl rfl Tryd.call15 (.sel 0 rfl (.sel 0 rfl (.nil _))) (synodref_Num.calls _ _ s7v.2 ) hs13v) rfl rfl rfl ?_
 intro y14v
 refine vq (q_eql rfl rfl rfl) rfl (simL_nil (nrm_then ?_))
 refine sim_cond rfl (fun h15v => ?_) (fun h16v => ?_)
 refine sr ?_
 refine vm rfl rfl ?_
 refine simL_bind (fun s17v hs18v => ?_)
 refine simL_eff (re_call (vs := [str s7v.1]) (cap := []) (A := []) (rst := [obj b1v 34 [.int .i64 x1_0, .int .i64 x1_1, .int .i64 x1_2, .int .i64 x1_3, .int .i64 x1_4, .int .i64 x1_5, str x1_6, str x1_7, str x1_8], F]) rfl rfl rfl rfl rfl rfl Tryd.call18 (.sel 0 rfl (.sel 0 rfl (.nil _))) (text_ParseAct.calls _ _ k s7v.1 (hgl.lend 1 rfl)) hs18v) rfl rfl rfl ?_
 intro y19v
 refine vm rfl rfl ?_
 refine vq (q_ext rfl rfl rfl) rfl ?_
 refine vq (q_ext rfl rfl rfl) rfl ?_
 refine simL_eff (re_alloc rfl Tryd.zeroValue34 rfl) rfl rfl rfl ?_
 intro b20v
 refine simL_do (re_store 0 rfl rfl rfl Tryd.sizeOf34 rfl rfl (one_of (by rfl)) rfl rfl) rfl rfl ?_
 intro _
 refine simL_ent (H' := [obj b20v 34 [.int .i64 s17v.1, .int .i64 s17v.2.1, .int .i64 s17v.2.2.1, .int .i64 s17v.2.2.2.1, .int .i64 s17v.2.2.2.2.1, .int .i64 s17v.2.2.2.2.2.1, str s17v.2.2.2.2.2.2.1, str s17v.2.2.2.2.2.2.2.1, str s17v.2.2.2.2.2.2.2.2.1], obj b1v 34 [.int .i64 x1_0, .int .i64 x1_1, .int .i64 x1_2, .int .i64 x1_3, .int .i64 x1_4, .int .i64 x1_5, str x1_6, str x1_7, str x1_8], F]) (Ent.refl _) ?_
 refine va rfl rfl (nx ?_)
 refine vq (q_loado 0 rfl rfl Tryd.isAgg34 Tryd.sizeOf34 rfl rfl) rfl ?_
 refine vq (q_loado 1 rfl rfl Tryd.isAgg34 Tryd.sizeOf34 rfl rfl) rfl ?_
 refine vq (q_neagg rfl rfl rfl (by kernel_rfl) (fun d w => eqi_struct Tryd.underlying34 (by kernel_rfl) (eqf_cons (by rfl) (part_of Tryd.isAgg3 rfl) (part_of Tryd.isAgg3 rfl) (eqi_int Tryd.underlying3) (eqf_cons (by rfl) (part_of Tryd.isAgg3 rfl) (part_of Tryd.isAgg3 rfl) (eqi_int Tryd.underlying3) (eqf_cons (by rfl) (part_of Tryd.isAgg3 rfl) (part_of Tryd.isAgg3 rfl) (eqi_int Tryd.underlying3) (eqf_cons (by rfl) (part_of Tryd.isAgg3 rfl) (part_of Tryd.isAgg3 rfl) (eqi_int Tryd.underlying3) (eqf_cons (by rfl) (part_of Tryd.isAgg3 rfl) (part_of Tryd.isAgg3 rfl) (eqi_int Tryd.underlying3) (eqf_cons (by rfl) (part_of Tryd.isAgg3 rfl) (part_of Tryd.isAgg3 rfl) (eqi_int Tryd.underlying3) (eqf_cons (by rfl) (part_of Tryd.isAgg9 rfl) (part_of Tryd.isAgg9 rfl) (eqi_str Tryd.underlying9) (eqf_cons (by rfl) (part_of Tryd.isAgg9 rfl) (part_of Tryd.isAgg9 rfl) (eqi_str Tryd.underlying9) (eqf_last (by rfl) (part_of Tryd.isAgg9 rfl) (part_of Tryd.isAgg9 rfl) (eqi_str Tryd.underlying9)))))))))))) rfl ?_
 refine vm rfl rfl ?_
 refine simL_cut' 4 (S := Bool) (Unit) (fun s y => [(0, str x0), (63, .bool s)]) (fun s y => [F]) ?_ ?_
 refine simL_caseb (fun hb26v => ?_) (fun hb27v => ?_)
 rw [hb26v]
 refine simL_skipd rfl rfl rfl rfl rfl rfl ?_
 refine simL_skipd rfl rfl rfl rfl rfl rfl ?_
 refine simL_skipd rfl rfl rfl rfl rfl rfl ?_
 refine vq (q_pick rfl rfl rfl rfl rfl) rfl (simL_nil ?_)
 exact nrm_cut (s := true) () ⟨rfl, rfl, trivial⟩ (.sel 2 rfl (.nil _))
 rw [hb27v]
 refine simL_valg (q_move rfl rfl) rfl rfl rfl rfl rfl rfl ?_
 refine simL_bind (fun s23v hs24v => ?_)
 refine simL_effg (re_call (vs := [.int .i64 s17v.2.2.2.2.2.2.2.2.2]) (cap := []) (A := []) (rst := [obj b20v 34 [.int .i64 s17v.1, .int .i64 s17v.2.1, .int .i64 s17v.2.2.1, .int .i64 s17v.2.2.2.1, .int .i64 s17v.2.2.2.2.1, .int .i64 s17v.2.2.2.2.2.1, str s17v.2.2.2.2.2.2.1, str s17v.2.2.2.2.2.2.2.1, str s17v.2.2.2.2.2.2.2.2.1], obj b1v 34 [.int .i64 x1_0, .int .i64 x1_1, .int .i64 x1_2, .int .i64 x1_3, .int .i64 x1_4, .int .i64 x1_5, str x1_6, str x1_7, str x1_8], F]) rfl rfl rfl rfl rfl rfl Tryd.call15 (.sel 0 rfl (.sel 0 rfl (.sel 0 rfl (.nil _)))) (synodref_Num.calls _ _ s17v.2.2.2.2.2.2.2.2.2 ) hs24v) rfl rfl rfl rfl rfl rfl ?_
 intro y25v
 refine simL_valg (q_neq rfl rfl rfl) rfl rfl rfl rfl rfl rfl ?_
 refine vq (q_pick rfl rfl rfl rfl rfl) rfl (simL_nil ?_)
 exact nrm_cut (s := !decide (s23v = (0 : Int))) () ⟨rfl, rfl, trivial⟩ (.sel 2 rfl (.nil _))
 intro s21v y22v
 refine simL_nil (nrm_then ?_)
 refine sim_condb rfl (fun h28v => ?_) (fun h29v => ?_)
 refine sr ?_
 refine va rfl rfl (simL_nil (nrm_then (sim_rtn ?_)))
 refine rtn_cutR ?_
 exact rtn_fn () rfl rfl rfl (.sel 0 rfl (.nil _))
 refine sim_skip ?_
 exact nrm_cutR (s := ()) () ⟨rfl, trivial⟩ (.sel 0 rfl (.nil _))
 refine sim_skip ?_
 exact nrm_cutR (s := ()) () ⟨rfl, trivial⟩ (.sel 1 rfl (.nil _))
 intro s10v y11v
 refine sr ?_
 refine vm rfl rfl ?_
 refine simL_bind (fun s30v hs31v => ?_)
 refine simL_eff (re_call (vs := [str x0]) (cap := []) (A := []) (rst := [F]) rfl rfl rfl rfl rfl rfl Tryd.call18 (.sel 0 rfl (.nil _)) (text_ParseAct.calls _ _ k x0 (hgl.lend 0 rfl)) hs31v) rfl rfl rfl ?_
 intro y32v
 refine vm rfl rfl ?_
 refine vq (q_ext rfl rfl rfl) rfl ?_
 refine vq (q_ext rfl rfl rfl) rfl ?_
 refine simL_eff (re_alloc rfl Tryd.zeroValue34 rfl) rfl rfl rfl ?_
 intro b33v
 refine simL_do (re_store 0 rfl rfl rfl Tryd.sizeOf34 rfl rfl (one_of (by rfl)) rfl rfl) rfl rfl ?_
 intro _
 refine simL_ent (H' := [obj b33v 34 [.int .i64 s30v.1, .int .i64 s30v.2.1, .int .i64 s30v.2.2.1, .int .i64 s30v.2.2.2.1, .int .i64 s30v.2.2.2.2.1, .int .i64 s30v.2.2.2.2.2.1, str s30v.2.2.2.2.2.2.1, str s30v.2.2.2.2.2.2.2.1, str s30v.2.2.2.2.2.2.2.2.1], F]) (Ent.refl _) ?_
 refine va rfl rfl (simL_nil (nrm_then (sim_seq (sr ?_))))
 refine vm rfl rfl ?_
 refine simL_bind (fun s34v hs35v => ?_)
 refine simL_eff (re_call (vs := [.int .i64 s30v.2.2.2.2.2.2.2.2.2]) (cap := []) (A := []) (rst := [obj b33v 34 [.int .i64 s30v.1, .int .i64 s30v.2.1, .int .i64 s30v.2.2.1, .int .i64 s30v.2.2.2.1, .int .i64 s30v.2.2.2.2.1, .int .i64 s30v.2.2.2.2.2.1, str s30v.2.2.2.2.2.2.1, str s30v.2.2.2.2.2.2.2.1, str s30v.2.2.2.2.2.2.2.2.1], F]) rfl rfl rfl rfl rfl rfl Tryd.call15 (.sel 0 rfl (.sel 0 rfl (.nil _))) (synodref_Num.calls _ _ s30v.2.2.2.2.2.2.2.2.2 ) hs35v) rfl rfl rfl ?_
 intro y36v
 refine vq (q_neq rfl rfl rfl) rfl (simL_nil (nrm_then ?_))
 refine sim_condn rfl (fun h37v => ?_) (fun h38v => ?_)
 refine sim_skip ?_
 refine nrm_then (sr ?_)
 refine vq (q_loado 0 rfl rfl Tryd.isAgg34 Tryd.sizeOf34 rfl rfl) rfl ?_
 refine simL_bind (fun s39v hs40v => ?_)
 refine simL_eff (re_call (vs := [.agg #[.int .i64 s30v.1, .int .i64 s30v.2.1, .int .i64 s30v.2.2.1, .int .i64 s30v.2.2.2.1, .int .i64 s30v.2.2.2.2.1, .int .i64 s30v.2.2.2.2.2.1, str s30v.2.2.2.2.2.2.1, str s30v.2.2.2.2.2.2.2.1, str s30v.2.2.2.2.2.2.2.2.1]]) (cap := []) (A := []) (rst := [obj b33v 34 [.int .i64 s30v.1, .int .i64 s30v.2.1, .int .i64 s30v.2.2.1, .int .i64 s30v.2.2.2.1, .int .i64 s30v.2.2.2.2.1, .int .i64 s30v.2.2.2.2.2.1, str s30v.2.2.2.2.2.2.1, str s30v.2.2.2.2.2.2.2.1, str s30v.2.2.2.2.2.2.2.2.1], F]) rfl rfl rfl rfl rfl rfl Tryd.call20 (.sel 0 rfl (.sel 0 rfl (.nil _))) (text_FormatAct.calls _ _ k s30v.1 s30v.2.1 s30v.2.2.1 s30v.2.2.2.1 s30v.2.2.2.2.1 s30v.2.2.2.2.2.1 s30v.2.2.2.2.2.2.1 s30v.2.2.2.2.2.2.2.1 s30v.2.2.2.2.2.2.2.2.1 (hgl.lend 1 rfl)) hs40v) rfl rfl rfl ?_
 intro y41v
 refine vm rfl rfl ?_
 refine vq (q_ext rfl rfl rfl) rfl ?_
 refine vq (q_ext rfl rfl rfl) rfl ?_
 refine va rfl rfl ?_
 refine va rfl rfl (simL_nil (nrm_then (sim_seq (sr ?_))))
 refine vm rfl rfl ?_
 refine simL_bind (fun s42v hs43v => ?_)
 refine simL_eff (re_call (vs := [.int .i64 s39v.2]) (cap := []) (A := []) (rst := [obj b33v 34 [.int .i64 s30v.1, .int .i64 s30v.2.1, .int .i64 s30v.2.2.1, .int .i64 s30v.2.2.2.1, .int .i64 s30v.2.2.2.2.1, .int .i64 s30v.2.2.2.2.2.1, str s30v.2.2.2.2.2.2.1, str s30v.2.2.2.2.2.2.2.1, str s30v.2.2.2.2.2.2.2.2.1], F]) rfl rfl rfl rfl rfl rfl Tryd.call15 (.sel 0 rfl (.sel 0 rfl (.nil _))) (synodref_Num.calls _ _ s39v.2 ) hs43v) rfl rfl rfl ?_
 intro y44v
 refine vq (q_eql rfl rfl rfl) rfl (simL_nil (nrm_then ?_))
 refine sim_cond rfl (fun h45v => ?_) (fun h46v => ?_)
 refine sr ?_
 refine vm rfl rfl ?_
 refine vq (q_lens rfl rfl rfl Tryd.underlying9) rfl ?_
 refine vq (q_gtr rfl rfl rfl) rfl ?_
 refine va rfl rfl (simL_nil (nrm_then (sim_rtn ?_)))
 refine rtn_then ?_
 exact rtn_fn () rfl rfl rfl (.sel 1 rfl (.nil _))
 refine sim_skip ?_
 refine nrm_then (sr ?_)
 refine vm rfl rfl ?_
 refine simL_bind (fun s47v hs48v => ?_)
 refine simL_eff (re_call (vs := [str s39v.1]) (cap := []) (A := []) (rst := [obj b33v 34 [.int .i64 s30v.1, .int .i64 s30v.2.1, .int .i64 s30v.2.2.1, .int .i64 s30v.2.2.2.1, .int .i64 s30v.2.2.2.2.1, .int .i64 s30v.2.2.2.2.2.1, str s30v.2.2.2.2.2.2.1, str s30v.2.2.2.2.2.2.2.1, str s30v.2.2.2.2.2.2.2.2.1], F]) rfl rfl rfl rfl rfl rfl Tryd.call18 (.sel 0 rfl (.sel 0 rfl (.nil _))) (text_ParseAct.calls _ _ k s39v.1 (hgl.lend 1 rfl)) hs48v) rfl rfl rfl ?_
 intro y49v
 refine vm rfl rfl ?_
 refine vq (q_ext rfl rfl rfl) rfl ?_
 refine vq (q_ext rfl rfl rfl) rfl ?_
 refine simL_eff (re_alloc rfl Tryd.zeroValue34 rfl) rfl rfl rfl ?_
 intro b50v
 refine simL_do (re_store 0 rfl rfl rfl Tryd.sizeOf34 rfl rfl (one_of (by rfl)) rfl rfl) rfl rfl ?_
 intro _
 refine simL_ent (H' := [obj b50v 34 [.int .i64 s47v.1, .int .i64 s47v.2.1, .int .i64 s47v.2.2.1, .int .i64 s47v.2.2.2.1, .int .i64 s47v.2.2.2.2.1, .int .i64 s47v.2.2.2.2.2.1, str s47v.2.2.2.2.2.2.1, str s47v.2.2.2.2.2.2.2.1, str s47v.2.2.2.2.2.2.2.2.1], obj b33v 34 [.int .i64 s30v.1, .int .i64 s30v.2.1, .int .i64 s30v.2.2.1, .int .i64 s30v.2.2.2.1, .int .i64 s30v.2.2.2.2.1, .int .i64 s30v.2.2.2.2.2.1, str s30v.2.2.2.2.2.2.1, str s30v.2.2.2.2.2.2.2.1, str s30v.2.2.2.2.2.2.2.2.1], F]) (Ent.refl _) ?_
 refine va rfl rfl (nx ?_)
 refine vm rfl rfl ?_
 refine simL_bind (fun s51v hs52v => ?_)
 refine simL_eff (re_call (vs := [.int .i64 s39v.2]) (cap := []) (A := []) (rst := [obj b50v 34 [.int .i64 s47v.1, .int .i64 s47v.2.1, .int .i64 s47v.2.2.1, .int .i64 s47v.2.2.2.1, .int .i64 s47v.2.2.2.2.1, .int .i64 s47v.2.2.2.2.2.1, str s47v.2.2.2.2.2.2.1, str s47v.2.2.2.2.2.2.2.1, str s47v.2.2.2.2.2.2.2.2.1], obj b33v 34 [.int .i64 s30v.1, .int .i64 s30v.2.1, .int .i64 s30v.2.2.1, .int .i64 s30v.2.2.2.1, .int .i64 s30v.2.2.2.2.1, .int .i64 s30v.2.2.2.2.2.1, str s30v.2.2.2.2.2.2.1, str s30v.2.2.2.2.2.2.2.1, str s30v.2.2.2.2.2.2.2.2.1], F]) rfl rfl rfl rfl rfl rfl Tryd.call15 (.sel 0 rfl (.sel 0 rfl (.sel 0 rfl (.nil _)))) (synodref_Num.calls _ _ s39v.2 ) hs52v) rfl rfl rfl ?_
 intro y53v
 refine vq (q_eql rfl rfl rfl) rfl ?_
 refine vm rfl rfl ?_
 refine simL_cut' 4 (S := Bool) (Unit) (fun s y => [(10, .pointer (some ⟨b33v, 0, none⟩)), (14, .pointer (some ⟨b50v, 0, none⟩)), (98, .bool s)]) (fun s y => [obj b50v 34 [.int .i64 s47v.1, .int .i64 s47v.2.1, .int .i64 s47v.2.2.1, .int .i64 s47v.2.2.2.1, .int .i64 s47v.2.2.2.2.1, .int .i64 s47v.2.2.2.2.2.1, str s47v.2.2.2.2.2.2.1, str s47v.2.2.2.2.2.2.2.1, str s47v.2.2.2.2.2.2.2.2.1], obj b33v 34 [.int .i64 s30v.1, .int .i64 s30v.2.1, .int .i64 s30v.2.2.1, .int .i64 s30v.2.2.2.1, .int .i64 s30v.2.2.2.2.1, .int .i64 s30v.2.2.2.2.2.1, str s30v.2.2.2.2.2.2.1, str s30v.2.2.2.2.2.2.2.1, str s30v.2.2.2.2.2.2.2.2.1], F]) ?_ ?_
 refine simL_casep (fun hb59v => ?_) (fun hb60v => ?_)
 rw [hb59v]
 refine simL_valg (q_move rfl rfl) rfl rfl rfl rfl rfl rfl ?_
 refine simL_bind (fun s56v hs57v => ?_)
 refine simL_effg (re_call (vs := [.int .i64 s47v.2.2.2.2.2.2.2.2.2]) (cap := []) (A := []) (rst := [obj b50v 34 [.int .i64 s47v.1, .int .i64 s47v.2.1, .int .i64 s47v.2.2.1, .int .i64 s47v.2.2.2.1, .int .i64 s47v.2.2.2.2.1, .int .i64 s47v.2.2.2.2.2.1, str s47v.2.2.2.2.2.2.1, str s47v.2.2.2.2.2.2.2.1, str s47v.2.2.2.2.2.2.2.2.1], obj b33v 34 [.int .i64 s30v.1, .int .i64 s30v.2.1, .int .i64 s30v.2.2.1, .int .i64 s30v.2.2.2.1, .int .i64 s30v.2.2.2.2.1, .int .i64 s30v.2.2.2.2.2.1, str s30v.2.2.2.2.2.2.1, str s30v.2.2.2.2.2.2.2.1, str s30v.2.2.2.2.2.2.2.2.1], F]) rfl rfl rfl rfl rfl rfl Tryd.call15 (.sel 0 rfl (.sel 0 rfl (.sel 0 rfl (.nil _)))) (synodref_Num.calls _ _ s47v.2.2.2.2.2.2.2.2.2 ) hs57v) rfl rfl rfl rfl rfl rfl ?_
 intro y58v
 refine simL_valg (q_eql rfl rfl rfl) rfl rfl rfl rfl rfl rfl ?_
 refine vq (q_pick rfl rfl rfl rfl rfl) rfl (simL_nil ?_)
 exact nrm_cut (s := decide (s56v = (0 : Int))) () ⟨rfl, rfl, rfl, trivial⟩ (.sel 0 rfl (.sel 0 rfl (.sel 0 rfl (.nil _))))
 rw [hb60v]
 refine simL_skipd rfl rfl rfl rfl rfl rfl ?_
 refine simL_skipd rfl rfl rfl rfl rfl rfl ?_
 refine simL_skipd rfl rfl rfl rfl rfl rfl ?_
 refine vq (q_pick rfl rfl rfl rfl rfl) rfl (simL_nil ?_)
 exact nrm_cut (s := false) () ⟨rfl, rfl, rfl, trivial⟩ (.sel 0 rfl (.sel 0 rfl (.sel 0 rfl (.nil _))))
 intro s54v y55v
 refine vm rfl rfl ?_
 refine simL_valc (b := s54v) (fun hb63v => RQ.sub (E' := [(14, .pointer (some ⟨b50v, 0, none⟩))]) ⟨rfl, trivial⟩ (q_loado 0 rfl rfl Tryd.isAgg34 Tryd.sizeOf34 rfl rfl)) rfl rfl rfl rfl rfl ?_
 refine simL_valc (b := s54v) (fun hb62v => RQ.sub (E' := [(10, .pointer (some ⟨b33v, 0, none⟩))]) ⟨rfl, trivial⟩ (q_loado 1 rfl rfl Tryd.isAgg34 Tryd.sizeOf34 rfl rfl)) rfl rfl rfl rfl rfl ?_
 refine simL_valc (b := s54v) (fun hb61v => RQ.sub (E' := [(100, .agg #[.int .i64 s47v.1, .int .i64 s47v.2.1, .int .i64 s47v.2.2.1, .int .i64 s47v.2.2.2.1, .int .i64 s47v.2.2.2.2.1, .int .i64 s47v.2.2.2.2.2.1, str s47v.2.2.2.2.2.2.1, str s47v.2.2.2.2.2.2.2.1, str s47v.2.2.2.2.2.2.2.2.1]), (101, .agg #[.int .i64 s30v.1, .int .i64 s30v.2.1, .int .i64 s30v.2.2.1, .int .i64 s30v.2.2.2.1, .int .i64 s30v.2.2.2.2.1, .int .i64 s30v.2.2.2.2.2.1, str s30v.2.2.2.2.2.2.1, str s30v.2.2.2.2.2.2.2.1, str s30v.2.2.2.2.2.2.2.2.1])]) ⟨lk_cv rfl hb61v, lk_cv rfl hb61v, trivial⟩ (q_eqagg rfl rfl rfl (by kernel_rfl) (fun d w => eqi_struct Tryd.underlying34 (by kernel_rfl) (eqf_cons (by rfl) (part_of Tryd.isAgg3 rfl) (part_of Tryd.isAgg3 rfl) (eqi_int Tryd.underlying3) (eqf_cons (by rfl) (part_of Tryd.isAgg3 rfl) (part_of Tryd.isAgg3 rfl) (eqi_int Tryd.underlying3) (eqf_cons (by rfl) (part_of Tryd.isAgg3 rfl) (part_of Tryd.isAgg3 rfl) (eqi_int Tryd.underlying3) (eqf_cons (by rfl) (part_of Tryd.isAgg3 rfl) (part_of Tryd.isAgg3 rfl) (eqi_int Tryd.underlying3) (eqf_cons (by rfl) (part_of Tryd.isAgg3 rfl) (part_of Tryd.isAgg3 rfl) (eqi_int Tryd.underlying3) (eqf_cons (by rfl) (part_of Tryd.isAgg3 rfl) (part_of Tryd.isAgg3 rfl) (eqi_int Tryd.underlying3) (eqf_cons (by rfl) (part_of Tryd.isAgg9 rfl) (part_of Tryd.isAgg9 rfl) (eqi_str Tryd.underlying9) (eqf_cons (by rfl) (part_of Tryd.isAgg9 rfl) (part_of Tryd.isAgg9 rfl) (eqi_str Tryd.underlying9) (eqf_last (by rfl) (part_of Tryd.isAgg9 rfl) (part_of Tryd.isAgg9 rfl) (eqi_str Tryd.underlying9))))))))))))) rfl rfl rfl rfl rfl ?_
 refine vq (q_and rfl rfl rfl) rfl ?_
 refine va rfl rfl (simL_nil (nrm_then (sim_rtn ?_)))
 exact rtn_fn () rfl rfl rfl (.sel 2 rfl (.nil _))
 refine sr ?_
 refine vq (q_loado 0 rfl rfl Tryd.isAgg34 Tryd.sizeOf34 rfl rfl) rfl ?_
 refine vq (q_build (v := .agg #[.int .i64 0, .int .i64 0, .int .i64 0, .int .i64 0, .int .i64 0, .int .i64 0, str ([] : List UInt8), str ([] : List UInt8), str ([] : List UInt8)]) rfl rfl (fun _ => by kernel_rfl)) rfl ?_
 refine vq (q_eqagg rfl rfl rfl (by kernel_rfl) (fun d w => eqi_struct Tryd.underlying34 (by kernel_rfl) (eqf_cons (by rfl) (part_of Tryd.isAgg3 rfl) (part_of Tryd.isAgg3 rfl) (eqi_int Tryd.underlying3) (eqf_cons (by rfl) (part_of Tryd.isAgg3 rfl) (part_of Tryd.isAgg3 rfl) (eqi_int Tryd.underlying3) (eqf_cons (by rfl) (part_of Tryd.isAgg3 rfl) (part_of Tryd.isAgg3 rfl) (eqi_int Tryd.underlying3) (eqf_cons (by rfl) (part_of Tryd.isAgg3 rfl) (part_of Tryd.isAgg3 rfl) (eqi_int Tryd.underlying3) (eqf_cons (by rfl) (part_of Tryd.isAgg3 rfl) (part_of Tryd.isAgg3 rfl) (eqi_int Tryd.underlying3) (eqf_cons (by rfl) (part_of Tryd.isAgg3 rfl) (part_of Tryd.isAgg3 rfl) (eqi_int Tryd.underlying3) (eqf_cons (by rfl) (part_of Tryd.isAgg9 rfl) (part_of Tryd.isAgg9 rfl) (eqi_str Tryd.underlying9) (eqf_cons (by rfl) (part_of Tryd.isAgg9 rfl) (part_of Tryd.isAgg9 rfl) (eqi_str Tryd.underlying9) (eqf_last (by rfl) (part_of Tryd.isAgg9 rfl) (part_of Tryd.isAgg9 rfl) (eqi_str Tryd.underlying9)))))))))))) rfl ?_
 refine va rfl rfl (simL_nil (nrm_then (sim_rtn ?_)))
 refine rtn_then ?_
 exact rtn_fn () rfl rfl rfl (.sel 1 rfl (.nil _))

def synodref17_Rows.f  : Option ((List (Ty109))) := some ([(([116, 105, 99, 107] : List UInt8), (1 : Int), ([78, 110] : List UInt8), (0 : Int), (0 : Int)), (([112, 105, 99, 107] : List UInt8), (2 : Int), ([78, 112] : List UInt8), (0 : Int), (0 : Int)), (([100, 101, 108, 105, 118, 101, 114] : List UInt8), (3 : Int), ([110] : List UInt8), (0 : Int), (0 : Int)), (([100, 114, 111, 112] : List UInt8), (4 : Int), ([110] : List UInt8), (0 : Int), (0 : Int)), (([99, 111, 112, 121] : List UInt8), (5 : Int), ([110] : List UInt8), (0 : Int), (0 : Int)), (([115, 112, 111, 105, 108] : List UInt8), (6 : Int), ([110, 109] : List UInt8), (0 : Int), (0 : Int)), (([109, 111, 118, 101] : List UInt8), (7 : Int), ([110, 109] : List UInt8), (0 : Int), (0 : Int)), (([108, 105, 110, 107] : List UInt8), (8 : Int), ([78, 110] : List UInt8), (1 : Int), (0 : Int)), (([99, 117, 116] : List UInt8), (8 : Int), ([78, 110] : List UInt8), (0 : Int), (0 : Int)), (([99, 114, 97, 115, 104] : List UInt8), (9 : Int), ([78, 110] : List UInt8), (0 : Int), (0 : Int)), (([115, 116, 97, 114, 116] : List UInt8), (10 : Int), ([78, 110] : List UInt8), (0 : Int), (0 : Int)), (([97, 114, 109] : List UInt8), (12 : Int), ([78, 110] : List UInt8), (0 : Int), (0 : Int)), (([115, 116, 111, 112] : List UInt8), (11 : Int), ([78] : List UInt8), (0 : Int), (0 : Int)), (([103, 101, 116] : List UInt8), (13 : Int), ([67, 78, 107] : List UInt8), (0 : Int), (1 : Int)), (([100, 101, 108, 101, 116, 101] : List UInt8), (13 : Int), ([67, 78, 107] : List UInt8), (0 : Int), (3 : Int)), (([112, 117, 116] : List UInt8), (13 : Int), ([67, 78, 107, 118] : List UInt8), (0 : Int), (2 : Int)), (([115, 119, 97, 112] : List UInt8), (13 : Int), ([67, 78, 107, 111, 118] : List UInt8), (0 : Int), (4 : Int)), (([97, 103, 97, 105, 110] : List UInt8), (14 : Int), ([67, 78] : List UInt8), (0 : Int), (0 : Int)), (([103, 105, 118, 101] : List UInt8), (15 : Int), ([67] : List UInt8), (0 : Int), (0 : Int)), (([99, 97, 108, 109] : List UInt8), (16 : Int), ([78, 110] : List UInt8), (0 : Int), (0 : Int))] : List (Ty109))
theorem synodref17_Rows.calls (W : World) (F : HA)   :
    Fn Tryd.prog W 46 [] [] F (synodref17_Rows.f ) (fun (r : (List (Ty109))) (y : Option Addr × Nat) => .slice y.1 r.length y.2) (fun r y => [RowV 109 5 (V109 tt) y.1 r y.2]) := by
 unfold synodref17_Rows.f
 refine fn_intro 22 Tryd.func46 rfl Tryd.ntmps46 rfl ?_
 refine sr ?_
 refine va rfl rfl (nx ?_)
 refine vq (q_build (v := .agg #[str ([116, 105, 99, 107] : List UInt8), .int .i64 1, str ([78, 110] : List UInt8), .int .i64 0, .int .i64 0]) rfl rfl (fun _ => by kernel_rfl)) rfl ?_
 refine vq (q_build (v := .agg #[str ([112, 105, 99, 107] : List UInt8), .int .i64 2, str ([78, 112] : List UInt8), .int .i64 0, .int .i64 0]) rfl rfl (fun _ => by kernel_rfl)) rfl ?_
 refine vq (q_build (v := .agg #[str ([100, 101, 108, 105, 118, 101, 114] : List UInt8), .int .i64 3, str ([110] : List UInt8), .int .i64 0, .int .i64 0]) rfl rfl (fun _ => by kernel_rfl)) rfl ?_
 refine vq (q_build (v := .agg #[str ([100, 114, 111, 112] : List UInt8), .int .i64 4, str ([110] : List UInt8), .int .i64 0, .int .i64 0]) rfl rfl (fun _ => by kernel_rfl)) rfl ?_
 refine vq (q_build (v := .agg #[str ([99, 111, 112, 121] : List UInt8), .int .i64 5, str ([110] : List UInt8), .int .i64 0, .int .i64 0]) rfl rfl (fun _ => by kernel_rfl)) rfl ?_
 refine vq (q_build (v := .agg #[str ([115, 112, 111, 105, 108] : List UInt8), .int .i64 6, str ([110, 109] : List UInt8), .int .i64 0, .int .i64 0]) rfl rfl (fun _ => by kernel_rfl)) rfl ?_
 refine vq (q_build (v := .agg #[str ([109, 111, 118, 101] : List UInt8), .int .i64 7, str ([110, 109] : List UInt8), .int .i64 0, .int .i64 0]) rfl rfl (fun _ => by kernel_rfl)) rfl ?_
 refine vq (q_build (v := .agg #[str ([108, 105, 110, 107] : List UInt8), .int .i64 8, str ([78, 110] : List UInt8), .int .i64 1, .int .i64 0]) rfl rfl (fun _ => by kernel_rfl)) rfl ?_
 refine vq (q_build (v := .agg #[str ([99, 117, 116] : List UInt8), .int .i64 8, str ([78, 110] : List UInt8), .int .i64 0, .int .i64 0]) rfl rfl (fun _ => by kernel_rfl)) rfl ?_
 refine vq (q_build (v := .agg #[str ([99, 114, 97, 115, 104] : List UInt8), .int .i64 9, str ([78, 110] : List UInt8), .int .i64 0, .int .i64 0]) rfl rfl (fun _ => by kernel_rfl)) rfl ?_
 refine vq (q_build (v := .agg #[str ([115, 116, 97, 114, 116] : List UInt8), .int .i64 10, str ([78, 110] : List UInt8), .int .i64 0, .int .i64 0]) rfl rfl (fun _ => by kernel_rfl)) rfl ?_
 refine vq (q_build (v := .agg #[str ([97, 114, 109] : List UInt8), .int .i64 12, str ([78, 110] : List UInt8), .int .i64 0, .int .i64 0]) rfl rfl (fun _ => by kernel_rfl)) rfl ?_
 refine vq (q_build (v := .agg #[str ([115, 116, 111, 112] : List UInt8), .int .i64 11, str ([78] : List UInt8), .int .i64 0, .int .i64 0]) rfl rfl (fun _ => by kernel_rfl)) rfl ?_
 refine vq (q_build (v := .agg #[str ([103, 101, 116] : List UInt8), .int .i64 13, str ([67, 78, 107] : List UInt8), .int .i64 0, .int .i64 1]) rfl rfl (fun _ => by kernel_rfl)) rfl ?_
 refine vq (q_build (v := .agg #[str ([100, 101, 108, 101, 116, 101] : List UInt8), .int .i64 13, str ([67, 78, 107] : List UInt8), .int .i64 0, .int .i64 3]) rfl rfl (fun _ => by kernel_rfl)) rfl ?_
 refine vq (q_build (v := .agg #[str ([112, 117, 116] : List UInt8), .int .i64 13, str ([67, 78, 107, 118] : List UInt8), .int .i64 0, .int .i64 2]) rfl rfl (fun _ => by kernel_rfl)) rfl ?_
 refine vq (q_build (v := .agg #[str ([115, 119, 97, 112] : List UInt8), .int .i64 13, str ([67, 78, 107, 111, 118] : List UInt8), .int .i64 0, .int .i64 4]) rfl rfl (fun _ => by kernel_rfl)) rfl ?_
 refine vq (q_build (v := .agg #[str ([97, 103, 97, 105, 110] : List UInt8), .int .i64 14, str ([67, 78] : List UInt8), .int .i64 0, .int .i64 0]) rfl rfl (fun _ => by kernel_rfl)) rfl ?_
 refine vq (q_build (v := .agg #[str ([103, 105, 118, 101] : List UInt8), .int .i64 15, str ([67] : List UInt8), .int .i64 0, .int .i64 0]) rfl rfl (fun _ => by kernel_rfl)) rfl ?_
 refine vq (q_build (v := .agg #[str ([99, 97, 108, 109] : List UInt8), .int .i64 16, str ([78, 110] : List UInt8), .int .i64 0, .int .i64 0]) rfl rfl (fun _ => by kernel_rfl)) rfl ?_
 have hlb2v : ListV 5 (V109 tt) ([(([116, 105, 99, 107] : List UInt8), (1 : Int), ([78, 110] : List UInt8), (0 : Int), (0 : Int)), (([112, 105, 99, 107] : List UInt8), (2 : Int), ([78, 112] : List UInt8), (0 : Int), (0 : Int)), (([100, 101, 108, 105, 118, 101, 114] : List UInt8), (3 : Int), ([110] : List UInt8), (0 : Int), (0 : Int)), (([100, 114, 111, 112] : List UInt8), (4 : Int), ([110] : List UInt8), (0 : Int), (0 : Int)), (([99, 111, 112, 121] : List UInt8), (5 : Int), ([110] : List UInt8), (0 : Int), (0 : Int)), (([115, 112, 111, 105, 108] : List UInt8), (6 : Int), ([110, 109] : List UInt8), (0 : Int), (0 : Int)), (([109, 111, 118, 101] : List UInt8), (7 : Int), ([110, 109] : List UInt8), (0 : Int), (0 : Int)), (([108, 105, 110, 107] : List UInt8), (8 : Int), ([78, 110] : List UInt8), (1 : Int), (0 : Int)), (([99, 117, 116] : List UInt8), (8 : Int), ([78, 110] : List UInt8), (0 : Int), (0 : Int)), (([99, 114, 97, 115, 104] : List UInt8), (9 : Int), ([78, 110] : List UInt8), (0 : Int), (0 : Int)), (([115, 116, 97, 114, 116] : List UInt8), (10 : Int), ([78, 110] : List UInt8), (0 : Int), (0 : Int)), (([97, 114, 109] : List UInt8), (12 : Int), ([78, 110] : List UInt8), (0 : Int), (0 : Int)), (([115, 116, 111, 112] : List UInt8), (11 : Int), ([78] : List UInt8), (0 : Int), (0 : Int)), (([103, 101, 116] : List UInt8), (13 : Int), ([67, 78, 107] : List UInt8), (0 : Int), (1 : Int)), (([100, 101, 108, 101, 116, 101] : List UInt8), (13 : Int), ([67, 78, 107] : List UInt8), (0 : Int), (3 : Int)), (([112, 117, 116] : List UInt8), (13 : Int), ([67, 78, 107, 118] : List UInt8), (0 : Int), (2 : Int)), (([115, 119, 97, 112] : List UInt8), (13 : Int), ([67, 78, 107, 111, 118] : List UInt8), (0 : Int), (4 : Int)), (([97, 103, 97, 105, 110] : List UInt8), (14 : Int), ([67, 78] : List UInt8), (0 : Int), (0 : Int)), (([103, 105, 118, 101] : List UInt8), (15 : Int), ([67] : List UInt8), (0 : Int), (0 : Int)), (([99, 97, 108, 109] : List UInt8), (16 : Int), ([78, 110] : List UInt8), (0 : Int), (0 : Int))] : List (Ty109)) [[str ([116, 105, 99, 107] : List UInt8), .int .i64 1, str ([78, 110] : List UInt8), .int .i64 0, .int .i64 0], [str ([112, 105, 99, 107] : List UInt8), .int .i64 2, str ([78, 112] : List UInt8), .int .i64 0, .int .i64 0], [str ([100, 101, 108, 105, 118, 101, 114] : List UInt8), .int .i64 3, str ([110] : List UInt8), .int .i64 0, .int .i64 0], [str ([100, 114, 111, 112] : List UInt8), .int .i64 4, str ([110] : List UInt8), .int .i64 0, .int .i64 0], [str ([99, 111, 112, 121] : List UInt8), .int .i64 5, str ([110] : List UInt8), .int .i64 0, .int .i64 0], [str ([115, 112, 111, 105, 108] : List UInt8), .int .i64 6, str ([110, 109] : List UInt8), .int .i64 0, .int .i64 0], [str ([109, 111, 118, 101] : List UInt8), .int .i64 7, str ([110, 109] : List UInt8), .int .i64 0, .int .i64 0], [str ([108, 105, 110, 107] : List UInt8), .int .i64 8, str ([78, 110] : List UInt8), .int .i64 1, .int .i64 0], [str ([99, 117, 116] : List UInt8), .int .i64 8, str ([78, 110] : List UInt8), .int .i64 0, .int .i64 0], [str ([99, 114, 97, 115, 104] : List UInt8), .int .i64 9, str ([78, 110] : List UInt8), .int .i64 0, .int .i64 0], [str ([115, 116, 97, 114, 116] : List UInt8), .int .i64 10, str ([78, 110] : List UInt8), .int .i64 0, .int .i64 0], [str ([97, 114, 109] : List UInt8), .int .i64 12, str ([78, 110] : List UInt8), .int .i64 0, .int .i64 0], [str ([115, 116, 111, 112] : List UInt8), .int .i64 11, str ([78] : List UInt8), .int .i64 0, .int .i64 0], [str ([103, 101, 116] : List UInt8), .int .i64 13, str ([67, 78, 107] : List UInt8), .int .i64 0, .int .i64 1], [str ([100, 101, 108, 101, 116, 101] : List UInt8), .int .i64 13, str ([67, 78, 107] : List UInt8), .int .i64 0, .int .i64 3], [str ([112, 117, 116] : List UInt8), .int .i64 13, str ([67, 78, 107, 118] : List UInt8), .int .i64 0, .int .i64 2], [str ([115, 119, 97, 112] : List UInt8), .int .i64 13, str ([67, 78, 107, 111, 118] : List UInt8), .int .i64 0, .int .i64 4], [str ([97, 103, 97, 105, 110] : List UInt8), .int .i64 14, str ([67, 78] : List UInt8), .int .i64 0, .int .i64 0], [str ([103, 105, 118, 101] : List UInt8), .int .i64 15, str ([67] : List UInt8), .int .i64 0, .int .i64 0], [str ([99, 97, 108, 109] : List UInt8), .int .i64 16, str ([78, 110] : List UInt8), .int .i64 0, .int .i64 0]] := ⟨⟨rfl, one_of (by rfl), rfl⟩, ⟨rfl, one_of (by rfl), rfl⟩, ⟨rfl, one_of (by rfl), rfl⟩, ⟨rfl, one_of (by rfl), rfl⟩, ⟨rfl, one_of (by rfl), rfl⟩, ⟨rfl, one_of (by rfl), rfl⟩, ⟨rfl, one_of (by rfl), rfl⟩, ⟨rfl, one_of (by rfl), rfl⟩, ⟨rfl, one_of (by rfl), rfl⟩, ⟨rfl, one_of (by rfl), rfl⟩, ⟨rfl, one_of (by rfl), rfl⟩, ⟨rfl, one_of (by rfl), rfl⟩, ⟨rfl, one_of (by rfl), rfl⟩, ⟨rfl, one_of (by rfl), rfl⟩, ⟨rfl, one_of (by rfl), rfl⟩, ⟨rfl, one_of (by rfl), rfl⟩, ⟨rfl, one_of (by rfl), rfl⟩, ⟨rfl, one_of (by rfl), rfl⟩, ⟨rfl, one_of (by rfl), rfl⟩, ⟨rfl, one_of (by rfl), rfl⟩, trivial⟩
 refine simL_eff (re_litV (V := (V109 tt)) (xs := ([(([116, 105, 99, 107] : List UInt8), (1 : Int), ([78, 110] : List UInt8), (0 : Int), (0 : Int)), (([112, 105, 99, 107] : List UInt8), (2 : Int), ([78, 112] : List UInt8), (0 : Int), (0 : Int)), (([100, 101, 108, 105, 118, 101, 114] : List UInt8), (3 : Int), ([110] : List UInt8), (0 : Int), (0 : Int)), (([100, 114, 111, 112] : List UInt8), (4 : Int), ([110] : List UInt8), (0 : Int), (0 : Int)), (([99, 111, 112, 121] : List UInt8), (5 : Int), ([110] : List UInt8), (0 : Int), (0 : Int)), (([115, 112, 111, 105, 108] : List UInt8), (6 : Int), ([110, 109] : List UInt8), (0 : Int), (0 : Int)), (([109, 111, 118, 101] : List UInt8), (7 : Int), ([110, 109] : List UInt8), (0 : Int), (0 : Int)), (([108, 105, 110, 107] : List UInt8), (8 : Int), ([78, 110] : List UInt8), (1 : Int), (0 : Int)), (([99, 117, 116] : List UInt8), (8 : Int), ([78, 110] : List UInt8), (0 : Int), (0 : Int)), (([99, 114, 97, 115, 104] : List UInt8), (9 : Int), ([78, 110] : List UInt8), (0 : Int), (0 : Int)), (([115, 116, 97, 114, 116] : List UInt8), (10 : Int), ([78, 110] : List UInt8), (0 : Int), (0 : Int)), (([97, 114, 109] : List UInt8), (12 : Int), ([78, 110] : List UInt8), (0 : Int), (0 : Int)), (([115, 116, 111, 112] : List UInt8), (11 : Int), ([78] : List UInt8), (0 : Int), (0 : Int)), (([103, 101, 116] : List UInt8), (13 : Int), ([67, 78, 107] : List UInt8), (0 : Int), (1 : Int)), (([100, 101, 108, 101, 116, 101] : List UInt8), (13 : Int), ([67, 78, 107] : List UInt8), (0 : Int), (3 : Int)), (([112, 117, 116] : List UInt8), (13 : Int), ([67, 78, 107, 118] : List UInt8), (0 : Int), (2 : Int)), (([115, 119, 97, 112] : List UInt8), (13 : Int), ([67, 78, 107, 111, 118] : List UInt8), (0 : Int), (4 : Int)), (([97, 103, 97, 105, 110] : List UInt8), (14 : Int), ([67, 78] : List UInt8), (0 : Int), (0 : Int)), (([103, 105, 118, 101] : List UInt8), (15 : Int), ([67] : List UInt8), (0 : Int), (0 : Int)), (([99, 97, 108, 109] : List UInt8), (16 : Int), ([78, 110] : List UInt8), (0 : Int), (0 : Int))] : List (Ty109))) [[str ([116, 105, 99, 107] : List UInt8), .int .i64 1, str ([78, 110] : List UInt8), .int .i64 0, .int .i64 0], [str ([112, 105, 99, 107] : List UInt8), .int .i64 2, str ([78, 112] : List UInt8), .int .i64 0, .int .i64 0], [str ([100, 101, 108, 105, 118, 101, 114] : List UInt8), .int .i64 3, str ([110] : List UInt8), .int .i64 0, .int .i64 0], [str ([100, 114, 111, 112] : List UInt8), .int .i64 4, str ([110] : List UInt8), .int .i64 0, .int .i64 0], [str ([99, 111, 112, 121] : List UInt8), .int .i64 5, str ([110] : List UInt8), .int .i64 0, .int .i64 0], [str ([115, 112, 111, 105, 108] : List UInt8), .int .i64 6, str ([110, 109] : List UInt8), .int .i64 0, .int .i64 0], [str ([109, 111, 118, 101] : List UInt8), .int .i64 7, str ([110, 109] : List UInt8), .int .i64 0, .int .i64 0], [str ([108, 105, 110, 107] : List UInt8), .int .i64 8, str ([78, 110] : List UInt8), .int .i64 1, .int .i64 0], [str ([99, 117, 116] : List UInt8), .int .i64 8, str ([78, 110] : List UInt8), .int .i64 0, .int .i64 0], [str ([99, 114, 97, 115, 104] : List UInt8), .int .i64 9, str ([78, 110] : List UInt8), .int .i64 0, .int .i64 0], [str ([115, 116, 97, 114, 116] : List UInt8), .int .i64 10, str ([78, 110] : List UInt8), .int .i64 0, .int .i64 0], [str ([97, 114, 109] : List UInt8), .int .i64 12, str ([78, 110] : List UInt8), .int .i64 0, .int .i64 0], [str ([115, 116, 111, 112] : List UInt8), .int .i64 11, str ([78] : List UInt8), .int .i64 0, .int .i64 0], [str ([103, 101, 116] : List UInt8), .int .i64 13, str ([67, 78, 107] : List UInt8), .int .i64 0, .int .i64 1], [str ([100, 101, 108, 101, 116, 101] : List UInt8), .int .i64 13, str ([67, 78, 107] : List UInt8), .int .i64 0, .int .i64 3], [str ([112, 117, 116] : List UInt8), .int .i64 13, str ([67, 78, 107, 118] : List UInt8), .int .i64 0, .int .i64 2], [str ([115, 119, 97, 112] : List UInt8), .int .i64 13, str ([67, 78, 107, 111, 118] : List UInt8), .int .i64 0, .int .i64 4], [str ([97, 103, 97, 105, 110] : List UInt8), .int .i64 14, str ([67, 78] : List UInt8), .int .i64 0, .int .i64 0], [str ([103, 105, 118, 101] : List UInt8), .int .i64 15, str ([67] : List UInt8), .int .i64 0, .int .i64 0], [str ([99, 97, 108, 109] : List UInt8), .int .i64 16, str ([78, 110] : List UInt8), .int .i64 0, .int .i64 0]] rfl rfl Tryd.underlying106 elt109 rfl (by kernel_rfl) rfl hlb2v rfl rfl) rfl rfl rfl ?_
 intro b2v
 refine va rfl rfl (simL_nil (nrm_then (sim_rtn ?_)))
 exact rtn_fn ((some ⟨b2v, 0, none⟩), 20) rfl rfl rfl (.sel' 0 rfl (RowV.mk hlb2v) (.sel 0 rfl (.nil _)))
end Go.Proofs.YtbcnegennmpliaaDoor

namespace Go.Proofs.YtbcnegennmpliaaDoor
set_option linter.unusedVariables false
set_option linter.unusedSimpArgs false
open Go.RowKit

theorem w64 {n : Int} (h0 : -9223372036854775808 ≤ n) (h1 : n ≤ 9223372036854775807) : IntKind.i64.wrap n = n := by rw [IntKind.wrap_i64]; omega
theorem w8 {n : Int} (h0 : 0 ≤ n) (h1 : n < 256) : IntKind.u8.wrap n = n := by rw [IntKind.wrap_u8]; omega
end Go.Proofs.YtbcnegennmpliaaDoor

namespace Go.Proofs.YtbcnegennmpliaaDoor
set_option linter.unusedVariables false
set_option linter.unusedSimpArgs false
open Go.RowKit
abbrev hexs : List UInt8 := [48, 49, 50, 51, 52, 53, 54, 55, 56, 57, 97, 98, 99, 100, 101, 102]
def plainB (c : UInt8) : Bool := decide (32 ≤ c.toNat) && decide (c.toNat ≤ 126)
def bareB (c : UInt8) : Bool := plainB c && !decide (c.toNat = 32) && !decide (c.toNat = 34)
def hexI (c : UInt8) : Int := Lib.indexByte hexs c
def escB (a b : UInt8) : Option UInt8 := if 0 ≤ hexI a ∧ 0 ≤ hexI b ∧ plainB (byte (16 * hexI a + hexI b)) = false then some (byte (16 * hexI a + hexI b)) else none
def qd : List UInt8 → Option (List UInt8 × List UInt8)
  | [] => none
  | c :: t =>
    if c.toNat = 34 then some ([], t)
    else if plainB c = false then none
    else if c.toNat ≠ 92 then (qd t).map fun p => (c :: p.1, p.2)
    else match t with
      | [] => none
      | d :: t1 =>
        if d.toNat = 34 ∨ d.toNat = 92 then (qd t1).map fun p => (d :: p.1, p.2)
        else match t1 with
          | h :: l :: t2 => if d.toNat = 120 then (escB h l).bind fun x => (qd t2).map fun p => (x :: p.1, p.2) else none
          | _ => none
theorem qd_nil : qd [] = none := by rw [qd.eq_def]
theorem qd_cons (c : UInt8) (t : List UInt8) : qd (c :: t) =
    if c.toNat = 34 then some ([], t)
    else if plainB c = false then none
    else if c.toNat ≠ 92 then (qd t).map fun p => (c :: p.1, p.2)
    else match t with
      | [] => none
      | d :: t1 =>
        if d.toNat = 34 ∨ d.toNat = 92 then (qd t1).map fun p => (d :: p.1, p.2)
        else match t1 with
          | h :: l :: t2 => if d.toNat = 120 then (escB h l).bind fun x => (qd t2).map fun p => (x :: p.1, p.2) else none
          | _ => none := by rw [qd.eq_def]
theorem getD_at {α : Type} {l : List α} {i : Nat} {d : α} (h : i < l.length) : l.getD i d = l[i] := by
  rw [List.getD_eq_getElem?_getD, List.getElem?_eq_getElem h]; rfl
theorem u8_all {p : UInt8 → Bool} (h : ((List.range 256).all fun n => p (UInt8.ofNat n)) = true) (c : UInt8) : p c = true := by
  have := List.all_eq_true.1 h c.toNat (List.mem_range.2 (UInt8.toNat_lt c))
  simpa using this
theorem hexI_lt (c : UInt8) : -1 ≤ hexI c ∧ hexI c ≤ 15 := by
  have := u8_all (p := fun c => decide (-1 ≤ hexI c) && decide (hexI c ≤ 15)) (by decide +kernel) c
  simpa using this
theorem getD_cons_of {l : List UInt8} {i : Nat} (h : i < l.length) : l.drop i = l.getD i 0 :: l.drop (i + 1) := by
  rw [List.getD_eq_getElem?_getD, List.getElem?_eq_getElem h]
  exact List.drop_eq_getElem_cons h
theorem wi1 {n : Nat} (h : n < 2 ^ 61) : IntKind.i64.wrap ((n : Int) + 1) = ((n + 1 : Nat) : Int) := by rw [w64 (by omega) (by omega)]; simp
theorem wi3 {n : Nat} (h : n < 2 ^ 61) : IntKind.i64.wrap ((n : Int) + 3) = ((n + 3 : Nat) : Int) := by rw [w64 (by omega) (by omega)]; simp
theorem plain_f (c : UInt8) : text_plain.f (c.toNat : Int) = some (plainB c) := by
  unfold text_plain.f plainB
  congr 1
  rw [show decide ((32 : Int) ≤ (c.toNat : Int)) = decide (32 ≤ c.toNat) by congr 1; exact propext (by omega), show decide ((c.toNat : Int) ≤ 126) = decide (c.toNat ≤ 126) by congr 1; exact propext (by omega)]
theorem bare_f (c : UInt8) : text_bare.f (c.toNat : Int) = some (bareB c) := by
  unfold text_bare.f bareB
  rw [plain_f, Option.bind_some]
  congr 3
  · congr 2; exact propext (by omega)
  · congr 1; exact propext (by omega)
theorem hexw {a b : Int} (ha : 0 ≤ a ∧ a ≤ 15) (hb : 0 ≤ b ∧ b ≤ 15) : IntKind.u8.wrap (IntKind.i64.wrap ((IntKind.i64.wrap (16 * a)) + b)) = 16 * a + b := by
  rw [w64 (n := 16 * a) (by omega) (by omega), w64 (by omega) (by omega), w8 (by omega) (by omega)]
theorem byte_eq {n : Int} (h0 : 0 ≤ n) (h1 : n < 256) : ((byte n).toNat : Int) = n := byte_toNat h0 h1
theorem escaped_f (s : List UInt8) : text_escaped.f s = some (match s with
    | d :: h :: l :: _ => if d.toNat = 120 then (IntKind.u8.wrap (IntKind.i64.wrap ((IntKind.i64.wrap (16 * hexI h)) + hexI l)), (escB h l).isSome) else (0, false)
    | _ => (0, false)) := by
  unfold text_escaped.f
  rcases s with _ | ⟨d, _ | ⟨h, _ | ⟨l, t⟩⟩⟩
  · simp
  · simp
  · simp
  · have e1 : ¬ (((d :: h :: l :: t).length : Int) < 3) := by simp; omega
    rw [if_neg e1, if_pos (by simp; omega)]
    simp only [Option.bind_some, List.getD_cons_zero, show (0 : Int).toNat = 0 from rfl, show (1 : Int).toNat = 1 from rfl, show (2 : Int).toNat = 2 from rfl]
    by_cases hd : d.toNat = 120
    · rw [if_neg (by simp [hd]), if_pos (by simp; omega), if_pos hd]
      simp only [List.getD_cons_succ, List.getD_cons_zero]
      rw [strings_IndexByte.f, Option.bind_some, if_pos (by simp; omega), strings_IndexByte.f, Option.bind_some]
      have eh : ∀ c : UInt8, ((c.toNat : Int).toNat).toUInt8 = c := fun c => by simp
      rw [eh, eh]
      have ei : ∀ c : UInt8, Lib.indexByte [48, 49, 50, 51, 52, 53, 54, 55, 56, 57, 97, 98, 99, 100, 101, 102] c = hexI c := fun _ => rfl
      simp only [ei]
      unfold escB
      by_cases h1 : 0 ≤ hexI h ∧ 0 ≤ hexI l
      · have b1 := hexI_lt h
        have b2 := hexI_lt l
        rw [if_pos (by simp [h1])]
        rw [hexw ⟨h1.1, b1.2⟩ ⟨h1.2, b2.2⟩, ← byte_eq (n := 16 * hexI h + hexI l) (by omega) (by omega), plain_f, Option.bind_some, Option.bind_some]
        rw [byte_eq (by omega) (by omega)]
        cases plainB (byte (16 * hexI h + hexI l)) <;> simp [h1] <;> exact hexw ⟨h1.1, b1.2⟩ ⟨h1.2, b2.2⟩
      · rw [if_neg (by simpa using h1), Option.bind_some, if_neg (fun x => h1 ⟨x.1, x.2.1⟩)]
        rfl
    · rw [if_pos (by simp; omega), if_neg hd]
end Go.Proofs.YtbcnegennmpliaaDoor

namespace Go.Proofs.YtbcnegennmpliaaDoor
set_option linter.unusedVariables false
set_option linter.unusedSimpArgs false
open Go.RowKit
abbrev QR := Option (List UInt8 × List UInt8)
def qres (n : Nat) (b : List UInt8) (q : QR) : List UInt8 × Int := match q with
  | some p => (b ++ p.1, ((n - p.2.length : Nat) : Int))
  | none => ([], 0)
theorem qres_cons {n : Nat} {b : List UInt8} {c : UInt8} {q : QR} : qres n (b ++ [c]) q = qres n b (q.map fun p => (c :: p.1, p.2)) := by
  cases q <;> simp [qres]
theorem pre1 {l : List UInt8} {z : UInt8} : Lib.hasPrefix l [z] = (match l with | d :: _ => decide (d.toNat = z.toNat) | [] => false) := by
  cases l with
  | nil => rfl
  | cons d t =>
    show (z == d && _) = _
    rw [List.isPrefixOf, Bool.and_true]
    by_cases h : d = z
    · subst h; simp
    · rw [show (z == d) = false from by simpa using fun e => h e.symm]
      simp only [decide_eq_false (fun e => h (UInt8.toNat_inj.1 e)), Bool.false_and]
theorem drop_cons {x : List UInt8} {i : Nat} {d : UInt8} {t : List UInt8} (h : x.drop i = d :: t) : i < x.length ∧ x.drop (i + 1) = t := by
  have hl : i < x.length := by
    rcases Nat.lt_or_ge i x.length with hh | hh
    · exact hh
    · rw [List.drop_of_length_le hh] at h; cases h
  refine ⟨hl, ?_⟩
  rw [List.drop_eq_getElem_cons hl] at h
  exact (List.cons.inj h).2
theorem quoted_l0 {x : List UInt8} (hx : x.length < 2 ^ 40) : ∀ (k : Nat) (b : List UInt8) (i : Nat), x.length - i < k → i ≤ x.length → b.length ≤ i →
    orR (text_quoted.l0 x k b (i : Int)) (fun _ => some (([] : List UInt8), (0 : Int))) = some (qres x.length b (qd (x.drop i)))
  | 0, b, i, h, _, _ => by omega
  | k + 1, b, i, hk, hi, hb => by
    rw [text_quoted.l0]
    by_cases hlt : i < x.length
    · have ed := getD_cons_of hlt
      have e1 := wi1 (n := i) (by omega)
      simp only [Int.toNat_natCast]
      rw [if_pos (by omega), if_pos (by omega), e1, if_pos (by omega), ed]
      generalize hc : x.getD i 0 = c
      rw [hc] at ed
      have ecut : cut x ((i + 1 : Nat) : Int) (x.length : Int) = x.drop (i + 1) := by rw [cut_to]; simp
      simp only [ecut]
      by_cases h34 : c.toNat = 34
      · rw [if_pos (by omega), qd_cons, if_pos h34]
        simp only [orR, qres, List.append_nil]
        have : (x.drop (i + 1)).length = x.length - (i + 1) := by simp
        rw [this]
        congr 3
        omega
      · rw [if_neg (by omega), plain_f, Option.bind_some, qd_cons, if_neg h34]
        by_cases hp : plainB c = false
        · rw [if_pos (by simp [hp]), if_pos hp]; rfl
        · rw [if_neg (by simp [hp]), if_neg hp]
          by_cases h92 : c.toNat = 92
          · have n92 : ¬ (c.toNat ≠ 92) := by simp [h92]
            rw [if_pos (show (c.toNat : Int) = 92 by omega), if_neg n92]
            simp only [strings_HasPrefix.f, Option.bind_some, pre1]
            rcases hd : x.drop (i + 1) with _ | ⟨d, t1⟩
            · simp only [Bool.false_eq_true, if_false, Option.bind_some, escaped_f]
              rfl
            · obtain ⟨hl1, ht1⟩ := drop_cons hd
              simp only []
              by_cases hq : d.toNat = 34 ∨ d.toNat = 92
              · rw [if_pos hq]
                have e3 : (if decide (d.toNat = (34 : UInt8).toNat) = true then some true else some (decide (d.toNat = (92 : UInt8).toNat))) = some true := by
                  rcases hq with hq | hq
                  · rw [if_pos (by simp [hq])]
                  · rw [if_neg (by simp [hq])]; simp [hq]
                rw [e3, Option.bind_some, if_pos rfl, if_pos (by simp <;> omega)]
                simp only [show (0 : Int).toNat = 0 from rfl, List.getD_cons_zero]
                rw [if_pos (by simp <;> omega)]
                have e2 := wi1 (n := i + 1) (by omega)
                rw [e2, quoted_l0 hx k (b ++ [d]) (i + 1 + 1) (by omega) (by omega) (by simp <;> omega), ht1, qres_cons]
              · rw [if_neg hq]
                have e3 : (if decide (d.toNat = (34 : UInt8).toNat) = true then some true else some (decide (d.toNat = (92 : UInt8).toNat))) = some false := by
                  rw [if_neg (by simp; exact fun h => hq (.inl h))]
                  congr 1
                  simp
                  exact fun h => hq (.inr h)
                rw [e3, Option.bind_some, if_neg (by simp), escaped_f, Option.bind_some]
                rcases t1 with _ | ⟨h, _ | ⟨l, t2⟩⟩
                · simp [orR, qres]
                · simp [orR, qres]
                · obtain ⟨hl2, ht2⟩ := drop_cons ht1
                  obtain ⟨hl3, ht3⟩ := drop_cons ht2
                  simp only []
                  by_cases hxd : d.toNat = 120
                  · rw [if_pos hxd, if_pos hxd]
                    unfold escB
                    by_cases h1 : 0 ≤ hexI h ∧ 0 ≤ hexI l ∧ plainB (byte (16 * hexI h + hexI l)) = false
                    · have b1 := hexI_lt h
                      have b2 := hexI_lt l
                      rw [if_pos h1]
                      simp only [Option.isSome_some, Bool.not_true, Bool.false_eq_true, if_false, Option.bind_some]
                      rw [hexw ⟨h1.1, b1.2⟩ ⟨h1.2.1, b2.2⟩, if_pos (by omega), if_pos (by simp <;> omega)]
                      have e2 := wi3 (n := i) (by omega)
                      have e4 := wi1 (n := i + 3) (by omega)
                      rw [e2, e4, quoted_l0 hx k _ (i + 3 + 1) (by omega) (by omega) (by simp <;> omega), ht3, qres_cons]
                    · rw [if_neg h1]
                      simp [orR, qres]
                  · rw [if_neg hxd, if_neg hxd]
                    simp [orR, qres]
          · rw [if_neg (show ¬ (c.toNat : Int) = 92 by omega), if_pos h92, if_pos (by simp <;> omega), quoted_l0 hx k _ (i + 1) (by omega) (by omega) (by simp <;> omega), qres_cons]
    · rw [if_neg (by omega)]
      have : x.drop i = [] := List.drop_of_length_le (by omega)
      rw [this, qd_nil]
      rfl
theorem quoted_f {x : List UInt8} {k : Nat} (hx : x.length < 2 ^ 40) (hk : x.length < k) : text_quoted.f k x = some (qres x.length [] (qd x)) := by
  have := quoted_l0 hx k [] 0 (by omega) (by omega) (by simp)
  simpa [text_quoted.f] using this
/-! ### The document's -/
end Go.Proofs.YtbcnegennmpliaaDoor

namespace Go.Proofs.YtbcnegennmpliaaDoor
set_option linter.unusedVariables false
set_option linter.unusedSimpArgs false
open Go.RowKit
def endB (r : List UInt8) : Bool := match r with
  | [] => true
  | c :: _ => decide (c.toNat = 32)
def wd : Nat → List UInt8 → Option (List (List UInt8))
  | _, [] => some []
  | 0, _ => none
  | n + 1, c :: t =>
    if c.toNat = 32 then wd n t
    else if c.toNat = 34 then (qd t).bind fun p => if endB p.2 then (wd n p.2).map fun l => p.1 :: l else none
    else if endB ((c :: t).dropWhile bareB) then (wd n ((c :: t).dropWhile bareB)).map fun l => (c :: t).takeWhile bareB :: l else none
def wres (out : List (List UInt8)) (q : Option (List (List UInt8))) : List (List UInt8) × Int := match q with
  | some l => (out ++ l, 0)
  | none => ([], 4)
theorem wres_cons {out : List (List UInt8)} {c : List UInt8} {q : Option (List (List UInt8))} : wres (out ++ [c]) q = wres out (q.map fun l => c :: l) := by
  cases q <;> simp [wres]
def wordsB (x : List UInt8) : List (List UInt8) × Int := if 4096 < x.length then ([], 3) else wres [] (wd (x.length + 1) x)
theorem qd_suf : ∀ (n : Nat) (t a r : List UInt8), t.length ≤ n → qd t = some (a, r) → ∃ p, t = p ++ r ∧ a.length < p.length
  | _, [], a, r, _, h => by rw [qd_nil] at h; cases h
  | 0, c :: t, a, r, hn, _ => by simp at hn
  | n + 1, c :: t, a, r, hn, h => by
    have hn' : t.length ≤ n := by simpa using hn
    rw [qd_cons] at h
    split at h
    · cases h; exact ⟨[c], rfl, by simp⟩
    split at h
    · cases h
    split at h
    · cases hq : qd t with
      | none => rw [hq] at h; cases h
      | some p =>
        rw [hq] at h
        obtain ⟨q, e1, e2⟩ := qd_suf n t p.1 p.2 hn' hq
        simp only [Option.map_some, Option.some.injEq, Prod.mk.injEq] at h
        obtain ⟨rfl, rfl⟩ := h
        exact ⟨c :: q, by rw [List.cons_append, ← e1], by simp; omega⟩
    · rcases t with _ | ⟨d, t1⟩
      · cases h
      · simp only [] at h
        have hn1 : t1.length ≤ n := by simp at hn'; omega
        split at h
        · cases hq : qd t1 with
          | none => rw [hq] at h; cases h
          | some p =>
            rw [hq] at h
            obtain ⟨q, e1, e2⟩ := qd_suf n t1 p.1 p.2 hn1 hq
            simp only [Option.map_some, Option.some.injEq, Prod.mk.injEq] at h
            obtain ⟨rfl, rfl⟩ := h
            exact ⟨c :: d :: q, by rw [List.cons_append, List.cons_append, ← e1], by simp; omega⟩
        · rcases t1 with _ | ⟨h1, _ | ⟨l1, t2⟩⟩
          · cases h
          · cases h
          · simp only [] at h
            split at h
            · cases he : escB h1 l1 with
              | none => rw [he] at h; cases h
              | some x =>
                rw [he, Option.bind_some] at h
                cases hq : qd t2 with
                | none => rw [hq] at h; cases h
                | some p =>
                  rw [hq] at h
                  obtain ⟨q, e1, e2⟩ := qd_suf n t2 p.1 p.2 (by simp at hn1; omega) hq
                  simp only [Option.map_some, Option.some.injEq, Prod.mk.injEq] at h
                  obtain ⟨rfl, rfl⟩ := h
                  exact ⟨c :: d :: h1 :: l1 :: q, by simp only [List.cons_append]; rw [← e1], by simp; omega⟩
            · cases h
theorem run_l1 {x : List UInt8} (hx : x.length < 2 ^ 40) : ∀ (k i : Nat), x.length - i < k → i ≤ x.length → text_Words.l1 x k (i : Int) = some ((i + ((x.drop i).takeWhile bareB).length : Nat) : Int)
  | 0, i, h, _ => by omega
  | k + 1, i, hk, hi => by
    rw [text_Words.l1]
    by_cases hlt : i < x.length
    · have ed := getD_cons_of hlt
      simp only [Int.toNat_natCast]
      rw [if_pos (by omega), if_pos (by omega), bare_f, Option.bind_some, Option.bind_some, wi1 (by omega), ed, List.takeWhile_cons]
      cases hb : bareB (x.getD i 0) with
      | true =>
        rw [if_pos rfl, if_pos rfl, run_l1 hx k (i + 1) (by omega) (by omega)]
        simp; omega
      | false => simp
    · rw [if_neg (by omega), Option.bind_some, if_neg (by simp), List.drop_of_length_le (by omega)]
      simp
theorem tw_len (p : UInt8 → Bool) : ∀ l : List UInt8, (l.takeWhile p).length + (l.dropWhile p).length = l.length
  | [] => rfl
  | c :: l => by
    have := tw_len p l
    rw [List.takeWhile_cons, List.dropWhile_cons]
    cases p c <;> simp <;> omega
theorem drop_tw (p : UInt8 → Bool) : ∀ l : List UInt8, l.drop (l.takeWhile p).length = l.dropWhile p
  | [] => rfl
  | c :: l => by
    have := drop_tw p l
    rw [List.takeWhile_cons, List.dropWhile_cons]
    cases p c <;> simp [this]
theorem take_tw (p : UInt8 → Bool) : ∀ l : List UInt8, l.take (l.takeWhile p).length = l.takeWhile p
  | [] => rfl
  | c :: l => by
    have := take_tw p l
    rw [List.takeWhile_cons]
    cases p c <;> simp [this]
theorem endB_at {x : List UInt8} {i : Nat} (hi : i ≤ x.length) : (if (i : Int) < (x.length : Int) then (if 0 ≤ (i : Int) ∧ (i : Int) < (x.length : Int) then (some (!decide (((x.getD i 0).toNat : Int) = (32 : Int)))) else none) else (some false)) = some (!endB (x.drop i)) := by
  by_cases hlt : i < x.length
  · rw [if_pos (by omega), if_pos (by omega), getD_cons_of hlt, endB]
    congr 3; exact propext (by omega)
  · rw [if_neg (by omega), List.drop_of_length_le (by omega)]; rfl
theorem endB_at3 {x : List UInt8} {i : Nat} (hi : i ≤ x.length) : ((if (i : Int) < (x.length : Int) then (if 0 ≤ (i : Int) ∧ (i : Int) < (x.length : Int) then (some (true, true, !decide (((x.getD i 0).toNat : Int) = (32 : Int)))) else none) else (some (false, false, false))).bind fun s => some s.2.2) = some (!endB (x.drop i)) := by
  by_cases hlt : i < x.length
  · rw [if_pos (by omega), if_pos (by omega), getD_cons_of hlt, endB]
    simp only [Option.bind_some]
    congr 3; exact propext (by omega)
  · rw [if_neg (by omega), List.drop_of_length_le (by omega)]; rfl
theorem wadd {n m : Nat} (h : n + m < 2 ^ 61) : IntKind.i64.wrap ((n : Int) + (m : Int)) = ((n + m : Nat) : Int) := by rw [w64 (by omega) (by omega)]; simp
theorem w1i {m : Nat} (h : m < 2 ^ 61) : IntKind.i64.wrap (1 + (m : Int)) = ((m + 1 : Nat) : Int) := by rw [w64 (by omega) (by omega)]; simp; omega
theorem wd_nil (n : Nat) : wd n [] = some [] := by cases n <;> rfl
theorem words_l0 {x : List UInt8} (hx : x.length ≤ 4096) : ∀ (k n : Nat) (out : List (List UInt8)) (i : Nat), x.length - i < n → x.length - i + x.length + 1 < k → i ≤ x.length → out.length ≤ i →
    orR (text_Words.l0 x k out (i : Int)) (fun s => some (s, (0 : Int))) = some (wres out (wd n (x.drop i)))
  | 0, n, out, i, _, h, _, _ => by omega
  | k + 1, 0, out, i, h, _, _, _ => by omega
  | k + 1, n + 1, out, i, hn, hk, hi, ho => by
    rw [text_Words.l0]
    by_cases hlt : i < x.length
    · have ed := getD_cons_of hlt
      have e1 := wi1 (n := i) (by omega)
      simp only [Int.toNat_natCast]
      rw [if_pos (by omega), if_pos (by omega), e1, ed]
      obtain ⟨c, hc⟩ : ∃ c, x.getD i 0 = c := ⟨_, rfl⟩
      simp only [hc] at ed ⊢
      have ecut : cut x ((i + 1 : Nat) : Int) (x.length : Int) = x.drop (i + 1) := by rw [cut_to]; simp
      simp only [ecut]
      rw [wd]
      by_cases h32 : c.toNat = 32
      · rw [if_pos (show (c.toNat : Int) = 32 by omega), if_pos h32, words_l0 hx k n out (i + 1) (by omega) (by omega) (by omega) (by omega)]
      · rw [if_neg (show ¬ (c.toNat : Int) = 32 by omega), if_neg h32, if_pos (by omega)]
        by_cases h34 : c.toNat = 34
        · rw [if_pos (show (c.toNat : Int) = 34 by omega), if_pos h34, if_pos (by omega), quoted_f (by simp; omega) (by simp; omega), Option.bind_some]
          cases hq : qd (x.drop (i + 1)) with
          | none =>
            simp only [qres, Option.bind_none]
            rfl
          | some p =>
            obtain ⟨a, r⟩ := p
            obtain ⟨q, eq, ha⟩ := qd_suf _ _ a r (Nat.le_refl _) hq
            have hlen := congrArg List.length eq
            simp only [List.length_drop, List.length_append] at hlen
            have er : (x.drop (i + 1)).length - r.length = q.length := by simp; omega
            have edr : x.drop (i + (q.length + 1)) = r := by
              rw [show i + (q.length + 1) = (i + 1) + q.length by omega, ← List.drop_drop, eq, List.drop_left]
            simp only [qres, List.nil_append, Option.bind_some, er]
            rw [if_neg (by omega), w1i (by omega), wadd (by omega)]
            simp only [Int.toNat_natCast]
            rw [endB_at3 (by omega), Option.bind_some, edr]
            cases he : endB r with
            | false => rfl
            | true =>
              rw [if_neg (by simp), if_pos (by simp; omega), if_pos rfl, words_l0 hx k n _ (i + (q.length + 1)) (by omega) (by omega) (by omega) (by simp; omega), edr, wres_cons]
        · rw [if_neg (show ¬ (c.toNat : Int) = 34 by omega), if_neg h34, run_l1 (by omega) k i (by omega) hi, Option.bind_some, ed]
          have tl := tw_len bareB (c :: x.drop (i + 1))
          have hl2 : (c :: x.drop (i + 1)).length = x.length - i := by rw [← ed]; simp
          rw [hl2] at tl
          have edr : x.drop (i + ((c :: x.drop (i + 1)).takeWhile bareB).length) = (c :: x.drop (i + 1)).dropWhile bareB := by
            rw [← List.drop_drop, ed, drop_tw]
          simp only [Int.toNat_natCast]
          rw [endB_at (by omega), Option.bind_some, edr]
          cases he : endB ((c :: x.drop (i + 1)).dropWhile bareB) with
          | false => rfl
          | true =>
            have hpos : 0 < ((c :: x.drop (i + 1)).takeWhile bareB).length := by
              rw [List.takeWhile_cons]
              cases hb : bareB c with
              | true => simp
              | false =>
                rw [List.dropWhile_cons, hb] at he
                simp [endB, h32] at he
            have ecw : cut x (i : Int) ((i + ((c :: x.drop (i + 1)).takeWhile bareB).length : Nat) : Int) = (c :: x.drop (i + 1)).takeWhile bareB := by
              unfold cut
              simp only [Int.toNat_natCast]
              rw [List.drop_take, ed, Nat.add_sub_cancel_left]
              exact take_tw bareB (c :: x.drop (i + 1))
            rw [if_neg (by simp), if_pos (by omega), if_pos (by simp; omega), if_pos rfl, words_l0 hx k n _ _ (by omega) (by omega) (by omega) (by simp; omega), edr, ecw, wres_cons]
    · rw [if_neg (by omega), List.drop_of_length_le (by omega), wd_nil]
      simp [orR, wres]
theorem words_f {x : List UInt8} {k : Nat} (hk : 2 * x.length + 1 < k) : text_Words.f k x = some (wordsB x) := by
  unfold text_Words.f wordsB
  by_cases h : 4096 < x.length
  · rw [if_pos (by omega), if_pos h]
  · rw [if_neg (by omega), if_neg h]
    have := words_l0 (x := x) (by omega) k (x.length + 1) [] 0 (by omega) (by omega) (by omega) (by simp)
    simpa using this
end Go.Proofs.YtbcnegennmpliaaDoor

namespace Go.Proofs.YtbcnegennmpliaaDoor
set_option linter.unusedVariables false
set_option linter.unusedSimpArgs false
open Go.RowKit
def encC (c : UInt8) : List UInt8 :=
  if c.toNat = 34 ∨ c.toNat = 92 then [92, c]
  else if plainB c then [c]
  else [92, 120, hexs.getD (c.toNat / 16) 0, hexs.getD (c.toNat % 16) 0]
def headB (s : List UInt8) : Bool := match s with
  | [] => false
  | c :: _ => !decide (c.toNat = 35)
def bareW (s : List UInt8) : Bool := headB s && s.all bareB
def quoteB (s : List UInt8) : List UInt8 := if bareW s then s else 34 :: (s.flatMap encC ++ [34])
theorem encC_len (c : UInt8) : 1 ≤ (encC c).length ∧ (encC c).length ≤ 4 := by
  unfold encC
  split
  · simp
  · split <;> simp
theorem enc_len : ∀ s : List UInt8, (s.flatMap encC).length ≤ 4 * s.length
  | [] => by simp
  | c :: s => by
    have := enc_len s
    have := encC_len c
    simp only [List.flatMap_cons, List.length_append, List.length_cons]; omega
theorem quote_len (s : List UInt8) : (quoteB s).length ≤ 4 * s.length + 2 := by
  unfold quoteB
  have := enc_len s
  split
  · omega
  · simp only [List.length_cons, List.length_append, List.length_nil]; omega
theorem q_l0 {x : List UInt8} (hx : x.length < 2 ^ 40) : ∀ (k : Nat) (z : Bool) (i : Nat), x.length - i < k → i ≤ x.length → text_Quote.l0 x k z (i : Int) = some (z && (x.drop i).all bareB)
  | 0, z, i, h, _ => by omega
  | k + 1, z, i, hk, hi => by
    rw [text_Quote.l0]
    by_cases hlt : i < x.length
    · rw [if_pos (by omega), wi1 (by omega), getD_cons_of hlt]
      simp only [Int.toNat_natCast]
      cases z with
      | true => rw [if_pos rfl, if_pos (by omega), bare_f, Option.bind_some, Option.bind_some, q_l0 hx k _ (i + 1) (by omega) (by omega)]; simp
      | false => rw [if_neg (by simp), Option.bind_some, q_l0 hx k _ (i + 1) (by omega) (by omega)]; simp
    · rw [if_neg (by omega), List.drop_of_length_le (by omega)]; simp
theorem q_l1 {x : List UInt8} (hx : x.length < 2 ^ 40) : ∀ (k : Nat) (z : List UInt8) (i : Nat), x.length - i < k → i ≤ x.length → z.length ≤ 4 * i + 1 → text_Quote.l1 x k z (i : Int) = some (z ++ (x.drop i).flatMap encC)
  | 0, z, i, h, _, _ => by omega
  | k + 1, z, i, hk, hi, hz => by
    rw [text_Quote.l1]
    by_cases hlt : i < x.length
    · rw [if_pos (by omega), if_pos (by omega), wi1 (by omega), getD_cons_of hlt, List.flatMap_cons]
      simp only [Int.toNat_natCast]
      obtain ⟨c, hc⟩ : ∃ c, x.getD i 0 = c := ⟨_, rfl⟩
      simp only [hc]
      rw [encC]
      by_cases h1 : c.toNat = 34 ∨ c.toNat = 92
      · rw [if_pos (by simp; omega), if_pos (by simp; omega), if_pos h1, q_l1 hx k _ (i + 1) (by omega) (by omega) (by simp; omega), List.append_assoc]
      · rw [if_neg (by simp; omega), if_neg h1, plain_f, Option.bind_some]
        cases hp : plainB c with
        | true => rw [if_pos rfl, if_pos rfl, if_pos (by simp; omega), q_l1 hx k _ (i + 1) (by omega) (by omega) (by simp; omega), List.append_assoc]
        | false =>
          have hc := UInt8.toNat_lt c
          have e1 : Int.tdiv (c.toNat : Int) 16 = ((c.toNat / 16 : Nat) : Int) := by rw [Int.tdiv_eq_ediv_of_nonneg (by omega)]; simp
          have e2 : Int.tmod (c.toNat : Int) 16 = ((c.toNat % 16 : Nat) : Int) := by rw [Int.tmod_eq_emod_of_nonneg (by omega)]; simp
          rw [if_neg Bool.false_ne_true, e1, e2, w8 (by omega) (by omega)]
          simp only [Int.toNat_natCast]
          rw [if_pos (by simp; omega), if_pos (by simp; omega), if_pos (by simp; omega), if_neg Bool.false_ne_true, q_l1 hx k _ (i + 1) (by omega) (by omega) (by simp; omega), List.append_assoc]
    · rw [if_neg (by omega), List.drop_of_length_le (by omega)]; simp
theorem quote_f {x : List UInt8} {k : Nat} (hx : x.length < 2 ^ 40) (hk : x.length < k) : text_Quote.f k x = some (quoteB x) := by
  unfold text_Quote.f
  have e0 : (if x = ([] : List UInt8) then (some false) else (if 0 ≤ (0 : Int) ∧ (0 : Int) < (x.length : Int) then (some (!decide (((x.getD (0 : Int).toNat 0).toNat : Int) = (35 : Int)))) else none)) = some (headB x) := by
    cases x with
    | nil => rfl
    | cons c t =>
      rw [if_neg (by simp), if_pos (by simp)]
      simp only [show (0 : Int).toNat = 0 from rfl, List.getD_cons_zero]
      show some (!decide ((c.toNat : Int) = 35)) = some (!decide (c.toNat = 35))
      congr 3; exact propext (by omega)
  have e1 := fun z => q_l0 hx k z 0 (by omega) (by omega)
  have e2 := q_l1 hx k [34] 0 (by omega) (by omega) (by simp)
  have := enc_len x
  simp only [List.drop_zero] at e1 e2
  rw [e0, Option.bind_some]
  rw [show (0 : Int) = ((0 : Nat) : Int) from rfl, e1, Option.bind_some, e2, Option.bind_some]
  unfold quoteB bareW
  by_cases hw : (headB x && x.all bareB) = true
  · rw [if_pos hw, if_pos hw]
  · rw [if_neg hw, if_neg hw, if_pos (by simp only [List.length_append, List.length_cons, List.length_nil]; omega)]; simp
end Go.Proofs.YtbcnegennmpliaaDoor

namespace Go.Proofs.YtbcnegennmpliaaDoor
set_option linter.unusedVariables false
set_option linter.unusedSimpArgs false
open Go.RowKit
def dg (c : UInt8) : Prop := 48 ≤ c.toNat ∧ c.toNat ≤ 57
def fold10 (a : Nat) (l : List UInt8) : Nat := l.foldl (fun a c => a * 10 + (c.toNat - 48)) a
theorem fold10_cons (a : Nat) (c : UInt8) (l : List UInt8) : fold10 a (c :: l) = fold10 (a * 10 + (c.toNat - 48)) l := by simp only [fold10, List.foldl_cons]
theorem fold10_snoc (a : Nat) (c : UInt8) (l : List UInt8) : fold10 a (l ++ [c]) = fold10 a l * 10 + (c.toNat - 48) := by simp [fold10, List.foldl_append]
theorem fold10_ge : ∀ (l : List UInt8) (a : Nat), a ≤ fold10 a l
  | [], a => Nat.le_refl _
  | c :: l, a => by
    have := fold10_ge l (a * 10 + (c.toNat - 48))
    rw [fold10_cons]; omega
theorem u8_of {n : Nat} (h : n < 256) : (UInt8.ofNat n).toNat = n := by simp; omega
theorem dec_spec (u : Nat) : (∀ c, c ∈ Lib.decDigits u → dg c) ∧ fold10 0 (Lib.decDigits u) = u ∧ Lib.decDigits u ≠ [] ∧ (1 ≤ u → ∀ c t, Lib.decDigits u = c :: t → c.toNat ≠ 48) := by
  induction u using Nat.strongRecOn with
  | _ u ih =>
    by_cases h : u < 10
    · rw [Lib.decDigits, dif_pos h]
      have e : (UInt8.ofNat (48 + u)).toNat = 48 + u := u8_of (by omega)
      refine ⟨fun c hc => ?_, ?_, by simp, fun h1 c t e1 => ?_⟩
      · rw [List.mem_singleton.1 hc, dg, e]; omega
      · simp only [fold10, List.foldl_cons, List.foldl_nil]; rw [e]; omega
      · rw [← (List.cons.inj e1).1, e]; omega
    · rw [Lib.decDigits, dif_neg h]
      obtain ⟨h1, h2, h3, h4⟩ := ih (u / 10) (by omega)
      have e : (UInt8.ofNat (48 + u % 10)).toNat = 48 + u % 10 := u8_of (by omega)
      refine ⟨fun c hc => ?_, ?_, by simp, fun _ c t e1 => ?_⟩
      · rcases List.mem_append.1 hc with hc | hc
        · exact h1 c hc
        · rw [List.mem_singleton.1 hc, dg, e]; omega
      · rw [fold10_snoc, h2, e]; omega
      · cases hd : Lib.decDigits (u / 10) with
        | nil => exact absurd hd h3
        | cons d r =>
          rw [hd, List.cons_append] at e1
          rw [← (List.cons.inj e1).1]
          exact h4 (by omega) d r hd
theorem dec_len : ∀ (k u : Nat), u < 10 ^ (k + 1) → (Lib.decDigits u).length ≤ k + 1
  | 0, u, h => by rw [Lib.decDigits, dif_pos (by simpa using h)]; simp
  | k + 1, u, h => by
    rw [Lib.decDigits]
    split
    · simp
    · have := dec_len k (u / 10) (by rw [Nat.pow_succ] at h; omega)
      simp; omega
def canon (x : List UInt8) (n : Int) : Prop := x = Lib.itoa n ∧ -4611686018427387904 ≤ n ∧ n ≤ 4611686018427387904
theorem itoa_pos {n : Int} (h : 0 ≤ n) : Lib.itoa n = Lib.decDigits n.toNat := by unfold Lib.itoa; rw [if_neg (by omega)]
theorem itoa_neg' {n : Int} (h : n < 0) : Lib.itoa n = 45 :: Lib.decDigits n.natAbs := by unfold Lib.itoa; rw [if_pos h]
theorem dec_head {u : Nat} {c : UInt8} {t : List UInt8} (h : Lib.decDigits u = c :: t) : dg c := (dec_spec u).1 c (by rw [h]; simp)
theorem itoa_inj {m n : Int} (h : Lib.itoa m = Lib.itoa n) : m = n := by
  by_cases hm : m < 0 <;> by_cases hn : n < 0
  · rw [itoa_neg' hm, itoa_neg' hn] at h
    have e := (List.cons.inj h).2
    have := (dec_spec m.natAbs).2.1
    rw [e, (dec_spec n.natAbs).2.1] at this
    omega
  · rw [itoa_neg' hm, itoa_pos (by omega)] at h
    have := dec_head h.symm
    simp [dg] at this
  · rw [itoa_neg' hn, itoa_pos (by omega)] at h
    have := dec_head h
    simp [dg] at this
  · rw [itoa_pos (by omega), itoa_pos (by omega)] at h
    have := (dec_spec m.toNat).2.1
    rw [h, (dec_spec n.toNat).2.1] at this
    omega
theorem canon_inj {x : List UInt8} {m n : Int} (h : canon x m) (k : canon x n) : m = n := itoa_inj (h.1.symm.trans k.1)
theorem parseM_ok : ∀ (l : List UInt8) (a : Nat), (∀ c, c ∈ l → dg c) → fold10 a l ≤ 4611686018427387904 → Lib.parseUintM (2 ^ 64 - 1) a l = .ok (fold10 a l)
  | [], a, _, _ => rfl
  | c :: l, a, hd, hf => by
    have hc := hd c (by simp)
    rw [fold10_cons] at hf ⊢
    have := fold10_ge l (a * 10 + (c.toNat - 48))
    rw [Lib.parseUintM, if_pos (show 48 ≤ c.toNat ∧ c.toNat ≤ 57 from hc), if_neg (by omega), if_neg (by omega)]
    exact parseM_ok l _ (fun x hx => hd x (List.mem_cons_of_mem _ hx)) hf
theorem parse_itoa {n : Int} (h0 : -4611686018427387904 ≤ n) (h1 : n ≤ 4611686018427387904) : parseV (Lib.itoa n) = (n, true) := by
  have key : Lib.parseIntB 64 (Lib.itoa n) = .ok n := by
    by_cases hn : n < 0
    · rw [itoa_neg' hn]
      obtain ⟨s1, s2, s3, s4⟩ := dec_spec n.natAbs
      unfold Lib.parseIntB
      simp only []
      rw [if_pos (by right; decide), Lib.parseUintB, if_neg s3, parseM_ok _ _ s1 (by rw [s2]; omega), s2]
      simp only []
      rw [if_neg (by simp), if_neg (by simp; omega), if_pos (by decide)]
      congr 1; omega
    · rw [itoa_pos (by omega)]
      obtain ⟨s1, s2, s3, s4⟩ := dec_spec n.toNat
      cases hd : Lib.decDigits n.toNat with
      | nil => exact absurd hd s3
      | cons c t =>
        have hc := dec_head hd
        unfold Lib.parseIntB
        simp only []
        have e1 : ¬ (c.toNat = 43 ∨ c.toNat = 45) := by have := hc.1; omega
        have e2 : ¬ (c.toNat = 45) := by have := hc.1; omega
        rw [if_neg e1, Lib.parseUintB, if_neg (by simp), ← hd, parseM_ok _ _ s1 (by rw [s2]; omega), s2]
        simp only []
        rw [if_neg (by simp; omega), if_neg (fun h => e2 h.1), if_neg e2]
        congr 1; omega
  unfold parseV
  rw [key]
theorem dg_mem {c : UInt8} (h : dg c) : ([48, 49, 50, 51, 52, 53, 54, 55, 56, 57] : List UInt8).contains c = true := by
  have := u8_all (p := fun c => !(decide (48 ≤ c.toNat) && decide (c.toNat ≤ 57)) || ([48, 49, 50, 51, 52, 53, 54, 55, 56, 57] : List UInt8).contains c) (by decide +kernel) c
  simp only [decide_eq_true h.1, decide_eq_true h.2, Bool.and_self, Bool.not_true, Bool.false_or] at this
  exact this
theorem trim_digits {l : List UInt8} (h : ∀ c, c ∈ l → dg c) : Lib.trimS l [48, 49, 50, 51, 52, 53, 54, 55, 56, 57] = [] := by
  have e : Lib.trimRightS l [48, 49, 50, 51, 52, 53, 54, 55, 56, 57] = l.take 0 := Lib.trimRightS_take l _ 0 (by omega) (fun j b _ hb => dg_mem (h b (List.mem_of_getElem? hb))) (fun b hb => absurd hb (by omega))
  unfold Lib.trimS
  rw [e, List.take_zero]
  rfl
theorem trimP_itoa (n : Int) : ∀ c, c ∈ Lib.trimPrefix (Lib.itoa n) [45] → dg c := by
  intro c hc
  by_cases hn : n < 0
  · rw [itoa_neg' hn] at hc
    unfold Lib.trimPrefix at hc
    rw [pre1] at hc
    simp at hc
    exact (dec_spec _).1 c hc
  · rw [itoa_pos (by omega)] at hc
    obtain ⟨s1, s2, s3, s4⟩ := dec_spec n.toNat
    unfold Lib.trimPrefix at hc
    split at hc
    · exact s1 c (List.mem_of_mem_drop hc)
    · exact s1 c hc
theorem number_f {x : List UInt8} (hx : x.length ≤ 2 ^ 40) : ∃ n ok, text_number.f x = some (n, ok) ∧ (ok = true ↔ ∃ m, canon x m) ∧ (ok = true → canon x n) := by
  have ht : (Lib.trimPrefix x [45]).length ≤ x.length := by unfold Lib.trimPrefix; split <;> simp
  have hdig : ∀ b ∈ ([48, 49, 50, 51, 52, 53, 54, 55, 56, 57] : List UInt8), b.toNat < 128 := by decide
  unfold text_number.f
  rw [strings_TrimPrefix.f, Option.bind_some, strconv_ParseInt.f, if_pos ⟨rfl, rfl, by omega⟩, Option.bind_some]
  obtain ⟨v, hv⟩ : ∃ v, parseV x = v := ⟨_, rfl⟩
  rw [hv]
  by_cases hb : ((v.2 && (decide ((-4611686018427387904) ≤ v.1))) && (decide (v.1 ≤ (4611686018427387904 : Int)))) = true
  · have hb' := hb
    simp only [Bool.and_eq_true, decide_eq_true_eq] at hb'
    rw [if_pos hb, strings_Trim.f, if_pos ⟨by omega, by simp, hdig⟩, Option.bind_some, Option.bind_some]
    by_cases htr : Lib.trimS (Lib.trimPrefix x [45]) [48, 49, 50, 51, 52, 53, 54, 55, 56, 57] = []
    · rw [if_pos (by simpa using htr), strconv_FormatInt.f, if_pos ⟨rfl, by omega, by omega⟩, Option.bind_some, Option.bind_some]
      refine ⟨_, _, rfl, ⟨fun h => ⟨v.1, ?_⟩, fun ⟨m, hm⟩ => ?_⟩, fun h => ?_⟩
      · exact ⟨(of_decide_eq_true h).symm, hb'.1.2, hb'.2⟩
      · have := parse_itoa hm.2.1 hm.2.2
        rw [← hm.1, hv] at this
        rw [decide_eq_true_eq, this]
        exact hm.1.symm
      · exact ⟨(of_decide_eq_true h).symm, hb'.1.2, hb'.2⟩
    · rw [if_neg (by simpa using htr), Option.bind_some]
      refine ⟨_, _, rfl, ⟨fun h => (by cases h), fun ⟨m, hm⟩ => ?_⟩, fun h => (by cases h)⟩
      exact absurd (by rw [hm.1]; exact trim_digits (trimP_itoa m)) htr
  · rw [if_neg hb, Option.bind_some, if_neg Bool.false_ne_true, Option.bind_some]
    refine ⟨_, _, rfl, ⟨fun h => (by cases h), fun ⟨m, hm⟩ => ?_⟩, fun h => (by cases h)⟩
    refine absurd ?_ hb
    have := parse_itoa hm.2.1 hm.2.2
    rw [← hm.1, hv] at this
    rw [this]
    simp [hm.2.1, hm.2.2]
/-! ### The document's -/
end Go.Proofs.YtbcnegennmpliaaDoor

namespace Go.Proofs.YtbcnegennmpliaaDoor
set_option linter.unusedVariables false
set_option linter.unusedSimpArgs false
open Go.RowKit
theorem ff {p : Prop} (h : false = true) : p := by cases h
end Go.Proofs.YtbcnegennmpliaaDoor

namespace Go.Proofs.YtbcnegennmpliaaDoor
set_option linter.unusedVariables false
set_option linter.unusedSimpArgs false
open Go.RowKit
abbrev ActT : Type := Int × Int × Int × Int × Int × Int × List UInt8 × List UInt8 × List UInt8
abbrev act0 : ActT := (0, 0, 0, 0, 0, 0, [], [], [])
def fl (a : ActT) (e : Int) : Int × Int × Int × Int × Int × Int × List UInt8 × List UInt8 × List UInt8 × Int := (a.1, a.2.1, a.2.2.1, a.2.2.2.1, a.2.2.2.2.1, a.2.2.2.2.2.1, a.2.2.2.2.2.2.1, a.2.2.2.2.2.2.2.1, a.2.2.2.2.2.2.2.2, e)
def numM (x : List UInt8) : Option Int := match text_number.f x with
  | some (n, true) => some n
  | _ => none
theorem num_p {x : List UInt8} (hx : x.length ≤ 2 ^ 40) : ∃ n, text_number.f x = some (match numM x with | some v => (v, true) | none => (n, false)) := by
  obtain ⟨n, ok, h1, h2, h3⟩ := number_f hx
  refine ⟨n, ?_⟩
  unfold numM
  rw [h1]
  cases ok <;> rfl
theorem numM_iff {x : List UInt8} (hx : x.length ≤ 2 ^ 40) (n : Int) : numM x = some n ↔ canon x n := by
  obtain ⟨m, ok, h1, h2, h3⟩ := number_f hx
  unfold numM
  rw [h1]
  cases ok with
  | true => simp only [Option.some.injEq]; exact ⟨fun e => e ▸ h3 rfl, fun c => canon_inj (h3 rfl) c⟩
  | false => exact ⟨fun h => (by cases h), fun c => ff (h2.2 ⟨n, c⟩)⟩
abbrev picksL : List (List UInt8) := [[110, 111, 116, 105, 99, 101], [119, 111, 114, 107], [105, 110, 98, 111, 120], [116, 105, 99, 107], [99, 97, 108, 108], [119, 114, 105, 116, 101], [115, 121, 110, 99], [97, 112, 112, 108, 121], [115, 101, 110, 100]]
def pickN : List (List UInt8) → List UInt8 → Nat → Option Nat
  | [], _, _ => none
  | p :: ps, w, i => if p = w then some (i + 1) else pickN ps w (i + 1)
def fillM (l : UInt8) (a : ActT) (w : List UInt8) : ActT ⊕ Int :=
  if l = 107 then .inl (a.1, a.2.1, a.2.2.1, a.2.2.2.1, a.2.2.2.2.1, a.2.2.2.2.2.1, w, a.2.2.2.2.2.2.2.1, a.2.2.2.2.2.2.2.2)
  else if l = 118 then .inl (a.1, a.2.1, a.2.2.1, a.2.2.2.1, a.2.2.2.2.1, a.2.2.2.2.2.1, a.2.2.2.2.2.2.1, w, a.2.2.2.2.2.2.2.2)
  else if l = 111 then .inl (a.1, a.2.1, a.2.2.1, a.2.2.2.1, a.2.2.2.2.1, a.2.2.2.2.2.1, a.2.2.2.2.2.2.1, a.2.2.2.2.2.2.2.1, w)
  else if l = 112 then match pickN picksL w 0 with
    | some n => .inl (a.1, a.2.1, a.2.2.1, (n : Int), a.2.2.2.2.1, a.2.2.2.2.2.1, a.2.2.2.2.2.2.1, a.2.2.2.2.2.2.2.1, a.2.2.2.2.2.2.2.2)
    | none => .inr 20
  else match numM w with
    | none => .inr 22
    | some n =>
      if l = 78 then .inl (a.1, n, a.2.2.1, a.2.2.2.1, a.2.2.2.2.1, a.2.2.2.2.2.1, a.2.2.2.2.2.2.1, a.2.2.2.2.2.2.2.1, a.2.2.2.2.2.2.2.2)
      else if l = 67 then .inl (a.1, a.2.1, n, a.2.2.2.1, a.2.2.2.2.1, a.2.2.2.2.2.1, a.2.2.2.2.2.2.1, a.2.2.2.2.2.2.2.1, a.2.2.2.2.2.2.2.2)
      else if l = 110 then .inl (a.1, a.2.1, a.2.2.1, n, a.2.2.2.2.1, a.2.2.2.2.2.1, a.2.2.2.2.2.2.1, a.2.2.2.2.2.2.2.1, a.2.2.2.2.2.2.2.2)
      else .inl (a.1, a.2.1, a.2.2.1, a.2.2.2.1, n, a.2.2.2.2.2.1, a.2.2.2.2.2.2.1, a.2.2.2.2.2.2.2.1, a.2.2.2.2.2.2.2.2)
def fres (a : ActT) (r : ActT ⊕ Int) : Int × Int × Int × Int × Int × Int × Int × List UInt8 × List UInt8 × List UInt8 := match r with
  | .inl b => (0, b)
  | .inr c => (c, a)
def fld (l : UInt8) : Ty103 :=
  if l = 78 then (some 65, none, false) else if l = 67 then (some 66, none, false) else if l = 110 then (some 67, none, false) else if l = 109 then (some 68, none, false)
  else if l = 112 then (some 69, none, true) else if l = 107 then (none, some 70, false) else if l = 118 then (none, some 71, false) else (none, some 72, false)
abbrev lets : List UInt8 := [78, 67, 110, 109, 112, 107, 118, 111]
theorem picksP : text_picks.f = some picksL := rfl
theorem pick_l0 (a : ActT) (w : List UInt8) : ∀ (ps : List (List UInt8)) (pre : List (List UInt8)) (k : Nat), ps.length < k → (pre ++ ps).length < 100 →
    text_field_fill.l0 (some 69) a.1 a.2.1 a.2.2.1 a.2.2.2.1 a.2.2.2.2.1 a.2.2.2.2.2.1 a.2.2.2.2.2.2.1 a.2.2.2.2.2.2.2.1 a.2.2.2.2.2.2.2.2 w (pre ++ ps) k (pre.length : Int) = some (match pickN ps w pre.length with
      | some n => .inr (0, a.1, a.2.1, a.2.2.1, (n : Int), a.2.2.2.2.1, a.2.2.2.2.2.1, a.2.2.2.2.2.2.1, a.2.2.2.2.2.2.2.1, a.2.2.2.2.2.2.2.2)
      | none => .inl ())
  | _, _, 0, h, _ => by omega
  | [], pre, k + 1, _, _ => by
    rw [text_field_fill.l0, List.append_nil, if_neg (by omega)]; rfl
  | p :: ps, pre, k + 1, hk, hl => by
    have hl' := hl
    rw [List.length_append, List.length_cons] at hl'
    rw [text_field_fill.l0, if_pos (by rw [List.length_append, List.length_cons]; omega), if_pos (by rw [List.length_append, List.length_cons]; omega)]
    have e : (pre ++ p :: ps).getD (pre.length : Int).toNat [] = p := by simp
    rw [e, pickN, wi1 (by omega)]
    by_cases h : p = w
    · rw [if_pos h, if_pos h]
      simp [text_lines_5.f]
    · rw [if_neg h, if_neg h]
      have := pick_l0 a w ps (pre ++ [p]) k (by simp at hk ⊢; omega) (by simpa using hl)
      simpa using this
theorem fill_f {l : UInt8} (hl : l ∈ lets) (a : ActT) {w : List UInt8} {k : Nat} (hw : w.length ≤ 2 ^ 40) (hk : 20 < k) :
    text_field_fill.f k (fld l).1 (fld l).2.1 (fld l).2.2 a.1 a.2.1 a.2.2.1 a.2.2.2.1 a.2.2.2.2.1 a.2.2.2.2.2.1 a.2.2.2.2.2.2.1 a.2.2.2.2.2.2.2.1 a.2.2.2.2.2.2.2.2 w = some (fres a (fillM l a w)) := by
  obtain ⟨n, hn⟩ := num_p hw
  have hp := pick_l0 a w picksL [] k (by simp; omega) (by simp)
  simp only [List.mem_cons, List.not_mem_nil, or_false] at hl
  unfold text_field_fill.f
  rcases hl with rfl | rfl | rfl | rfl | rfl | rfl | rfl | rfl
  · rw [hn]; unfold fillM; cases numM w <;> simp [fld, fres, text_lines_1.f]
  · rw [hn]; unfold fillM; cases numM w <;> simp [fld, fres, text_lines_2.f]
  · rw [hn]; unfold fillM; cases numM w <;> simp [fld, fres, text_lines_3.f]
  · rw [hn]; unfold fillM; cases numM w <;> simp [fld, fres, text_lines_4.f]
  · rw [picksP, Option.bind_some]
    rw [show (fld 112).1 = some 69 from rfl, show (fld 112).2.1 = none from rfl, show (fld 112).2.2 = true from rfl, if_neg (by simp), if_pos rfl]
    rw [show (([] : List (List UInt8)).length : Int) = (0 : Int) from rfl, List.nil_append] at hp
    rw [hp]
    unfold fillM
    cases hq : pickN picksL w 0 <;> simp [fres, orR]
  · simp [fld, fres, fillM, text_lines_6.f]
  · simp [fld, fres, fillM, text_lines_7.f]
  · simp [fld, fres, fillM, text_lines_8.f]
end Go.Proofs.YtbcnegennmpliaaDoor

namespace Go.Proofs.YtbcnegennmpliaaDoor
set_option linter.unusedVariables false
set_option linter.unusedSimpArgs false
open Go.RowKit
abbrev RowT : Type := List UInt8 × Int × List UInt8 × Int × Int
def rowsL : List RowT := (synodref17_Rows.f).getD []
def actOf (r : RowT) : ActT := (r.2.1, 0, 0, 0, r.2.2.2.1, r.2.2.2.2, [], [], [])
def toLine (r : RowT) : Ty99 := (r.1, r.2.1, 0, 0, 0, r.2.2.2.1, r.2.2.2.2, [], [], [], r.2.2.1.map fld)
theorem linesP : text_lines.f = some (rowsL.map toLine) := by kernel_rfl
theorem rows_lets : ∀ r, r ∈ rowsL → ∀ l, l ∈ r.2.2.1 → l ∈ lets := by
  have : (rowsL.all fun r => r.2.2.1.all fun l => lets.contains l) = true := by decide +kernel
  intro r hr l hl
  exact List.contains_iff_mem.1 (List.all_eq_true.1 (List.all_eq_true.1 this r hr) l hl)
theorem rows_len : rowsL.length = 20 := by decide +kernel
theorem rows_of_len : ∀ r, r ∈ rowsL → r.2.2.1.length ≤ 5 := by
  have : (rowsL.all fun r => decide (r.2.2.1.length ≤ 5)) = true := by decide +kernel
  intro r hr
  simpa using List.all_eq_true.1 this r hr
def fillAll : List UInt8 → ActT → List (List UInt8) → ActT ⊕ Int
  | [], a, _ => .inl a
  | l :: ls, a, w :: ws => match fillM l a w with
    | .inl b => fillAll ls b ws
    | .inr c => .inr c
  | _ :: _, _, [] => .inr 21
def parseR : List RowT → List (List UInt8) → ActT × Int
  | [], _ => (act0, 20)
  | r :: rs, ws =>
    if ws = [] ∨ r.1 ≠ ws.headD [] then parseR rs ws
    else if ws.length ≠ 1 + r.2.2.1.length then (act0, 21)
    else match fillAll r.2.2.1 (actOf r) (ws.drop 1) with
      | .inl a => (a, 0)
      | .inr c => (act0, c)
def parseB (x : List UInt8) : ActT × Int := if (wordsB x).2 = 0 then parseR rowsL (wordsB x).1 else (act0, (wordsB x).2)
theorem fill_ne {l : UInt8} {a : ActT} {w : List UInt8} {c : Int} (h : fillM l a w = .inr c) : c = 20 ∨ c = 22 := by
  unfold fillM at h
  split at h
  · cases h
  split at h
  · cases h
  split at h
  · cases h
  split at h
  · split at h
    · cases h
    · cases h; exact .inl rfl
  · split at h
    · cases h; exact .inr rfl
    · split at h
      · cases h
      split at h
      · cases h
      split at h <;> cases h
theorem getD_dropS {ws : List (List UInt8)} {i : Nat} {w : List UInt8} {t : List (List UInt8)} (h : ws.drop i = w :: t) : i < ws.length ∧ ws.getD i [] = w ∧ ws.drop (i + 1) = t := by
  have hl : i < ws.length := by
    rcases Nat.lt_or_ge i ws.length with hh | hh
    · exact hh
    · rw [List.drop_of_length_le hh] at h; cases h
  rw [List.drop_eq_getElem_cons hl] at h
  refine ⟨hl, ?_, (List.cons.inj h).2⟩
  rw [List.getD_eq_getElem?_getD, List.getElem?_eq_getElem hl]
  exact (List.cons.inj h).1
abbrev L1T : Type := ActT ⊕ (Unit ⊕ (Unit ⊕ (Int × Int × Int × Int × Int × Int × List UInt8 × List UInt8 × List UInt8 × Int)))
def l1res (r : ActT ⊕ Int) : L1T := match r with
  | .inl b => .inl b
  | .inr c => .inr (.inr (.inr (fl act0 c)))
theorem act_l1 {ws : List (List UInt8)} {e : Int} {lines : List Ty99} {j : Nat} {r : RowT} (hj : ∀ d, lines.getD j d = toLine r) (hwl : ws.length < 2 ^ 40) (hw : ∀ w, w ∈ ws → w.length ≤ 2 ^ 40) (hlt : ∀ l, l ∈ r.2.2.1 → l ∈ lets) :
    ∀ (ls pre : List UInt8) (wr : List (List UInt8)) (k : Nat) (a : ActT), r.2.2.1 = pre ++ ls → ws.drop (pre.length + 1) = wr → ls.length ≤ wr.length → ls.length + 25 < k →
      text_ParseAct.l1 (ws, e) lines (j : Int) k (pre.length : Int) a.1 a.2.1 a.2.2.1 a.2.2.2.1 a.2.2.2.2.1 a.2.2.2.2.2.1 a.2.2.2.2.2.2.1 a.2.2.2.2.2.2.2.1 a.2.2.2.2.2.2.2.2 = some (l1res (fillAll ls a wr))
  | _, _, _, 0, _, _, _, _, h => by omega
  | [], pre, wr, k + 1, a, hp, _, _, _ => by
    rw [text_ParseAct.l1]
    simp only [Int.toNat_natCast, hj]
    rw [if_neg (by simp [toLine, hp])]
    rfl
  | l :: ls, pre, [], k + 1, a, hp, hd, hlen, _ => by simp at hlen
  | l :: ls, pre, w :: wr, k + 1, a, hp, hd, hlen, hk => by
    obtain ⟨g1, g2, g3⟩ := getD_dropS hd
    have hwm : w ∈ ws := List.mem_of_mem_drop (by rw [hd]; simp)
    have hll : l ∈ lets := hlt l (by rw [hp]; simp)
    have hpl : pre.length < (pre ++ l :: ls).length := by simp
    rw [text_ParseAct.l1]
    simp only [Int.toNat_natCast, hj]
    have ef : ∀ d, (toLine r).2.2.2.2.2.2.2.2.2.2.getD pre.length d = fld l := fun d => by
      show (r.2.2.1.map fld).getD pre.length d = _
      rw [hp]; simp
    have el : (((toLine r).2.2.2.2.2.2.2.2.2.2).length : Int) = ((pre ++ l :: ls).length : Int) := by
      show (((r.2.2.1.map fld).length : Nat) : Int) = _
      rw [List.length_map, hp]
    rw [el, if_pos (by omega), if_pos (by omega), wi1 (by omega), if_pos (by omega)]
    simp only [Int.toNat_natCast, ef, g2]
    rw [fill_f hll a (hw w hwm) (by simp at hk; omega), Option.bind_some, fillAll]
    cases hf : fillM l a w with
    | inl b =>
      simp only [fres, if_true]
      have := act_l1 (e := e) hj hwl hw hlt ls (pre ++ [l]) wr k b (by rw [hp]; simp) (by simpa using g3) (by simp at hlen; omega) (by simp at hk; omega)
      simpa using this
    | inr c =>
      have hc0 : c ≠ 0 := by have := fill_ne hf; omega
      simp [fres, hc0, l1res, fl]
def l0res (r : ActT × Int) : Int × Int × Int × Int × Int × Int × List UInt8 × List UInt8 × List UInt8 × Int := fl r.1 r.2
theorem getD_map_at {rs : List RowT} {i : Nat} (h : i < rs.length) (d : Ty99) : (rs.map toLine).getD i d = toLine (rs.getD i dz109) := by
  rw [List.getD_eq_getElem?_getD, List.getElem?_map, List.getD_eq_getElem?_getD, List.getElem?_eq_getElem h]; rfl
theorem getD_consR {rs : List RowT} {i : Nat} (h : i < rs.length) : rs.drop i = rs.getD i dz109 :: rs.drop (i + 1) := by
  rw [List.getD_eq_getElem?_getD, List.getElem?_eq_getElem h]
  exact List.drop_eq_getElem_cons h
theorem act_l0 {ws : List (List UInt8)} {e : Int} (hwl : ws.length < 2 ^ 40) (hw : ∀ w, w ∈ ws → w.length ≤ 2 ^ 40) : ∀ (k i : Nat), rowsL.length - i + 40 < k → i ≤ rowsL.length →
    orR (text_ParseAct.l0 (ws, e) (rowsL.map toLine) k (i : Int)) (fun _ => some (fl act0 20)) = some (l0res (parseR (rowsL.drop i) ws))
  | 0, i, h, _ => by omega
  | k + 1, i, hk, hi => by
    rw [text_ParseAct.l0, List.length_map]
    by_cases hlt : i < rowsL.length
    · have hm : rowsL.getD i dz109 ∈ rowsL := by rw [getD_at hlt]; exact List.getElem_mem hlt
      have hr := getD_consR hlt
      rw [if_pos (by omega), if_pos (by omega), hr, wi1 (by have := rows_len; omega)]
      simp only [Int.toNat_natCast, getD_map_at hlt]
      obtain ⟨r, hrr⟩ : ∃ r, rowsL.getD i dz109 = r := ⟨_, rfl⟩
      simp only [hrr] at hm hr ⊢
      rw [parseR]
      have ih := act_l0 hwl hw k (i + 1) (by omega) (by omega) (e := e)
      by_cases hws : ws = []
      · rw [if_pos (show (ws.length : Int) = 0 by simp [hws]), Option.bind_some, if_pos rfl, if_pos (Or.inl hws)]
        exact ih
      · have hne : ws.length ≠ 0 := fun h => hws (List.length_eq_zero_iff.1 h)
        have ehd : ws.getD (0 : Int).toNat [] = ws.headD [] := by cases ws <;> rfl
        rw [if_neg (by omega), if_pos (by omega), Option.bind_some, ehd]
        by_cases hh : r.1 = ws.headD []
        · have ec : (!decide ((toLine r).1 = ws.headD [])) = false := by rw [decide_eq_true (show (toLine r).1 = ws.headD [] from hh)]; rfl
          rw [ec, if_neg Bool.false_ne_true, if_neg (show ¬ (ws = [] ∨ r.1 ≠ ws.headD []) from fun h => h.elim hws fun h => h hh)]
          have ol := rows_of_len r hm
          have el : (((toLine r).2.2.2.2.2.2.2.2.2.2).length : Int) = (r.2.2.1.length : Int) := by
            show (((r.2.2.1.map fld).length : Nat) : Int) = _
            rw [List.length_map]
          rw [el, w1i (by omega)]
          by_cases hl : ws.length = 1 + r.2.2.1.length
          · rw [if_pos (by omega), if_neg (show ¬ ws.length ≠ 1 + r.2.2.1.length by omega)]
            have := act_l1 (e := e) (lines := rowsL.map toLine) (j := i) (r := r) (fun d => by rw [getD_map_at hlt, hrr]) hwl hw (rows_lets r hm) r.2.2.1 [] (ws.drop 1) k (actOf r) rfl rfl (by simp; omega) (by omega)
            simp only [actOf] at this
            rw [show (toLine r).2.1 = r.2.1 from rfl, show (toLine r).2.2.1 = 0 from rfl, show (toLine r).2.2.2.1 = 0 from rfl, show (toLine r).2.2.2.2.1 = 0 from rfl, show (toLine r).2.2.2.2.2.1 = r.2.2.2.1 from rfl, show (toLine r).2.2.2.2.2.2.1 = r.2.2.2.2 from rfl, show (toLine r).2.2.2.2.2.2.2.1 = [] from rfl, show (toLine r).2.2.2.2.2.2.2.2.1 = [] from rfl, show (toLine r).2.2.2.2.2.2.2.2.2.1 = [] from rfl]
            rw [show (([] : List UInt8).length : Int) = (0 : Int) from rfl] at this
            rw [this]
            unfold actOf
            cases fillAll r.2.2.1 (r.2.1, 0, 0, 0, r.2.2.2.1, r.2.2.2.2, [], [], []) (ws.drop 1) with
            | inl b => rfl
            | inr c => rfl
          · rw [if_neg (by omega), if_pos hl]
            rfl
        · have ec : (!decide ((toLine r).1 = ws.headD [])) = true := by rw [decide_eq_false (show ¬ (toLine r).1 = ws.headD [] from hh)]; rfl
          rw [ec, if_pos rfl, if_pos (.inr hh)]
          exact ih
    · rw [if_neg (by omega), List.drop_of_length_le (by omega)]
      rfl
theorem wd_mem : ∀ (n : Nat) (x : List UInt8) (l : List (List UInt8)), wd n x = some l → ∀ w, w ∈ l → w.length ≤ x.length
  | n, [], l, h => by rw [wd_nil] at h; cases h; intro w hw; cases hw
  | 0, c :: t, l, h => by simp [wd] at h
  | n + 1, c :: t, l, h => by
    rw [wd] at h
    split at h
    · intro w hw; have := wd_mem n t l h w hw; simp; omega
    split at h
    · cases hq : qd t with
      | none => rw [hq] at h; cases h
      | some p =>
        obtain ⟨a, r⟩ := p
        rw [hq, Option.bind_some] at h
        obtain ⟨q, eq, hal⟩ := qd_suf _ _ a r (Nat.le_refl _) hq
        have hlen := congrArg List.length eq
        simp only [List.length_append] at hlen
        split at h
        · cases hw : wd n r with
          | none => rw [hw] at h; cases h
          | some m =>
            rw [hw] at h
            simp only [Option.map_some, Option.some.injEq] at h
            subst h
            intro w hm
            rcases List.mem_cons.1 hm with rfl | hm
            · simp; omega
            · have := wd_mem n r m hw w hm
              simp; omega
        · cases h
    · split at h
      · cases hw : wd n ((c :: t).dropWhile bareB) with
        | none => rw [hw] at h; cases h
        | some m =>
          rw [hw] at h
          simp only [Option.map_some, Option.some.injEq] at h
          subst h
          have tl := tw_len bareB (c :: t)
          intro w hm
          rcases List.mem_cons.1 hm with rfl | hm
          · omega
          · have := wd_mem n _ m hw w hm
            omega
      · cases h
theorem wordsB_mem (x : List UInt8) : ∀ w, w ∈ (wordsB x).1 → w.length ≤ 4096 := by
  unfold wordsB
  split
  · intro w hw; cases hw
  · cases h : wd (x.length + 1) x with
    | none => intro w hw; simp [wres] at hw
    | some l =>
      intro w hw
      simp only [wres, List.nil_append] at hw
      have := wd_mem _ _ _ h w hw
      omega
theorem parse_f {x : List UInt8} {k : Nat} (hl : (wordsB x).1.length ≤ 4096) (hk : 2 * x.length + 5000 < k) : text_ParseAct.f k x = some (l0res (parseB x)) := by
  unfold text_ParseAct.f parseB
  rw [words_f (by omega), Option.bind_some]
  by_cases h : (wordsB x).2 = 0
  · rw [if_pos h, if_pos h, linesP, Option.bind_some]
    have := act_l0 (ws := (wordsB x).1) (e := (wordsB x).2) (by omega) (fun w hw => by have := wordsB_mem x w hw; omega) k 0 (by have := rows_len; omega) (by omega)
    exact this
  · rw [if_neg h, if_neg h]; rfl
end Go.Proofs.YtbcnegennmpliaaDoor

namespace Go.Proofs.YtbcnegennmpliaaDoor
set_option linter.unusedVariables false
set_option linter.unusedSimpArgs false
open Go.RowKit
def isT (l : UInt8) : Bool := decide (l = 107) || decide (l = 118) || decide (l = 111)
def numOf (l : UInt8) (a : ActT) : Int := if l = 78 then a.2.1 else if l = 67 then a.2.2.1 else if l = 109 then a.2.2.2.2.1 else a.2.2.2.1
def txtOf (l : UInt8) (a : ActT) : List UInt8 := if l = 107 then a.2.2.2.2.2.2.1 else if l = 118 then a.2.2.2.2.2.2.2.1 else a.2.2.2.2.2.2.2.2
def fieldW (l : UInt8) (a : ActT) : List UInt8 :=
  if isT l then quoteB (txtOf l a)
  else if l = 112 then (if 1 ≤ a.2.2.2.1 ∧ a.2.2.2.1 ≤ 9 then picksL.getD (a.2.2.2.1 - 1).toNat [] else [63])
  else Lib.itoa (numOf l a)
def zeroF (l : UInt8) (a : ActT) : ActT :=
  if l = 107 then (a.1, a.2.1, a.2.2.1, a.2.2.2.1, a.2.2.2.2.1, a.2.2.2.2.2.1, [], a.2.2.2.2.2.2.2.1, a.2.2.2.2.2.2.2.2)
  else if l = 118 then (a.1, a.2.1, a.2.2.1, a.2.2.2.1, a.2.2.2.2.1, a.2.2.2.2.2.1, a.2.2.2.2.2.2.1, [], a.2.2.2.2.2.2.2.2)
  else if l = 111 then (a.1, a.2.1, a.2.2.1, a.2.2.2.1, a.2.2.2.2.1, a.2.2.2.2.2.1, a.2.2.2.2.2.2.1, a.2.2.2.2.2.2.2.1, [])
  else if l = 78 then (a.1, 0, a.2.2.1, a.2.2.2.1, a.2.2.2.2.1, a.2.2.2.2.2.1, a.2.2.2.2.2.2.1, a.2.2.2.2.2.2.2.1, a.2.2.2.2.2.2.2.2)
  else if l = 67 then (a.1, a.2.1, 0, a.2.2.2.1, a.2.2.2.2.1, a.2.2.2.2.2.1, a.2.2.2.2.2.2.1, a.2.2.2.2.2.2.2.1, a.2.2.2.2.2.2.2.2)
  else if l = 109 then (a.1, a.2.1, a.2.2.1, a.2.2.2.1, 0, a.2.2.2.2.2.1, a.2.2.2.2.2.2.1, a.2.2.2.2.2.2.2.1, a.2.2.2.2.2.2.2.2)
  else (a.1, a.2.1, a.2.2.1, 0, a.2.2.2.2.1, a.2.2.2.2.2.1, a.2.2.2.2.2.2.1, a.2.2.2.2.2.2.2.1, a.2.2.2.2.2.2.2.2)
def zeroAll (ls : List UInt8) (a : ActT) : ActT := ls.foldl (fun b l => zeroF l b) a
def farB (n : Int) : Bool := decide ((4611686018427387904 : Int) < n) || decide (n < (-4611686018427387904))
def fmtP (a : ActT) : List UInt8 → Int → List UInt8 → Int × List UInt8
  | [], e, out => (e, out)
  | l :: ls, e, out => if (!isT l && farB (numOf l a)) = true then fmtP a ls 1 out else fmtP a ls e (out ++ ([32] ++ fieldW l a))
theorem within_f (n : Int) : text_within.f n = some (!farB n) := by
  unfold text_within.f farB
  congr 1
  by_cases h1 : (4611686018427387904 : Int) < n
  · rw [decide_eq_true h1, decide_eq_false (show ¬ n ≤ 4611686018427387904 by omega)]; simp
  · rw [decide_eq_false h1, decide_eq_true (show n ≤ 4611686018427387904 by omega)]
    by_cases h2 : n < -4611686018427387904
    · rw [decide_eq_true h2, decide_eq_false (show ¬ -4611686018427387904 ≤ n by omega)]; rfl
    · rw [decide_eq_false h2, decide_eq_true (show -4611686018427387904 ≤ n by omega)]; rfl
structure ActOk (a : ActT) : Prop where
  num : ∀ l, -9223372036854775808 ≤ numOf l a ∧ numOf l a ≤ 9223372036854775807
  txt : ∀ l, (txtOf l a).length ≤ 20000
theorem picks_len (i : Nat) : (picksL.getD i []).length ≤ 6 := by
  rcases Nat.lt_or_ge i 9 with h | h
  · have : ((List.range 9).all fun i => decide ((picksL.getD i []).length ≤ 6)) = true := by decide +kernel
    simpa using List.all_eq_true.1 this i (List.mem_range.2 h)
  · rw [List.getD_eq_getElem?_getD, List.getElem?_eq_none (by simpa using h)]; simp
theorem itoa_len {n : Int} (h0 : -9223372036854775808 ≤ n) (h1 : n ≤ 9223372036854775807) : (Lib.itoa n).length ≤ 21 := by
  by_cases hn : n < 0
  · rw [itoa_neg' hn]; have := dec_len 19 n.natAbs (by omega); simp; omega
  · rw [itoa_pos (by omega)]; have := dec_len 19 n.toNat (by omega); omega
theorem field_len {a : ActT} (ok : ActOk a) (l : UInt8) : (fieldW l a).length ≤ 80002 := by
  unfold fieldW
  split
  · have := quote_len (txtOf l a); have := ok.txt l; omega
  · split
    · split
      · have := picks_len (a.2.2.2.1 - 1).toNat; omega
      · simp
    · have := itoa_len (ok.num l).1 (ok.num l).2; omega
abbrev NamT : Type := List UInt8 × Int × Int × Int × Int × Int × Int × List UInt8 × List UInt8 × List UInt8 × List Ty103 × Int
theorem lets_cases {l : UInt8} (hl : l ∈ lets) : l = 78 ∨ l = 67 ∨ l = 110 ∨ l = 109 ∨ l = 112 ∨ l = 107 ∨ l = 118 ∨ l = 111 := by
  simpa only [List.mem_cons, List.not_mem_nil, or_false] using hl
theorem fmt_l1 {s : NamT} {of : List UInt8} (hs : s.2.2.2.2.2.2.2.2.2.2.1 = of.map fld) {a : ActT} (ok : ActOk a) (hlt : ∀ l, l ∈ of → l ∈ lets) (h112 : 112 ∈ of → 1 ≤ a.2.2.2.1 ∧ a.2.2.2.1 ≤ 9) :
    ∀ (ls pre : List UInt8) (k : Nat) (e : Int) (out : List UInt8), of = pre ++ ls → ls.length + 20010 < k → of.length ≤ 5 → out.length + 90000 * ls.length ≤ 2 ^ 50 →
      text_FormatAct.l1 a.1 a.2.1 a.2.2.1 a.2.2.2.1 a.2.2.2.2.1 a.2.2.2.2.2.1 a.2.2.2.2.2.2.1 a.2.2.2.2.2.2.2.1 a.2.2.2.2.2.2.2.2 s k e out (pre.length : Int) = some (fmtP a ls e out)
  | _, _, 0, _, _, _, h, _, _ => by omega
  | [], pre, k + 1, e, out, hp, _, _, _ => by
    rw [text_FormatAct.l1, hs, if_neg (by rw [hp]; simp)]
    rfl
  | l :: ls, pre, k + 1, e, out, hp, hk, ho, hlen => by
    have hll : l ∈ lets := hlt l (by rw [hp]; simp)
    have hpl : pre.length < (pre ++ l :: ls).length := by simp
    have hol : of.length = (pre ++ l :: ls).length := by rw [hp]
    have ef : ∀ d, (of.map fld).getD pre.length d = fld l := fun d => by rw [hp]; simp
    rw [text_FormatAct.l1, hs]
    simp only [Int.toNat_natCast, List.length_map, ef]
    rw [if_pos (by omega), if_pos (by omega), wi1 (by omega)]
    have hfl := field_len ok l
    simp only [List.length_cons] at hk hlen
    have ih := fun e' out' (h : out'.length + 90000 * ls.length ≤ 2 ^ 50) => fmt_l1 hs ok hlt h112 ls (pre ++ [l]) k e' out' (by rw [hp]; simp) (by omega) ho h
    simp only [List.length_append, List.length_cons, List.length_nil, Nat.zero_add] at ih
    have nm := ok.num l
    rw [fmtP]
    have key : ∀ (n : Int), numOf l a = n → isT l = false → l ≠ 112 → (if farB n = true then text_FormatAct.l1 a.1 a.2.1 a.2.2.1 a.2.2.2.1 a.2.2.2.2.1 a.2.2.2.2.2.1 a.2.2.2.2.2.2.1 a.2.2.2.2.2.2.2.1 a.2.2.2.2.2.2.2.2 s k 1 out ((pre.length + 1 : Nat) : Int)
        else (strconv_Itoa.f n).bind fun w => (if ([32] : List UInt8).length + w.length ≤ 9223372036854775807 then (if out.length + (([32] : List UInt8) ++ w).length ≤ 9223372036854775807 then (text_FormatAct.l1 a.1 a.2.1 a.2.2.1 a.2.2.2.1 a.2.2.2.2.1 a.2.2.2.2.2.1 a.2.2.2.2.2.2.1 a.2.2.2.2.2.2.2.1 a.2.2.2.2.2.2.2.2 s k e (out ++ (([32] : List UInt8) ++ w)) ((pre.length + 1 : Nat) : Int)) else none) else none)) =
        some (if (!isT l && farB (numOf l a)) = true then fmtP a ls 1 out else fmtP a ls e (out ++ ([32] ++ fieldW l a))) := by
      intro n hn ht h112'
      subst hn
      rw [ht]
      by_cases hf : farB (numOf l a) = true
      · rw [if_pos hf, if_pos (by simp [hf]), ih 1 out (by omega)]
      · have ew : fieldW l a = Lib.itoa (numOf l a) := by unfold fieldW; rw [ht, if_neg Bool.false_ne_true, if_neg h112']
        rw [if_neg hf, if_neg (by simp [hf]), strconv_Itoa.f, if_pos nm, Option.bind_some, ← ew, if_pos (by simp only [List.length_cons, List.length_nil]; omega), if_pos (by simp only [List.length_append, List.length_cons, List.length_nil]; omega), ih _ _ (by simp only [List.length_append, List.length_cons, List.length_nil]; omega)]
    have keyT : ∀ (t : List UInt8), txtOf l a = t → isT l = true → ((text_Quote.f k t).bind fun w => (if ([32] : List UInt8).length + w.length ≤ 9223372036854775807 then (if out.length + (([32] : List UInt8) ++ w).length ≤ 9223372036854775807 then (text_FormatAct.l1 a.1 a.2.1 a.2.2.1 a.2.2.2.1 a.2.2.2.2.1 a.2.2.2.2.2.1 a.2.2.2.2.2.2.1 a.2.2.2.2.2.2.2.1 a.2.2.2.2.2.2.2.2 s k e (out ++ (([32] : List UInt8) ++ w)) ((pre.length + 1 : Nat) : Int)) else none) else none)) =
        some (if (!isT l && farB (numOf l a)) = true then fmtP a ls 1 out else fmtP a ls e (out ++ ([32] ++ fieldW l a))) := by
      intro t ht hT
      subst ht
      have tl := ok.txt l
      have ew : fieldW l a = quoteB (txtOf l a) := by unfold fieldW; rw [hT, if_pos rfl]
      rw [quote_f (by omega) (by omega), Option.bind_some, ← ew, if_pos (by simp only [List.length_cons, List.length_nil]; omega), if_pos (by simp only [List.length_append, List.length_cons, List.length_nil]; omega), ih _ _ (by simp only [List.length_append, List.length_cons, List.length_nil]; omega), hT, if_neg (by simp)]
    rcases lets_cases hll with rfl | rfl | rfl | rfl | rfl | rfl | rfl | rfl
    · have := key a.2.1 rfl rfl (by decide)
      rw [← this]
      simp only [fld, text_lines_1.f, within_f, Option.bind_some, if_true, Bool.not_not]
      simp
    · have := key a.2.2.1 rfl rfl (by decide)
      rw [← this]
      simp [fld, text_lines_2.f, within_f]
    · have := key a.2.2.2.1 rfl rfl (by decide)
      rw [← this]
      simp [fld, text_lines_3.f, within_f]
    · have := key a.2.2.2.2.1 rfl rfl (by decide)
      rw [← this]
      simp [fld, text_lines_4.f, within_f]
    · have h9 := h112 (by rw [hp]; simp)
      have hfar : farB a.2.2.2.1 = false := by unfold farB; rw [decide_eq_false (by omega), decide_eq_false (by omega)]; rfl
      have ew : fieldW 112 a = picksL.getD (a.2.2.2.1 - 1).toNat [] := by unfold fieldW; rw [show isT 112 = false from rfl, if_neg Bool.false_ne_true, if_pos rfl, if_pos h9]
      have e112 : numOf 112 a = a.2.2.2.1 := rfl
      have e5 : (!isT 112 && farB (numOf 112 a)) = false := by rw [e112, hfar]; rfl
      rw [e5, if_neg Bool.false_ne_true]
      have hpk : picksL.length = 9 := rfl
      simp only [show (fld 112).1 = some 69 from rfl, show (fld 112).2.1 = none from rfl, show (fld 112).2.2 = true from rfl, text_lines_5.f, within_f, hfar, Option.bind_some, picksP]
      rw [w64 (by omega) (by omega)]
      simp only [← ew, hpk]
      simp
      refine ⟨by omega, by omega, by omega, ?_⟩
      have := ih e (out ++ ([32] ++ fieldW 112 a)) (by simp only [List.length_append, List.length_cons, List.length_nil]; omega)
      simpa using this
    · have := keyT a.2.2.2.2.2.2.1 rfl rfl
      rw [← this]
      simp [fld, text_lines_6.f]
    · have := keyT a.2.2.2.2.2.2.2.1 rfl rfl
      rw [← this]
      simp [fld, text_lines_7.f]
    · have := keyT a.2.2.2.2.2.2.2.2 rfl rfl
      rw [← this]
      simp [fld, text_lines_8.f]
end Go.Proofs.YtbcnegennmpliaaDoor

namespace Go.Proofs.YtbcnegennmpliaaDoor
set_option linter.unusedVariables false
set_option linter.unusedSimpArgs false
open Go.RowKit
theorem fmt_l0 {s : NamT} {of : List UInt8} (hs : s.2.2.2.2.2.2.2.2.2.2.1 = of.map fld) (op : Int) (hlt : ∀ l, l ∈ of → l ∈ lets) (ho : of.length ≤ 5) :
    ∀ (ls pre : List UInt8) (k : Nat) (b : ActT), of = pre ++ ls → ls.length < k →
      text_FormatAct.l0 op s k (pre.length : Int) b.2.1 b.2.2.1 b.2.2.2.1 b.2.2.2.2.1 b.2.2.2.2.2.2.1 b.2.2.2.2.2.2.2.1 b.2.2.2.2.2.2.2.2 =
        some ((zeroAll ls b).2.1, (zeroAll ls b).2.2.1, (zeroAll ls b).2.2.2.1, (zeroAll ls b).2.2.2.2.1, (zeroAll ls b).2.2.2.2.2.2.1, (zeroAll ls b).2.2.2.2.2.2.2.1, (zeroAll ls b).2.2.2.2.2.2.2.2)
  | _, _, 0, _, _, h => by omega
  | [], pre, k + 1, b, hp, _ => by
    rw [text_FormatAct.l0, hs, if_neg (by rw [hp]; simp)]
    rfl
  | l :: ls, pre, k + 1, b, hp, hk => by
    have hll : l ∈ lets := hlt l (by rw [hp]; simp)
    have hpl : pre.length < (pre ++ l :: ls).length := by simp
    have hol : of.length = (pre ++ l :: ls).length := by rw [hp]
    have ef : ∀ d, (of.map fld).getD pre.length d = fld l := fun d => by rw [hp]; simp
    rw [text_FormatAct.l0, hs]
    simp only [Int.toNat_natCast, List.length_map, ef]
    rw [if_pos (by omega), if_pos (by omega), wi1 (by omega)]
    simp only [List.length_cons] at hk
    have ih := fmt_l0 hs op hlt ho ls (pre ++ [l]) k (zeroF l b) (by rw [hp]; simp) (by omega)
    simp only [List.length_append, List.length_cons, List.length_nil, Nat.zero_add] at ih
    have ez : zeroAll (l :: ls) b = zeroAll ls (zeroF l b) := rfl
    rw [ez, ← ih]
    rcases lets_cases hll with rfl | rfl | rfl | rfl | rfl | rfl | rfl | rfl
    · simp [fld, zeroF, text_lines_1.f]
    · simp [fld, zeroF, text_lines_2.f]
    · simp [fld, zeroF, text_lines_3.f]
    · simp [fld, zeroF, text_lines_4.f]
    · simp [fld, zeroF, text_lines_5.f]
    · simp [fld, zeroF, text_lines_6.f]
    · simp [fld, zeroF, text_lines_7.f]
    · simp [fld, zeroF, text_lines_8.f]
theorem zeroAll_eq : ∀ (ls : List UInt8) (b : ActT), (∀ l, l ∈ ls → l ∈ lets) → zeroAll ls b =
    (b.1, if 78 ∈ ls then 0 else b.2.1, if 67 ∈ ls then 0 else b.2.2.1, if 110 ∈ ls ∨ 112 ∈ ls then 0 else b.2.2.2.1, if 109 ∈ ls then 0 else b.2.2.2.2.1, b.2.2.2.2.2.1, if 107 ∈ ls then [] else b.2.2.2.2.2.2.1, if 118 ∈ ls then [] else b.2.2.2.2.2.2.2.1, if 111 ∈ ls then [] else b.2.2.2.2.2.2.2.2)
  | [], b, _ => by simp [zeroAll]
  | l :: ls, b, hlt => by
    have ih := zeroAll_eq ls (zeroF l b) (fun m hm => hlt m (by simp [hm]))
    rw [show zeroAll (l :: ls) b = zeroAll ls (zeroF l b) from rfl, ih]
    rcases lets_cases (hlt l (by simp)) with rfl | rfl | rfl | rfl | rfl | rfl | rfl | rfl <;> simp [zeroF]
end Go.Proofs.YtbcnegennmpliaaDoor

namespace Go.Proofs.YtbcnegennmpliaaDoor
set_option linter.unusedVariables false
set_option linter.unusedSimpArgs false
open Go.RowKit
def selP (kind m op : Int) : List RowT → Int → RowT ⊕ Int
  | [], e => .inr e
  | r :: rs, e =>
    if r.2.1 = kind then (if kind = 13 ∧ r.2.2.2.2 ≠ op then selP kind m op rs 20 else if kind = 8 ∧ r.2.2.2.1 ≠ min (max m 0) 1 then selP kind m op rs e else .inl r)
    else selP kind m op rs e
def selD (kind m op : Int) : List RowT → RowT → RowT
  | [], c => c
  | r :: rs, c => selD kind m op rs (if r.2.1 = kind ∧ (kind = 13 → r.2.2.2.2 = op) ∧ (kind = 8 → r.2.2.2.1 = m ∨ c.1 = []) then r else c)
def nam (t : Ty99) (e : Int) : NamT := (t.1, t.2.1, t.2.2.1, t.2.2.2.1, t.2.2.2.2.1, t.2.2.2.2.2.1, t.2.2.2.2.2.2.1, t.2.2.2.2.2.2.2.1, t.2.2.2.2.2.2.2.2.1, t.2.2.2.2.2.2.2.2.2.1, t.2.2.2.2.2.2.2.2.2.2, e)
def named0 (e : Int) : NamT := ([], 0, 0, 0, 0, 0, 0, [], [], [], [], e)
def selRes (r : RowT ⊕ Int) : NamT := match r with
  | .inl r => nam (toLine r) 0
  | .inr e => named0 e
theorem named_l0 (kind m op : Int) : ∀ (k i : Nat) (e : Int), rowsL.length - i < k → i ≤ rowsL.length →
    orR (text_named.l0 kind m op (rowsL.map toLine) k e (i : Int)) (fun e' => some (named0 e')) = some (selRes (selP kind m op (rowsL.drop i) e))
  | 0, i, e, h, _ => by omega
  | k + 1, i, e, hk, hi => by
    rw [text_named.l0, List.length_map]
    by_cases hlt : i < rowsL.length
    · have hr := getD_consR hlt
      rw [if_pos (by omega), if_pos (by omega), hr, wi1 (by have := rows_len; omega)]
      simp only [Int.toNat_natCast, getD_map_at hlt]
      obtain ⟨r, hrr⟩ : ∃ r, rowsL.getD i dz109 = r := ⟨_, rfl⟩
      simp only [hrr] at hr ⊢
      have ih := fun e' => named_l0 kind m op k (i + 1) e' (by omega) (by omega)
      rw [selP]
      by_cases h1 : r.2.1 = kind
      · rw [if_pos (show (toLine r).2.1 = kind from h1), if_pos h1]
        by_cases h2 : kind = 13 ∧ r.2.2.2.2 ≠ op
        · rw [if_pos (by simp [h2.1]; exact h2.2), if_pos h2, ih]
        · rw [if_neg (by simp; intro a; exact Decidable.byContradiction fun b => h2 ⟨a, b⟩), if_neg h2]
          by_cases h3 : kind = 8 ∧ r.2.2.2.1 ≠ min (max m 0) 1
          · rw [if_pos (by simp [h3.1]; exact h3.2), if_pos h3, ih]
          · rw [if_neg (by simp; intro a; exact Decidable.byContradiction fun b => h3 ⟨a, b⟩), if_neg h3]
            rfl
      · rw [if_neg (show ¬ (toLine r).2.1 = kind from h1), if_neg h1, ih]
    · rw [if_neg (by omega), List.drop_of_length_le (by omega)]
      rfl
theorem named_f (a : ActT) {k : Nat} (hk : 20 < k) : text_named.f k a.1 a.2.1 a.2.2.1 a.2.2.2.1 a.2.2.2.2.1 a.2.2.2.2.2.1 a.2.2.2.2.2.2.1 a.2.2.2.2.2.2.2.1 a.2.2.2.2.2.2.2.2 = some (selRes (selP a.1 a.2.2.2.2.1 a.2.2.2.2.2.1 rowsL 6)) := by
  unfold text_named.f
  rw [linesP, Option.bind_some]
  exact named_l0 a.1 a.2.2.2.2.1 a.2.2.2.2.2.1 k 0 6 (by have := rows_len; omega) (by omega)
structure Sel (kind m op : Int) (r r' : RowT) : Prop where
  mem : r ∈ rowsL
  of : r'.2.2.1 = r.2.2.1
  mem' : r' ∈ rowsL
  k : r.2.1 = kind
  eq : r' = r ∨ (kind = 8 ∧ m < 0)
  op13 : kind = 13 → r.2.2.2.2 = op
  opn : kind ≠ 13 → r.2.2.2.2 = 0
  m8 : kind = 8 → r.2.2.2.1 = min (max m 0) 1 ∧ 109 ∉ r.2.2.1
  p : 112 ∈ r.2.2.1 → kind = 2
theorem sel_at (kind m op : Int) (i : Nat) (hi : i < rowsL.length) (h8 : kind ≠ 8) (h1 : selP kind m op rowsL 6 = .inl (rowsL.getD i dz109)) (h2 : selD kind m op rowsL dz109 = rowsL.getD i dz109)
    (hk : (rowsL.getD i dz109).2.1 = kind) (h13 : kind = 13 → (rowsL.getD i dz109).2.2.2.2 = op) (hn : kind ≠ 13 → (rowsL.getD i dz109).2.2.2.2 = 0) (hp : 112 ∈ (rowsL.getD i dz109).2.2.1 → kind = 2) :
    ∃ r, selP kind m op rowsL 6 = .inl r ∧ Sel kind m op r (selD kind m op rowsL dz109) := by
  have hm : rowsL.getD i dz109 ∈ rowsL := by rw [getD_at hi]; exact List.getElem_mem hi
  refine ⟨_, h1, ?_⟩
  rw [h2]
  exact ⟨hm, rfl, hm, hk, .inl rfl, h13, hn, fun h => absurd h h8, hp⟩
theorem selP_skip (kind m op : Int) : ∀ (pre rs : List RowT) (e : Int), (∀ r, r ∈ pre → r.2.1 ≠ kind) → selP kind m op (pre ++ rs) e = selP kind m op rs e
  | [], rs, e, _ => rfl
  | r :: pre, rs, e, h => by
    rw [List.cons_append, selP, if_neg (h r (by simp))]
    exact selP_skip kind m op pre rs e fun x hx => h x (by simp [hx])
theorem selD_skip (kind m op : Int) : ∀ (pre rs : List RowT) (c : RowT), (∀ r, r ∈ pre → r.2.1 ≠ kind) → selD kind m op (pre ++ rs) c = selD kind m op rs c
  | [], rs, c, _ => rfl
  | r :: pre, rs, c, h => by
    rw [List.cons_append, selD, if_neg (fun x => h r (by simp) x.1)]
    exact selD_skip kind m op pre rs c fun x hx => h x (by simp [hx])
theorem sel_ok (kind m op : Int) (h : 1 ≤ kind ∧ kind ≤ 16) (h13 : kind = 13 → 1 ≤ op ∧ op ≤ 4) : ∃ r, selP kind m op rowsL 6 = .inl r ∧ Sel kind m op r (selD kind m op rowsL dz109) := by
  have hl := rows_len
  have hc : kind = 1 ∨ kind = 2 ∨ kind = 3 ∨ kind = 4 ∨ kind = 5 ∨ kind = 6 ∨ kind = 7 ∨ kind = 8 ∨ kind = 9 ∨ kind = 10 ∨ kind = 11 ∨ kind = 12 ∨ kind = 13 ∨ kind = 14 ∨ kind = 15 ∨ kind = 16 := by omega
  rcases hc with rfl | rfl | rfl | rfl | rfl | rfl | rfl | rfl | rfl | rfl | rfl | rfl | rfl | rfl | rfl | rfl
  · exact sel_at 1 m op 0 (by omega) (by decide) (by kernel_rfl) (by kernel_rfl) (by decide +kernel) (fun h => absurd h (by decide)) (fun _ => by decide +kernel) (by decide +kernel)
  · exact sel_at 2 m op 1 (by omega) (by decide) (by kernel_rfl) (by kernel_rfl) (by decide +kernel) (fun h => absurd h (by decide)) (fun _ => by decide +kernel) (by decide +kernel)
  · exact sel_at 3 m op 2 (by omega) (by decide) (by kernel_rfl) (by kernel_rfl) (by decide +kernel) (fun h => absurd h (by decide)) (fun _ => by decide +kernel) (by decide +kernel)
  · exact sel_at 4 m op 3 (by omega) (by decide) (by kernel_rfl) (by kernel_rfl) (by decide +kernel) (fun h => absurd h (by decide)) (fun _ => by decide +kernel) (by decide +kernel)
  · exact sel_at 5 m op 4 (by omega) (by decide) (by kernel_rfl) (by kernel_rfl) (by decide +kernel) (fun h => absurd h (by decide)) (fun _ => by decide +kernel) (by decide +kernel)
  · exact sel_at 6 m op 5 (by omega) (by decide) (by kernel_rfl) (by kernel_rfl) (by decide +kernel) (fun h => absurd h (by decide)) (fun _ => by decide +kernel) (by decide +kernel)
  · exact sel_at 7 m op 6 (by omega) (by decide) (by kernel_rfl) (by kernel_rfl) (by decide +kernel) (fun h => absurd h (by decide)) (fun _ => by decide +kernel) (by decide +kernel)
  · obtain ⟨lk, hlk⟩ : ∃ r, rowsL.getD 7 dz109 = r := ⟨_, rfl⟩
    obtain ⟨ct, hct⟩ : ∃ r, rowsL.getD 8 dz109 = r := ⟨_, rfl⟩
    have e : rowsL = rowsL.take 7 ++ (lk :: ct :: rowsL.drop 9) := by rw [← hlk, ← hct]; kernel_rfl
    have f1 : ∀ r, r ∈ rowsL.take 7 → r.2.1 ≠ 8 := by decide +kernel
    have f2 : ∀ r, r ∈ rowsL.drop 9 → r.2.1 ≠ 8 := by decide +kernel
    have g1 : lk.2.1 = 8 ∧ lk.2.2.2.1 = 1 ∧ lk.2.2.2.2 = 0 ∧ lk.1 ≠ [] ∧ lk.2.2.1 = [78, 110] := by rw [← hlk]; decide +kernel
    have g2 : ct.2.1 = 8 ∧ ct.2.2.2.1 = 0 ∧ ct.2.2.2.2 = 0 ∧ ct.1 ≠ [] ∧ ct.2.2.1 = [78, 110] := by rw [← hct]; decide +kernel
    have m1 : lk ∈ rowsL := by rw [e]; simp
    have m2 : ct ∈ rowsL := by rw [e]; simp
    have eP : selP 8 m op rowsL 6 = if (1 : Int) = min (max m 0) 1 then .inl lk else .inl ct := by
      rw [e, selP_skip 8 m op _ _ _ f1, selP, if_pos g1.1, if_neg (fun h => absurd h.1 (by decide)), g1.2.1]
      by_cases hm : (1 : Int) = min (max m 0) 1
      · rw [if_neg (fun h => h.2 hm), if_pos hm]
      · rw [if_pos ⟨rfl, hm⟩, if_neg hm, selP, if_pos g2.1, if_neg (fun h => absurd h.1 (by decide)), g2.2.1, if_neg (fun h => h.2 (by omega))]
    have eD : selD 8 m op rowsL dz109 = if (0 : Int) = m then ct else lk := by
      rw [e, selD_skip 8 m op _ _ _ f1, selD, if_pos ⟨g1.1, fun h => absurd h (by decide), fun _ => .inr rfl⟩, selD]
      have : rowsL.drop 9 = rowsL.drop 9 ++ [] := by simp
      by_cases hm : (0 : Int) = m
      · rw [if_pos ⟨g2.1, fun h => absurd h (by decide), fun _ => .inl (by rw [g2.2.1]; exact hm)⟩, if_pos hm, this, selD_skip 8 m op _ _ _ f2]; rfl
      · rw [if_neg (fun h => (h.2.2 rfl).elim (fun x => hm (by rw [← g2.2.1]; exact x)) g1.2.2.2.1), if_neg hm, this, selD_skip 8 m op _ _ _ f2]; rfl
    rw [eP, eD]
    by_cases hm1 : (1 : Int) = min (max m 0) 1
    · rw [if_pos hm1, if_neg (by omega)]
      exact ⟨lk, rfl, m1, rfl, m1, g1.1, .inl rfl, fun h => absurd h (by decide), fun _ => g1.2.2.1, fun _ => ⟨g1.2.1.trans hm1, by rw [g1.2.2.2.2]; decide⟩, by rw [g1.2.2.2.2]; decide⟩
    · rw [if_neg hm1]
      by_cases hm0 : (0 : Int) = m
      · rw [if_pos hm0]
        exact ⟨ct, rfl, m2, rfl, m2, g2.1, .inl rfl, fun h => absurd h (by decide), fun _ => g2.2.2.1, fun _ => ⟨by rw [g2.2.1]; omega, by rw [g2.2.2.2.2]; decide⟩, by rw [g2.2.2.2.2]; decide⟩
      · rw [if_neg hm0]
        exact ⟨ct, rfl, m2, by rw [g1.2.2.2.2, g2.2.2.2.2], m1, g2.1, .inr ⟨rfl, by omega⟩, fun h => absurd h (by decide), fun _ => g2.2.2.1, fun _ => ⟨by rw [g2.2.1]; omega, by rw [g2.2.2.2.2]; decide⟩, by rw [g2.2.2.2.2]; decide⟩
  · exact sel_at 9 m op 9 (by omega) (by decide) (by kernel_rfl) (by kernel_rfl) (by decide +kernel) (fun h => absurd h (by decide)) (fun _ => by decide +kernel) (by decide +kernel)
  · exact sel_at 10 m op 10 (by omega) (by decide) (by kernel_rfl) (by kernel_rfl) (by decide +kernel) (fun h => absurd h (by decide)) (fun _ => by decide +kernel) (by decide +kernel)
  · exact sel_at 11 m op 12 (by omega) (by decide) (by kernel_rfl) (by kernel_rfl) (by decide +kernel) (fun h => absurd h (by decide)) (fun _ => by decide +kernel) (by decide +kernel)
  · exact sel_at 12 m op 11 (by omega) (by decide) (by kernel_rfl) (by kernel_rfl) (by decide +kernel) (fun h => absurd h (by decide)) (fun _ => by decide +kernel) (by decide +kernel)
  · have ho := h13 rfl
    have hc2 : op = 1 ∨ op = 2 ∨ op = 3 ∨ op = 4 := by omega
    rcases hc2 with rfl | rfl | rfl | rfl
    · exact sel_at 13 m 1 13 (by omega) (by decide) (by kernel_rfl) (by kernel_rfl) (by decide +kernel) (fun _ => by decide +kernel) (fun h => absurd rfl h) (by decide +kernel)
    · exact sel_at 13 m 2 15 (by omega) (by decide) (by kernel_rfl) (by kernel_rfl) (by decide +kernel) (fun _ => by decide +kernel) (fun h => absurd rfl h) (by decide +kernel)
    · exact sel_at 13 m 3 14 (by omega) (by decide) (by kernel_rfl) (by kernel_rfl) (by decide +kernel) (fun _ => by decide +kernel) (fun h => absurd rfl h) (by decide +kernel)
    · exact sel_at 13 m 4 16 (by omega) (by decide) (by kernel_rfl) (by kernel_rfl) (by decide +kernel) (fun _ => by decide +kernel) (fun h => absurd rfl h) (by decide +kernel)
  · exact sel_at 14 m op 17 (by omega) (by decide) (by kernel_rfl) (by kernel_rfl) (by decide +kernel) (fun h => absurd h (by decide)) (fun _ => by decide +kernel) (by decide +kernel)
  · exact sel_at 15 m op 18 (by omega) (by decide) (by kernel_rfl) (by kernel_rfl) (by decide +kernel) (fun h => absurd h (by decide)) (fun _ => by decide +kernel) (by decide +kernel)
  · exact sel_at 16 m op 19 (by omega) (by decide) (by kernel_rfl) (by kernel_rfl) (by decide +kernel) (fun h => absurd h (by decide)) (fun _ => by decide +kernel) (by decide +kernel)
theorem sel_no (kind m op : Int) (h : kind < 1 ∨ 16 < kind) : selP kind m op rowsL 6 = .inr 6 := by
  have f : ∀ r, r ∈ rowsL → 1 ≤ r.2.1 ∧ r.2.1 ≤ 16 := by decide +kernel
  have := selP_skip kind m op rowsL [] 6 fun r hr => by have := f r hr; omega
  rw [List.append_nil] at this
  exact this
theorem selP_13 (m op : Int) : ∀ (rs : List RowT) (e : Int), (∀ r, r ∈ rs → r.2.1 = 13 → r.2.2.2.2 ≠ op) → selP 13 m op rs e = .inr (if rs.any (fun r => decide (r.2.1 = 13)) then 20 else e)
  | [], e, _ => rfl
  | r :: rs, e, h => by
    rw [selP]
    by_cases h1 : r.2.1 = 13
    · rw [if_pos h1, if_pos ⟨rfl, h r (by simp) h1⟩, selP_13 m op rs 20 fun x hx => h x (by simp [hx])]
      simp [h1]
    · rw [if_neg h1, selP_13 m op rs e fun x hx => h x (by simp [hx])]
      simp only [List.any_cons, decide_eq_false h1, Bool.false_or]
theorem sel_no13 (m op : Int) (h : op < 1 ∨ 4 < op) : selP 13 m op rowsL 6 = .inr 20 := by
  have f : ∀ r, r ∈ rowsL → r.2.1 = 13 → 1 ≤ r.2.2.2.2 ∧ r.2.2.2.2 ≤ 4 := by decide +kernel
  have g : (rowsL.any fun r => decide (r.2.1 = 13)) = true := by decide +kernel
  rw [selP_13 m op rowsL 6 fun r hr h1 => by have := f r hr h1; omega, g]; rfl
end Go.Proofs.YtbcnegennmpliaaDoor

namespace Go.Proofs.YtbcnegennmpliaaDoor
set_option linter.unusedVariables false
set_option linter.unusedSimpArgs false
open Go.RowKit
def zB (r : RowT) (a : ActT) : Prop :=
  (zeroAll r.2.2.1 a).2.1 = 0 ∧ (zeroAll r.2.2.1 a).2.2.1 = 0 ∧ (zeroAll r.2.2.1 a).2.2.2.1 = 0 ∧ (if a.1 = 8 then 0 else (zeroAll r.2.2.1 a).2.2.2.2.1) = 0 ∧ a.2.2.2.2.2.1 = r.2.2.2.2 ∧
    (zeroAll r.2.2.1 a).2.2.2.2.2.2.1 = [] ∧ (zeroAll r.2.2.1 a).2.2.2.2.2.2.2.1 = [] ∧ (zeroAll r.2.2.1 a).2.2.2.2.2.2.2.2 = []
instance (r : RowT) (a : ActT) : Decidable (zB r a) := by unfold zB; infer_instance
def anyFar (r : RowT) (a : ActT) : Bool := r.2.2.1.any fun l => !isT l && farB (numOf l a)
def lineW (r : RowT) (a : ActT) : List UInt8 := r.1 ++ r.2.2.1.flatMap fun l => 32 :: fieldW l a
def fmtR (r : RowT) (a : ActT) : List UInt8 × Int :=
  if zB r a then
    if a.1 = 2 ∧ (a.2.2.2.1 < 1 ∨ 9 < a.2.2.2.1) then ([], 20)
    else if (a.1 = 8 ∧ a.2.2.2.2.1 ≠ r.2.2.2.1) ∨ anyFar r a = true then ([], 1)
    else if 4096 < (lineW r a).length then ([], 3) else (lineW r a, 0)
  else ([], 4)
def fmtB (a : ActT) : List UInt8 × Int := match selP a.1 a.2.2.2.2.1 a.2.2.2.2.2.1 rowsL 6 with
  | .inr e => ([], e)
  | .inl r => fmtR r a
theorem fmtP_eq (a : ActT) : ∀ (ls : List UInt8) (e : Int) (out : List UInt8), (fmtP a ls e out).1 = (if (ls.any fun l => !isT l && farB (numOf l a)) = true then 1 else e) ∧
    ((ls.any fun l => !isT l && farB (numOf l a)) = false → (fmtP a ls e out).2 = out ++ ls.flatMap fun l => 32 :: fieldW l a)
  | [], e, out => by simp [fmtP]
  | l :: ls, e, out => by
    rw [fmtP, List.any_cons]
    by_cases h : (!isT l && farB (numOf l a)) = true
    · rw [if_pos h, h]
      refine ⟨?_, fun x => (by simp at x)⟩
      rw [(fmtP_eq a ls 1 out).1]
      simp
    · have h' : (!isT l && farB (numOf l a)) = false := by simpa using h
      rw [if_neg h, h', Bool.false_or]
      refine ⟨(fmtP_eq a ls e _).1, fun x => ?_⟩
      rw [(fmtP_eq a ls e _).2 x]
      simp
theorem selP_kind {kind m op : Int} : ∀ {rs : List RowT} {e : Int} {r : RowT}, selP kind m op rs e = .inl r → r ∈ rs ∧ r.2.1 = kind
  | [], e, r, h => by cases h
  | q :: rs, e, r, h => by
    rw [selP] at h
    split at h
    · split at h
      · exact ⟨List.mem_cons_of_mem _ (selP_kind h).1, (selP_kind h).2⟩
      · split at h
        · exact ⟨List.mem_cons_of_mem _ (selP_kind h).1, (selP_kind h).2⟩
        · cases h
          rename_i h1 _ _
          exact ⟨by simp, h1⟩
    · exact ⟨List.mem_cons_of_mem _ (selP_kind h).1, (selP_kind h).2⟩
theorem wrap0 {x y : Int} (h0 : -9223372036854775808 ≤ x) (h1 : x ≤ 9223372036854775807) (h2 : 0 ≤ y) (h3 : y ≤ 4) : IntKind.i64.wrap (x - y) = 0 ↔ x = y := by
  rw [IntKind.wrap_i64]; omega
theorem rows_op : ∀ r, r ∈ rowsL → 0 ≤ r.2.2.2.2 ∧ r.2.2.2.2 ≤ 4 := by decide +kernel
theorem rows_pick : ∀ r, r ∈ rowsL → 112 ∈ r.2.2.1 → r.2.1 = 2 := by decide +kernel
theorem rows_word : ∀ r, r ∈ rowsL → r.1.length ≤ 10 := by decide +kernel
theorem format_f {a : ActT} (ok : ActOk a) (hop : -9223372036854775808 ≤ a.2.2.2.2.2.1 ∧ a.2.2.2.2.2.1 ≤ 9223372036854775807) {k : Nat} (hk : 21000 < k) :
    text_FormatAct.f k a.1 a.2.1 a.2.2.1 a.2.2.2.1 a.2.2.2.2.1 a.2.2.2.2.2.1 a.2.2.2.2.2.2.1 a.2.2.2.2.2.2.2.1 a.2.2.2.2.2.2.2.2 = some (fmtB a) := by
  unfold text_FormatAct.f fmtB
  rw [named_f a (by omega), Option.bind_some]
  cases hs : selP a.1 a.2.2.2.2.1 a.2.2.2.2.2.1 rowsL 6 with
  | inr e =>
    have hne : e ≠ 0 := by
      intro h0
      subst h0
      by_cases hk1 : a.1 < 1 ∨ 16 < a.1
      · rw [sel_no _ _ _ hk1] at hs; cases hs
      · by_cases h13 : a.1 = 13 ∧ (a.2.2.2.2.2.1 < 1 ∨ 4 < a.2.2.2.2.2.1)
        · rw [h13.1, sel_no13 _ _ h13.2] at hs; cases hs
        · obtain ⟨r, hr, _⟩ := sel_ok a.1 a.2.2.2.2.1 a.2.2.2.2.2.1 (by omega) (fun h => by have := fun x => h13 ⟨h, x⟩; omega)
          rw [hr] at hs; cases hs
    simp only [selRes, named0]
    rw [if_neg hne]
  | inl r =>
    obtain ⟨hm, hkd⟩ := selP_kind hs
    have hlt := rows_lets r hm
    have ho := rows_of_len r hm
    have hro := rows_op r hm
    have hrw := rows_word r hm
    obtain ⟨s, hsn⟩ : ∃ s, selRes (.inl r) = s := ⟨_, rfl⟩
    have e1 : s.2.2.2.2.2.2.2.2.2.2.1 = r.2.2.1.map fld := by rw [← hsn]; rfl
    have e2 : s.2.2.2.2.2.2.2.2.2.2.2 = 0 := by rw [← hsn]; rfl
    have e3 : s.2.2.2.2.2.2.1 = r.2.2.2.2 := by rw [← hsn]; rfl
    have e4 : s.2.2.2.2.2.1 = r.2.2.2.1 := by rw [← hsn]; rfl
    have e5 : s.1 = r.1 := by rw [← hsn]; rfl
    rw [hsn, e2, if_pos rfl, e3, e4, e5]
    have em : (if a.1 = (8 : Int) then (some (0 : Int)) else (some a.2.2.2.2.1)) = some (if a.1 = 8 then 0 else a.2.2.2.2.1) := by split <;> rfl
    rw [em, Option.bind_some]
    have l0 := fmt_l0 e1 a.2.2.2.2.2.1 hlt ho r.2.2.1 [] k (0, a.2.1, a.2.2.1, a.2.2.2.1, (if a.1 = 8 then 0 else a.2.2.2.2.1), 0, a.2.2.2.2.2.2.1, a.2.2.2.2.2.2.2.1, a.2.2.2.2.2.2.2.2) rfl (by omega)
    rw [show (([] : List UInt8).length : Int) = (0 : Int) from rfl] at l0
    simp only [] at l0
    have za := zeroAll_eq r.2.2.1 a hlt
    have zb := zeroAll_eq r.2.2.1 (0, a.2.1, a.2.2.1, a.2.2.2.1, (if a.1 = 8 then 0 else a.2.2.2.2.1), 0, a.2.2.2.2.2.2.1, a.2.2.2.2.2.2.2.1, a.2.2.2.2.2.2.2.2) hlt
    obtain ⟨z, hzd⟩ : ∃ z, zeroAll r.2.2.1 (0, a.2.1, a.2.2.1, a.2.2.2.1, (if a.1 = 8 then 0 else a.2.2.2.2.1), 0, a.2.2.2.2.2.2.1, a.2.2.2.2.2.2.2.1, a.2.2.2.2.2.2.2.2) = z := ⟨_, rfl⟩
    rw [hzd] at l0 zb
    rw [l0, Option.bind_some]
    have hz : (decide ((0 : Int) = (0 : Int)) && (decide (z.2.1 = (0 : Int)) && (decide (z.2.2.1 = (0 : Int)) && (decide (z.2.2.2.1 = (0 : Int)) && (decide (z.2.2.2.2.1 = (0 : Int)) && (decide (IntKind.i64.wrap (a.2.2.2.2.2.1 - r.2.2.2.2) = (0 : Int)) && (decide (z.2.2.2.2.2.2.1 = ([] : List UInt8)) && (decide (z.2.2.2.2.2.2.2.1 = ([] : List UInt8)) && (decide (z.2.2.2.2.2.2.2.2 = ([] : List UInt8))))))))))) = decide (zB r a) := by
      rw [Bool.eq_iff_iff]
      simp only [Bool.and_eq_true, decide_eq_true_eq, true_and]
      unfold zB
      rw [za, zb, wrap0 hop.1 hop.2 hro.1 hro.2]
      by_cases h8 : a.1 = 8
      · simp only [if_pos h8, ite_self, true_and]
      · simp only [if_neg h8]
    rw [hz]
    show _ = some (fmtR r a)
    unfold fmtR
    by_cases hzz : zB r a
    · rw [if_neg (by simp [hzz]), if_pos hzz]
      have ep : (if a.1 = (2 : Int) then (some ((decide (a.2.2.2.1 < (1 : Int))) || (decide ((9 : Int) < a.2.2.2.1)))) else (some false)) = some (decide (a.1 = 2 ∧ (a.2.2.2.1 < 1 ∨ 9 < a.2.2.2.1))) := by
        by_cases h2 : a.1 = 2
        · rw [if_pos h2]; simp [h2]
        · rw [if_neg h2]; simp [h2]
      rw [ep, Option.bind_some]
      by_cases h2 : a.1 = 2 ∧ (a.2.2.2.1 < 1 ∨ 9 < a.2.2.2.1)
      · rw [if_pos (decide_eq_true h2), if_pos h2]
      · rw [if_neg (by simpa using h2), if_neg h2]
        have e8 : (if ((decide (a.1 = (8 : Int))) && (!decide (a.2.2.2.2.1 = r.2.2.2.1))) = true then (some (1 : Int)) else (some (0 : Int))) = some (if a.1 = 8 ∧ a.2.2.2.2.1 ≠ r.2.2.2.1 then 1 else 0) := by
          by_cases h8 : a.1 = 8 ∧ a.2.2.2.2.1 ≠ r.2.2.2.1
          · rw [if_pos (by simp [h8.1]; exact h8.2), if_pos h8]
          · rw [if_neg (by simp; intro x; exact Decidable.byContradiction fun y => h8 ⟨x, y⟩), if_neg h8]
        rw [e8, Option.bind_some]
        have l1 := fun e => fmt_l1 e1 ok hlt (fun h => by have := rows_pick r hm h; omega) r.2.2.1 [] k e r.1 rfl (by omega) ho (by omega)
        rw [show (([] : List UInt8).length : Int) = (0 : Int) from rfl] at l1
        rw [l1, Option.bind_some]
        have pe := fmtP_eq a r.2.2.1 (if a.1 = 8 ∧ a.2.2.2.2.1 ≠ r.2.2.2.1 then 1 else 0) r.1
        rw [show (r.2.2.1.any fun l => !isT l && farB (numOf l a)) = anyFar r a from rfl] at pe
        obtain ⟨w, hw⟩ : ∃ w, fmtP a r.2.2.1 (if a.1 = 8 ∧ a.2.2.2.2.1 ≠ r.2.2.2.1 then 1 else 0) r.1 = w := ⟨_, rfl⟩
        rw [hw] at pe ⊢
        by_cases hf : (a.1 = 8 ∧ a.2.2.2.2.1 ≠ r.2.2.2.1) ∨ anyFar r a = true
        · rw [if_pos hf]
          have hw1 : w.1 = 1 := by
            rw [pe.1]
            by_cases hx : anyFar r a = true
            · rw [if_pos hx]
            · rw [if_neg hx, if_pos (hf.resolve_right hx)]
          rw [hw1]
          rfl
        · rw [if_neg hf]
          have hx : ¬ anyFar r a = true := fun x => hf (.inr x)
          have h8 : ¬ (a.1 = 8 ∧ a.2.2.2.2.1 ≠ r.2.2.2.1) := fun x => hf (.inl x)
          have hw1 : w.1 = 0 := by rw [pe.1, if_neg hx, if_neg h8]
          have hw2 : w.2 = lineW r a := pe.2 (by simpa using hx)
          rw [hw1, hw2]
          by_cases hl : 4096 < (lineW r a).length
          · rw [if_pos (by simp; omega), if_pos hl]; rfl
          · rw [if_neg (by simp; omega), if_neg hl]; rfl
    · rw [if_pos (by simp [hzz]), if_neg hzz]
end Go.Proofs.YtbcnegennmpliaaDoor

namespace Go.Proofs.YtbcnegennmpliaaDoor
set_option linter.unusedVariables false
set_option linter.unusedSimpArgs false
open Go.RowKit
theorem first_eq (m : Nat) : synodlaw17_first.f (m + 60) = some true := by kernel_rfl
theorem wd_len : ∀ (n : Nat) (x : List UInt8) (l : List (List UInt8)), wd n x = some l → l.length ≤ x.length
  | n, [], l, h => by rw [wd_nil] at h; cases h; simp
  | 0, c :: t, l, h => by simp [wd] at h
  | n + 1, c :: t, l, h => by
    rw [wd] at h
    split at h
    · have := wd_len n t l h; simp; omega
    split at h
    · cases hq : qd t with
      | none => rw [hq] at h; cases h
      | some p =>
        obtain ⟨a, r⟩ := p
        rw [hq, Option.bind_some] at h
        obtain ⟨q, eq, _⟩ := qd_suf _ _ a r (Nat.le_refl _) hq
        have hlen := congrArg List.length eq
        simp only [List.length_append] at hlen
        split at h
        · cases hw : wd n r with
          | none => rw [hw] at h; cases h
          | some m =>
            rw [hw] at h
            simp only [Option.map_some, Option.some.injEq] at h
            subst h
            have := wd_len n r m hw
            simp; omega
        · cases h
    · split at h
      · rename_i he
        cases hw : wd n ((c :: t).dropWhile bareB) with
        | none => rw [hw] at h; cases h
        | some m =>
          rw [hw] at h
          simp only [Option.map_some, Option.some.injEq] at h
          subst h
          have := wd_len n _ m hw
          have tl := tw_len bareB (c :: t)
          have : 0 < ((c :: t).takeWhile bareB).length := by
            rw [List.takeWhile_cons]
            cases hb : bareB c with
            | true => simp
            | false =>
              rw [List.dropWhile_cons, hb] at he
              rename_i h32 _
              simp [endB, h32] at he
          simp only [List.length_cons] at *
          omega
      · cases h
theorem wordsB_len (x : List UInt8) : (wordsB x).1.length ≤ 4096 := by
  unfold wordsB
  split
  · simp
  · cases h : wd (x.length + 1) x with
    | none => simp [wres]
    | some l =>
      have := wd_len _ _ _ h
      simp [wres]; omega
end Go.Proofs.YtbcnegennmpliaaDoor

namespace Go.Proofs.YtbcnegennmpliaaDoor
set_option linter.unusedVariables false
set_option linter.unusedSimpArgs false
open Go.RowKit
theorem esc_dig (c : UInt8) : escB (hexs.getD (c.toNat / 16) 0) (hexs.getD (c.toNat % 16) 0) = if plainB c then none else some c := by
  have := u8_all (p := fun c => decide (escB (hexs.getD (c.toNat / 16) 0) (hexs.getD (c.toNat % 16) 0) = if plainB c then none else some c)) (by decide +kernel) c
  simpa using this
theorem qd_enc1 (c : UInt8) (t : List UInt8) : qd (encC c ++ t) = (qd t).map fun p => (c :: p.1, p.2) := by
  unfold encC
  by_cases h : c.toNat = 34 ∨ c.toNat = 92
  · rw [if_pos h]
    simp only [List.cons_append, List.nil_append]
    rw [qd_cons, if_neg (by decide), if_neg (by decide), if_neg (by decide)]
    simp only []
    rw [if_pos h]
  · rw [if_neg h]
    cases hp : plainB c with
    | true =>
      simp only [if_true, List.cons_append, List.nil_append]
      rw [qd_cons, if_neg (fun e => h (.inl e)), if_neg (by simp [hp]), if_pos (fun e => h (.inr e))]
    | false =>
      simp only [Bool.false_eq_true, if_false, List.cons_append, List.nil_append]
      rw [qd_cons, if_neg (by decide), if_neg (by decide), if_neg (by decide)]
      simp only []
      rw [if_neg (by decide), if_pos (by decide), esc_dig, hp]
      rfl
theorem qd_enc : ∀ (s t : List UInt8), qd (s.flatMap encC ++ 34 :: t) = some (s, t)
  | [], t => by
    rw [List.flatMap_nil, List.nil_append, qd_cons, if_pos (by decide)]
  | c :: s, t => by
    rw [List.flatMap_cons, List.append_assoc, qd_enc1, qd_enc s t]
    rfl
theorem bare_ne {c : UInt8} (h : bareB c = true) : c.toNat ≠ 32 ∧ c.toNat ≠ 34 := by
  simp only [bareB, Bool.and_eq_true, Bool.not_eq_true', decide_eq_false_iff_not] at h
  exact ⟨h.1.2, h.2⟩
theorem tw_all {p : UInt8 → Bool} : ∀ {s t : List UInt8}, s.all p = true → (∀ c r, t = c :: r → p c = false) → (s ++ t).takeWhile p = s ∧ (s ++ t).dropWhile p = t
  | [], [], _, _ => ⟨rfl, rfl⟩
  | [], c :: r, _, h => by
    have := h c r rfl
    simp [this]
  | c :: s, t, hs, ht => by
    rw [List.all_cons, Bool.and_eq_true] at hs
    have ih := tw_all (p := p) hs.2 ht
    rw [List.cons_append, List.takeWhile_cons, List.dropWhile_cons, hs.1]
    simp [ih.1, ih.2]
theorem wd_quote (s r : List UInt8) (hr : endB r = true) (n : Nat) : wd (n + 1) (quoteB s ++ r) = (wd n r).map fun l => s :: l := by
  unfold quoteB
  by_cases hb : bareW s = true
  · rw [if_pos hb]
    unfold bareW at hb
    rw [Bool.and_eq_true] at hb
    cases s with
    | nil => exact absurd hb.1 (by decide)
    | cons c t =>
      have hc : bareB c = true := by have := hb.2; rw [List.all_cons, Bool.and_eq_true] at this; exact this.1
      have hne := bare_ne hc
      have hrr : ∀ d q, r = d :: q → bareB d = false := fun d q e => by
        subst e
        simp only [endB, decide_eq_true_eq] at hr
        have : d = 32 := UInt8.toNat_inj.1 hr
        subst this
        decide
      have tw := tw_all (p := bareB) hb.2 hrr
      rw [List.cons_append] at tw ⊢
      rw [wd, if_neg hne.1, if_neg hne.2, tw.1, tw.2, if_pos hr]
  · rw [if_neg hb, List.cons_append, wd, if_neg (by decide), if_pos (by decide), List.append_assoc]
    show (qd (s.flatMap encC ++ (34 :: r))).bind _ = _
    rw [qd_enc]
    simp [hr]
theorem wd_blank (n : Nat) (t : List UInt8) : wd (n + 1) (32 :: t) = wd n t := by rw [wd, if_pos (by decide)]
theorem wd_more : ∀ (n m : Nat) (x : List UInt8), x.length < n → x.length < m → wd n x = wd m x
  | 0, _, x, h, _ => by omega
  | _, 0, x, _, h => by omega
  | n + 1, m + 1, [], _, _ => by rw [wd_nil, wd_nil]
  | n + 1, m + 1, c :: t, h1, h2 => by
    simp only [List.length_cons] at h1 h2
    rw [wd, wd]
    by_cases h32 : c.toNat = 32
    · rw [if_pos h32, if_pos h32, wd_more n m t (by omega) (by omega)]
    · rw [if_neg h32, if_neg h32]
      by_cases h34 : c.toNat = 34
      · rw [if_pos h34, if_pos h34]
        cases hq : qd t with
        | none => rfl
        | some p =>
          obtain ⟨a, r⟩ := p
          obtain ⟨q, eq, _⟩ := qd_suf _ _ a r (Nat.le_refl _) hq
          have hlen := congrArg List.length eq
          simp only [List.length_append] at hlen
          simp only [Option.bind_some]
          rw [wd_more n m r (by omega) (by omega)]
      · rw [if_neg h34, if_neg h34]
        have tl := tw_len bareB (c :: t)
        simp only [List.length_cons] at tl
        by_cases he : endB ((c :: t).dropWhile bareB) = true
        · have hpos : 0 < ((c :: t).takeWhile bareB).length := by
            rw [List.takeWhile_cons]
            cases hb : bareB c with
            | true => simp
            | false =>
              rw [List.dropWhile_cons, hb] at he
              simp [endB, h32] at he
          rw [if_pos he, if_pos he, wd_more n m _ (by omega) (by omega)]
        · rw [if_neg he, if_neg he]
theorem quote_pos (s : List UInt8) : 0 < (quoteB s).length := by
  unfold quoteB
  split
  · rename_i hb
    cases s with
    | nil => exact absurd hb (by decide)
    | cons => simp
  · simp
theorem endB_line (l : List (List UInt8)) : endB (l.flatMap fun s => 32 :: quoteB s) = true := by
  cases l with
  | nil => rfl
  | cons s l => rfl
theorem wd_line : ∀ (l : List (List UInt8)) (n : Nat), (l.flatMap fun s => 32 :: quoteB s).length < n → wd n (l.flatMap fun s => 32 :: quoteB s) = some l
  | [], n, _ => wd_nil n
  | s :: l, 0, h => by omega
  | s :: l, n + 1, h => by
    have := quote_pos s
    rw [List.flatMap_cons] at h ⊢
    simp only [List.cons_append, List.length_cons, List.length_append] at h
    rw [List.cons_append, wd_blank, wd_more n ((quoteB s ++ l.flatMap fun s => 32 :: quoteB s).length + 1) _ (by rw [List.length_append]; omega) (by omega), wd_quote _ _ (endB_line l), wd_line l _ (by rw [List.length_append]; omega)]
    rfl
def joinQ : List (List UInt8) → List UInt8
  | [] => []
  | s :: l => quoteB s ++ l.flatMap fun s => 32 :: quoteB s
theorem wd_join (l : List (List UInt8)) (n : Nat) (h : (joinQ l).length < n) : wd n (joinQ l) = some l := by
  cases l with
  | nil => exact wd_nil n
  | cons s l =>
    cases n with
    | zero => omega
    | succ n =>
      have := quote_pos s
      simp only [joinQ, List.length_append] at h
      rw [joinQ, wd_quote _ _ (endB_line l), wd_line l n (by omega)]
      rfl
theorem words_join (l : List (List UInt8)) (h : (joinQ l).length ≤ 4096) : wordsB (joinQ l) = (l, 0) := by
  unfold wordsB
  rw [if_neg (by omega), wd_join l _ (by omega)]
  rfl
end Go.Proofs.YtbcnegennmpliaaDoor

namespace Go.Proofs.YtbcnegennmpliaaDoor
set_option linter.unusedVariables false
set_option linter.unusedSimpArgs false
open Go.RowKit
def rawW (l : UInt8) (a : ActT) : List UInt8 := if isT l then txtOf l a else fieldW l a
theorem quote_bare {s : List UInt8} (h : bareW s = true) : quoteB s = s := by unfold quoteB; rw [if_pos h]
theorem bare_dg {c : UInt8} (h : dg c) : bareB c = true := by
  have := u8_all (p := fun c => !(decide (48 ≤ c.toNat) && decide (c.toNat ≤ 57)) || bareB c) (by decide +kernel) c
  simp only [decide_eq_true h.1, decide_eq_true h.2, Bool.and_self, Bool.not_true, Bool.false_or] at this
  exact this
theorem bare_dec (u : Nat) : headB (Lib.decDigits u) = true ∧ (Lib.decDigits u).all bareB = true := by
  obtain ⟨s1, s2, s3, s4⟩ := dec_spec u
  constructor
  · cases hd : Lib.decDigits u with
    | nil => exact absurd hd s3
    | cons c t =>
      have := (dec_head hd).1
      simp only [headB, Bool.not_eq_true', decide_eq_false_iff_not]
      omega
  · exact List.all_eq_true.2 fun c hc => bare_dg (s1 c hc)
theorem bare_itoa (n : Int) : bareW (Lib.itoa n) = true := by
  unfold bareW
  by_cases hn : n < 0
  · have e : bareB 45 = true := by decide
    rw [itoa_neg' hn, List.all_cons, (bare_dec _).2, e]
    rfl
  · rw [itoa_pos (by omega), (bare_dec _).1, (bare_dec _).2]; rfl
theorem bare_pick {i : Nat} (h : i < 9) : bareW (picksL.getD i []) = true := by
  have : ((List.range 9).all fun i => bareW (picksL.getD i [])) = true := by decide +kernel
  exact List.all_eq_true.1 this i (List.mem_range.2 h)
theorem bare_rows : ∀ r, r ∈ rowsL → bareW r.1 = true := by
  have : (rowsL.all fun r => bareW r.1) = true := by decide +kernel
  exact fun r hr => List.all_eq_true.1 this r hr
theorem field_raw {l : UInt8} {a : ActT} (hp : l = 112 → 1 ≤ a.2.2.2.1 ∧ a.2.2.2.1 ≤ 9) : fieldW l a = quoteB (rawW l a) := by
  unfold rawW
  by_cases ht : isT l = true
  · rw [if_pos ht]; unfold fieldW; rw [if_pos ht]
  · rw [if_neg ht]
    unfold fieldW
    rw [if_neg ht]
    by_cases h : l = 112
    · have := hp h
      rw [if_pos h, if_pos this, quote_bare (bare_pick (by omega))]
    · rw [if_neg h, quote_bare (bare_itoa _)]
theorem line_join {r : RowT} (hr : r ∈ rowsL) {a : ActT} (hp : 112 ∈ r.2.2.1 → 1 ≤ a.2.2.2.1 ∧ a.2.2.2.1 ≤ 9) : lineW r a = joinQ (r.1 :: r.2.2.1.map fun l => rawW l a) := by
  unfold lineW
  rw [joinQ, quote_bare (bare_rows r hr), List.flatMap_map]
  congr 1
  rw [List.flatMap_def, List.flatMap_def]
  congr 1
  exact List.map_congr_left fun l hl => by rw [field_raw (fun e => hp (e ▸ hl))]
theorem rows_uniq : ∀ r, r ∈ rowsL → ∀ q, q ∈ rowsL → q.1 = r.1 → q = r := by
  have : (rowsL.all fun r => rowsL.all fun q => decide (q.1 = r.1 → q = r)) = true := by decide +kernel
  intro r hr q hq
  exact of_decide_eq_true (List.all_eq_true.1 (List.all_eq_true.1 this r hr) q hq)
def rowRes (r : RowT) (ws : List (List UInt8)) : ActT × Int :=
  if ws.length ≠ r.2.2.1.length then (act0, 21)
  else match fillAll r.2.2.1 (actOf r) ws with
    | .inl a => (a, 0)
    | .inr c => (act0, c)
theorem parseR_at {r : RowT} (ws : List (List UInt8)) : ∀ rs : List RowT, r ∈ rs → (∀ q, q ∈ rs → q.1 = r.1 → q = r) → parseR rs (r.1 :: ws) = rowRes r ws
  | [], h, _ => by cases h
  | q :: rs, h, hu => by
    rw [parseR]
    by_cases hq : q.1 = r.1
    · obtain rfl := hu q (by simp) hq
      rw [if_neg (by simp)]
      unfold rowRes
      simp only [List.length_cons, List.drop_succ_cons, List.drop_zero]
      by_cases hl : ws.length = q.2.2.1.length
      · rw [if_neg (by omega), if_neg (by omega)] <;> rfl
      · rw [if_pos (by omega), if_pos (by omega)]
    · have hr : r ∈ rs := by
        rcases List.mem_cons.1 h with rfl | h
        · exact absurd rfl hq
        · exact h
      rw [if_pos (.inr (by simpa using hq))]
      exact parseR_at ws rs hr fun q hq => hu q (by simp [hq])
def setF (l : UInt8) (b a : ActT) : ActT :=
  if l = 107 then (b.1, b.2.1, b.2.2.1, b.2.2.2.1, b.2.2.2.2.1, b.2.2.2.2.2.1, a.2.2.2.2.2.2.1, b.2.2.2.2.2.2.2.1, b.2.2.2.2.2.2.2.2)
  else if l = 118 then (b.1, b.2.1, b.2.2.1, b.2.2.2.1, b.2.2.2.2.1, b.2.2.2.2.2.1, b.2.2.2.2.2.2.1, a.2.2.2.2.2.2.2.1, b.2.2.2.2.2.2.2.2)
  else if l = 111 then (b.1, b.2.1, b.2.2.1, b.2.2.2.1, b.2.2.2.2.1, b.2.2.2.2.2.1, b.2.2.2.2.2.2.1, b.2.2.2.2.2.2.2.1, a.2.2.2.2.2.2.2.2)
  else if l = 78 then (b.1, a.2.1, b.2.2.1, b.2.2.2.1, b.2.2.2.2.1, b.2.2.2.2.2.1, b.2.2.2.2.2.2.1, b.2.2.2.2.2.2.2.1, b.2.2.2.2.2.2.2.2)
  else if l = 67 then (b.1, b.2.1, a.2.2.1, b.2.2.2.1, b.2.2.2.2.1, b.2.2.2.2.2.1, b.2.2.2.2.2.2.1, b.2.2.2.2.2.2.2.1, b.2.2.2.2.2.2.2.2)
  else if l = 109 then (b.1, b.2.1, b.2.2.1, b.2.2.2.1, a.2.2.2.2.1, b.2.2.2.2.2.1, b.2.2.2.2.2.2.1, b.2.2.2.2.2.2.2.1, b.2.2.2.2.2.2.2.2)
  else (b.1, b.2.1, b.2.2.1, a.2.2.2.1, b.2.2.2.2.1, b.2.2.2.2.2.1, b.2.2.2.2.2.2.1, b.2.2.2.2.2.2.2.1, b.2.2.2.2.2.2.2.2)
theorem pick_back {n : Int} (h : 1 ≤ n ∧ n ≤ 9) : pickN picksL (picksL.getD (n - 1).toNat []) 0 = some n.toNat := by
  have : ((List.range 9).all fun i => decide (pickN picksL (picksL.getD i []) 0 = some (i + 1))) = true := by decide +kernel
  have := of_decide_eq_true (List.all_eq_true.1 this (n - 1).toNat (List.mem_range.2 (by omega)))
  rw [this]
  congr 1
  omega
theorem far_iff {n : Int} (h : farB n = false) : -4611686018427387904 ≤ n ∧ n ≤ 4611686018427387904 := by
  unfold farB at h
  rw [Bool.or_eq_false_iff, decide_eq_false_iff_not, decide_eq_false_iff_not] at h
  omega
theorem num_back {n : Int} (h : farB n = false) : numM (Lib.itoa n) = some n := by
  have := far_iff h
  have hl := itoa_len (n := n) (by omega) (by omega)
  exact (numM_iff (by omega) n).2 ⟨rfl, this.1, this.2⟩
theorem fill_back {l : UInt8} (hl : l ∈ lets) {a : ActT} (b : ActT) (hp : l = 112 → 1 ≤ a.2.2.2.1 ∧ a.2.2.2.1 ≤ 9) (hf : isT l = false → farB (numOf l a) = false) : fillM l b (rawW l a) = .inl (setF l b a) := by
  rcases lets_cases hl with rfl | rfl | rfl | rfl | rfl | rfl | rfl | rfl
  · have := num_back (hf rfl)
    unfold fillM
    rw [show rawW 78 a = Lib.itoa (numOf 78 a) from rfl, this]
    rfl
  · have := num_back (hf rfl)
    unfold fillM
    rw [show rawW 67 a = Lib.itoa (numOf 67 a) from rfl, this]
    rfl
  · have := num_back (hf rfl)
    unfold fillM
    rw [show rawW 110 a = Lib.itoa (numOf 110 a) from rfl, this]
    rfl
  · have := num_back (hf rfl)
    unfold fillM
    rw [show rawW 109 a = Lib.itoa (numOf 109 a) from rfl, this]
    rfl
  · have h9 := hp rfl
    have e : rawW 112 a = picksL.getD (a.2.2.2.1 - 1).toNat [] := by
      unfold rawW fieldW
      rw [show isT 112 = false from rfl, if_neg Bool.false_ne_true, if_neg Bool.false_ne_true, if_pos rfl, if_pos h9]
    unfold fillM
    rw [e, pick_back h9]
    rw [if_neg (by decide), if_neg (by decide), if_neg (by decide), if_pos rfl]
    show Sum.inl _ = _
    unfold setF
    rw [if_neg (by decide), if_neg (by decide), if_neg (by decide), if_neg (by decide), if_neg (by decide), if_neg (by decide), show ((a.2.2.2.1.toNat : Nat) : Int) = a.2.2.2.1 by omega]
  · rfl
  · rfl
  · rfl
def setAll (ls : List UInt8) (b a : ActT) : ActT := ls.foldl (fun b l => setF l b a) b
theorem fillAll_back {a : ActT} : ∀ (ls : List UInt8) (b : ActT), (∀ l, l ∈ ls → l ∈ lets) → (112 ∈ ls → 1 ≤ a.2.2.2.1 ∧ a.2.2.2.1 ≤ 9) → (∀ l, l ∈ ls → isT l = false → farB (numOf l a) = false) →
    fillAll ls b (ls.map fun l => rawW l a) = .inl (setAll ls b a)
  | [], b, _, _, _ => rfl
  | l :: ls, b, hlt, hp, hf => by
    rw [List.map_cons, fillAll, fill_back (hlt l (by simp)) b (fun e => hp (by simp [e])) (hf l (by simp))]
    exact fillAll_back ls (setF l b a) (fun m hm => hlt m (by simp [hm])) (fun h => hp (by simp [h])) (fun m hm => hf m (by simp [hm]))
theorem setAll_eq {a : ActT} : ∀ (ls : List UInt8) (b : ActT), (∀ l, l ∈ ls → l ∈ lets) → setAll ls b a =
    (b.1, if 78 ∈ ls then a.2.1 else b.2.1, if 67 ∈ ls then a.2.2.1 else b.2.2.1, if 110 ∈ ls ∨ 112 ∈ ls then a.2.2.2.1 else b.2.2.2.1, if 109 ∈ ls then a.2.2.2.2.1 else b.2.2.2.2.1, b.2.2.2.2.2.1, if 107 ∈ ls then a.2.2.2.2.2.2.1 else b.2.2.2.2.2.2.1, if 118 ∈ ls then a.2.2.2.2.2.2.2.1 else b.2.2.2.2.2.2.2.1, if 111 ∈ ls then a.2.2.2.2.2.2.2.2 else b.2.2.2.2.2.2.2.2)
  | [], b, _ => by simp [setAll]
  | l :: ls, b, hlt => by
    have ih := setAll_eq (a := a) ls (setF l b a) (fun m hm => hlt m (by simp [hm]))
    rw [show setAll (l :: ls) b a = setAll ls (setF l b a) a from rfl, ih]
    rcases lets_cases (hlt l (by simp)) with rfl | rfl | rfl | rfl | rfl | rfl | rfl | rfl <;> simp [setF]
theorem rows_m : ∀ r, r ∈ rowsL → (r.2.1 ≠ 8 → r.2.2.2.1 = 0) ∧ (r.2.1 = 8 → 109 ∉ r.2.2.1) := by
  have : (rowsL.all fun r => decide ((r.2.1 ≠ 8 → r.2.2.2.1 = 0) ∧ (r.2.1 = 8 → 109 ∉ r.2.2.1))) = true := by decide +kernel
  exact fun r hr => of_decide_eq_true (List.all_eq_true.1 this r hr)
theorem there_back {a : ActT} {s : List UInt8} (h : fmtB a = (s, 0)) : parseB s = (a, 0) := by
  unfold fmtB at h
  cases hs : selP a.1 a.2.2.2.2.1 a.2.2.2.2.2.1 rowsL 6 with
  | inr e =>
    rw [hs] at h
    simp only [Prod.mk.injEq] at h
    obtain ⟨_, h0⟩ := h
    subst h0
    by_cases hk1 : a.1 < 1 ∨ 16 < a.1
    · rw [sel_no _ _ _ hk1] at hs; cases hs
    · by_cases h13 : a.1 = 13 ∧ (a.2.2.2.2.2.1 < 1 ∨ 4 < a.2.2.2.2.2.1)
      · rw [h13.1, sel_no13 _ _ h13.2] at hs; cases hs
      · obtain ⟨r, hr, _⟩ := sel_ok a.1 a.2.2.2.2.1 a.2.2.2.2.2.1 (by omega) (fun h => by have := fun x => h13 ⟨h, x⟩; omega)
        rw [hr] at hs; cases hs
  | inl r =>
    rw [hs] at h
    simp only [fmtR] at h
    obtain ⟨hm, hkd⟩ := selP_kind hs
    have hlt := rows_lets r hm
    have hrm := rows_m r hm
    split at h
    case isFalse => cases (Prod.mk.inj h).2
    rename_i hz
    split at h
    case isTrue => cases (Prod.mk.inj h).2
    rename_i h2
    split at h
    case isTrue => cases (Prod.mk.inj h).2
    rename_i hf
    split at h
    case isTrue => cases (Prod.mk.inj h).2
    rename_i hl
    obtain ⟨rfl, _⟩ := Prod.mk.inj h
    have hp : 112 ∈ r.2.2.1 → 1 ≤ a.2.2.2.1 ∧ a.2.2.2.1 ≤ 9 := fun h112 => by have := rows_pick r hm h112; omega
    have hnf : ∀ l, l ∈ r.2.2.1 → isT l = false → farB (numOf l a) = false := fun l hl ht => by
      cases hq : farB (numOf l a) with
      | false => rfl
      | true => exact absurd (.inr (List.any_eq_true.2 ⟨l, hl, by rw [ht, hq]; rfl⟩)) hf
    have hj := line_join hm hp
    unfold parseB
    rw [hj] at hl ⊢
    rw [words_join _ (by omega)]
    simp only [if_true]
    rw [parseR_at _ rowsL hm (rows_uniq r hm)]
    unfold rowRes
    rw [if_neg (by simp), fillAll_back r.2.2.1 (actOf r) hlt hp hnf]
    show (setAll r.2.2.1 (actOf r) a, (0 : Int)) = (a, 0)
    congr 1
    obtain ⟨q1, q2, q3, q4, q5, q6, q7, q8⟩ := hz
    rw [zeroAll_eq r.2.2.1 a hlt] at q1 q2 q3 q4 q6 q7 q8
    rw [setAll_eq r.2.2.1 (actOf r) hlt]
    have i1 : ∀ (p : Prop) [Decidable p] (x : Int), (if p then 0 else x) = 0 → (if p then x else 0) = x := fun p _ x h => by
      by_cases hp : p
      · rw [if_pos hp]
      · rw [if_neg hp] at h ⊢; exact h.symm
    have i2 : ∀ (p : Prop) [Decidable p] (x : List UInt8), (if p then [] else x) = [] → (if p then x else []) = x := fun p _ x h => by
      by_cases hp : p
      · rw [if_pos hp]
      · rw [if_neg hp] at h ⊢; exact h.symm
    have hM : (if 109 ∈ r.2.2.1 then a.2.2.2.2.1 else r.2.2.2.1) = a.2.2.2.2.1 := by
      by_cases h8 : a.1 = 8
      · have h109 : 109 ∉ r.2.2.1 := hrm.2 (hkd.trans h8)
        rw [if_neg h109]
        exact Decidable.byContradiction fun e => hf (.inl ⟨h8, fun x => e x.symm⟩)
      · rw [hrm.1 (fun e => h8 (hkd.symm.trans e))]
        simp only [if_neg h8] at q4
        exact i1 _ _ q4
    simp only [actOf]
    rw [i1 _ _ q1, i1 _ _ q2, i1 _ _ q3, hM, ← q5, i2 _ _ q6, i2 _ _ q7, i2 _ _ q8, hkd]
end Go.Proofs.YtbcnegennmpliaaDoor

namespace Go.Proofs.YtbcnegennmpliaaDoor
set_option linter.unusedVariables false
set_option linter.unusedSimpArgs false
open Go.RowKit
theorem i64_of {x : Int} (h : okI .i64 x) : -9223372036854775808 ≤ x ∧ x ≤ 9223372036854775807 := by
  have e1 : IntKind.i64.min = -9223372036854775808 := by decide
  have e2 : IntKind.i64.max = 9223372036854775807 := by decide
  unfold okI at h
  rw [e1, e2] at h
  exact h
theorem actOk_of {a : ActT} (h1 : okI .i64 a.2.1) (h2 : okI .i64 a.2.2.1) (h3 : okI .i64 a.2.2.2.1) (h4 : okI .i64 a.2.2.2.2.1) (t1 : a.2.2.2.2.2.2.1.length ≤ 20000) (t2 : a.2.2.2.2.2.2.2.1.length ≤ 20000) (t3 : a.2.2.2.2.2.2.2.2.length ≤ 20000) : ActOk a := by
  have := i64_of h1
  have := i64_of h2
  have := i64_of h3
  have := i64_of h4
  refine ⟨fun l => ?_, fun l => ?_⟩
  · unfold numOf; repeat' split
    all_goals assumption
  · unfold txtOf; repeat' split
    all_goals assumption
theorem fmt_len {a : ActT} {s : List UInt8} (h : fmtB a = (s, 0)) : s.length ≤ 4096 := by
  unfold fmtB at h
  split at h
  · obtain ⟨rfl, _⟩ := Prod.mk.inj h; simp
  · unfold fmtR at h
    split at h
    · split at h
      · obtain ⟨rfl, _⟩ := Prod.mk.inj h; simp
      · split at h
        · obtain ⟨rfl, _⟩ := Prod.mk.inj h; simp
        · split at h
          · obtain ⟨rfl, _⟩ := Prod.mk.inj h; simp
          · obtain ⟨rfl, _⟩ := Prod.mk.inj h; omega
    · obtain ⟨rfl, _⟩ := Prod.mk.inj h; simp
end Go.Proofs.YtbcnegennmpliaaDoor

namespace Go.Proofs.YtbcnegennmpliaaDoor
set_option linter.unusedVariables false
set_option linter.unusedSimpArgs false
open Go.RowKit
def Near (a : ActT) : Prop := farB a.2.1 = false ∧ farB a.2.2.1 = false ∧ farB a.2.2.2.1 = false ∧ farB a.2.2.2.2.1 = false
def Short (a : ActT) : Prop := a.2.2.2.2.2.2.1.length ≤ 4096 ∧ a.2.2.2.2.2.2.2.1.length ≤ 4096 ∧ a.2.2.2.2.2.2.2.2.length ≤ 4096
structure Got (ls : List UInt8) (b y : ActT) : Prop where
  kind : y.1 = b.1
  op : y.2.2.2.2.2.1 = b.2.2.2.2.2.1
  node : 78 ∉ ls → y.2.1 = b.2.1
  cl : 67 ∉ ls → y.2.2.1 = b.2.2.1
  n : 110 ∉ ls → 112 ∉ ls → y.2.2.2.1 = b.2.2.2.1
  m : 109 ∉ ls → y.2.2.2.2.1 = b.2.2.2.2.1
  key : 107 ∉ ls → y.2.2.2.2.2.2.1 = b.2.2.2.2.2.2.1
  val : 118 ∉ ls → y.2.2.2.2.2.2.2.1 = b.2.2.2.2.2.2.2.1
  old : 111 ∉ ls → y.2.2.2.2.2.2.2.2 = b.2.2.2.2.2.2.2.2
  near : Near b → Near y
  short : Short b → Short y
  pick : 112 ∈ ls → 110 ∉ ls → 1 ≤ y.2.2.2.1 ∧ y.2.2.2.1 ≤ 9
theorem num_near {w : List UInt8} (hw : w.length ≤ 4096) {n : Int} (h : numM w = some n) : farB n = false := by
  have := (numM_iff (by omega) n).1 h
  unfold farB
  rw [decide_eq_false (by have := this.2; omega), decide_eq_false (by have := this.2; omega)]; rfl
theorem pickN_le : ∀ (ps : List (List UInt8)) (w : List UInt8) (i n : Nat), pickN ps w i = some n → i < n ∧ n ≤ i + ps.length
  | [], w, i, n, h => by cases h
  | p :: ps, w, i, n, h => by
    rw [pickN] at h
    split at h
    · cases h; simp
    · have := pickN_le ps w (i + 1) n h
      simp; omega
theorem got_step {l : UInt8} (hl : l ∈ lets) {b y : ActT} {w : List UInt8} (hw : w.length ≤ 4096) (h : fillM l b w = .inl y) : Got [l] b y := by
  unfold fillM at h
  rcases lets_cases hl with rfl | rfl | rfl | rfl | rfl | rfl | rfl | rfl
  · rw [if_neg (by decide), if_neg (by decide), if_neg (by decide), if_neg (by decide)] at h
    cases hn : numM w with
    | none => rw [hn] at h; cases h
    | some n =>
      have hf := num_near hw hn
      rw [hn] at h
      simp only [if_true] at h
      cases h
      exact ⟨rfl, rfl, fun h => absurd (by simp) h, fun _ => rfl, fun _ _ => rfl, fun _ => rfl, fun _ => rfl, fun _ => rfl, fun _ => rfl, fun q => ⟨hf, q.2⟩, fun q => q, fun h => absurd h (by decide)⟩
  · rw [if_neg (by decide), if_neg (by decide), if_neg (by decide), if_neg (by decide)] at h
    cases hn : numM w with
    | none => rw [hn] at h; cases h
    | some n =>
      have hf := num_near hw hn
      rw [hn] at h
      simp only [if_true] at h
      rw [if_neg (by decide)] at h
      cases h
      exact ⟨rfl, rfl, fun _ => rfl, fun h => absurd (by simp) h, fun _ _ => rfl, fun _ => rfl, fun _ => rfl, fun _ => rfl, fun _ => rfl, fun q => ⟨q.1, hf, q.2.2⟩, fun q => q, fun h => absurd h (by decide)⟩
  · rw [if_neg (by decide), if_neg (by decide), if_neg (by decide), if_neg (by decide)] at h
    cases hn : numM w with
    | none => rw [hn] at h; cases h
    | some n =>
      have hf := num_near hw hn
      rw [hn] at h
      simp only [if_true] at h
      rw [if_neg (by decide), if_neg (by decide)] at h
      cases h
      exact ⟨rfl, rfl, fun _ => rfl, fun _ => rfl, fun h _ => absurd (by simp) h, fun _ => rfl, fun _ => rfl, fun _ => rfl, fun _ => rfl, fun q => ⟨q.1, q.2.1, hf, q.2.2.2⟩, fun q => q, fun h => absurd h (by decide)⟩
  · rw [if_neg (by decide), if_neg (by decide), if_neg (by decide), if_neg (by decide)] at h
    cases hn : numM w with
    | none => rw [hn] at h; cases h
    | some n =>
      have hf := num_near hw hn
      rw [hn] at h
      simp only [] at h
      rw [if_neg (by decide), if_neg (by decide), if_neg (by decide)] at h
      cases h
      exact ⟨rfl, rfl, fun _ => rfl, fun _ => rfl, fun _ _ => rfl, fun h => absurd (by simp) h, fun _ => rfl, fun _ => rfl, fun _ => rfl, fun q => ⟨q.1, q.2.1, q.2.2.1, hf⟩, fun q => q, fun h => absurd h (by decide)⟩
  · rw [if_neg (by decide), if_neg (by decide), if_neg (by decide), if_pos rfl] at h
    cases hn : pickN picksL w 0 with
    | none => rw [hn] at h; cases h
    | some n =>
      have hb := pickN_le _ _ _ _ hn
      have h9 : picksL.length = 9 := rfl
      rw [hn] at h
      cases h
      have hf : farB (n : Int) = false := by unfold farB; rw [decide_eq_false (by omega), decide_eq_false (by omega)]; rfl
      exact ⟨rfl, rfl, fun _ => rfl, fun _ => rfl, fun _ h => absurd (by simp) h, fun _ => rfl, fun _ => rfl, fun _ => rfl, fun _ => rfl, fun q => ⟨q.1, q.2.1, hf, q.2.2.2⟩, fun q => q, fun _ _ => ⟨by show (1 : Int) ≤ (n : Int); omega, by show (n : Int) ≤ 9; omega⟩⟩
  · rw [if_pos rfl] at h
    cases h
    exact ⟨rfl, rfl, fun _ => rfl, fun _ => rfl, fun _ _ => rfl, fun _ => rfl, fun h => absurd (by simp) h, fun _ => rfl, fun _ => rfl, fun q => q, fun q => ⟨hw, q.2⟩, fun h => absurd h (by decide)⟩
  · rw [if_neg (by decide), if_pos rfl] at h
    cases h
    exact ⟨rfl, rfl, fun _ => rfl, fun _ => rfl, fun _ _ => rfl, fun _ => rfl, fun _ => rfl, fun h => absurd (by simp) h, fun _ => rfl, fun q => q, fun q => ⟨q.1, hw, q.2.2⟩, fun h => absurd h (by decide)⟩
  · rw [if_neg (by decide), if_neg (by decide), if_pos rfl] at h
    cases h
    exact ⟨rfl, rfl, fun _ => rfl, fun _ => rfl, fun _ _ => rfl, fun _ => rfl, fun _ => rfl, fun _ => rfl, fun h => absurd (by simp) h, fun q => q, fun q => ⟨q.1, q.2.1, hw⟩, fun h => absurd h (by decide)⟩
theorem Got.cons {l : UInt8} {ls : List UInt8} {b c y : ActT} (h : Got [l] b c) (k : Got ls c y) : Got (l :: ls) b y := by
  have nl : ∀ {q : UInt8}, q ∉ l :: ls → q ∉ [l] := fun h hm => h (by rw [List.mem_singleton.1 hm]; simp)
  have nr : ∀ {q : UInt8}, q ∉ l :: ls → q ∉ ls := fun h hm => h (List.mem_cons_of_mem _ hm)
  refine ⟨k.kind.trans h.kind, k.op.trans h.op, fun q => (k.node (nr q)).trans (h.node (nl q)), fun q => (k.cl (nr q)).trans (h.cl (nl q)), fun q p => (k.n (nr q) (nr p)).trans (h.n (nl q) (nl p)), fun q => (k.m (nr q)).trans (h.m (nl q)), fun q => (k.key (nr q)).trans (h.key (nl q)), fun q => (k.val (nr q)).trans (h.val (nl q)), fun q => (k.old (nr q)).trans (h.old (nl q)), fun q => k.near (h.near q), fun q => k.short (h.short q), fun hm q => ?_⟩
  by_cases hr : 112 ∈ ls
  · exact k.pick hr (nr q)
  · have : 112 ∈ [l] := by
      rcases List.mem_cons.1 hm with e | e
      · rw [e]; simp
      · exact absurd e hr
    rw [k.n (nr q) hr]
    exact h.pick this (nl q)
theorem got_all : ∀ (ls : List UInt8) (b y : ActT) (ws : List (List UInt8)), (∀ l, l ∈ ls → l ∈ lets) → (∀ w, w ∈ ws → w.length ≤ 4096) → fillAll ls b ws = .inl y → Got ls b y
  | [], b, y, ws, _, _, h => by
    cases h
    exact ⟨rfl, rfl, fun _ => rfl, fun _ => rfl, fun _ _ => rfl, fun _ => rfl, fun _ => rfl, fun _ => rfl, fun _ => rfl, fun q => q, fun q => q, fun h => absurd h (by simp)⟩
  | l :: ls, b, y, [], _, _, h => by cases h
  | l :: ls, b, y, w :: ws, hlt, hw, h => by
    rw [fillAll] at h
    cases hf : fillM l b w with
    | inr c => rw [hf] at h; cases h
    | inl c =>
      rw [hf] at h
      exact (got_step (hlt l (by simp)) (hw w (by simp)) hf).cons (got_all ls c y ws (fun m hm => hlt m (by simp [hm])) (fun v hv => hw v (by simp [hv])) h)
theorem fillAll_ne : ∀ (ls : List UInt8) (b : ActT) (ws : List (List UInt8)) (c : Int), fillAll ls b ws = .inr c → c ≠ 0
  | [], b, ws, c, h => by cases h
  | l :: ls, b, [], c, h => by cases h; decide
  | l :: ls, b, w :: ws, c, h => by
    rw [fillAll] at h
    cases hf : fillM l b w with
    | inl d => rw [hf] at h; exact fillAll_ne ls d ws c h
    | inr d =>
      rw [hf] at h
      cases h
      have := fill_ne hf
      omega
theorem parseR_ok {y : ActT} {ws : List (List UInt8)} : ∀ rs : List RowT, parseR rs ws = (y, 0) → ∃ r, r ∈ rs ∧ ∃ t, ws = r.1 :: t ∧ fillAll r.2.2.1 (actOf r) t = .inl y
  | [], h => absurd (Prod.mk.inj h).2 (by decide)
  | r :: rs, h => by
    rw [parseR] at h
    split at h
    · obtain ⟨q, hq, t, h1, h2⟩ := parseR_ok rs h
      exact ⟨q, by simp [hq], t, h1, h2⟩
    · rename_i hn
      split at h
      · exact absurd (Prod.mk.inj h).2 (by decide)
      · cases ws with
        | nil => exact absurd (.inl rfl) hn
        | cons w t =>
          have hw : w = r.1 := (Decidable.byContradiction fun e => hn (.inr e) : r.1 = w).symm
          rw [List.drop_succ_cons, List.drop_zero] at h
          cases hf : fillAll r.2.2.1 (actOf r) t with
          | inr c => rw [hf] at h; exact absurd (Prod.mk.inj h).2 (fillAll_ne _ _ _ _ hf)
          | inl d =>
            rw [hf] at h
            obtain ⟨rfl, _⟩ := Prod.mk.inj h
            exact ⟨r, by simp, t, by rw [hw], hf⟩
theorem parseR_act : ∀ (rs : List RowT) (ws : List (List UInt8)), (parseR rs ws).2 ≠ 0 → (parseR rs ws).1 = act0
  | [], ws, _ => rfl
  | r :: rs, ws, h => by
    rw [parseR] at h ⊢
    split
    · rename_i hc; rw [if_pos hc] at h; exact parseR_act rs ws h
    · rename_i hc
      rw [if_neg hc] at h
      split
      · rfl
      · rename_i hl
        rw [if_neg hl] at h
        cases hf : fillAll r.2.2.1 (actOf r) (ws.drop 1) with
        | inr c => rfl
        | inl d => rw [hf] at h; exact absurd rfl h
theorem rows_uniq2 : ∀ r, r ∈ rowsL → ∀ q, q ∈ rowsL → q.2.1 = r.2.1 → (r.2.1 = 13 → q.2.2.2.2 = r.2.2.2.2) → (r.2.1 = 8 → q.2.2.2.1 = r.2.2.2.1) → q = r := by
  have : (rowsL.all fun r => rowsL.all fun q => decide (q.2.1 = r.2.1 → (r.2.1 = 13 → q.2.2.2.2 = r.2.2.2.2) → (r.2.1 = 8 → q.2.2.2.1 = r.2.2.2.1) → q = r)) = true := by decide +kernel
  intro r hr q hq
  exact of_decide_eq_true (List.all_eq_true.1 (List.all_eq_true.1 this r hr) q hq)
theorem rows_kind : ∀ r, r ∈ rowsL → (1 ≤ r.2.1 ∧ r.2.1 ≤ 16) ∧ (r.2.1 = 13 → 1 ≤ r.2.2.2.2 ∧ r.2.2.2.2 ≤ 4) ∧ (r.2.1 = 8 → r.2.2.2.1 = 0 ∨ r.2.2.2.1 = 1) ∧ (110 ∈ r.2.2.1 → 112 ∉ r.2.2.1) ∧ (r.2.1 = 2 → 112 ∈ r.2.2.1) ∧ 0 ≤ r.2.2.2.1 ∧ r.2.2.2.1 ≤ 1 := by
  have : (rowsL.all fun r => decide ((1 ≤ r.2.1 ∧ r.2.1 ≤ 16) ∧ (r.2.1 = 13 → 1 ≤ r.2.2.2.2 ∧ r.2.2.2.2 ≤ 4) ∧ (r.2.1 = 8 → r.2.2.2.1 = 0 ∨ r.2.2.2.1 = 1) ∧ (110 ∈ r.2.2.1 → 112 ∉ r.2.2.1) ∧ (r.2.1 = 2 → 112 ∈ r.2.2.1) ∧ 0 ≤ r.2.2.2.1 ∧ r.2.2.2.1 ≤ 1)) = true := by decide +kernel
  exact fun r hr => of_decide_eq_true (List.all_eq_true.1 this r hr)
theorem sel_own {r : RowT} (hr : r ∈ rowsL) {m : Int} (hm : r.2.1 = 8 → m = r.2.2.2.1) : selP r.2.1 m r.2.2.2.2 rowsL 6 = .inl r := by
  obtain ⟨k1, k2, k3, _⟩ := rows_kind r hr
  obtain ⟨q, hq, S⟩ := sel_ok r.2.1 m r.2.2.2.2 k1 k2
  have : q = r := rows_uniq2 r hr q S.mem S.k S.op13 fun h => by
    have := (S.m8 h).1
    have := k3 h
    have := hm h
    omega
  rw [hq, this]
theorem fmt_again {x : List UInt8} {y : ActT} (h : parseB x = (y, 0)) : (∃ t, fmtB y = (t, 0)) ∨ fmtB y = ([], 3) := by
  unfold parseB at h
  split at h
  case isFalse hne => exact absurd (Prod.mk.inj h).2 hne
  obtain ⟨r, hr, t, hws, hf⟩ := parseR_ok rowsL h
  have hlt := rows_lets r hr
  have hwm : ∀ w, w ∈ t → w.length ≤ 4096 := fun w hw => wordsB_mem x w (by rw [hws]; simp [hw])
  have G := got_all _ _ _ _ hlt hwm hf
  have hrm := rows_m r hr
  obtain ⟨k1, k2, k3, k4, k5, k6, k7⟩ := rows_kind r hr
  have e1 : y.1 = r.2.1 := G.kind
  have e2 : y.2.2.2.2.2.1 = r.2.2.2.2 := G.op
  have hs : selP y.1 y.2.2.2.2.1 y.2.2.2.2.2.1 rowsL 6 = .inl r := by
    rw [e1, e2]
    exact sel_own hr fun h8 => G.m (hrm.2 h8)
  have z0 : farB 0 = false := by decide
  have hM : farB r.2.2.2.1 = false := by unfold farB; rw [decide_eq_false (by omega), decide_eq_false (by omega)]; rfl
  have N := G.near ⟨z0, z0, z0, hM⟩
  have hz : zB r y := by
    unfold zB
    rw [zeroAll_eq r.2.2.1 y hlt]
    refine ⟨?_, ?_, ?_, ?_, e2, ?_, ?_, ?_⟩
    · simp only []; split
      · rfl
      · rename_i q; exact G.node q
    · simp only []; split
      · rfl
      · rename_i q; exact G.cl q
    · simp only []; split
      · rfl
      · rename_i q; exact G.n (fun a => q (.inl a)) (fun a => q (.inr a))
    · simp only []; split
      · rfl
      · rename_i h8
        split
        · rfl
        · rename_i q; rw [G.m q]; exact hrm.1 (fun e => h8 (e1.trans e))
    · simp only []; split
      · rfl
      · rename_i q; exact G.key q
    · simp only []; split
      · rfl
      · rename_i q; exact G.val q
    · simp only []; split
      · rfl
      · rename_i q; exact G.old q
  unfold fmtB
  rw [hs]
  simp only [fmtR]
  rw [if_pos hz, if_neg (fun q => by
    have h112 := k5 (e1.symm.trans q.1)
    have := G.pick h112 (fun h => k4 h h112)
    have := q.2
    omega), if_neg (fun q => by
    rcases q with q | q
    · exact q.2 (G.m (hrm.2 (e1.symm.trans q.1)))
    · obtain ⟨l, h1, h2⟩ := List.any_eq_true.1 q
      simp only [Bool.and_eq_true, Bool.not_eq_true'] at h2
      have : farB (numOf l y) = false := by
        unfold numOf
        repeat' split
        · exact N.1
        · exact N.2.1
        · exact N.2.2.2
        · exact N.2.2.1
      rw [this] at h2
      exact absurd h2.2 (by decide))]
  split
  · exact .inr rfl
  · exact .inl ⟨_, rfl⟩
theorem short_of {x : List UInt8} {y : ActT} (h : parseB x = (y, 0)) : Near y ∧ Short y ∧ 0 ≤ y.2.2.2.2.2.1 ∧ y.2.2.2.2.2.1 ≤ 4 ∧ 0 < x.length := by
  unfold parseB at h
  split at h
  case isFalse hne => exact absurd (Prod.mk.inj h).2 hne
  obtain ⟨r, hr, t, hws, hf⟩ := parseR_ok rowsL h
  have hlt := rows_lets r hr
  have hwm : ∀ w, w ∈ t → w.length ≤ 4096 := fun w hw => wordsB_mem x w (by rw [hws]; simp [hw])
  have G := got_all _ _ _ _ hlt hwm hf
  obtain ⟨k1, k2, k3, k4, k5, k6, k7⟩ := rows_kind r hr
  have z0 : farB 0 = false := by decide
  have hM : farB r.2.2.2.1 = false := by unfold farB; rw [decide_eq_false (by omega), decide_eq_false (by omega)]; rfl
  have e2 : y.2.2.2.2.2.1 = r.2.2.2.2 := G.op
  have ro := rows_op r hr
  refine ⟨G.near ⟨z0, z0, z0, hM⟩, G.short ⟨Nat.zero_le _, Nat.zero_le _, Nat.zero_le _⟩, by omega, by omega, ?_⟩
  cases x with
  | nil =>
    have : (wordsB []).1 = [] := by decide
    rw [this] at hws
    cases hws
  | cons c x => simp
theorem ok_of_short {y : ActT} (hn : Near y) (hs : Short y) : ActOk y := by
  have f1 := far_iff hn.1
  have f2 := far_iff hn.2.1
  have f3 := far_iff hn.2.2.1
  have f4 := far_iff hn.2.2.2
  obtain ⟨t1, t2, t3⟩ := hs
  refine ⟨fun l => ?_, fun l => ?_⟩
  · unfold numOf; repeat' split
    all_goals omega
  · unfold txtOf; repeat' split
    all_goals omega
theorem pure_TextBack (line : List UInt8) (hl : line.length ≤ reachBytes) (a0 a1 a2 a3 a4 a5 : Int) (a6 a7 a8 : List UInt8)
    (h : okI .i64 a0 ∧ okI .i64 a1 ∧ okI .i64 a2 ∧ okI .i64 a3 ∧ okI .i64 a4 ∧ okI .i64 a5 ∧ a6.length ≤ reachBytes ∧ a7.length ≤ reachBytes ∧ a8.length ≤ reachBytes) :
    ∃ k, synodlaw17_TextBack.f k line a0 a1 a2 a3 a4 a5 a6 a7 a8 = some true := by
  refine ⟨100000 + 60, ?_⟩
  unfold synodlaw17_TextBack.f
  rw [first_eq, Option.bind_some]
  by_cases hb : (((((!true) || (decide ((20000 : Int) < (line.length : Int)))) || (decide ((20000 : Int) < (a6.length : Int)))) || (decide ((20000 : Int) < (a7.length : Int)))) || (decide ((20000 : Int) < (a8.length : Int)))) = true
  · rw [if_pos hb]
  · rw [if_neg hb]
    simp only [Bool.not_true, Bool.false_or, Bool.or_eq_true, decide_eq_true_eq, not_or] at hb
    have ok : ActOk (a0, a1, a2, a3, a4, a5, a6, a7, a8) := actOk_of h.2.1 h.2.2.1 h.2.2.2.1 h.2.2.2.2.1 (by simp only []; omega) (by simp only []; omega) (by simp only []; omega)
    have f1 := format_f ok (i64_of h.2.2.2.2.2.1) (k := 100000 + 60) (by omega)
    simp only [] at f1
    rw [f1, Option.bind_some]
    have part1 : ((synodref_Num.f (fmtB (a0, a1, a2, a3, a4, a5, a6, a7, a8)).2).bind fun s12v => (if s12v = (0 : Int) then ((text_ParseAct.f (100000 + 60) (fmtB (a0, a1, a2, a3, a4, a5, a6, a7, a8)).1).bind fun s17v => ((if (!(decide (s17v.1 = a0) && (decide (s17v.2.1 = a1) && (decide (s17v.2.2.1 = a2) && (decide (s17v.2.2.2.1 = a3) && (decide (s17v.2.2.2.2.1 = a4) && (decide (s17v.2.2.2.2.2.1 = a5) && (decide (s17v.2.2.2.2.2.2.1 = a6) && (decide (s17v.2.2.2.2.2.2.2.1 = a7) && (decide (s17v.2.2.2.2.2.2.2.2.1 = a8))))))))))) = true then (some true) else ((synodref_Num.f s17v.2.2.2.2.2.2.2.2.2).bind fun s23v => (some (!decide (s23v = (0 : Int)))))).bind fun s21v => (if s21v = true then (some (.inr false)) else (some (.inl ()))))) else (some (.inl ())))) = some (.inl () : Unit ⊕ Bool) := by
      rw [synodref_Num.f, Option.bind_some]
      obtain ⟨s, e, hse⟩ : ∃ s e, fmtB (a0, a1, a2, a3, a4, a5, a6, a7, a8) = (s, e) := ⟨_, _, rfl⟩
      rw [hse]
      simp only []
      by_cases he : e = 0
      · subst he
        have tb := there_back hse
        have hsl : s.length ≤ 4096 := fmt_len hse
        rw [if_pos rfl, parse_f (wordsB_len s) (by omega), Option.bind_some, tb]
        simp [l0res, fl, synodref_Num.f]
      · rw [if_neg he]
    rw [part1]
    simp only [orR]
    have hw := wordsB_len line
    rw [parse_f hw (by omega), Option.bind_some]
    obtain ⟨y, g, hyg⟩ : ∃ y g, parseB line = (y, g) := ⟨_, _, rfl⟩
    rw [hyg]
    simp only [l0res, fl, synodref_Num.f, Option.bind_some]
    by_cases hg : g = 0
    · subst hg
      obtain ⟨hn, hs, o1, o2, hpos⟩ := short_of hyg
      rw [if_pos rfl]
      have f2 := format_f (ok_of_short hn hs) ⟨by omega, by omega⟩ (k := 100000 + 60) (by omega)
      rw [f2, Option.bind_some]
      rcases fmt_again hyg with ⟨t, ht⟩ | ht
      · rw [ht]
        simp only []
        have htl : t.length ≤ 4096 := fmt_len ht
        have tb := there_back ht
        rw [if_neg (by decide), parse_f (wordsB_len t) (by omega), Option.bind_some, tb]
        simp [l0res, fl]
      · rw [ht]
        simp only [if_true]
        rw [decide_eq_true (by omega)]
    · rw [if_neg hg]
      have : y = act0 := by
        have h1 : (parseB line).2 ≠ 0 := by rw [hyg]; exact hg
        have h2 : (parseB line).1 = act0 := by
          unfold parseB at h1 ⊢
          split
          · rename_i hc; rw [if_pos hc] at h1; exact parseR_act _ _ h1
          · rfl
        rw [hyg] at h2
        exact h2
      subst this
      simp
end Go.Proofs.YtbcnegennmpliaaDoor

namespace Go.Proofs.YtbcnegennmpliaaDoor
set_option linter.unusedVariables false
set_option linter.unusedSimpArgs false
open Go.RowKit Go.ChangeShapes Go.WideShapes Go.ChangeAt

def heapF (W : World) : HA := fun h => ∀ i, i < W.heap.size → h i = W.heap[i]?
theorem sat_start (W : World) : Sat W ([] ++ [heapF W]) W := ⟨rfl, rfl, rfl, Nat.le_refl _, star_tt (fun _ _ => rfl)⟩
theorem below_of {W w : World} {l : List HA} (s : Sat W l w) (k : Nat) (hk : l[k]? = some (heapF W)) : Below W.heap.size W w := by
  obtain ⟨a, ha, hz⟩ := s.at hk
  refine ⟨s.os, s.tape, s.output, s.size, fun i hi => ?_⟩
  have h1 := ha i hi
  obtain ⟨o, ho⟩ : ∃ o, W.heap[i]? = some o := ⟨_, Array.getElem?_eq_getElem hi⟩
  rw [ho] at h1
  rw [hz i o h1, ho]
theorem row_of_fn {P : Program} {W : World} {f : FuncId} {args : List Value} {R Y : Type} {o : Option R} {val : R → Y → Value} {r : R}
    (h : Fn P W f args [] (heapF W) o val (fun _ _ => [])) (hs : o = some r) (hv : ∀ y, val r y = .bool true) :
    Calls P f args.toArray W fun e w' => e = .returned (.bool true) ∧ Below W.heap.size W w' := by
  refine (h r hs W (sat_start W)).mono ?_
  rintro e w' ⟨y, rfl, s⟩
  exact ⟨by rw [hv], below_of s 0 rfl⟩
theorem weights_of {H : Type} {P : Program} {ts : List TypeId} {ds : List (DataW H)} (h : (DataW.weightsEach P ts ds).all (· ≤ reachBytes) = true) {j : Nat} {t : TypeId} {d : DataW H} (ht : ts[j]? = some t) (hd : ds[j]? = some d) : ∀ n ∈ d.weights P t, n ≤ reachBytes := fun n hn => by
  have := List.all_eq_true.1 h n (DataW.weights_mem_each ht hd n hn)
  simpa using this
end Go.Proofs.YtbcnegennmpliaaDoor
