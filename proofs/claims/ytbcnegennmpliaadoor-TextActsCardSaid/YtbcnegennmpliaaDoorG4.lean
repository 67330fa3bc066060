/- Printed by gen.py: pure functions and the proofs that the Go functions simulate them. Conditions: as each theorem says. -/
import Derived.Test.YtbcnegennmpliaaDoorG3
namespace Go.Proofs.YtbcnegennmpliaaDoor
open Go.RowKit
set_option linter.unusedVariables false
set_option linter.unusedSimpArgs false
set_option maxRecDepth 20000
set_option maxHeartbeats 20000000
def synodlaw17_first.f (k : Nat)  : Option (Bool) := (text_Words.f k ([112, 117, 116, 32, 32, 49, 32, 50, 32, 97, 32, 34, 98, 32, 99, 34] : List UInt8)).bind fun s1v => ((text_ParseAct.f k ([116, 105, 99, 107, 32, 49, 32, 45, 53] : List UInt8)).bind fun s4v => ((text_ParseAct.f k ([116, 105, 99, 107, 32, 48, 49, 32, 50] : List UInt8)).bind fun s8v => ((text_FormatAct.f k (13 : Int) (2 : Int) (1 : Int) (0 : Int) (0 : Int) (4 : Int) ([107] : List UInt8) ([110, 101, 119] : List UInt8) ([111, 32, 100] : List UInt8)).bind fun s12v => ((synodref_SameTexts.f k s1v.1 ([([112, 117, 116] : List UInt8), ([49] : List UInt8), ([50] : List UInt8), ([97] : List UInt8), ([98, 32, 99] : List UInt8)] : List (List UInt8))).bind fun s27v => ((if s27v = true then ((synodref_Num.f s1v.2).bind fun s32v => (some (decide (s32v = (0 : Int))))) else (some false)).bind fun s30v => ((if (s30v && (decide (s4v.1 = (1 : Int)) && (decide (s4v.2.1 = (1 : Int)) && (decide (s4v.2.2.1 = (0 : Int)) && (decide (s4v.2.2.2.1 = (-5)) && (decide (s4v.2.2.2.2.1 = (0 : Int)) && (decide (s4v.2.2.2.2.2.1 = (0 : Int)) && (decide (s4v.2.2.2.2.2.2.1 = ([] : List UInt8)) && (decide (s4v.2.2.2.2.2.2.2.1 = ([] : List UInt8)) && (decide (s4v.2.2.2.2.2.2.2.2.1 = ([] : List UInt8)))))))))))) = true then ((synodref_Num.f s4v.2.2.2.2.2.2.2.2.2).bind fun s39v => (some (decide (s39v = (0 : Int))))) else (some false)).bind fun s37v => ((if s37v = true then ((synodref_Num.f s8v.2.2.2.2.2.2.2.2.2).bind fun s46v => (some (decide (s46v = (22 : Int))))) else (some false)).bind fun s44v => ((if (s44v && (decide (s12v.1 = ([115, 119, 97, 112, 32, 49, 32, 50, 32, 107, 32, 34, 111, 32, 100, 34, 32, 110, 101, 119] : List UInt8)))) = true then ((synodref_Num.f s12v.2).bind fun s53v => (some (decide (s53v = (0 : Int))))) else (some false)).bind fun s51v => (some s51v)))))))))
theorem synodlaw17_first.calls (W : World) (F : HA) (k : Nat)  (hgl : Glb Tryd.prog F) :
    Fn Tryd.prog W 11 [] [] F (synodlaw17_first.f k ) (fun (r : Bool) (y : Unit) => .bool r) (fun r y => []) := by
 unfold synodlaw17_first.f
 refine fn_intro 58 Tryd.func11 rfl Tryd.ntmps11 rfl ?_
 refine sr ?_
 refine va rfl rfl (nx ?_)
 refine simL_bind (fun s1v hs2v => ?_)
 refine simL_eff (re_call (vs := [str ([112, 117, 116, 32, 32, 49, 32, 50, 32, 97, 32, 34, 98, 32, 99, 34] : List UInt8)]) (cap := []) (A := []) (rst := [F]) rfl rfl rfl rfl rfl rfl Tryd.call12 (.sel 0 rfl (.nil _)) (text_Words.calls _ _ k ([112, 117, 116, 32, 32, 49, 32, 50, 32, 97, 32, 34, 98, 32, 99, 34] : List UInt8) ) hs2v) rfl rfl rfl ?_
 intro y3v
 refine vm rfl rfl ?_
 refine vq (q_ext rfl rfl rfl) rfl ?_
 refine vq (q_ext rfl rfl rfl) rfl ?_
 refine va rfl rfl ?_
 refine va rfl rfl (nx ?_)
 refine simL_bind (fun s4v hs5v => ?_)
 refine simL_eff (re_call (vs := [str ([116, 105, 99, 107, 32, 49, 32, 45, 53] : List UInt8)]) (cap := []) (A := []) (rst := [RowV 9 1 (V9 tt) y3v.1 s1v.1 y3v.2, F]) rfl rfl rfl rfl rfl rfl Tryd.call18 (.sel 0 rfl (.sel 0 rfl (.nil _))) (text_ParseAct.calls _ _ k ([116, 105, 99, 107, 32, 49, 32, 45, 53] : List UInt8) (hgl.lend 1 rfl)) hs5v) rfl rfl rfl ?_
 intro y6v
 refine vm rfl rfl ?_
 refine vq (q_ext rfl rfl rfl) rfl ?_
 refine vq (q_ext rfl rfl rfl) rfl ?_
 refine simL_eff (re_alloc rfl Tryd.zeroValue34 rfl) rfl rfl rfl ?_
 intro b7v
 refine simL_do (re_store 0 rfl rfl rfl Tryd.sizeOf34 rfl rfl (one_of (by rfl)) rfl rfl) rfl rfl ?_
 intro _
 refine simL_ent (H' := [obj b7v 34 [.int .i64 s4v.1, .int .i64 s4v.2.1, .int .i64 s4v.2.2.1, .int .i64 s4v.2.2.2.1, .int .i64 s4v.2.2.2.2.1, .int .i64 s4v.2.2.2.2.2.1, str s4v.2.2.2.2.2.2.1, str s4v.2.2.2.2.2.2.2.1, str s4v.2.2.2.2.2.2.2.2.1], RowV 9 1 (V9 tt) y3v.1 s1v.1 y3v.2, F]) (Ent.refl _) ?_
 refine va rfl rfl (nx ?_)
 refine simL_bind (fun s8v hs9v => ?_)
 refine simL_eff (re_call (vs := [str ([116, 105, 99, 107, 32, 48, 49, 32, 50] : List UInt8)]) (cap := []) (A := []) (rst := [obj b7v 34 [.int .i64 s4v.1, .int .i64 s4v.2.1, .int .i64 s4v.2.2.1, .int .i64 s4v.2.2.2.1, .int .i64 s4v.2.2.2.2.1, .int .i64 s4v.2.2.2.2.2.1, str s4v.2.2.2.2.2.2.1, str s4v.2.2.2.2.2.2.2.1, str s4v.2.2.2.2.2.2.2.2.1], RowV 9 1 (V9 tt) y3v.1 s1v.1 y3v.2, F]) rfl rfl rfl rfl rfl rfl Tryd.call18 (.sel 0 rfl (.sel 0 rfl (.sel 0 rfl (.nil _)))) (text_ParseAct.calls _ _ k ([116, 105, 99, 107, 32, 48, 49, 32, 50] : List UInt8) (hgl.lend 2 rfl)) hs9v) rfl rfl rfl ?_
 intro y10v
 refine vm rfl rfl ?_
 refine vq (q_ext rfl rfl rfl) rfl ?_
 refine vq (q_ext rfl rfl rfl) rfl ?_
 refine simL_eff (re_alloc rfl Tryd.zeroValue34 rfl) rfl rfl rfl ?_
 intro b11v
 refine simL_do (re_store 0 rfl rfl rfl Tryd.sizeOf34 rfl rfl (one_of (by rfl)) rfl rfl) rfl rfl ?_
 intro _
 refine simL_ent (H' := [obj b11v 34 [.int .i64 s8v.1, .int .i64 s8v.2.1, .int .i64 s8v.2.2.1, .int .i64 s8v.2.2.2.1, .int .i64 s8v.2.2.2.2.1, .int .i64 s8v.2.2.2.2.2.1, str s8v.2.2.2.2.2.2.1, str s8v.2.2.2.2.2.2.2.1, str s8v.2.2.2.2.2.2.2.2.1], obj b7v 34 [.int .i64 s4v.1, .int .i64 s4v.2.1, .int .i64 s4v.2.2.1, .int .i64 s4v.2.2.2.1, .int .i64 s4v.2.2.2.2.1, .int .i64 s4v.2.2.2.2.2.1, str s4v.2.2.2.2.2.2.1, str s4v.2.2.2.2.2.2.2.1, str s4v.2.2.2.2.2.2.2.2.1], RowV 9 1 (V9 tt) y3v.1 s1v.1 y3v.2, F]) (Ent.refl _) ?_
 refine va rfl rfl (nx ?_)
 refine vq (q_build (v := .agg #[.int .i64 13, .int .i64 2, .int .i64 1, .int .i64 0, .int .i64 0, .int .i64 4, str ([107] : List UInt8), str ([110, 101, 119] : List UInt8), str ([111, 32, 100] : List UInt8)]) rfl rfl (fun _ => by kernel_rfl)) rfl ?_
 refine simL_bind (fun s12v hs13v => ?_)
 refine simL_eff (re_call (vs := [.agg #[.int .i64 13, .int .i64 2, .int .i64 1, .int .i64 0, .int .i64 0, .int .i64 4, str ([107] : List UInt8), str ([110, 101, 119] : List UInt8), str ([111, 32, 100] : List UInt8)]]) (cap := []) (A := []) (rst := [obj b11v 34 [.int .i64 s8v.1, .int .i64 s8v.2.1, .int .i64 s8v.2.2.1, .int .i64 s8v.2.2.2.1, .int .i64 s8v.2.2.2.2.1, .int .i64 s8v.2.2.2.2.2.1, str s8v.2.2.2.2.2.2.1, str s8v.2.2.2.2.2.2.2.1, str s8v.2.2.2.2.2.2.2.2.1], obj b7v 34 [.int .i64 s4v.1, .int .i64 s4v.2.1, .int .i64 s4v.2.2.1, .int .i64 s4v.2.2.2.1, .int .i64 s4v.2.2.2.2.1, .int .i64 s4v.2.2.2.2.2.1, str s4v.2.2.2.2.2.2.1, str s4v.2.2.2.2.2.2.2.1, str s4v.2.2.2.2.2.2.2.2.1], RowV 9 1 (V9 tt) y3v.1 s1v.1 y3v.2, F]) rfl rfl rfl rfl rfl rfl Tryd.call20 (.sel 0 rfl (.sel 0 rfl (.sel 0 rfl (.sel 0 rfl (.nil _))))) (text_FormatAct.calls _ _ k (13 : Int) (2 : Int) (1 : Int) (0 : Int) (0 : Int) (4 : Int) ([107] : List UInt8) ([110, 101, 119] : List UInt8) ([111, 32, 100] : List UInt8) (hgl.lend 3 rfl)) hs13v) rfl rfl rfl ?_
 intro y14v
 refine vm rfl rfl ?_
 refine vq (q_ext rfl rfl rfl) rfl ?_
 refine vq (q_ext rfl rfl rfl) rfl ?_
 refine va rfl rfl ?_
 refine va rfl rfl (nx ?_)
 refine vm rfl rfl ?_
 have hlb16v : ListV 1 (V9 tt) ([([112, 117, 116] : List UInt8), ([49] : List UInt8), ([50] : List UInt8), ([97] : List UInt8), ([98, 32, 99] : List UInt8)] : List (List UInt8)) [[str ([112, 117, 116] : List UInt8)], [str ([49] : List UInt8)], [str ([50] : List UInt8)], [str ([97] : List UInt8)], [str ([98, 32, 99] : List UInt8)]] := ⟨⟨rfl, one_of (by rfl), rfl⟩, ⟨rfl, one_of (by rfl), rfl⟩, ⟨rfl, one_of (by rfl), rfl⟩, ⟨rfl, one_of (by rfl), rfl⟩, ⟨rfl, one_of (by rfl), rfl⟩, trivial⟩
 refine simL_eff (re_litV (V := (V9 tt)) (xs := ([([112, 117, 116] : List UInt8), ([49] : List UInt8), ([50] : List UInt8), ([97] : List UInt8), ([98, 32, 99] : List UInt8)] : List (List UInt8))) [[str ([112, 117, 116] : List UInt8)], [str ([49] : List UInt8)], [str ([50] : List UInt8)], [str ([97] : List UInt8)], [str ([98, 32, 99] : List UInt8)]] rfl rfl Tryd.underlying23 elt9 rfl (by kernel_rfl) rfl hlb16v rfl rfl) rfl rfl rfl ?_
 intro b16v
 refine simL_openV 3 rfl (fun rs17v hl18v => ?_)
 refine simL_bind (fun s27v hs28v => ?_)
 refine simL_lend 3 rfl (fun hq19v hq20v hq21v hq22v => ?_)
 refine simL_lend 0 rfl (fun hq23v hq24v hq25v hq26v => ?_)
 refine simL_eff (re_call (vs := [.slice y3v.1 s1v.1.length y3v.2, .slice (some ⟨b16v, 0, none⟩) (([([112, 117, 116] : List UInt8), ([49] : List UInt8), ([50] : List UInt8), ([97] : List UInt8), ([98, 32, 99] : List UInt8)] : List (List UInt8)).length) 5]) (cap := []) (A := []) (rst := [Row 9 1 (some ⟨b16v, 0, none⟩) ([([112, 117, 116] : List UInt8), ([49] : List UInt8), ([50] : List UInt8), ([97] : List UInt8), ([98, 32, 99] : List UInt8)] : List (List UInt8)).length 5 [[str ([112, 117, 116] : List UInt8)], [str ([49] : List UInt8)], [str ([50] : List UInt8)], [str ([97] : List UInt8)], [str ([98, 32, 99] : List UInt8)]].flatten, obj b11v 34 [.int .i64 s8v.1, .int .i64 s8v.2.1, .int .i64 s8v.2.2.1, .int .i64 s8v.2.2.2.1, .int .i64 s8v.2.2.2.2.1, .int .i64 s8v.2.2.2.2.2.1, str s8v.2.2.2.2.2.2.1, str s8v.2.2.2.2.2.2.2.1, str s8v.2.2.2.2.2.2.2.2.1], obj b7v 34 [.int .i64 s4v.1, .int .i64 s4v.2.1, .int .i64 s4v.2.2.1, .int .i64 s4v.2.2.2.1, .int .i64 s4v.2.2.2.2.1, .int .i64 s4v.2.2.2.2.2.1, str s4v.2.2.2.2.2.2.1, str s4v.2.2.2.2.2.2.2.1, str s4v.2.2.2.2.2.2.2.2.1], Row 9 1 y3v.1 s1v.1.length y3v.2 rs17v.flatten, F]) rfl rfl rfl rfl rfl rfl Tryd.call14 (.sel 0 rfl (.sel 0 rfl (.sel 0 rfl (.sel 0 rfl (.sel 0 rfl (.nil _)))))) (synodref_SameTexts.calls _ _ k y3v.1 y3v.2 s1v.1 (some ⟨b16v, 0, none⟩) 5 ([([112, 117, 116] : List UInt8), ([49] : List UInt8), ([50] : List UInt8), ([97] : List UInt8), ([98, 32, 99] : List UInt8)] : List (List UInt8)) ((Rd.asV hl18v hq19v).up (Up.lend 3 rfl) (fun _ _ h => h)) hq20v hq21v ((Rd.asV hlb16v hq23v).up (Up.lend 0 rfl) (fun _ _ h => h)) hq24v hq25v) hs28v) rfl rfl rfl ?_
 intro y29v
 refine vm rfl rfl ?_
 refine simL_cut' 4 (S := Bool) (Unit) (fun s y => [(3, .pointer (some ⟨b7v, 0, none⟩)), (4, .int .i64 s4v.2.2.2.2.2.2.2.2.2), (6, .int .i64 s8v.2.2.2.2.2.2.2.2.2), (7, str s12v.1), (8, .int .i64 s12v.2), (33, .bool s)]) (fun s y => [obj b7v 34 [.int .i64 s4v.1, .int .i64 s4v.2.1, .int .i64 s4v.2.2.1, .int .i64 s4v.2.2.2.1, .int .i64 s4v.2.2.2.2.1, .int .i64 s4v.2.2.2.2.2.1, str s4v.2.2.2.2.2.2.1, str s4v.2.2.2.2.2.2.2.1, str s4v.2.2.2.2.2.2.2.2.1], F]) ?_ ?_
 refine simL_caseb (fun hb35v => ?_) (fun hb36v => ?_)
 rw [hb35v]
 refine simL_valg (q_move rfl rfl) rfl rfl rfl rfl rfl rfl ?_
 refine simL_bind (fun s32v hs33v => ?_)
 refine simL_effg (re_call (vs := [.int .i64 s1v.2]) (cap := []) (A := []) (rst := [Row 9 1 (some ⟨b16v, 0, none⟩) ([([112, 117, 116] : List UInt8), ([49] : List UInt8), ([50] : List UInt8), ([97] : List UInt8), ([98, 32, 99] : List UInt8)] : List (List UInt8)).length 5 [[str ([112, 117, 116] : List UInt8)], [str ([49] : List UInt8)], [str ([50] : List UInt8)], [str ([97] : List UInt8)], [str ([98, 32, 99] : List UInt8)]].flatten, obj b11v 34 [.int .i64 s8v.1, .int .i64 s8v.2.1, .int .i64 s8v.2.2.1, .int .i64 s8v.2.2.2.1, .int .i64 s8v.2.2.2.2.1, .int .i64 s8v.2.2.2.2.2.1, str s8v.2.2.2.2.2.2.1, str s8v.2.2.2.2.2.2.2.1, str s8v.2.2.2.2.2.2.2.2.1], obj b7v 34 [.int .i64 s4v.1, .int .i64 s4v.2.1, .int .i64 s4v.2.2.1, .int .i64 s4v.2.2.2.1, .int .i64 s4v.2.2.2.2.1, .int .i64 s4v.2.2.2.2.2.1, str s4v.2.2.2.2.2.2.1, str s4v.2.2.2.2.2.2.2.1, str s4v.2.2.2.2.2.2.2.2.1], Row 9 1 y3v.1 s1v.1.length y3v.2 rs17v.flatten, F]) rfl rfl rfl rfl rfl rfl Tryd.call15 (.sel 0 rfl (.sel 0 rfl (.sel 0 rfl (.sel 0 rfl (.sel 0 rfl (.nil _)))))) (synodref_Num.calls _ _ s1v.2 ) hs33v) rfl rfl rfl rfl rfl rfl ?_
 intro y34v
 refine simL_valg (q_eql rfl rfl rfl) rfl rfl rfl rfl rfl rfl ?_
 refine vq (q_pick rfl rfl rfl rfl rfl) rfl (simL_nil ?_)
 exact nrm_cut (s := decide (s32v = (0 : Int))) () ⟨rfl, rfl, rfl, rfl, rfl, rfl, trivial⟩ (.sel 2 rfl (.sel 3 rfl (.nil _)))
 rw [hb36v]
 refine simL_skipd rfl rfl rfl rfl rfl rfl ?_
 refine simL_skipd rfl rfl rfl rfl rfl rfl ?_
 refine simL_skipd rfl rfl rfl rfl rfl rfl ?_
 refine vq (q_pick rfl rfl rfl rfl rfl) rfl (simL_nil ?_)
 exact nrm_cut (s := false) () ⟨rfl, rfl, rfl, rfl, rfl, rfl, trivial⟩ (.sel 2 rfl (.sel 3 rfl (.nil _)))
 intro s30v y31v
 refine vm rfl rfl ?_
 refine simL_valc (b := s30v) (fun hb62v => RQ.sub (E' := [(3, .pointer (some ⟨b7v, 0, none⟩))]) ⟨rfl, trivial⟩ (q_loado 0 rfl rfl Tryd.isAgg34 Tryd.sizeOf34 rfl rfl)) rfl rfl rfl rfl rfl ?_
 refine simL_valc (b := s30v) (fun hb61v => RQ.sub (E' := []) trivial (q_build (v := .agg #[.int .i64 1, .int .i64 1, .int .i64 0, .int .i64 (-5), .int .i64 0, .int .i64 0, str ([] : List UInt8), str ([] : List UInt8), str ([] : List UInt8)]) rfl rfl (fun _ => by kernel_rfl))) rfl rfl rfl rfl rfl ?_
 refine simL_valc (b := s30v) (fun hb60v => RQ.sub (E' := [(35, .agg #[.int .i64 s4v.1, .int .i64 s4v.2.1, .int .i64 s4v.2.2.1, .int .i64 s4v.2.2.2.1, .int .i64 s4v.2.2.2.2.1, .int .i64 s4v.2.2.2.2.2.1, str s4v.2.2.2.2.2.2.1, str s4v.2.2.2.2.2.2.2.1, str s4v.2.2.2.2.2.2.2.2.1]), (36, .agg #[.int .i64 1, .int .i64 1, .int .i64 0, .int .i64 (-5), .int .i64 0, .int .i64 0, str ([] : List UInt8), str ([] : List UInt8), str ([] : List UInt8)])]) ⟨lk_cv rfl hb60v, lk_cv rfl hb60v, trivial⟩ (q_eqagg rfl rfl rfl (by kernel_rfl) (fun d w => eqi_struct Tryd.underlying34 (by kernel_rfl) (eqf_cons (by rfl) (part_of Tryd.isAgg3 rfl) (part_of Tryd.isAgg3 rfl) (eqi_int Tryd.underlying3) (eqf_cons (by rfl) (part_of Tryd.isAgg3 rfl) (part_of Tryd.isAgg3 rfl) (eqi_int Tryd.underlying3) (eqf_cons (by rfl) (part_of Tryd.isAgg3 rfl) (part_of Tryd.isAgg3 rfl) (eqi_int Tryd.underlying3) (eqf_cons (by rfl) (part_of Tryd.isAgg3 rfl) (part_of Tryd.isAgg3 rfl) (eqi_int Tryd.underlying3) (eqf_cons (by rfl) (part_of Tryd.isAgg3 rfl) (part_of Tryd.isAgg3 rfl) (eqi_int Tryd.underlying3) (eqf_cons (by rfl) (part_of Tryd.isAgg3 rfl) (part_of Tryd.isAgg3 rfl) (eqi_int Tryd.underlying3) (eqf_cons (by rfl) (part_of Tryd.isAgg9 rfl) (part_of Tryd.isAgg9 rfl) (eqi_str Tryd.underlying9) (eqf_cons (by rfl) (part_of Tryd.isAgg9 rfl) (part_of Tryd.isAgg9 rfl) (eqi_str Tryd.underlying9) (eqf_last (by rfl) (part_of Tryd.isAgg9 rfl) (part_of Tryd.isAgg9 rfl) (eqi_str Tryd.underlying9))))))))))))) rfl rfl rfl rfl rfl ?_
 refine vq (q_and rfl rfl rfl) rfl ?_
 refine vm rfl rfl ?_
 refine simL_cut' 4 (S := Bool) (Unit) (fun s y => [(6, .int .i64 s8v.2.2.2.2.2.2.2.2.2), (7, str s12v.1), (8, .int .i64 s12v.2), (43, .bool s)]) (fun s y => [F]) ?_ ?_
 refine simL_caseb (fun hb42v => ?_) (fun hb43v => ?_)
 rw [hb42v]
 refine simL_valg (q_move rfl rfl) rfl rfl rfl rfl rfl rfl ?_
 refine simL_bind (fun s39v hs40v => ?_)
 refine simL_effg (re_call (vs := [.int .i64 s4v.2.2.2.2.2.2.2.2.2]) (cap := []) (A := []) (rst := [obj b7v 34 [.int .i64 s4v.1, .int .i64 s4v.2.1, .int .i64 s4v.2.2.1, .int .i64 s4v.2.2.2.1, .int .i64 s4v.2.2.2.2.1, .int .i64 s4v.2.2.2.2.2.1, str s4v.2.2.2.2.2.2.1, str s4v.2.2.2.2.2.2.2.1, str s4v.2.2.2.2.2.2.2.2.1], F]) rfl rfl rfl rfl rfl rfl Tryd.call15 (.sel 0 rfl (.sel 0 rfl (.nil _))) (synodref_Num.calls _ _ s4v.2.2.2.2.2.2.2.2.2 ) hs40v) rfl rfl rfl rfl rfl rfl ?_
 intro y41v
 refine simL_valg (q_eql rfl rfl rfl) rfl rfl rfl rfl rfl rfl ?_
 refine vq (q_pick rfl rfl rfl rfl rfl) rfl (simL_nil ?_)
 exact nrm_cut (s := decide (s39v = (0 : Int))) () ⟨rfl, rfl, rfl, rfl, trivial⟩ (.sel 1 rfl (.nil _))
 rw [hb43v]
 refine simL_skipd rfl rfl rfl rfl rfl rfl ?_
 refine simL_skipd rfl rfl rfl rfl rfl rfl ?_
 refine simL_skipd rfl rfl rfl rfl rfl rfl ?_
 refine vq (q_pick rfl rfl rfl rfl rfl) rfl (simL_nil ?_)
 exact nrm_cut (s := false) () ⟨rfl, rfl, rfl, rfl, trivial⟩ (.sel 1 rfl (.nil _))
 intro s37v y38v
 refine vm rfl rfl ?_
 refine simL_cut' 4 (S := Bool) (Unit) (fun s y => [(7, str s12v.1), (8, .int .i64 s12v.2), (48, .bool s)]) (fun s y => [F]) ?_ ?_
 refine simL_caseb (fun hb49v => ?_) (fun hb50v => ?_)
 rw [hb49v]
 refine simL_valg (q_move rfl rfl) rfl rfl rfl rfl rfl rfl ?_
 refine simL_bind (fun s46v hs47v => ?_)
 refine simL_effg (re_call (vs := [.int .i64 s8v.2.2.2.2.2.2.2.2.2]) (cap := []) (A := []) (rst := [F]) rfl rfl rfl rfl rfl rfl Tryd.call15 (.sel 0 rfl (.nil _)) (synodref_Num.calls _ _ s8v.2.2.2.2.2.2.2.2.2 ) hs47v) rfl rfl rfl rfl rfl rfl ?_
 intro y48v
 refine simL_valg (q_eql rfl rfl rfl) rfl rfl rfl rfl rfl rfl ?_
 refine vq (q_pick rfl rfl rfl rfl rfl) rfl (simL_nil ?_)
 exact nrm_cut (s := decide (s46v = (22 : Int))) () ⟨rfl, rfl, rfl, trivial⟩ (.sel 0 rfl (.nil _))
 rw [hb50v]
 refine simL_skipd rfl rfl rfl rfl rfl rfl ?_
 refine simL_skipd rfl rfl rfl rfl rfl rfl ?_
 refine simL_skipd rfl rfl rfl rfl rfl rfl ?_
 refine vq (q_pick rfl rfl rfl rfl rfl) rfl (simL_nil ?_)
 exact nrm_cut (s := false) () ⟨rfl, rfl, rfl, trivial⟩ (.sel 0 rfl (.nil _))
 intro s44v y45v
 refine vm rfl rfl ?_
 refine simL_valc (b := s44v) (fun hb59v => RQ.sub (E' := [(7, str s12v.1)]) ⟨rfl, trivial⟩ (q_move rfl rfl)) rfl rfl rfl rfl rfl ?_
 refine simL_valc (b := s44v) (fun hb58v => RQ.sub (E' := [(50, str s12v.1)]) ⟨lk_cv rfl hb58v, trivial⟩ (q_eqs rfl rfl rfl)) rfl rfl rfl rfl rfl ?_
 refine vq (q_and rfl rfl rfl) rfl ?_
 refine vm rfl rfl ?_
 refine simL_cut' 4 (S := Bool) (Unit) (fun s y => [(57, .bool s)]) (fun s y => [F]) ?_ ?_
 refine simL_caseb (fun hb56v => ?_) (fun hb57v => ?_)
 rw [hb56v]
 refine simL_valg (q_move rfl rfl) rfl rfl rfl rfl rfl rfl ?_
 refine simL_bind (fun s53v hs54v => ?_)
 refine simL_effg (re_call (vs := [.int .i64 s12v.2]) (cap := []) (A := []) (rst := [F]) rfl rfl rfl rfl rfl rfl Tryd.call15 (.sel 0 rfl (.nil _)) (synodref_Num.calls _ _ s12v.2 ) hs54v) rfl rfl rfl rfl rfl rfl ?_
 intro y55v
 refine simL_valg (q_eql rfl rfl rfl) rfl rfl rfl rfl rfl rfl ?_
 refine vq (q_pick rfl rfl rfl rfl rfl) rfl (simL_nil ?_)
 exact nrm_cut (s := decide (s53v = (0 : Int))) () ⟨rfl, trivial⟩ (.sel 0 rfl (.nil _))
 rw [hb57v]
 refine simL_skipd rfl rfl rfl rfl rfl rfl ?_
 refine simL_skipd rfl rfl rfl rfl rfl rfl ?_
 refine simL_skipd rfl rfl rfl rfl rfl rfl ?_
 refine vq (q_pick rfl rfl rfl rfl rfl) rfl (simL_nil ?_)
 exact nrm_cut (s := false) () ⟨rfl, trivial⟩ (.sel 0 rfl (.nil _))
 intro s51v y52v
 refine va rfl rfl (simL_nil (nrm_then (sim_rtn ?_)))
 exact rtn_fn () rfl rfl rfl (.sel 0 rfl (.nil _))

def synodref17_plain.f (x0 : Int) : Option (Bool) := some ((((decide ((32 : Int) ≤ x0)) && (decide (x0 ≤ (126 : Int)))) && (!decide (x0 = (34 : Int)))) && (!decide (x0 = (92 : Int))))
theorem synodref17_plain.calls (W : World) (F : HA) (x0 : Int)  :
    Fn Tryd.prog W 42 [.int .u8 x0] [] F (synodref17_plain.f x0) (fun (r : Bool) (y : Unit) => .bool r) (fun r y => []) := by
 unfold synodref17_plain.f
 refine fn_intro 17 Tryd.func42 rfl Tryd.ntmps42 rfl ?_
 refine sr ?_
 refine va rfl rfl (nx ?_)
 refine vm rfl rfl ?_
 refine vq (q_geq rfl rfl rfl) rfl ?_
 refine vm rfl rfl ?_
 refine simL_valc (b := decide ((32 : Int) ≤ x0)) (fun hb6v => RQ.sub (E' := [(0, .int .u8 x0)]) ⟨rfl, trivial⟩ (q_move rfl rfl)) rfl rfl rfl rfl rfl ?_
 refine simL_valc (b := decide ((32 : Int) ≤ x0)) (fun hb5v => RQ.sub (E' := [(6, .int .u8 x0)]) ⟨lk_cv rfl hb5v, trivial⟩ (q_leq rfl rfl rfl)) rfl rfl rfl rfl rfl ?_
 refine vq (q_and rfl rfl rfl) rfl ?_
 refine vm rfl rfl ?_
 refine simL_valc (b := (decide ((32 : Int) ≤ x0)) && (decide (x0 ≤ (126 : Int)))) (fun hb4v => RQ.sub (E' := [(0, .int .u8 x0)]) ⟨rfl, trivial⟩ (q_move rfl rfl)) rfl rfl rfl rfl rfl ?_
 refine simL_valc (b := (decide ((32 : Int) ≤ x0)) && (decide (x0 ≤ (126 : Int)))) (fun hb3v => RQ.sub (E' := [(10, .int .u8 x0)]) ⟨lk_cv rfl hb3v, trivial⟩ (q_neq rfl rfl rfl)) rfl rfl rfl rfl rfl ?_
 refine vq (q_and rfl rfl rfl) rfl ?_
 refine vm rfl rfl ?_
 refine simL_valc (b := ((decide ((32 : Int) ≤ x0)) && (decide (x0 ≤ (126 : Int)))) && (!decide (x0 = (34 : Int)))) (fun hb2v => RQ.sub (E' := [(0, .int .u8 x0)]) ⟨rfl, trivial⟩ (q_move rfl rfl)) rfl rfl rfl rfl rfl ?_
 refine simL_valc (b := ((decide ((32 : Int) ≤ x0)) && (decide (x0 ≤ (126 : Int)))) && (!decide (x0 = (34 : Int)))) (fun hb1v => RQ.sub (E' := [(14, .int .u8 x0)]) ⟨lk_cv rfl hb1v, trivial⟩ (q_neq rfl rfl rfl)) rfl rfl rfl rfl rfl ?_
 refine vq (q_and rfl rfl rfl) rfl ?_
 refine va rfl rfl (simL_nil (nrm_then (sim_rtn ?_)))
 exact rtn_fn () rfl rfl rfl (.sel 0 rfl (.nil _))

def synodref17_digit.f (x0 : Int) : Option (Int) := if 0 ≤ x0 ∧ x0 < (([48, 49, 50, 51, 52, 53, 54, 55, 56, 57, 97, 98, 99, 100, 101, 102] : List UInt8).length : Int) then (some ((([48, 49, 50, 51, 52, 53, 54, 55, 56, 57, 97, 98, 99, 100, 101, 102] : List UInt8).getD x0.toNat 0).toNat : Int)) else none
theorem synodref17_digit.calls (W : World) (F : HA) (x0 : Int)  :
    Fn Tryd.prog W 43 [.int .i64 x0] [] F (synodref17_digit.f x0) (fun (r : Int) (y : Unit) => .int .u8 r) (fun r y => []) := by
 unfold synodref17_digit.f
 refine fn_intro 5 Tryd.func43 rfl Tryd.ntmps43 rfl ?_
 refine sr ?_
 refine va rfl rfl (nx ?_)
 refine vm rfl rfl ?_
 refine simL_ask (fun hi1v => ?_)
 refine vq (q_sidx rfl rfl rfl Tryd.underlying9 hi1v.1 hi1v.2) rfl ?_
 refine va rfl rfl (simL_nil (nrm_then (sim_rtn ?_)))
 exact rtn_fn () rfl rfl rfl (.sel 0 rfl (.nil _))

def synodref17_value.l0 (x0 : Int) : Nat → Int → Option ((Unit) ⊕ (Int))
  | 0, _ => none
  | k + 1, z5v => if z5v < (16 : Int) then ((synodref17_digit.f z5v).bind fun s8v => (if s8v = x0 then (some (.inr z5v)) else (synodref17_value.l0 x0 k (IntKind.i64.wrap (z5v + 1))))) else (some (.inl ()))
def synodref17_value.f (k : Nat) (x0 : Int) : Option (Int) := orR (synodref17_value.l0 x0 k 0) fun s1v => (some (-1))
theorem synodref17_value.calls (W : World) (F : HA) (k : Nat) (x0 : Int)  :
    Fn Tryd.prog W 64 [.int .u8 x0] [] F (synodref17_value.f k x0) (fun (r : Int) (y : Unit) => .int .i64 r) (fun r y => []) := by
 unfold synodref17_value.f
 refine fn_intro 13 Tryd.func64 rfl Tryd.ntmps64 rfl ?_
 refine sr ?_
 refine va rfl rfl (simL_nil (nrm_then ?_))
 refine sim_cutR (S := Unit) (Unit) (fun s y => []) (fun s y => [F]) ?_ ?_
 refine sr ?_
 refine va rfl rfl (simL_nil (nrm_then ?_))
 refine sim_block ?_
 refine sim_loop (S := Int) (Unit) (fun k s => synodref17_value.l0 x0 k s) (fun s y => [(0, .int .u8 x0), (3, .int .i64 s)]) (fun s y => [F]) (fun _ => by rw [synodref17_value.l0]) ?_ k 0 () ⟨rfl, rfl, trivial⟩ (.sel 0 rfl (.nil _))
 intro k s3v y4v
 refine sim_eq (by rw [synodref17_value.l0]) ?_
 refine sim_seq (sr ?_)
 refine vm rfl rfl ?_
 refine vq (q_lss rfl rfl rfl) rfl (simL_nil (nrm_then ?_))
 refine sim_cond rfl (fun h6v => ?_) (fun h7v => ?_)
 refine sim_skip ?_
 refine nrm_then (sim_seq ?_)
 refine sim_block ?_
 refine sr ?_
 refine vm rfl rfl ?_
 refine simL_bind (fun s8v hs9v => ?_)
 refine simL_eff (re_call (vs := [.int .i64 s3v]) (cap := []) (A := []) (rst := [F]) rfl rfl rfl rfl rfl rfl Tryd.call43 (.sel 0 rfl (.nil _)) (synodref17_digit.calls _ _ s3v ) hs9v) rfl rfl rfl ?_
 intro y10v
 refine vm rfl rfl ?_
 refine vq (q_eql rfl rfl rfl) rfl (simL_nil (nrm_then ?_))
 refine sim_cond rfl (fun h11v => ?_) (fun h12v => ?_)
 refine sr ?_
 refine vm rfl rfl ?_
 refine va rfl rfl (simL_nil (nrm_then (sim_rtn ?_)))
 refine rtn_block ?_
 refine rtn_then ?_
 refine rtn_loop ?_
 refine rtn_block ?_
 refine rtn_cutR ?_
 exact rtn_fn () rfl rfl rfl (.sel 0 rfl (.nil _))
 refine sim_skip ?_
 refine nrm_block (nrm_then (sim_region ?_))
 refine vm rfl rfl ?_
 refine vq (q_add rfl rfl rfl) rfl ?_
 refine va rfl rfl (simL_nil ?_)
 exact nrm_again (s := IntKind.i64.wrap (s3v + 1)) () ⟨rfl, rfl, trivial⟩ (.sel 0 rfl (.nil _))
 refine sim_exi ?_
 refine exi_then ?_
 refine exi_loop ?_
 refine exi_here ?_
 exact nrm_cutR (s := ()) () trivial (.sel 0 rfl (.nil _))
 intro s1v y2v
 refine sr ?_
 refine va rfl rfl (simL_nil (nrm_then (sim_rtn ?_)))
 exact rtn_fn () rfl rfl rfl (.sel 0 rfl (.nil _))

def synodref17_quoted.l0 (x0 : List UInt8) : Nat → List UInt8 → Int → Option ((Unit) ⊕ (List UInt8 × Int))
  | 0, _, _ => none
  | k + 1, z5v, z6v => if z6v < (x0.length : Int) then (if 0 ≤ z6v ∧ z6v < (x0.length : Int) then (if ((x0.getD z6v.toNat 0).toNat : Int) = (34 : Int) then (some (.inr (z5v, IntKind.i64.wrap (z6v + 1)))) else ((synodref17_plain.f ((x0.getD z6v.toNat 0).toNat : Int)).bind fun s12v => (if s12v = true then (if (z5v.length + ([(x0.getD z6v.toNat 0)] : List UInt8).length) * 1 ≤ 140737488355328 then (synodref17_quoted.l0 x0 k (z5v ++ ([(x0.getD z6v.toNat 0)] : List UInt8)) (IntKind.i64.wrap (z6v + 1))) else none) else (if ((!decide (((x0.getD z6v.toNat 0).toNat : Int) = (92 : Int))) || (decide ((x0.length : Int) ≤ IntKind.i64.wrap (z6v + 1)))) = true then (some (.inr (([] : List UInt8), (-1)))) else (if 0 ≤ IntKind.i64.wrap (z6v + 1) ∧ IntKind.i64.wrap (z6v + 1) < (x0.length : Int) then (if ((decide (((x0.getD (IntKind.i64.wrap (z6v + 1)).toNat 0).toNat : Int) = (34 : Int))) || (decide (((x0.getD (IntKind.i64.wrap (z6v + 1)).toNat 0).toNat : Int) = (92 : Int)))) = true then (if (z5v.length + ([(x0.getD (IntKind.i64.wrap (z6v + 1)).toNat 0)] : List UInt8).length) * 1 ≤ 140737488355328 then (synodref17_quoted.l0 x0 k (z5v ++ ([(x0.getD (IntKind.i64.wrap (z6v + 1)).toNat 0)] : List UInt8)) (IntKind.i64.wrap (z6v + 2))) else none) else ((if ((!decide (((x0.getD (IntKind.i64.wrap (z6v + 1)).toNat 0).toNat : Int) = (120 : Int))) || (decide ((x0.length : Int) ≤ IntKind.i64.wrap (z6v + 3)))) = true then (some true) else (if 0 ≤ IntKind.i64.wrap (z6v + 2) ∧ IntKind.i64.wrap (z6v + 2) < (x0.length : Int) then ((synodref17_value.f k ((x0.getD (IntKind.i64.wrap (z6v + 2)).toNat 0).toNat : Int)).bind fun s33v => (some (decide (s33v < (0 : Int))))) else none)).bind fun s30v => ((if s30v = true then (some true) else (if 0 ≤ IntKind.i64.wrap (z6v + 3) ∧ IntKind.i64.wrap (z6v + 3) < (x0.length : Int) then ((synodref17_value.f k ((x0.getD (IntKind.i64.wrap (z6v + 3)).toNat 0).toNat : Int)).bind fun s41v => (some (decide (s41v < (0 : Int))))) else none)).bind fun s38v => (if s38v = true then (some (.inr (([] : List UInt8), (-1)))) else (if 0 ≤ IntKind.i64.wrap (z6v + 2) ∧ IntKind.i64.wrap (z6v + 2) < (x0.length : Int) then ((synodref17_value.f k ((x0.getD (IntKind.i64.wrap (z6v + 2)).toNat 0).toNat : Int)).bind fun s49v => (if 0 ≤ IntKind.i64.wrap (z6v + 3) ∧ IntKind.i64.wrap (z6v + 3) < (x0.length : Int) then ((synodref17_value.f k ((x0.getD (IntKind.i64.wrap (z6v + 3)).toNat 0).toNat : Int)).bind fun s53v => (if ((decide ((32 : Int) ≤ IntKind.u8.wrap (IntKind.i64.wrap ((IntKind.i64.wrap (16 * s49v)) + s53v)))) && (decide (IntKind.u8.wrap (IntKind.i64.wrap ((IntKind.i64.wrap (16 * s49v)) + s53v)) ≤ (126 : Int)))) = true then (some (.inr (([] : List UInt8), (-1)))) else (if 0 ≤ IntKind.u8.wrap (IntKind.i64.wrap ((IntKind.i64.wrap (16 * s49v)) + s53v)) ∧ IntKind.u8.wrap (IntKind.i64.wrap ((IntKind.i64.wrap (16 * s49v)) + s53v)) < 256 then (if (z5v.length + ([(byte (IntKind.u8.wrap (IntKind.i64.wrap ((IntKind.i64.wrap (16 * s49v)) + s53v))))] : List UInt8).length) * 1 ≤ 140737488355328 then (synodref17_quoted.l0 x0 k (z5v ++ ([(byte (IntKind.u8.wrap (IntKind.i64.wrap ((IntKind.i64.wrap (16 * s49v)) + s53v))))] : List UInt8)) (IntKind.i64.wrap (z6v + 4))) else none) else none))) else none)) else none))))) else none))))) else none) else (some (.inl ()))
def synodref17_quoted.f (k : Nat) (x0 : List UInt8) (x1 : Int) : Option (List UInt8 × Int) := orR (synodref17_quoted.l0 x0 k ([] : List UInt8) (IntKind.i64.wrap (x1 + 1))) fun s1v => (some (([] : List UInt8), (-1)))
theorem synodref17_quoted.calls (W : World) (F : HA) (k : Nat) (x0 : List UInt8) (x1 : Int)  :
    Fn Tryd.prog W 39 [str x0, .int .i64 x1] [] F (synodref17_quoted.f k x0 x1) (fun (r : List UInt8 × Int) (y : Unit) => .tuple #[str r.1, .int .i64 r.2]) (fun r y => []) := by
 unfold synodref17_quoted.f
 refine fn_intro 109 Tryd.func39 rfl Tryd.ntmps39 rfl ?_
 refine sr ?_
 refine va rfl rfl ?_
 refine va rfl rfl (nx ?_)
 refine va rfl rfl (nx ?_)
 refine vm rfl rfl ?_
 refine vq (q_add rfl rfl rfl) rfl ?_
 refine va rfl rfl (simL_nil (nrm_then ?_))
 refine sim_cutR (S := Unit) (Unit) (fun s y => []) (fun s y => [F]) ?_ ?_
 refine sim_block ?_
 refine sim_loop (S := List UInt8 × Int) (Option Addr × Nat) (fun k s => synodref17_quoted.l0 x0 k s.1 s.2) (fun s y => [(0, str x0), (6, .slice y.1 s.1.length y.2), (7, .int .i64 s.2)]) (fun s y => [Row 5 1 y.1 s.1.length y.2 (encB s.1), F]) (fun _ => by rw [synodref17_quoted.l0]) ?_ k (([] : List UInt8), IntKind.i64.wrap (x1 + 1)) (none, 0) ⟨rfl, rfl, rfl, trivial⟩ (.row_nil (.sel 0 rfl (.nil _)))
 intro k s3v y4v
 refine sim_eq (by rw [synodref17_quoted.l0]) ?_
 refine sim_seq (sr ?_)
 refine vm rfl rfl ?_
 refine vm rfl rfl ?_
 refine vq (q_lens rfl rfl rfl Tryd.underlying9) rfl ?_
 refine vq (q_lss rfl rfl rfl) rfl (simL_nil (nrm_then ?_))
 refine sim_cond rfl (fun h7v => ?_) (fun h8v => ?_)
 refine sim_skip ?_
 refine nrm_then ?_
 refine sim_block ?_
 refine sr ?_
 refine vm rfl rfl ?_
 refine vm rfl rfl ?_
 refine simL_ask (fun hi9v => ?_)
 refine vq (q_sidx rfl rfl rfl Tryd.underlying9 hi9v.1 hi9v.2) rfl ?_
 refine va rfl rfl (simL_nil (nrm_then (sim_seq (sr ?_))))
 refine vm rfl rfl ?_
 refine vq (q_eql rfl rfl rfl) rfl (simL_nil (nrm_then ?_))
 refine sim_cond rfl (fun h10v => ?_) (fun h11v => ?_)
 refine sr ?_
 refine vm rfl rfl ?_
 refine vq (q_tostr rfl rfl Tryd.underlying93 Tryd.underlying5 Tryd.underlying9 (Rds.row 0 rfl) rfl) rfl ?_
 refine vm rfl rfl ?_
 refine vq (q_add rfl rfl rfl) rfl ?_
 refine va rfl rfl ?_
 refine va rfl rfl (simL_nil (nrm_then (sim_rtn ?_)))
 refine rtn_then ?_
 refine rtn_block ?_
 refine rtn_loop ?_
 refine rtn_block ?_
 refine rtn_cutR ?_
 exact rtn_fn () rfl rfl rfl (.sel 1 rfl (.nil _))
 refine sim_skip ?_
 refine nrm_then (sim_seq (sr ?_))
 refine vm rfl rfl ?_
 refine simL_bind (fun s12v hs13v => ?_)
 refine simL_eff (re_call (vs := [.int .u8 ((x0.getD s3v.2.toNat 0).toNat : Int)]) (cap := []) (A := []) (rst := [Row 5 1 y4v.1 s3v.1.length y4v.2 (encB s3v.1), F]) rfl rfl rfl rfl rfl rfl Tryd.call42 (.sel 0 rfl (.sel 0 rfl (.nil _))) (synodref17_plain.calls _ _ ((x0.getD s3v.2.toNat 0).toNat : Int) ) hs13v) rfl rfl rfl ?_
 intro y14v
 refine simL_nil (nrm_then ?_)
 refine sim_condb rfl (fun h15v => ?_) (fun h16v => ?_)
 refine sr ?_
 refine vm rfl rfl ?_
 refine vm rfl rfl ?_
 refine simL_eff (re_litb (cs := [.int .u8 ((x0.getD s3v.2.toNat 0).toNat : Int)]) ([(x0.getD s3v.2.toNat 0)] : List UInt8) rfl rfl Tryd.underlying93 elt5 rfl (by kernel_rfl) rfl rfl rfl) rfl rfl rfl ?_
 intro b17v
 refine simL_ask (fun hb20v => ?_)
 refine simL_eff (re_appendb 1 rfl rfl rfl Tryd.underlying93 elt5 rfl (Rds.row 0 rfl) hb20v) rfl rfl rfl ?_
 intro y19v
 refine va rfl rfl (nx ?_)
 refine vm rfl rfl ?_
 refine vq (q_add rfl rfl rfl) rfl ?_
 refine va rfl rfl (simL_nil (nrm_then ?_))
 refine sim_exi ?_
 refine exi_then ?_
 refine exi_here ?_
 exact nrm_again (s := (s3v.1 ++ ([(x0.getD s3v.2.toNat 0)] : List UInt8), IntKind.i64.wrap (s3v.2 + 1))) (y19v.1, y19v.2) ⟨rfl, rfl, rfl, trivial⟩ (.sel 1 rfl (.sel 1 rfl (.nil _)))
 refine sim_skip ?_
 refine nrm_then (sim_seq (sr ?_))
 refine vm rfl rfl ?_
 refine vq (q_neq rfl rfl rfl) rfl ?_
 refine vm rfl rfl ?_
 refine simL_valc (b := !decide (((x0.getD s3v.2.toNat 0).toNat : Int) = (92 : Int))) (fun hb76v => RQ.sub (E' := [(7, .int .i64 s3v.2)]) ⟨rfl, trivial⟩ (q_move rfl rfl)) rfl rfl rfl rfl rfl ?_
 refine simL_valc (b := !decide (((x0.getD s3v.2.toNat 0).toNat : Int) = (92 : Int))) (fun hb75v => RQ.sub (E' := [(37, .int .i64 s3v.2)]) ⟨lk_cv rfl hb75v, trivial⟩ (q_add rfl rfl rfl)) rfl rfl rfl rfl rfl ?_
 refine simL_valc (b := !decide (((x0.getD s3v.2.toNat 0).toNat : Int) = (92 : Int))) (fun hb74v => RQ.sub (E' := [(0, str x0)]) ⟨rfl, trivial⟩ (q_move rfl rfl)) rfl rfl rfl rfl rfl ?_
 refine simL_valc (b := !decide (((x0.getD s3v.2.toNat 0).toNat : Int) = (92 : Int))) (fun hb73v => RQ.sub (E' := [(39, str x0)]) ⟨lk_cv rfl hb73v, trivial⟩ (q_lens rfl rfl rfl Tryd.underlying9)) rfl rfl rfl rfl rfl ?_
 refine simL_valc (b := !decide (((x0.getD s3v.2.toNat 0).toNat : Int) = (92 : Int))) (fun hb72v => RQ.sub (E' := [(38, .int .i64 (IntKind.i64.wrap (s3v.2 + 1))), (40, .int .i64 (x0.length : Int))]) ⟨lk_cv rfl hb72v, lk_cv rfl hb72v, trivial⟩ (q_geq rfl rfl rfl)) rfl rfl rfl rfl rfl ?_
 refine vq (q_or rfl rfl rfl) rfl (simL_nil (nrm_then ?_))
 refine sim_condb rfl (fun h21v => ?_) (fun h22v => ?_)
 refine sr ?_
 refine va rfl rfl ?_
 refine va rfl rfl (simL_nil (nrm_then (sim_rtn ?_)))
 refine rtn_then ?_
 refine rtn_block ?_
 refine rtn_loop ?_
 refine rtn_block ?_
 refine rtn_cutR ?_
 exact rtn_fn () rfl rfl rfl (.sel 1 rfl (.nil _))
 refine sim_skip ?_
 refine nrm_then (sr ?_)
 refine vm rfl rfl ?_
 refine vm rfl rfl ?_
 refine vq (q_add rfl rfl rfl) rfl ?_
 refine simL_ask (fun hi23v => ?_)
 refine vq (q_sidx rfl rfl rfl Tryd.underlying9 hi23v.1 hi23v.2) rfl ?_
 refine va rfl rfl (simL_nil (nrm_then (sim_seq (sr ?_))))
 refine vm rfl rfl ?_
 refine vq (q_eql rfl rfl rfl) rfl ?_
 refine vm rfl rfl ?_
 refine simL_valc (b := decide (((x0.getD (IntKind.i64.wrap (s3v.2 + 1)).toNat 0).toNat : Int) = (34 : Int))) (fun hb71v => RQ.sub (E' := [(9, .int .u8 ((x0.getD (IntKind.i64.wrap (s3v.2 + 1)).toNat 0).toNat : Int))]) ⟨rfl, trivial⟩ (q_move rfl rfl)) rfl rfl rfl rfl rfl ?_
 refine simL_valc (b := decide (((x0.getD (IntKind.i64.wrap (s3v.2 + 1)).toNat 0).toNat : Int) = (34 : Int))) (fun hb70v => RQ.sub (E' := [(50, .int .u8 ((x0.getD (IntKind.i64.wrap (s3v.2 + 1)).toNat 0).toNat : Int))]) ⟨lk_cv rfl hb70v, trivial⟩ (q_eql rfl rfl rfl)) rfl rfl rfl rfl rfl ?_
 refine vq (q_or rfl rfl rfl) rfl (simL_nil (nrm_then ?_))
 refine sim_condb rfl (fun h24v => ?_) (fun h25v => ?_)
 refine sr ?_
 refine vm rfl rfl ?_
 refine vm rfl rfl ?_
 refine simL_eff (re_litb (cs := [.int .u8 ((x0.getD (IntKind.i64.wrap (s3v.2 + 1)).toNat 0).toNat : Int)]) ([(x0.getD (IntKind.i64.wrap (s3v.2 + 1)).toNat 0)] : List UInt8) rfl rfl Tryd.underlying93 elt5 rfl (by kernel_rfl) rfl rfl rfl) rfl rfl rfl ?_
 intro b26v
 refine simL_ask (fun hb29v => ?_)
 refine simL_eff (re_appendb 1 rfl rfl rfl Tryd.underlying93 elt5 rfl (Rds.row 0 rfl) hb29v) rfl rfl rfl ?_
 intro y28v
 refine va rfl rfl (nx ?_)
 refine vm rfl rfl ?_
 refine vq (q_add rfl rfl rfl) rfl ?_
 refine va rfl rfl (simL_nil (nrm_then ?_))
 refine sim_exi ?_
 refine exi_then ?_
 refine exi_here ?_
 exact nrm_again (s := (s3v.1 ++ ([(x0.getD (IntKind.i64.wrap (s3v.2 + 1)).toNat 0)] : List UInt8), IntKind.i64.wrap (s3v.2 + 2))) (y28v.1, y28v.2) ⟨rfl, rfl, rfl, trivial⟩ (.sel 1 rfl (.sel 1 rfl (.nil _)))
 refine sim_skip ?_
 refine nrm_then (sim_seq (sr ?_))
 refine vm rfl rfl ?_
 refine vq (q_neq rfl rfl rfl) rfl ?_
 refine vm rfl rfl ?_
 refine simL_valc (b := !decide (((x0.getD (IntKind.i64.wrap (s3v.2 + 1)).toNat 0).toNat : Int) = (120 : Int))) (fun hb69v => RQ.sub (E' := [(7, .int .i64 s3v.2)]) ⟨rfl, trivial⟩ (q_move rfl rfl)) rfl rfl rfl rfl rfl ?_
 refine simL_valc (b := !decide (((x0.getD (IntKind.i64.wrap (s3v.2 + 1)).toNat 0).toNat : Int) = (120 : Int))) (fun hb68v => RQ.sub (E' := [(62, .int .i64 s3v.2)]) ⟨lk_cv rfl hb68v, trivial⟩ (q_add rfl rfl rfl)) rfl rfl rfl rfl rfl ?_
 refine simL_valc (b := !decide (((x0.getD (IntKind.i64.wrap (s3v.2 + 1)).toNat 0).toNat : Int) = (120 : Int))) (fun hb67v => RQ.sub (E' := [(0, str x0)]) ⟨rfl, trivial⟩ (q_move rfl rfl)) rfl rfl rfl rfl rfl ?_
 refine simL_valc (b := !decide (((x0.getD (IntKind.i64.wrap (s3v.2 + 1)).toNat 0).toNat : Int) = (120 : Int))) (fun hb66v => RQ.sub (E' := [(64, str x0)]) ⟨lk_cv rfl hb66v, trivial⟩ (q_lens rfl rfl rfl Tryd.underlying9)) rfl rfl rfl rfl rfl ?_
 refine simL_valc (b := !decide (((x0.getD (IntKind.i64.wrap (s3v.2 + 1)).toNat 0).toNat : Int) = (120 : Int))) (fun hb65v => RQ.sub (E' := [(63, .int .i64 (IntKind.i64.wrap (s3v.2 + 3))), (65, .int .i64 (x0.length : Int))]) ⟨lk_cv rfl hb65v, lk_cv rfl hb65v, trivial⟩ (q_geq rfl rfl rfl)) rfl rfl rfl rfl rfl ?_
 refine vq (q_or rfl rfl rfl) rfl ?_
 refine vm rfl rfl ?_
 refine simL_cut' 7 (S := Bool) (Unit) (fun s y => [(0, str x0), (6, .slice y4v.1 s3v.1.length y4v.2), (7, .int .i64 s3v.2), (75, .bool s)]) (fun s y => [Row 5 1 y4v.1 s3v.1.length y4v.2 (encB s3v.1), F]) ?_ ?_
 refine simL_caseb (fun hb36v => ?_) (fun hb37v => ?_)
 rw [hb36v]
 refine simL_skipd rfl rfl rfl rfl rfl rfl ?_
 refine simL_skipd rfl rfl rfl rfl rfl rfl ?_
 refine simL_skipd rfl rfl rfl rfl rfl rfl ?_
 refine simL_skipd rfl rfl rfl rfl rfl rfl ?_
 refine simL_skipd rfl rfl rfl rfl rfl rfl ?_
 refine simL_skipd rfl rfl rfl rfl rfl rfl ?_
 refine vq (q_pick rfl rfl rfl rfl rfl) rfl (simL_nil ?_)
 exact nrm_cut (s := true) () ⟨rfl, rfl, rfl, rfl, trivial⟩ (.sel 0 rfl (.sel 0 rfl (.nil _)))
 rw [hb37v]
 refine simL_valg (q_move rfl rfl) rfl rfl rfl rfl rfl rfl ?_
 refine simL_valg (q_move rfl rfl) rfl rfl rfl rfl rfl rfl ?_
 refine simL_valg (q_add rfl rfl rfl) rfl rfl rfl rfl rfl rfl ?_
 refine simL_ask (fun hi32v => ?_)
 refine simL_valg (q_sidx rfl rfl rfl Tryd.underlying9 hi32v.1 hi32v.2) rfl rfl rfl rfl rfl rfl ?_
 refine simL_bind (fun s33v hs34v => ?_)
 refine simL_effg (re_call (vs := [.int .u8 ((x0.getD (IntKind.i64.wrap (s3v.2 + 2)).toNat 0).toNat : Int)]) (cap := []) (A := []) (rst := [Row 5 1 y4v.1 s3v.1.length y4v.2 (encB s3v.1), F]) rfl rfl rfl rfl rfl rfl Tryd.call64 (.sel 0 rfl (.sel 0 rfl (.nil _))) (synodref17_value.calls _ _ k ((x0.getD (IntKind.i64.wrap (s3v.2 + 2)).toNat 0).toNat : Int) ) hs34v) rfl rfl rfl rfl rfl rfl ?_
 intro y35v
 refine simL_valg (q_lss rfl rfl rfl) rfl rfl rfl rfl rfl rfl ?_
 refine vq (q_pick rfl rfl rfl rfl rfl) rfl (simL_nil ?_)
 exact nrm_cut (s := decide (s33v < (0 : Int))) () ⟨rfl, rfl, rfl, rfl, trivial⟩ (.sel 0 rfl (.sel 0 rfl (.nil _)))
 intro s30v y31v
 refine vm rfl rfl ?_
 refine simL_cut' 7 (S := Bool) (Unit) (fun s y => [(0, str x0), (6, .slice y4v.1 s3v.1.length y4v.2), (7, .int .i64 s3v.2), (83, .bool s)]) (fun s y => [Row 5 1 y4v.1 s3v.1.length y4v.2 (encB s3v.1), F]) ?_ ?_
 refine simL_caseb (fun hb44v => ?_) (fun hb45v => ?_)
 rw [hb44v]
 refine simL_skipd rfl rfl rfl rfl rfl rfl ?_
 refine simL_skipd rfl rfl rfl rfl rfl rfl ?_
 refine simL_skipd rfl rfl rfl rfl rfl rfl ?_
 refine simL_skipd rfl rfl rfl rfl rfl rfl ?_
 refine simL_skipd rfl rfl rfl rfl rfl rfl ?_
 refine simL_skipd rfl rfl rfl rfl rfl rfl ?_
 refine vq (q_pick rfl rfl rfl rfl rfl) rfl (simL_nil ?_)
 exact nrm_cut (s := true) () ⟨rfl, rfl, rfl, rfl, trivial⟩ (.sel 0 rfl (.sel 0 rfl (.nil _)))
 rw [hb45v]
 refine simL_valg (q_move rfl rfl) rfl rfl rfl rfl rfl rfl ?_
 refine simL_valg (q_move rfl rfl) rfl rfl rfl rfl rfl rfl ?_
 refine simL_valg (q_add rfl rfl rfl) rfl rfl rfl rfl rfl rfl ?_
 refine simL_ask (fun hi40v => ?_)
 refine simL_valg (q_sidx rfl rfl rfl Tryd.underlying9 hi40v.1 hi40v.2) rfl rfl rfl rfl rfl rfl ?_
 refine simL_bind (fun s41v hs42v => ?_)
 refine simL_effg (re_call (vs := [.int .u8 ((x0.getD (IntKind.i64.wrap (s3v.2 + 3)).toNat 0).toNat : Int)]) (cap := []) (A := []) (rst := [Row 5 1 y4v.1 s3v.1.length y4v.2 (encB s3v.1), F]) rfl rfl rfl rfl rfl rfl Tryd.call64 (.sel 0 rfl (.sel 0 rfl (.nil _))) (synodref17_value.calls _ _ k ((x0.getD (IntKind.i64.wrap (s3v.2 + 3)).toNat 0).toNat : Int) ) hs42v) rfl rfl rfl rfl rfl rfl ?_
 intro y43v
 refine simL_valg (q_lss rfl rfl rfl) rfl rfl rfl rfl rfl rfl ?_
 refine vq (q_pick rfl rfl rfl rfl rfl) rfl (simL_nil ?_)
 exact nrm_cut (s := decide (s41v < (0 : Int))) () ⟨rfl, rfl, rfl, rfl, trivial⟩ (.sel 0 rfl (.sel 0 rfl (.nil _)))
 intro s38v y39v
 refine simL_nil (nrm_then ?_)
 refine sim_condb rfl (fun h46v => ?_) (fun h47v => ?_)
 refine sr ?_
 refine va rfl rfl ?_
 refine va rfl rfl (simL_nil (nrm_then (sim_rtn ?_)))
 refine rtn_then ?_
 refine rtn_block ?_
 refine rtn_loop ?_
 refine rtn_block ?_
 refine rtn_cutR ?_
 exact rtn_fn () rfl rfl rfl (.sel 1 rfl (.nil _))
 refine sim_skip ?_
 refine nrm_then (sim_seq ?_)
 refine sim_ask (fun hi48v => ?_)
 refine sim_bind (fun s49v hs50v => ?_)
 refine sim_ask (fun hi52v => ?_)
 refine sim_bind (fun s53v hs54v => ?_)
 refine sim_draw (Γ := Unit) () [[], [], [1], [0, 1, 2], rL 4, rL 5, [], [], [7], [6, 7, 8], [0, 1, 2, 3, 4, 6, 7, 8, 9], rL 11, rL 12, rL 13] [4, 10] [0, 1, 2, 3, 5, 6, 7, 8, 9, 11, 12, 13] (fun i => [[0], [0], [0], [0], [], [1, 2], [0, 1], [0, 1], [0, 1], [0, 1], [], [2], [2], [2]].getD i []) (fun i => [[], [], [], [], [0, 1, 2, 3, 6, 7, 8, 9], [], [], [], [], [], rL 10, [], [], []].getD i []) (fun γ i => [str x0, .int .i64 s3v.2, .int .i64 (IntKind.i64.wrap (s3v.2 + 2)), .int .u8 ((x0.getD (IntKind.i64.wrap (s3v.2 + 2)).toNat 0).toNat : Int), .int .i64 s49v, .int .i64 (IntKind.i64.wrap (16 * s49v)), str x0, .int .i64 s3v.2, .int .i64 (IntKind.i64.wrap (s3v.2 + 3)), .int .u8 ((x0.getD (IntKind.i64.wrap (s3v.2 + 3)).toNat 0).toNat : Int), .int .i64 s53v, .int .i64 (IntKind.i64.wrap ((IntKind.i64.wrap (16 * s49v)) + s53v)), .int .u8 (IntKind.u8.wrap (IntKind.i64.wrap ((IntKind.i64.wrap (16 * s49v)) + s53v))), .int .u8 (IntKind.u8.wrap (IntKind.i64.wrap ((IntKind.i64.wrap (16 * s49v)) + s53v)))].getD i undef) (fun j γ => [[Row 5 1 y4v.1 s3v.1.length y4v.2 (encB s3v.1), F], [Row 5 1 y4v.1 s3v.1.length y4v.2 (encB s3v.1), F], [Row 5 1 y4v.1 s3v.1.length y4v.2 (encB s3v.1), F]].getD j []) (fun γ => [(0, str x0), (6, .slice y4v.1 s3v.1.length y4v.2), (7, .int .i64 s3v.2), (10, .int .u8 (IntKind.u8.wrap (IntKind.i64.wrap ((IntKind.i64.wrap (16 * s49v)) + s53v))))]) mixed (by decide) (by decide) (by decide) (by decide) (by decide) (by decide) (by decide) 109 rfl (by decide) (by decide) (by decide) (Ent.refl _) ?_ ?_ (fun _ => ⟨rfl, rfl, rfl, rfl, trivial⟩) ?_
 exact (aq rfl (fun γ => qm rfl (.o (s := 0) rfl (by decide) .nil) rfl) (aq rfl (fun γ => qm rfl (.o (s := 7) rfl (by decide) .nil) rfl) (aq rfl (fun γ => qp rfl rfl (.v 1 rfl rfl .nil) (q_add rfl rfl rfl) rfl) (aq rfl (fun γ => qp rfl rfl (.v 0 rfl rfl (.v 2 rfl rfl .nil)) (q_sidx rfl rfl rfl Tryd.underlying9 hi48v.1 hi48v.2) rfl) (ac (fun γ => (ac (qp rfl rfl (.v 4 rfl rfl .nil) (q_mul rfl rfl rfl) rfl) (ac (qp rfl rfl (.v 4 rfl rfl .nil) (q_mul rfl rfl rfl) rfl) zA))) (ac (fun γ => (ac (qm rfl (.o (s := 0) rfl (by decide) .nil) rfl) (ac (qm rfl (.o (s := 0) rfl (by decide) .nil) rfl) zA))) (ac (fun γ => (ac (qm rfl (.o (s := 7) rfl (by decide) .nil) rfl) (ac (qm rfl (.o (s := 7) rfl (by decide) .nil) rfl) zA))) (ac (fun γ => (ac (qp rfl rfl (.v 7 rfl rfl .nil) (q_add rfl rfl rfl) rfl) (ac (qp rfl rfl (.v 7 rfl rfl .nil) (q_add rfl rfl rfl) rfl) zA))) (ac (fun γ => (ac (qp rfl rfl (.v 6 rfl rfl (.v 8 rfl rfl .nil)) (q_sidx rfl rfl rfl Tryd.underlying9 hi52v.1 hi52v.2) rfl) (ac (qp rfl rfl (.v 6 rfl rfl (.v 8 rfl rfl .nil)) (q_sidx rfl rfl rfl Tryd.underlying9 hi52v.1 hi52v.2) rfl) zA))) (aq rfl (fun γ => qp rfl rfl (.v 5 rfl rfl (.v 10 rfl rfl .nil)) (q_add rfl rfl rfl) rfl) (aq rfl (fun γ => qp rfl rfl (.v 11 rfl rfl .nil) (q_conv rfl rfl Tryd.underlying3 Tryd.underlying5) rfl) (aq rfl (fun γ => qp rfl rfl (.v 12 rfl rfl .nil) (q_asg rfl rfl) rfl) zA))))))))))))
 exact (ac (fun γ => eo (Z := Unit) (fun z => ()) rfl rfl (.v 3 rfl rfl .nil) (re_call (vs := [.int .u8 ((x0.getD (IntKind.i64.wrap (s3v.2 + 2)).toNat 0).toNat : Int)]) (cap := []) (A := []) (rst := [Row 5 1 y4v.1 s3v.1.length y4v.2 (encB s3v.1), F]) rfl rfl rfl rfl rfl rfl Tryd.call64 (.sel 0 rfl (.sel 0 rfl (.nil _))) (synodref17_value.calls _ _ k ((x0.getD (IntKind.i64.wrap (s3v.2 + 2)).toNat 0).toNat : Int) ) hs50v) (fun _ => ⟨rfl, rfl, rfl, rfl, rfl, rfl, rfl, rfl, trivial⟩) (fun _ => .inr rfl) (fun z => Ent.refl _)) (ac (fun γ => eo (Z := Unit) (fun z => ()) rfl rfl (.v 9 rfl rfl .nil) (re_call (vs := [.int .u8 ((x0.getD (IntKind.i64.wrap (s3v.2 + 3)).toNat 0).toNat : Int)]) (cap := []) (A := []) (rst := [Row 5 1 y4v.1 s3v.1.length y4v.2 (encB s3v.1), F]) rfl rfl rfl rfl rfl rfl Tryd.call64 (.sel 0 rfl (.sel 0 rfl (.nil _))) (synodref17_value.calls _ _ k ((x0.getD (IntKind.i64.wrap (s3v.2 + 3)).toNat 0).toNat : Int) ) hs54v) (fun _ => ⟨rfl, rfl, rfl, rfl, rfl, rfl, rfl, rfl, rfl, rfl, trivial⟩) (fun _ => .inr rfl) (fun z => Ent.refl _)) zA))
 intro g56v
 refine nrm_then (sim_seq (sr ?_))
 refine vm rfl rfl ?_
 refine vq (q_geq rfl rfl rfl) rfl ?_
 refine vm rfl rfl ?_
 refine simL_valc (b := decide ((32 : Int) ≤ IntKind.u8.wrap (IntKind.i64.wrap ((IntKind.i64.wrap (16 * s49v)) + s53v)))) (fun hb64v => RQ.sub (E' := [(10, .int .u8 (IntKind.u8.wrap (IntKind.i64.wrap ((IntKind.i64.wrap (16 * s49v)) + s53v))))]) ⟨rfl, trivial⟩ (q_move rfl rfl)) rfl rfl rfl rfl rfl ?_
 refine simL_valc (b := decide ((32 : Int) ≤ IntKind.u8.wrap (IntKind.i64.wrap ((IntKind.i64.wrap (16 * s49v)) + s53v)))) (fun hb63v => RQ.sub (E' := [(100, .int .u8 (IntKind.u8.wrap (IntKind.i64.wrap ((IntKind.i64.wrap (16 * s49v)) + s53v))))]) ⟨lk_cv rfl hb63v, trivial⟩ (q_leq rfl rfl rfl)) rfl rfl rfl rfl rfl ?_
 refine vq (q_and rfl rfl rfl) rfl (simL_nil (nrm_then ?_))
 refine sim_condb rfl (fun h57v => ?_) (fun h58v => ?_)
 refine sr ?_
 refine va rfl rfl ?_
 refine va rfl rfl (simL_nil (nrm_then (sim_rtn ?_)))
 refine rtn_then ?_
 refine rtn_block ?_
 refine rtn_loop ?_
 refine rtn_block ?_
 refine rtn_cutR ?_
 exact rtn_fn () rfl rfl rfl (.sel 1 rfl (.nil _))
 refine sim_skip ?_
 refine nrm_then (sr ?_)
 refine vm rfl rfl ?_
 refine vm rfl rfl ?_
 refine simL_ask (fun hb60v => ?_)
 refine simL_eff (re_litb (cs := [.int .u8 (IntKind.u8.wrap (IntKind.i64.wrap ((IntKind.i64.wrap (16 * s49v)) + s53v)))]) ([(byte (IntKind.u8.wrap (IntKind.i64.wrap ((IntKind.i64.wrap (16 * s49v)) + s53v))))] : List UInt8) rfl rfl Tryd.underlying93 elt5 rfl (by kernel_rfl) rfl rfl (byte_lit1 hb60v)) rfl rfl rfl ?_
 intro b59v
 refine simL_ask (fun hb62v => ?_)
 refine simL_eff (re_appendb 1 rfl rfl rfl Tryd.underlying93 elt5 rfl (Rds.row 0 rfl) hb62v) rfl rfl rfl ?_
 intro y61v
 refine va rfl rfl (ny ?_)
 refine vm rfl rfl ?_
 refine vq (q_add rfl rfl rfl) rfl ?_
 refine va rfl rfl (simL_nil (nrm_block ?_))
 exact nrm_again (s := (s3v.1 ++ ([(byte (IntKind.u8.wrap (IntKind.i64.wrap ((IntKind.i64.wrap (16 * s49v)) + s53v))))] : List UInt8), IntKind.i64.wrap (s3v.2 + 4))) (y61v.1, y61v.2) ⟨rfl, rfl, rfl, trivial⟩ (.sel 1 rfl (.sel 1 rfl (.nil _)))
 refine sim_exi ?_
 refine exi_then ?_
 refine exi_loop ?_
 refine exi_here ?_
 exact nrm_cutR (s := ()) () trivial (.sel 1 rfl (.nil _))
 intro s1v y2v
 refine sr ?_
 refine va rfl rfl ?_
 refine va rfl rfl (simL_nil (nrm_then (sim_rtn ?_)))
 exact rtn_fn () rfl rfl rfl (.sel 0 rfl (.nil _))

def synodref17_bare.f (x0 : Int) : Option (Bool) := some (((decide ((32 : Int) < x0)) && (decide (x0 ≤ (126 : Int)))) && (!decide (x0 = (34 : Int))))
theorem synodref17_bare.calls (W : World) (F : HA) (x0 : Int)  :
    Fn Tryd.prog W 40 [.int .u8 x0] [] F (synodref17_bare.f x0) (fun (r : Bool) (y : Unit) => .bool r) (fun r y => []) := by
 unfold synodref17_bare.f
 refine fn_intro 13 Tryd.func40 rfl Tryd.ntmps40 rfl ?_
 refine sr ?_
 refine va rfl rfl (nx ?_)
 refine vm rfl rfl ?_
 refine vq (q_gtr rfl rfl rfl) rfl ?_
 refine vm rfl rfl ?_
 refine simL_valc (b := decide ((32 : Int) < x0)) (fun hb4v => RQ.sub (E' := [(0, .int .u8 x0)]) ⟨rfl, trivial⟩ (q_move rfl rfl)) rfl rfl rfl rfl rfl ?_
 refine simL_valc (b := decide ((32 : Int) < x0)) (fun hb3v => RQ.sub (E' := [(6, .int .u8 x0)]) ⟨lk_cv rfl hb3v, trivial⟩ (q_leq rfl rfl rfl)) rfl rfl rfl rfl rfl ?_
 refine vq (q_and rfl rfl rfl) rfl ?_
 refine vm rfl rfl ?_
 refine simL_valc (b := (decide ((32 : Int) < x0)) && (decide (x0 ≤ (126 : Int)))) (fun hb2v => RQ.sub (E' := [(0, .int .u8 x0)]) ⟨rfl, trivial⟩ (q_move rfl rfl)) rfl rfl rfl rfl rfl ?_
 refine simL_valc (b := (decide ((32 : Int) < x0)) && (decide (x0 ≤ (126 : Int)))) (fun hb1v => RQ.sub (E' := [(10, .int .u8 x0)]) ⟨lk_cv rfl hb1v, trivial⟩ (q_neq rfl rfl rfl)) rfl rfl rfl rfl rfl ?_
 refine vq (q_and rfl rfl rfl) rfl ?_
 refine va rfl rfl (simL_nil (nrm_then (sim_rtn ?_)))
 exact rtn_fn () rfl rfl rfl (.sel 0 rfl (.nil _))

def synodref17_Words.l1 (x0 : List UInt8) : Nat → Int → Option (Int)
  | 0, _ => none
  | k + 1, z26v => (if z26v < (x0.length : Int) then (if 0 ≤ z26v ∧ z26v < (x0.length : Int) then ((synodref17_bare.f ((x0.getD z26v.toNat 0).toNat : Int)).bind fun s30v => (some s30v)) else none) else (some false)).bind fun s27v => (if s27v = true then (synodref17_Words.l1 x0 k (IntKind.i64.wrap (z26v + 1))) else (some z26v))
def synodref17_Words.l0 (x0 : List UInt8) : Nat → List (List UInt8) → Int → Option ((List (List UInt8)) ⊕ (List (List UInt8) × Int))
  | 0, _, _ => none
  | k + 1, z7v, z8v => if z8v < (x0.length : Int) then (if 0 ≤ z8v ∧ z8v < (x0.length : Int) then (if ((x0.getD z8v.toNat 0).toNat : Int) = (32 : Int) then (synodref17_Words.l0 x0 k z7v (IntKind.i64.wrap (z8v + 1))) else ((if 0 ≤ z8v ∧ z8v < (x0.length : Int) then (if ((x0.getD z8v.toNat 0).toNat : Int) = (34 : Int) then ((synodref17_quoted.f k x0 z8v).bind fun s19v => (some (s19v.1, s19v.2))) else ((synodref17_Words.l1 x0 k z8v).bind fun s22v => (if 0 ≤ z8v ∧ z8v ≤ s22v ∧ s22v ≤ (x0.length : Int) then (some (cut x0 z8v s22v, s22v)) else none))) else none).bind fun s14v => ((if s14v.2 < (0 : Int) then (some true) else ((if s14v.2 < (x0.length : Int) then (if 0 ≤ s14v.2 ∧ s14v.2 < (x0.length : Int) then (some (true, true, !decide (((x0.getD s14v.2.toNat 0).toNat : Int) = (32 : Int)))) else none) else (some (false, false, false))).bind fun s40v => (some s40v.2.2))).bind fun s38v => (if s38v = true then (some (.inr (([] : List (List UInt8)), 4))) else (if (z7v.length + ([s14v.1] : List (List UInt8)).length) * 16 ≤ 140737488355328 then (synodref17_Words.l0 x0 k (z7v ++ ([s14v.1] : List (List UInt8))) s14v.2) else none))))) else none) else (some (.inl z7v))
def synodref17_Words.f (k : Nat) (x0 : List UInt8) : Option (List (List UInt8) × Int) := if (4096 : Int) < (x0.length : Int) then (some (([] : List (List UInt8)), 3)) else (orR (synodref17_Words.l0 x0 k ([] : List (List UInt8)) 0) fun s3v => (some (s3v, 0)))
theorem synodref17_Words.calls (W : World) (F : HA) (k : Nat) (x0 : List UInt8)  :
    Fn Tryd.prog W 13 [str x0] [] F (synodref17_Words.f k x0) (fun (r : List (List UInt8) × Int) (y : Option Addr × Nat) => .tuple #[.slice y.1 r.1.length y.2, .int .i64 r.2]) (fun r y => [RowV 9 1 (V9 tt) y.1 r.1 y.2]) := by
 unfold synodref17_Words.f
 refine fn_intro 68 Tryd.func13 rfl Tryd.ntmps13 rfl ?_
 refine sr ?_
 refine va rfl rfl ?_
 refine va rfl rfl (simL_nil (nrm_then (sim_seq (sr ?_))))
 refine vm rfl rfl ?_
 refine vq (q_lens rfl rfl rfl Tryd.underlying9) rfl ?_
 refine vq (q_gtr rfl rfl rfl) rfl (simL_nil (nrm_then ?_))
 refine sim_cond rfl (fun h1v => ?_) (fun h2v => ?_)
 refine sr ?_
 refine va rfl rfl ?_
 refine va rfl rfl (simL_nil (nrm_then (sim_rtn ?_)))
 refine rtn_then ?_
 exact rtn_fn (none, 0) rfl rfl rfl (.rowV_nil (.sel 0 rfl (.nil _)))
 refine sim_skip ?_
 refine nrm_then (sr ?_)
 refine va rfl rfl (nx ?_)
 refine va rfl rfl (simL_nil (nrm_then ?_))
 refine sim_cutR (S := List (List UInt8)) (Option Addr × Nat) (fun s y => [(4, .slice y.1 s.length y.2)]) (fun s y => [RowV 9 1 (V9 tt) y.1 s y.2, F]) ?_ ?_
 refine sim_block ?_
 refine sim_loop (S := List (List UInt8) × Int) (Option Addr × Nat) (fun k s => synodref17_Words.l0 x0 k s.1 s.2) (fun s y => [(0, str x0), (4, .slice y.1 s.1.length y.2), (5, .int .i64 s.2)]) (fun s y => [RowV 9 1 (V9 tt) y.1 s.1 y.2, F]) (fun _ => by rw [synodref17_Words.l0]) ?_ k (([] : List (List UInt8)), 0) (none, 0) ⟨rfl, rfl, rfl, trivial⟩ (.rowV_nil (.sel 0 rfl (.nil _)))
 intro k s5v y6v
 refine sim_eq (by rw [synodref17_Words.l0]) ?_
 refine sim_seq (sr ?_)
 refine vm rfl rfl ?_
 refine vm rfl rfl ?_
 refine vq (q_lens rfl rfl rfl Tryd.underlying9) rfl ?_
 refine vq (q_lss rfl rfl rfl) rfl (simL_nil (nrm_then ?_))
 refine sim_cond rfl (fun h9v => ?_) (fun h10v => ?_)
 refine sim_skip ?_
 refine nrm_then ?_
 refine sim_block ?_
 refine sim_seq (sr ?_)
 refine vm rfl rfl ?_
 refine vm rfl rfl ?_
 refine simL_ask (fun hi11v => ?_)
 refine vq (q_sidx rfl rfl rfl Tryd.underlying9 hi11v.1 hi11v.2) rfl ?_
 refine vq (q_eql rfl rfl rfl) rfl (simL_nil (nrm_then ?_))
 refine sim_cond rfl (fun h12v => ?_) (fun h13v => ?_)
 refine sr ?_
 refine vm rfl rfl ?_
 refine vq (q_add rfl rfl rfl) rfl ?_
 refine va rfl rfl (simL_nil (nrm_then ?_))
 refine sim_exi ?_
 refine exi_then ?_
 refine exi_here ?_
 exact nrm_again (s := (s5v.1, IntKind.i64.wrap (s5v.2 + 1))) (y6v.1, y6v.2) ⟨rfl, rfl, rfl, trivial⟩ (.sel 0 rfl (.sel 0 rfl (.nil _)))
 refine sim_skip ?_
 refine nrm_then (sr ?_)
 refine va rfl rfl (nx ?_)
 refine vm rfl rfl ?_
 refine va rfl rfl (simL_nil (nrm_then ?_))
 refine sim_cut (S := List UInt8 × Int) (Unit) (fun s y => [(0, str x0), (4, .slice y6v.1 s5v.1.length y6v.2), (6, str s.1), (7, .int .i64 s.2)]) (fun s y => [RowV 9 1 (V9 tt) y6v.1 s5v.1 y6v.2, F]) ?_ ?_
 refine sr ?_
 refine vm rfl rfl ?_
 refine vm rfl rfl ?_
 refine simL_ask (fun hi16v => ?_)
 refine vq (q_sidx rfl rfl rfl Tryd.underlying9 hi16v.1 hi16v.2) rfl ?_
 refine vq (q_eql rfl rfl rfl) rfl (simL_nil (nrm_then ?_))
 refine sim_cond rfl (fun h17v => ?_) (fun h18v => ?_)
 refine sim_region ?_
 refine vm rfl rfl ?_
 refine vm rfl rfl ?_
 refine simL_bind (fun s19v hs20v => ?_)
 refine simL_eff (re_call (vs := [str x0, .int .i64 s5v.2]) (cap := []) (A := []) (rst := [RowV 9 1 (V9 tt) y6v.1 s5v.1 y6v.2, F]) rfl rfl rfl rfl rfl rfl Tryd.call39 (.sel 0 rfl (.sel 0 rfl (.nil _))) (synodref17_quoted.calls _ _ k x0 s5v.2 ) hs20v) rfl rfl rfl ?_
 intro y21v
 refine vm rfl rfl ?_
 refine vq (q_ext rfl rfl rfl) rfl ?_
 refine vq (q_ext rfl rfl rfl) rfl ?_
 refine va rfl rfl ?_
 refine va rfl rfl (simL_nil ?_)
 exact nrm_cut (s := (s19v.1, s19v.2)) () ⟨rfl, rfl, rfl, rfl, trivial⟩ (.sel 0 rfl (.sel 0 rfl (.nil _)))
 refine sim_cut (S := Int) (Unit) (fun s y => [(0, str x0), (4, .slice y6v.1 s5v.1.length y6v.2), (5, .int .i64 s5v.2), (7, .int .i64 s)]) (fun s y => [RowV 9 1 (V9 tt) y6v.1 s5v.1 y6v.2, F]) ?_ ?_
 refine sim_block ?_
 refine sim_loop (S := Int) (Unit) (fun k s => synodref17_Words.l1 x0 k s) (fun s y => [(0, str x0), (4, .slice y6v.1 s5v.1.length y6v.2), (5, .int .i64 s5v.2), (7, .int .i64 s)]) (fun s y => [RowV 9 1 (V9 tt) y6v.1 s5v.1 y6v.2, F]) (fun _ => by rw [synodref17_Words.l1]) ?_ k s5v.2 () ⟨rfl, rfl, rfl, rfl, trivial⟩ (.sel 0 rfl (.sel 0 rfl (.nil _)))
 intro k s24v y25v
 refine sim_eq (by rw [synodref17_Words.l1]) ?_
 refine sim_seq (sr ?_)
 refine vm rfl rfl ?_
 refine vm rfl rfl ?_
 refine vq (q_lens rfl rfl rfl Tryd.underlying9) rfl ?_
 refine vq (q_lss rfl rfl rfl) rfl ?_
 refine vm rfl rfl ?_
 refine simL_cut' 5 (S := Bool) (Unit) (fun s y => [(0, str x0), (4, .slice y6v.1 s5v.1.length y6v.2), (5, .int .i64 s5v.2), (7, .int .i64 s24v), (41, .bool s)]) (fun s y => [RowV 9 1 (V9 tt) y6v.1 s5v.1 y6v.2, F]) ?_ ?_
 refine simL_casep (fun hb33v => ?_) (fun hb34v => ?_)
 rw [hb33v]
 refine simL_valg (q_move rfl rfl) rfl rfl rfl rfl rfl rfl ?_
 refine simL_valg (q_move rfl rfl) rfl rfl rfl rfl rfl rfl ?_
 refine simL_ask (fun hi29v => ?_)
 refine simL_valg (q_sidx rfl rfl rfl Tryd.underlying9 hi29v.1 hi29v.2) rfl rfl rfl rfl rfl rfl ?_
 refine simL_bind (fun s30v hs31v => ?_)
 refine simL_effg (re_call (vs := [.int .u8 ((x0.getD s24v.toNat 0).toNat : Int)]) (cap := []) (A := []) (rst := [RowV 9 1 (V9 tt) y6v.1 s5v.1 y6v.2, F]) rfl rfl rfl rfl rfl rfl Tryd.call40 (.sel 0 rfl (.sel 0 rfl (.nil _))) (synodref17_bare.calls _ _ ((x0.getD s24v.toNat 0).toNat : Int) ) hs31v) rfl rfl rfl rfl rfl rfl ?_
 intro y32v
 refine vq (q_pick rfl rfl rfl rfl rfl) rfl (simL_nil ?_)
 exact nrm_cut (s := s30v) () ⟨rfl, rfl, rfl, rfl, rfl, trivial⟩ (.sel 0 rfl (.sel 0 rfl (.nil _)))
 rw [hb34v]
 refine simL_skipd rfl rfl rfl rfl rfl rfl ?_
 refine simL_skipd rfl rfl rfl rfl rfl rfl ?_
 refine simL_skipd rfl rfl rfl rfl rfl rfl ?_
 refine simL_skipd rfl rfl rfl rfl rfl rfl ?_
 refine vq (q_pick rfl rfl rfl rfl rfl) rfl (simL_nil ?_)
 exact nrm_cut (s := false) () ⟨rfl, rfl, rfl, rfl, rfl, trivial⟩ (.sel 0 rfl (.sel 0 rfl (.nil _)))
 intro s27v y28v
 refine simL_nil (nrm_then ?_)
 refine sim_condb rfl (fun h35v => ?_) (fun h36v => ?_)
 refine sim_skip ?_
 refine nrm_then ?_
 refine sim_block ?_
 refine sim_region ?_
 refine vm rfl rfl ?_
 refine vq (q_add rfl rfl rfl) rfl ?_
 refine va rfl rfl (simL_nil (nrm_block ?_))
 exact nrm_again (s := IntKind.i64.wrap (s24v + 1)) () ⟨rfl, rfl, rfl, rfl, trivial⟩ (.sel 0 rfl (.sel 0 rfl (.nil _)))
 refine sim_exi ?_
 refine exi_then ?_
 refine exi_loop ?_
 refine exi_here ?_
 exact nrm_cut (s := s24v) () ⟨rfl, rfl, rfl, rfl, trivial⟩ (.sel 0 rfl (.sel 0 rfl (.nil _)))
 intro s22v y23v
 refine sim_region ?_
 refine vm rfl rfl ?_
 refine vm rfl rfl ?_
 refine vm rfl rfl ?_
 refine simL_ask (fun hb37v => ?_)
 refine vq (q_cutS (lo' := s5v.2) (hi' := s22v) rfl rfl rfl rfl Tryd.underlying9 (.inr ⟨_, rfl⟩) (.inr ⟨_, rfl⟩) hb37v) rfl ?_
 refine va rfl rfl (simL_nil ?_)
 exact nrm_cut (s := (cut x0 s5v.2 s22v, s22v)) () ⟨rfl, rfl, rfl, rfl, trivial⟩ (.sel 0 rfl (.sel 0 rfl (.nil _)))
 intro s14v y15v
 refine sim_seq (sr ?_)
 refine vm rfl rfl ?_
 refine vq (q_lss rfl rfl rfl) rfl ?_
 refine vm rfl rfl ?_
 refine simL_cut' 11 (S := Bool) (Unit) (fun s y => [(0, str x0), (4, .slice y6v.1 s5v.1.length y6v.2), (6, str s14v.1), (7, .int .i64 s14v.2), (61, .bool s)]) (fun s y => [RowV 9 1 (V9 tt) y6v.1 s5v.1 y6v.2, F]) ?_ ?_
 refine simL_casep (fun hb45v => ?_) (fun hb46v => ?_)
 rw [hb45v]
 refine simL_skipd rfl rfl rfl rfl rfl rfl ?_
 refine simL_skipd rfl rfl rfl rfl rfl rfl ?_
 refine simL_skipd rfl rfl rfl rfl rfl rfl ?_
 refine simL_skipd rfl rfl rfl rfl rfl rfl ?_
 refine simL_skipd rfl rfl rfl rfl rfl rfl ?_
 refine simL_skipu rfl rfl rfl rfl rfl ?_
 refine simL_skipu rfl rfl rfl rfl rfl ?_
 refine simL_skipu rfl rfl rfl rfl rfl ?_
 refine simL_skipu rfl rfl rfl rfl rfl ?_
 refine simL_skipd rfl rfl rfl rfl rfl rfl ?_
 refine vq (q_pick rfl rfl rfl rfl rfl) rfl (simL_nil ?_)
 exact nrm_cut (s := true) () ⟨rfl, rfl, rfl, rfl, rfl, trivial⟩ (.sel 0 rfl (.sel 0 rfl (.nil _)))
 rw [hb46v]
 refine simL_valg (q_move rfl rfl) rfl rfl rfl rfl rfl rfl ?_
 refine simL_valg (q_move rfl rfl) rfl rfl rfl rfl rfl rfl ?_
 refine simL_valg (q_lens rfl rfl rfl Tryd.underlying9) rfl rfl rfl rfl rfl rfl ?_
 refine simL_valg (q_lss rfl rfl rfl) rfl rfl rfl rfl rfl rfl ?_
 refine simL_valg (q_move rfl rfl) rfl rfl rfl rfl rfl rfl ?_
 refine simL_cut' 5 (S := Bool × Bool × Bool) (Unit) (fun s y => [(0, str x0), (4, .slice y6v.1 s5v.1.length y6v.2), (6, str s14v.1), (7, .int .i64 s14v.2), (50, .bool false), (51, .int .i64 s14v.2), (52, str x0), (53, .int .i64 (x0.length : Int)), (54, .bool s.1), (55, .bool s.2.1), (60, .bool s.2.2)]) (fun s y => [RowV 9 1 (V9 tt) y6v.1 s5v.1 y6v.2, F]) ?_ ?_
 refine simL_casep (fun hb43v => ?_) (fun hb44v => ?_)
 rw [hb43v]
 refine simL_valg (q_move rfl rfl) rfl rfl rfl rfl rfl rfl ?_
 refine simL_valg (q_move rfl rfl) rfl rfl rfl rfl rfl rfl ?_
 refine simL_ask (fun hi42v => ?_)
 refine simL_valg (q_sidx rfl rfl rfl Tryd.underlying9 hi42v.1 hi42v.2) rfl rfl rfl rfl rfl rfl ?_
 refine simL_valg (q_neq rfl rfl rfl) rfl rfl rfl rfl rfl rfl ?_
 refine simL_valg (q_pick rfl rfl rfl rfl rfl) rfl rfl rfl rfl rfl rfl ?_
 refine simL_nil ?_
 exact nrm_cut (s := (true, true, !decide (((x0.getD s14v.2.toNat 0).toNat : Int) = (32 : Int)))) () ⟨rfl, rfl, rfl, rfl, rfl, rfl, rfl, rfl, rfl, rfl, rfl, trivial⟩ (.sel 0 rfl (.sel 0 rfl (.nil _)))
 rw [hb44v]
 refine simL_skipd rfl rfl rfl rfl rfl rfl ?_
 refine simL_skipd rfl rfl rfl rfl rfl rfl ?_
 refine simL_skipd rfl rfl rfl rfl rfl rfl ?_
 refine simL_skipd rfl rfl rfl rfl rfl rfl ?_
 refine simL_valg (q_pick rfl rfl rfl rfl rfl) rfl rfl rfl rfl rfl rfl ?_
 refine simL_nil ?_
 exact nrm_cut (s := (false, false, false)) () ⟨rfl, rfl, rfl, rfl, rfl, rfl, rfl, rfl, rfl, rfl, rfl, trivial⟩ (.sel 0 rfl (.sel 0 rfl (.nil _)))
 intro s40v y41v
 refine vq (q_pick rfl rfl rfl rfl rfl) rfl (simL_nil ?_)
 exact nrm_cut (s := s40v.2.2) () ⟨rfl, rfl, rfl, rfl, rfl, trivial⟩ (.sel 0 rfl (.sel 0 rfl (.nil _)))
 intro s38v y39v
 refine simL_nil (nrm_then ?_)
 refine sim_condb rfl (fun h47v => ?_) (fun h48v => ?_)
 refine sr ?_
 refine va rfl rfl ?_
 refine va rfl rfl (simL_nil (nrm_then (sim_rtn ?_)))
 refine rtn_then ?_
 refine rtn_block ?_
 refine rtn_loop ?_
 refine rtn_block ?_
 refine rtn_cutR ?_
 exact rtn_fn (none, 0) rfl rfl rfl (.rowV_nil (.sel 1 rfl (.nil _)))
 refine sim_skip ?_
 refine nrm_then (sr ?_)
 refine vm rfl rfl ?_
 refine vm rfl rfl ?_
 have hlb50v : ListV 1 (V9 tt) ([s14v.1] : List (List UInt8)) [[str s14v.1]] := ⟨⟨rfl, one_of (by rfl), rfl⟩, trivial⟩
 refine simL_eff (re_litV (V := (V9 tt)) (xs := ([s14v.1] : List (List UInt8))) [[str s14v.1]] rfl rfl Tryd.underlying23 elt9 rfl (by kernel_rfl) rfl hlb50v rfl rfl) rfl rfl rfl ?_
 intro b50v
 refine simL_openV 1 rfl (fun rs55v hl56v => ?_)
 refine simL_ask (fun hb54v => ?_)
 refine simL_eff (re_appendV 1 rfl rfl rfl Tryd.underlying23 elt9 rfl hl56v (RdsV.row hlb50v 0 rfl) hb54v) rfl rfl rfl ?_
 intro y53v
 refine va rfl rfl (ny ?_)
 refine vm rfl rfl ?_
 refine va rfl rfl (simL_nil (nrm_block ?_))
 exact nrm_again (s := (s5v.1 ++ ([s14v.1] : List (List UInt8)), s14v.2)) (y53v.1, y53v.2) ⟨rfl, rfl, rfl, trivial⟩ (.sel 1 rfl (.sel 1 rfl (.nil _)))
 refine sim_exi ?_
 refine exi_then ?_
 refine exi_loop ?_
 refine exi_here ?_
 exact nrm_cutR (s := s5v.1) (y6v.1, y6v.2) ⟨rfl, trivial⟩ (.sel 0 rfl (.sel 0 rfl (.nil _)))
 intro s3v y4v
 refine sr ?_
 refine vm rfl rfl ?_
 refine va rfl rfl ?_
 refine va rfl rfl (simL_nil (nrm_then (sim_rtn ?_)))
 exact rtn_fn (y4v.1, y4v.2) rfl rfl rfl (.sel 0 rfl (.sel 0 rfl (.nil _)))

def synodref17_Rows.f  : Option ((List (Ty109))) := some ([(([116, 105, 99, 107] : List UInt8), (1 : Int), ([78, 110] : List UInt8), (0 : Int), (0 : Int)), (([112, 105, 99, 107] : List UInt8), (2 : Int), ([78, 112] : List UInt8), (0 : Int), (0 : Int)), (([100, 101, 108, 105, 118, 101, 114] : List UInt8), (3 : Int), ([110] : List UInt8), (0 : Int), (0 : Int)), (([100, 114, 111, 112] : List UInt8), (4 : Int), ([110] : List UInt8), (0 : Int), (0 : Int)), (([99, 111, 112, 121] : List UInt8), (5 : Int), ([110] : List UInt8), (0 : Int), (0 : Int)), (([115, 112, 111, 105, 108] : List UInt8), (6 : Int), ([110, 109] : List UInt8), (0 : Int), (0 : Int)), (([109, 111, 118, 101] : List UInt8), (7 : Int), ([110, 109] : List UInt8), (0 : Int), (0 : Int)), (([108, 105, 110, 107] : List UInt8), (8 : Int), ([78, 110] : List UInt8), (1 : Int), (0 : Int)), (([99, 117, 116] : List UInt8), (8 : Int), ([78, 110] : List UInt8), (0 : Int), (0 : Int)), (([99, 114, 97, 115, 104] : List UInt8), (9 : Int), ([78, 110] : List UInt8), (0 : Int), (0 : Int)), (([115, 116, 97, 114, 116] : List UInt8), (10 : Int), ([78, 110] : List UInt8), (0 : Int), (0 : Int)), (([97, 114, 109] : List UInt8), (12 : Int), ([78, 110] : List UInt8), (0 : Int), (0 : Int)), (([115, 116, 111, 112] : List UInt8), (11 : Int), ([78] : List UInt8), (0 : Int), (0 : Int)), (([103, 101, 116] : List UInt8), (13 : Int), ([67, 78, 107] : List UInt8), (0 : Int), (1 : Int)), (([100, 101, 108, 101, 116, 101] : List UInt8), (13 : Int), ([67, 78, 107] : List UInt8), (0 : Int), (3 : Int)), (([112, 117, 116] : List UInt8), (13 : Int), ([67, 78, 107, 118] : List UInt8), (0 : Int), (2 : Int)), (([115, 119, 97, 112] : List UInt8), (13 : Int), ([67, 78, 107, 111, 118] : List UInt8), (0 : Int), (4 : Int)), (([97, 103, 97, 105, 110] : List UInt8), (14 : Int), ([67, 78] : List UInt8), (0 : Int), (0 : Int)), (([103, 105, 118, 101] : List UInt8), (15 : Int), ([67] : List UInt8), (0 : Int), (0 : Int)), (([99, 97, 108, 109] : List UInt8), (16 : Int), ([78, 110] : List UInt8), (0 : Int), (0 : Int))] : List (Ty109))
theorem synodref17_Rows.calls (W : World) (F : HA)   :
    Fn Tryd.prog W 46 [] [] F (synodref17_Rows.f ) (fun (r : (List (Ty109))) (y : Option Addr × Nat) => .slice y.1 r.length y.2) (fun r y => [RowV 109 5 (V109 tt) y.1 r y.2]) := by
 unfold synodref17_Rows.f
 refine fn_intro 22 Tryd.func46 rfl Tryd.ntmps46 rfl ?_
 refine sr ?_
 refine va rfl rfl (nx ?_)
 refine vq (q_build (v := .agg #[str ([116, 105, 99, 107] : List UInt8), .int .i64 1, str ([78, 110] : List UInt8), .int .i64 0, .int .i64 0]) rfl rfl (fun _ => by kernel_rfl)) rfl ?_
 refine vq (q_build (v := .agg #[str ([112, 105, 99, 107] : List UInt8), .int .i64 2, str ([78, 112] : List UInt8), .int .i64 0, .int .i64 0]) rfl rfl (fun _ => by kernel_rfl)) rfl ?_
 refine vq (q_build (v := .agg #[str ([100, 101, 108, 105, 118, 101, 114] : List UInt8), .int .i64 3, str ([110] : List UInt8), .int .i64 0, .int .i64 0]) rfl rfl (fun _ => by kernel_rfl)) rfl ?_
 refine vq (q_build (v := .agg #[str ([100, 114, 111, 112] : List UInt8), .int .i64 4, str ([110] : List UInt8), .int .i64 0, .int .i64 0]) rfl rfl (fun _ => by kernel_rfl)) rfl ?_
 refine vq (q_build (v := .agg #[str ([99, 111, 112, 121] : List UInt8), .int .i64 5, str ([110] : List UInt8), .int .i64 0, .int .i64 0]) rfl rfl (fun _ => by kernel_rfl)) rfl ?_
 refine vq (q_build (v := .agg #[str ([115, 112, 111, 105, 108] : List UInt8), .int .i64 6, str ([110, 109] : List UInt8), .int .i64 0, .int .i64 0]) rfl rfl (fun _ => by kernel_rfl)) rfl ?_
 refine vq (q_build (v := .agg #[str ([109, 111, 118, 101] : List UInt8), .int .i64 7, str ([110, 109] : List UInt8), .int .i64 0, .int .i64 0]) rfl rfl (fun _ => by kernel_rfl)) rfl ?_
 refine vq (q_build (v := .agg #[str ([108, 105, 110, 107] : List UInt8), .int .i64 8, str ([78, 110] : List UInt8), .int .i64 1, .int .i64 0]) rfl rfl (fun _ => by kernel_rfl)) rfl ?_
 refine vq (q_build (v := .agg #[str ([99, 117, 116] : List UInt8), .int .i64 8, str ([78, 110] : List UInt8), .int .i64 0, .int .i64 0]) rfl rfl (fun _ => by kernel_rfl)) rfl ?_
 refine vq (q_build (v := .agg #[str ([99, 114, 97, 115, 104] : List UInt8), .int .i64 9, str ([78, 110] : List UInt8), .int .i64 0, .int .i64 0]) rfl rfl (fun _ => by kernel_rfl)) rfl ?_
 refine vq (q_build (v := .agg #[str ([115, 116, 97, 114, 116] : List UInt8), .int .i64 10, str ([78, 110] : List UInt8), .int .i64 0, .int .i64 0]) rfl rfl (fun _ => by kernel_rfl)) rfl ?_
 refine vq (q_build (v := .agg #[str ([97, 114, 109] : List UInt8), .int .i64 12, str ([78, 110] : List UInt8), .int .i64 0, .int .i64 0]) rfl rfl (fun _ => by kernel_rfl)) rfl ?_
 refine vq (q_build (v := .agg #[str ([115, 116, 111, 112] : List UInt8), .int .i64 11, str ([78] : List UInt8), .int .i64 0, .int .i64 0]) rfl rfl (fun _ => by kernel_rfl)) rfl ?_
 refine vq (q_build (v := .agg #[str ([103, 101, 116] : List UInt8), .int .i64 13, str ([67, 78, 107] : List UInt8), .int .i64 0, .int .i64 1]) rfl rfl (fun _ => by kernel_rfl)) rfl ?_
 refine vq (q_build (v := .agg #[str ([100, 101, 108, 101, 116, 101] : List UInt8), .int .i64 13, str ([67, 78, 107] : List UInt8), .int .i64 0, .int .i64 3]) rfl rfl (fun _ => by kernel_rfl)) rfl ?_
 refine vq (q_build (v := .agg #[str ([112, 117, 116] : List UInt8), .int .i64 13, str ([67, 78, 107, 118] : List UInt8), .int .i64 0, .int .i64 2]) rfl rfl (fun _ => by kernel_rfl)) rfl ?_
 refine vq (q_build (v := .agg #[str ([115, 119, 97, 112] : List UInt8), .int .i64 13, str ([67, 78, 107, 111, 118] : List UInt8), .int .i64 0, .int .i64 4]) rfl rfl (fun _ => by kernel_rfl)) rfl ?_
 refine vq (q_build (v := .agg #[str ([97, 103, 97, 105, 110] : List UInt8), .int .i64 14, str ([67, 78] : List UInt8), .int .i64 0, .int .i64 0]) rfl rfl (fun _ => by kernel_rfl)) rfl ?_
 refine vq (q_build (v := .agg #[str ([103, 105, 118, 101] : List UInt8), .int .i64 15, str ([67] : List UInt8), .int .i64 0, .int .i64 0]) rfl rfl (fun _ => by kernel_rfl)) rfl ?_
 refine vq (q_build (v := .agg #[str ([99, 97, 108, 109] : List UInt8), .int .i64 16, str ([78, 110] : List UInt8), .int .i64 0, .int .i64 0]) rfl rfl (fun _ => by kernel_rfl)) rfl ?_
 have hlb2v : ListV 5 (V109 tt) ([(([116, 105, 99, 107] : List UInt8), (1 : Int), ([78, 110] : List UInt8), (0 : Int), (0 : Int)), (([112, 105, 99, 107] : List UInt8), (2 : Int), ([78, 112] : List UInt8), (0 : Int), (0 : Int)), (([100, 101, 108, 105, 118, 101, 114] : List UInt8), (3 : Int), ([110] : List UInt8), (0 : Int), (0 : Int)), (([100, 114, 111, 112] : List UInt8), (4 : Int), ([110] : List UInt8), (0 : Int), (0 : Int)), (([99, 111, 112, 121] : List UInt8), (5 : Int), ([110] : List UInt8), (0 : Int), (0 : Int)), (([115, 112, 111, 105, 108] : List UInt8), (6 : Int), ([110, 109] : List UInt8), (0 : Int), (0 : Int)), (([109, 111, 118, 101] : List UInt8), (7 : Int), ([110, 109] : List UInt8), (0 : Int), (0 : Int)), (([108, 105, 110, 107] : List UInt8), (8 : Int), ([78, 110] : List UInt8), (1 : Int), (0 : Int)), (([99, 117, 116] : List UInt8), (8 : Int), ([78, 110] : List UInt8), (0 : Int), (0 : Int)), (([99, 114, 97, 115, 104] : List UInt8), (9 : Int), ([78, 110] : List UInt8), (0 : Int), (0 : Int)), (([115, 116, 97, 114, 116] : List UInt8), (10 : Int), ([78, 110] : List UInt8), (0 : Int), (0 : Int)), (([97, 114, 109] : List UInt8), (12 : Int), ([78, 110] : List UInt8), (0 : Int), (0 : Int)), (([115, 116, 111, 112] : List UInt8), (11 : Int), ([78] : List UInt8), (0 : Int), (0 : Int)), (([103, 101, 116] : List UInt8), (13 : Int), ([67, 78, 107] : List UInt8), (0 : Int), (1 : Int)), (([100, 101, 108, 101, 116, 101] : List UInt8), (13 : Int), ([67, 78, 107] : List UInt8), (0 : Int), (3 : Int)), (([112, 117, 116] : List UInt8), (13 : Int), ([67, 78, 107, 118] : List UInt8), (0 : Int), (2 : Int)), (([115, 119, 97, 112] : List UInt8), (13 : Int), ([67, 78, 107, 111, 118] : List UInt8), (0 : Int), (4 : Int)), (([97, 103, 97, 105, 110] : List UInt8), (14 : Int), ([67, 78] : List UInt8), (0 : Int), (0 : Int)), (([103, 105, 118, 101] : List UInt8), (15 : Int), ([67] : List UInt8), (0 : Int), (0 : Int)), (([99, 97, 108, 109] : List UInt8), (16 : Int), ([78, 110] : List UInt8), (0 : Int), (0 : Int))] : List (Ty109)) [[str ([116, 105, 99, 107] : List UInt8), .int .i64 1, str ([78, 110] : List UInt8), .int .i64 0, .int .i64 0], [str ([112, 105, 99, 107] : List UInt8), .int .i64 2, str ([78, 112] : List UInt8), .int .i64 0, .int .i64 0], [str ([100, 101, 108, 105, 118, 101, 114] : List UInt8), .int .i64 3, str ([110] : List UInt8), .int .i64 0, .int .i64 0], [str ([100, 114, 111, 112] : List UInt8), .int .i64 4, str ([110] : List UInt8), .int .i64 0, .int .i64 0], [str ([99, 111, 112, 121] : List UInt8), .int .i64 5, str ([110] : List UInt8), .int .i64 0, .int .i64 0], [str ([115, 112, 111, 105, 108] : List UInt8), .int .i64 6, str ([110, 109] : List UInt8), .int .i64 0, .int .i64 0], [str ([109, 111, 118, 101] : List UInt8), .int .i64 7, str ([110, 109] : List UInt8), .int .i64 0, .int .i64 0], [str ([108, 105, 110, 107] : List UInt8), .int .i64 8, str ([78, 110] : List UInt8), .int .i64 1, .int .i64 0], [str ([99, 117, 116] : List UInt8), .int .i64 8, str ([78, 110] : List UInt8), .int .i64 0, .int .i64 0], [str ([99, 114, 97, 115, 104] : List UInt8), .int .i64 9, str ([78, 110] : List UInt8), .int .i64 0, .int .i64 0], [str ([115, 116, 97, 114, 116] : List UInt8), .int .i64 10, str ([78, 110] : List UInt8), .int .i64 0, .int .i64 0], [str ([97, 114, 109] : List UInt8), .int .i64 12, str ([78, 110] : List UInt8), .int .i64 0, .int .i64 0], [str ([115, 116, 111, 112] : List UInt8), .int .i64 11, str ([78] : List UInt8), .int .i64 0, .int .i64 0], [str ([103, 101, 116] : List UInt8), .int .i64 13, str ([67, 78, 107] : List UInt8), .int .i64 0, .int .i64 1], [str ([100, 101, 108, 101, 116, 101] : List UInt8), .int .i64 13, str ([67, 78, 107] : List UInt8), .int .i64 0, .int .i64 3], [str ([112, 117, 116] : List UInt8), .int .i64 13, str ([67, 78, 107, 118] : List UInt8), .int .i64 0, .int .i64 2], [str ([115, 119, 97, 112] : List UInt8), .int .i64 13, str ([67, 78, 107, 111, 118] : List UInt8), .int .i64 0, .int .i64 4], [str ([97, 103, 97, 105, 110] : List UInt8), .int .i64 14, str ([67, 78] : List UInt8), .int .i64 0, .int .i64 0], [str ([103, 105, 118, 101] : List UInt8), .int .i64 15, str ([67] : List UInt8), .int .i64 0, .int .i64 0], [str ([99, 97, 108, 109] : List UInt8), .int .i64 16, str ([78, 110] : List UInt8), .int .i64 0, .int .i64 0]] := ⟨⟨rfl, one_of (by rfl), rfl⟩, ⟨rfl, one_of (by rfl), rfl⟩, ⟨rfl, one_of (by rfl), rfl⟩, ⟨rfl, one_of (by rfl), rfl⟩, ⟨rfl, one_of (by rfl), rfl⟩, ⟨rfl, one_of (by rfl), rfl⟩, ⟨rfl, one_of (by rfl), rfl⟩, ⟨rfl, one_of (by rfl), rfl⟩, ⟨rfl, one_of (by rfl), rfl⟩, ⟨rfl, one_of (by rfl), rfl⟩, ⟨rfl, one_of (by rfl), rfl⟩, ⟨rfl, one_of (by rfl), rfl⟩, ⟨rfl, one_of (by rfl), rfl⟩, ⟨rfl, one_of (by rfl), rfl⟩, ⟨rfl, one_of (by rfl), rfl⟩, ⟨rfl, one_of (by rfl), rfl⟩, ⟨rfl, one_of (by rfl), rfl⟩, ⟨rfl, one_of (by rfl), rfl⟩, ⟨rfl, one_of (by rfl), rfl⟩, ⟨rfl, one_of (by rfl), rfl⟩, trivial⟩
 refine simL_eff (re_litV (V := (V109 tt)) (xs := ([(([116, 105, 99, 107] : List UInt8), (1 : Int), ([78, 110] : List UInt8), (0 : Int), (0 : Int)), (([112, 105, 99, 107] : List UInt8), (2 : Int), ([78, 112] : List UInt8), (0 : Int), (0 : Int)), (([100, 101, 108, 105, 118, 101, 114] : List UInt8), (3 : Int), ([110] : List UInt8), (0 : Int), (0 : Int)), (([100, 114, 111, 112] : List UInt8), (4 : Int), ([110] : List UInt8), (0 : Int), (0 : Int)), (([99, 111, 112, 121] : List UInt8), (5 : Int), ([110] : List UInt8), (0 : Int), (0 : Int)), (([115, 112, 111, 105, 108] : List UInt8), (6 : Int), ([110, 109] : List UInt8), (0 : Int), (0 : Int)), (([109, 111, 118, 101] : List UInt8), (7 : Int), ([110, 109] : List UInt8), (0 : Int), (0 : Int)), (([108, 105, 110, 107] : List UInt8), (8 : Int), ([78, 110] : List UInt8), (1 : Int), (0 : Int)), (([99, 117, 116] : List UInt8), (8 : Int), ([78, 110] : List UInt8), (0 : Int), (0 : Int)), (([99, 114, 97, 115, 104] : List UInt8), (9 : Int), ([78, 110] : List UInt8), (0 : Int), (0 : Int)), (([115, 116, 97, 114, 116] : List UInt8), (10 : Int), ([78, 110] : List UInt8), (0 : Int), (0 : Int)), (([97, 114, 109] : List UInt8), (12 : Int), ([78, 110] : List UInt8), (0 : Int), (0 : Int)), (([115, 116, 111, 112] : List UInt8), (11 : Int), ([78] : List UInt8), (0 : Int), (0 : Int)), (([103, 101, 116] : List UInt8), (13 : Int), ([67, 78, 107] : List UInt8), (0 : Int), (1 : Int)), (([100, 101, 108, 101, 116, 101] : List UInt8), (13 : Int), ([67, 78, 107] : List UInt8), (0 : Int), (3 : Int)), (([112, 117, 116] : List UInt8), (13 : Int), ([67, 78, 107, 118] : List UInt8), (0 : Int), (2 : Int)), (([115, 119, 97, 112] : List UInt8), (13 : Int), ([67, 78, 107, 111, 118] : List UInt8), (0 : Int), (4 : Int)), (([97, 103, 97, 105, 110] : List UInt8), (14 : Int), ([67, 78] : List UInt8), (0 : Int), (0 : Int)), (([103, 105, 118, 101] : List UInt8), (15 : Int), ([67] : List UInt8), (0 : Int), (0 : Int)), (([99, 97, 108, 109] : List UInt8), (16 : Int), ([78, 110] : List UInt8), (0 : Int), (0 : Int))] : List (Ty109))) [[str ([116, 105, 99, 107] : List UInt8), .int .i64 1, str ([78, 110] : List UInt8), .int .i64 0, .int .i64 0], [str ([112, 105, 99, 107] : List UInt8), .int .i64 2, str ([78, 112] : List UInt8), .int .i64 0, .int .i64 0], [str ([100, 101, 108, 105, 118, 101, 114] : List UInt8), .int .i64 3, str ([110] : List UInt8), .int .i64 0, .int .i64 0], [str ([100, 114, 111, 112] : List UInt8), .int .i64 4, str ([110] : List UInt8), .int .i64 0, .int .i64 0], [str ([99, 111, 112, 121] : List UInt8), .int .i64 5, str ([110] : List UInt8), .int .i64 0, .int .i64 0], [str ([115, 112, 111, 105, 108] : List UInt8), .int .i64 6, str ([110, 109] : List UInt8), .int .i64 0, .int .i64 0], [str ([109, 111, 118, 101] : List UInt8), .int .i64 7, str ([110, 109] : List UInt8), .int .i64 0, .int .i64 0], [str ([108, 105, 110, 107] : List UInt8), .int .i64 8, str ([78, 110] : List UInt8), .int .i64 1, .int .i64 0], [str ([99, 117, 116] : List UInt8), .int .i64 8, str ([78, 110] : List UInt8), .int .i64 0, .int .i64 0], [str ([99, 114, 97, 115, 104] : List UInt8), .int .i64 9, str ([78, 110] : List UInt8), .int .i64 0, .int .i64 0], [str ([115, 116, 97, 114, 116] : List UInt8), .int .i64 10, str ([78, 110] : List UInt8), .int .i64 0, .int .i64 0], [str ([97, 114, 109] : List UInt8), .int .i64 12, str ([78, 110] : List UInt8), .int .i64 0, .int .i64 0], [str ([115, 116, 111, 112] : List UInt8), .int .i64 11, str ([78] : List UInt8), .int .i64 0, .int .i64 0], [str ([103, 101, 116] : List UInt8), .int .i64 13, str ([67, 78, 107] : List UInt8), .int .i64 0, .int .i64 1], [str ([100, 101, 108, 101, 116, 101] : List UInt8), .int .i64 13, str ([67, 78, 107] : List UInt8), .int .i64 0, .int .i64 3], [str ([112, 117, 116] : List UInt8), .int .i64 13, str ([67, 78, 107, 118] : List UInt8), .int .i64 0, .int .i64 2], [str ([115, 119, 97, 112] : List UInt8), .int .i64 13, str ([67, 78, 107, 111, 118] : List UInt8), .int .i64 0, .int .i64 4], [str ([97, 103, 97, 105, 110] : List UInt8), .int .i64 14, str ([67, 78] : List UInt8), .int .i64 0, .int .i64 0], [str ([103, 105, 118, 101] : List UInt8), .int .i64 15, str ([67] : List UInt8), .int .i64 0, .int .i64 0], [str ([99, 97, 108, 109] : List UInt8), .int .i64 16, str ([78, 110] : List UInt8), .int .i64 0, .int .i64 0]] rfl rfl Tryd.underlying106 elt109 rfl (by kernel_rfl) rfl hlb2v rfl rfl) rfl rfl rfl ?_
 intro b2v
 refine va rfl rfl (simL_nil (nrm_then (sim_rtn ?_)))
 exact rtn_fn ((some ⟨b2v, 0, none⟩), 20) rfl rfl rfl (.sel' 0 rfl (RowV.mk hlb2v) (.sel 0 rfl (.nil _)))

def synodref17_Picks.f  : Option (List (List UInt8)) := some ([([110, 111, 116, 105, 99, 101] : List UInt8), ([119, 111, 114, 107] : List UInt8), ([105, 110, 98, 111, 120] : List UInt8), ([116, 105, 99, 107] : List UInt8), ([99, 97, 108, 108] : List UInt8), ([119, 114, 105, 116, 101] : List UInt8), ([115, 121, 110, 99] : List UInt8), ([97, 112, 112, 108, 121] : List UInt8), ([115, 101, 110, 100] : List UInt8)] : List (List UInt8))
theorem synodref17_Picks.calls (W : World) (F : HA)   :
    Fn Tryd.prog W 75 [] [] F (synodref17_Picks.f ) (fun (r : List (List UInt8)) (y : Option Addr × Nat) => .slice y.1 r.length y.2) (fun r y => [RowV 9 1 (V9 tt) y.1 r y.2]) := by
 unfold synodref17_Picks.f
 refine fn_intro 2 Tryd.func75 rfl Tryd.ntmps75 rfl ?_
 refine sr ?_
 refine va rfl rfl (nx ?_)
 have hlb2v : ListV 1 (V9 tt) ([([110, 111, 116, 105, 99, 101] : List UInt8), ([119, 111, 114, 107] : List UInt8), ([105, 110, 98, 111, 120] : List UInt8), ([116, 105, 99, 107] : List UInt8), ([99, 97, 108, 108] : List UInt8), ([119, 114, 105, 116, 101] : List UInt8), ([115, 121, 110, 99] : List UInt8), ([97, 112, 112, 108, 121] : List UInt8), ([115, 101, 110, 100] : List UInt8)] : List (List UInt8)) [[str ([110, 111, 116, 105, 99, 101] : List UInt8)], [str ([119, 111, 114, 107] : List UInt8)], [str ([105, 110, 98, 111, 120] : List UInt8)], [str ([116, 105, 99, 107] : List UInt8)], [str ([99, 97, 108, 108] : List UInt8)], [str ([119, 114, 105, 116, 101] : List UInt8)], [str ([115, 121, 110, 99] : List UInt8)], [str ([97, 112, 112, 108, 121] : List UInt8)], [str ([115, 101, 110, 100] : List UInt8)]] := ⟨⟨rfl, one_of (by rfl), rfl⟩, ⟨rfl, one_of (by rfl), rfl⟩, ⟨rfl, one_of (by rfl), rfl⟩, ⟨rfl, one_of (by rfl), rfl⟩, ⟨rfl, one_of (by rfl), rfl⟩, ⟨rfl, one_of (by rfl), rfl⟩, ⟨rfl, one_of (by rfl), rfl⟩, ⟨rfl, one_of (by rfl), rfl⟩, ⟨rfl, one_of (by rfl), rfl⟩, trivial⟩
 refine simL_eff (re_litV (V := (V9 tt)) (xs := ([([110, 111, 116, 105, 99, 101] : List UInt8), ([119, 111, 114, 107] : List UInt8), ([105, 110, 98, 111, 120] : List UInt8), ([116, 105, 99, 107] : List UInt8), ([99, 97, 108, 108] : List UInt8), ([119, 114, 105, 116, 101] : List UInt8), ([115, 121, 110, 99] : List UInt8), ([97, 112, 112, 108, 121] : List UInt8), ([115, 101, 110, 100] : List UInt8)] : List (List UInt8))) [[str ([110, 111, 116, 105, 99, 101] : List UInt8)], [str ([119, 111, 114, 107] : List UInt8)], [str ([105, 110, 98, 111, 120] : List UInt8)], [str ([116, 105, 99, 107] : List UInt8)], [str ([99, 97, 108, 108] : List UInt8)], [str ([119, 114, 105, 116, 101] : List UInt8)], [str ([115, 121, 110, 99] : List UInt8)], [str ([97, 112, 112, 108, 121] : List UInt8)], [str ([115, 101, 110, 100] : List UInt8)]] rfl rfl Tryd.underlying23 elt9 rfl (by kernel_rfl) rfl hlb2v rfl rfl) rfl rfl rfl ?_
 intro b2v
 refine va rfl rfl (simL_nil (nrm_then (sim_rtn ?_)))
 exact rtn_fn ((some ⟨b2v, 0, none⟩), 9) rfl rfl rfl (.sel' 0 rfl (RowV.mk hlb2v) (.sel 0 rfl (.nil _)))

def synodref17_number.l0 (s1v : List UInt8) : Nat → Int → Int → Option ((Int) ⊕ (Int × Bool))
  | 0, _, _ => none
  | k + 1, z24v, z25v => if z25v < (s1v.length : Int) then (if 0 ≤ z25v ∧ z25v < (s1v.length : Int) then ((if ((s1v.getD z25v.toNat 0).toNat : Int) < (48 : Int) then (some true) else (if 0 ≤ z25v ∧ z25v < (s1v.length : Int) then (some (decide ((57 : Int) < ((s1v.getD z25v.toNat 0).toNat : Int)))) else none)).bind fun s29v => (if (s29v || (decide ((461168601842738790 : Int) < z24v))) = true then (some (.inr (0, false))) else (if 0 ≤ z25v ∧ z25v < (s1v.length : Int) then (synodref17_number.l0 s1v k (IntKind.i64.wrap ((IntKind.i64.wrap (10 * z24v)) + (IntKind.i64.wrap (IntKind.u8.wrap (((s1v.getD z25v.toNat 0).toNat : Int) - 48))))) (IntKind.i64.wrap (z25v + 1))) else none))) else none) else (some (.inl z24v))
def synodref17_number.f (k : Nat) (x0 : List UInt8) : Option (Int × Bool) := ((if (0 : Int) < (x0.length : Int) then (if 0 ≤ (0 : Int) ∧ (0 : Int) < (x0.length : Int) then (some (decide (((x0.getD (0 : Int).toNat 0).toNat : Int) = (45 : Int)))) else none) else (some false)).bind fun s3v => (if s3v = true then (if 0 ≤ (1 : Int) ∧ (1 : Int) ≤ (x0.length : Int) ∧ (x0.length : Int) ≤ (x0.length : Int) then (some (cut x0 (1 : Int) (x0.length : Int))) else none) else (some x0))).bind fun s1v => ((if ((decide (s1v = ([] : List UInt8))) || (decide ((19 : Int) < (s1v.length : Int)))) = true then (some true) else (if 0 ≤ (0 : Int) ∧ (0 : Int) < (s1v.length : Int) then (some ((decide (((s1v.getD (0 : Int).toNat 0).toNat : Int) = (48 : Int))) && (!decide (x0 = ([48] : List UInt8))))) else none)).bind fun s11v => (if s11v = true then (some (0, false)) else (orR (synodref17_number.l0 s1v k 0 0) fun s20v => (if (4611686018427387904 : Int) < s20v then (some (0, false)) else ((if s1v = x0 then (some s20v) else (some (IntKind.i64.wrap (-s20v)))).bind fun s41v => (some (s41v, true)))))))
theorem synodref17_number.calls (W : World) (F : HA) (k : Nat) (x0 : List UInt8)  :
    Fn Tryd.prog W 56 [str x0] [] F (synodref17_number.f k x0) (fun (r : Int × Bool) (y : Unit) => .tuple #[.int .i64 r.1, .bool r.2]) (fun r y => []) := by
 unfold synodref17_number.f
 refine fn_intro 70 Tryd.func56 rfl Tryd.ntmps56 rfl ?_
 refine sr ?_
 refine va rfl rfl ?_
 refine va rfl rfl (nx ?_)
 refine vm rfl rfl ?_
 refine va rfl rfl (simL_nil (nrm_then ?_))
 refine sim_cut (S := List UInt8) (Unit) (fun s y => [(0, str x0), (4, str s)]) (fun s y => [F]) ?_ ?_
 refine sr ?_
 refine vm rfl rfl ?_
 refine vq (q_lens rfl rfl rfl Tryd.underlying9) rfl ?_
 refine vq (q_gtr rfl rfl rfl) rfl ?_
 refine vm rfl rfl ?_
 refine simL_cut' 4 (S := Bool) (Unit) (fun s y => [(0, str x0), (4, str x0), (15, .bool s)]) (fun s y => [F]) ?_ ?_
 refine simL_casep (fun hb6v => ?_) (fun hb7v => ?_)
 rw [hb6v]
 refine simL_valg (q_move rfl rfl) rfl rfl rfl rfl rfl rfl ?_
 refine simL_ask (fun hi5v => ?_)
 refine simL_valg (q_sidx rfl rfl rfl Tryd.underlying9 hi5v.1 hi5v.2) rfl rfl rfl rfl rfl rfl ?_
 refine simL_valg (q_eql rfl rfl rfl) rfl rfl rfl rfl rfl rfl ?_
 refine vq (q_pick rfl rfl rfl rfl rfl) rfl (simL_nil ?_)
 exact nrm_cut (s := decide (((x0.getD (0 : Int).toNat 0).toNat : Int) = (45 : Int))) () ⟨rfl, rfl, rfl, trivial⟩ (.sel 0 rfl (.nil _))
 rw [hb7v]
 refine simL_skipd rfl rfl rfl rfl rfl rfl ?_
 refine simL_skipd rfl rfl rfl rfl rfl rfl ?_
 refine simL_skipd rfl rfl rfl rfl rfl rfl ?_
 refine vq (q_pick rfl rfl rfl rfl rfl) rfl (simL_nil ?_)
 exact nrm_cut (s := false) () ⟨rfl, rfl, rfl, trivial⟩ (.sel 0 rfl (.nil _))
 intro s3v y4v
 refine simL_nil (nrm_then ?_)
 refine sim_condb rfl (fun h8v => ?_) (fun h9v => ?_)
 refine sim_region ?_
 refine vm rfl rfl ?_
 refine simL_ask (fun hb10v => ?_)
 refine vq (q_cutS (lo' := (1 : Int)) (hi' := (x0.length : Int)) rfl rfl rfl rfl Tryd.underlying9 (.inl ⟨rfl, rfl⟩) (.inr ⟨_, rfl⟩) hb10v) rfl ?_
 refine va rfl rfl (simL_nil ?_)
 exact nrm_cut (s := cut x0 (1 : Int) (x0.length : Int)) () ⟨rfl, rfl, trivial⟩ (.sel 0 rfl (.nil _))
 refine sim_skip ?_
 exact nrm_cut (s := x0) () ⟨rfl, rfl, trivial⟩ (.sel 0 rfl (.nil _))
 intro s1v y2v
 refine sim_seq (sr ?_)
 refine vm rfl rfl ?_
 refine vq (q_eqs rfl rfl rfl) rfl ?_
 refine vm rfl rfl ?_
 refine simL_valc (b := decide (s1v = ([] : List UInt8))) (fun hb47v => RQ.sub (E' := [(4, str s1v)]) ⟨rfl, trivial⟩ (q_move rfl rfl)) rfl rfl rfl rfl rfl ?_
 refine simL_valc (b := decide (s1v = ([] : List UInt8))) (fun hb46v => RQ.sub (E' := [(21, str s1v)]) ⟨lk_cv rfl hb46v, trivial⟩ (q_lens rfl rfl rfl Tryd.underlying9)) rfl rfl rfl rfl rfl ?_
 refine simL_valc (b := decide (s1v = ([] : List UInt8))) (fun hb45v => RQ.sub (E' := [(22, .int .i64 (s1v.length : Int))]) ⟨lk_cv rfl hb45v, trivial⟩ (q_gtr rfl rfl rfl)) rfl rfl rfl rfl rfl ?_
 refine vq (q_or rfl rfl rfl) rfl ?_
 refine vm rfl rfl ?_
 refine simL_cut' 8 (S := Bool) (Unit) (fun s y => [(0, str x0), (4, str s1v), (33, .bool s)]) (fun s y => [F]) ?_ ?_
 refine simL_caseb (fun hb16v => ?_) (fun hb17v => ?_)
 rw [hb16v]
 refine simL_skipd rfl rfl rfl rfl rfl rfl ?_
 refine simL_skipd rfl rfl rfl rfl rfl rfl ?_
 refine simL_skipd rfl rfl rfl rfl rfl rfl ?_
 refine simL_skipd rfl rfl rfl rfl rfl rfl ?_
 refine simL_skipu rfl rfl rfl rfl rfl ?_
 refine simL_skipu rfl rfl rfl rfl rfl ?_
 refine simL_skipd rfl rfl rfl rfl rfl rfl ?_
 refine vq (q_pick rfl rfl rfl rfl rfl) rfl (simL_nil ?_)
 exact nrm_cut (s := true) () ⟨rfl, rfl, rfl, trivial⟩ (.sel 0 rfl (.nil _))
 rw [hb17v]
 refine simL_valg (q_move rfl rfl) rfl rfl rfl rfl rfl rfl ?_
 refine simL_ask (fun hi13v => ?_)
 refine simL_valg (q_sidx rfl rfl rfl Tryd.underlying9 hi13v.1 hi13v.2) rfl rfl rfl rfl rfl rfl ?_
 refine simL_valg (q_eql rfl rfl rfl) rfl rfl rfl rfl rfl rfl ?_
 refine simL_valg (q_move rfl rfl) rfl rfl rfl rfl rfl rfl ?_
 refine simL_valc (b := decide (((s1v.getD (0 : Int).toNat 0).toNat : Int) = (48 : Int))) (fun hb15v => RQ.sub (E' := [(0, str x0)]) ⟨rfl, trivial⟩ (q_move rfl rfl)) rfl rfl rfl rfl rfl ?_
 refine simL_valc (b := decide (((s1v.getD (0 : Int).toNat 0).toNat : Int) = (48 : Int))) (fun hb14v => RQ.sub (E' := [(30, str x0)]) ⟨lk_cv rfl hb14v, trivial⟩ (q_nes rfl rfl rfl)) rfl rfl rfl rfl rfl ?_
 refine simL_valg (q_and rfl rfl rfl) rfl rfl rfl rfl rfl rfl ?_
 refine vq (q_pick rfl rfl rfl rfl rfl) rfl (simL_nil ?_)
 exact nrm_cut (s := (decide (((s1v.getD (0 : Int).toNat 0).toNat : Int) = (48 : Int))) && (!decide (x0 = ([48] : List UInt8)))) () ⟨rfl, rfl, rfl, trivial⟩ (.sel 0 rfl (.nil _))
 intro s11v y12v
 refine simL_nil (nrm_then ?_)
 refine sim_condb rfl (fun h18v => ?_) (fun h19v => ?_)
 refine sr ?_
 refine va rfl rfl ?_
 refine va rfl rfl (simL_nil (nrm_then (sim_rtn ?_)))
 refine rtn_then ?_
 exact rtn_fn () rfl rfl rfl (.sel 0 rfl (.nil _))
 refine sim_skip ?_
 refine nrm_then (sr ?_)
 refine va rfl rfl (simL_nil (nrm_then ?_))
 refine sim_cutR (S := Int) (Unit) (fun s y => [(0, str x0), (4, str s1v), (5, .int .i64 s)]) (fun s y => [F]) ?_ ?_
 refine sr ?_
 refine va rfl rfl (simL_nil (nrm_then ?_))
 refine sim_block ?_
 refine sim_loop (S := Int × Int) (Unit) (fun k s => synodref17_number.l0 s1v k s.1 s.2) (fun s y => [(0, str x0), (4, str s1v), (5, .int .i64 s.1), (6, .int .i64 s.2)]) (fun s y => [F]) (fun _ => by rw [synodref17_number.l0]) ?_ k (0, 0) () ⟨rfl, rfl, rfl, rfl, trivial⟩ (.sel 0 rfl (.nil _))
 intro k s22v y23v
 refine sim_eq (by rw [synodref17_number.l0]) ?_
 refine sim_seq (sr ?_)
 refine vm rfl rfl ?_
 refine vm rfl rfl ?_
 refine vq (q_lens rfl rfl rfl Tryd.underlying9) rfl ?_
 refine vq (q_lss rfl rfl rfl) rfl (simL_nil (nrm_then ?_))
 refine sim_cond rfl (fun h26v => ?_) (fun h27v => ?_)
 refine sim_skip ?_
 refine nrm_then (sim_seq ?_)
 refine sim_block ?_
 refine sim_seq (sr ?_)
 refine vm rfl rfl ?_
 refine vm rfl rfl ?_
 refine simL_ask (fun hi28v => ?_)
 refine vq (q_sidx rfl rfl rfl Tryd.underlying9 hi28v.1 hi28v.2) rfl ?_
 refine vq (q_lss rfl rfl rfl) rfl ?_
 refine vm rfl rfl ?_
 refine simL_cut' 5 (S := Bool) (Unit) (fun s y => [(0, str x0), (4, str s1v), (5, .int .i64 s22v.1), (6, .int .i64 s22v.2), (49, .bool s)]) (fun s y => [F]) ?_ ?_
 refine simL_casep (fun hb32v => ?_) (fun hb33v => ?_)
 rw [hb32v]
 refine simL_skipd rfl rfl rfl rfl rfl rfl ?_
 refine simL_skipd rfl rfl rfl rfl rfl rfl ?_
 refine simL_skipd rfl rfl rfl rfl rfl rfl ?_
 refine simL_skipd rfl rfl rfl rfl rfl rfl ?_
 refine vq (q_pick rfl rfl rfl rfl rfl) rfl (simL_nil ?_)
 exact nrm_cut (s := true) () ⟨rfl, rfl, rfl, rfl, rfl, trivial⟩ (.sel 0 rfl (.nil _))
 rw [hb33v]
 refine simL_valg (q_move rfl rfl) rfl rfl rfl rfl rfl rfl ?_
 refine simL_valg (q_move rfl rfl) rfl rfl rfl rfl rfl rfl ?_
 refine simL_ask (fun hi31v => ?_)
 refine simL_valg (q_sidx rfl rfl rfl Tryd.underlying9 hi31v.1 hi31v.2) rfl rfl rfl rfl rfl rfl ?_
 refine simL_valg (q_gtr rfl rfl rfl) rfl rfl rfl rfl rfl rfl ?_
 refine vq (q_pick rfl rfl rfl rfl rfl) rfl (simL_nil ?_)
 exact nrm_cut (s := decide ((57 : Int) < ((s1v.getD s22v.2.toNat 0).toNat : Int))) () ⟨rfl, rfl, rfl, rfl, rfl, trivial⟩ (.sel 0 rfl (.nil _))
 intro s29v y30v
 refine vm rfl rfl ?_
 refine simL_valc (b := s29v) (fun hb38v => RQ.sub (E' := [(5, .int .i64 s22v.1)]) ⟨rfl, trivial⟩ (q_move rfl rfl)) rfl rfl rfl rfl rfl ?_
 refine simL_valc (b := s29v) (fun hb37v => RQ.sub (E' := [(51, .int .i64 s22v.1)]) ⟨lk_cv rfl hb37v, trivial⟩ (q_gtr rfl rfl rfl)) rfl rfl rfl rfl rfl ?_
 refine vq (q_or rfl rfl rfl) rfl (simL_nil (nrm_then ?_))
 refine sim_condb rfl (fun h34v => ?_) (fun h35v => ?_)
 refine sr ?_
 refine va rfl rfl ?_
 refine va rfl rfl (simL_nil (nrm_then (sim_rtn ?_)))
 refine rtn_then ?_
 refine rtn_block ?_
 refine rtn_then ?_
 refine rtn_loop ?_
 refine rtn_block ?_
 refine rtn_cutR ?_
 exact rtn_fn () rfl rfl rfl (.sel 0 rfl (.nil _))
 refine sim_skip ?_
 refine nrm_then (sim_region ?_)
 refine vm rfl rfl ?_
 refine vq (q_mul rfl rfl rfl) rfl ?_
 refine vm rfl rfl ?_
 refine vm rfl rfl ?_
 refine simL_ask (fun hi36v => ?_)
 refine vq (q_sidx rfl rfl rfl Tryd.underlying9 hi36v.1 hi36v.2) rfl ?_
 refine vq (q_sub rfl rfl rfl) rfl ?_
 refine vq (q_conv rfl rfl Tryd.underlying5 Tryd.underlying3) rfl ?_
 refine vq (q_add rfl rfl rfl) rfl ?_
 refine va rfl rfl (simL_nil (nrm_block (nrm_then (sim_region ?_))))
 refine vm rfl rfl ?_
 refine vq (q_add rfl rfl rfl) rfl ?_
 refine va rfl rfl (simL_nil ?_)
 exact nrm_again (s := (IntKind.i64.wrap ((IntKind.i64.wrap (10 * s22v.1)) + (IntKind.i64.wrap (IntKind.u8.wrap (((s1v.getD s22v.2.toNat 0).toNat : Int) - 48)))), IntKind.i64.wrap (s22v.2 + 1))) () ⟨rfl, rfl, rfl, rfl, trivial⟩ (.sel 0 rfl (.nil _))
 refine sim_exi ?_
 refine exi_then ?_
 refine exi_loop ?_
 refine exi_here ?_
 exact nrm_cutR (s := s22v.1) () ⟨rfl, rfl, rfl, trivial⟩ (.sel 0 rfl (.nil _))
 intro s20v y21v
 refine sim_seq (sr ?_)
 refine vm rfl rfl ?_
 refine vq (q_gtr rfl rfl rfl) rfl (simL_nil (nrm_then ?_))
 refine sim_cond rfl (fun h39v => ?_) (fun h40v => ?_)
 refine sr ?_
 refine va rfl rfl ?_
 refine va rfl rfl (simL_nil (nrm_then (sim_rtn ?_)))
 refine rtn_then ?_
 exact rtn_fn () rfl rfl rfl (.sel 0 rfl (.nil _))
 refine sim_skip ?_
 refine nrm_then ?_
 refine sim_cut (S := Int) (Unit) (fun s y => [(5, .int .i64 s)]) (fun s y => [F]) ?_ ?_
 refine sr ?_
 refine vm rfl rfl ?_
 refine vm rfl rfl ?_
 refine vq (q_nes rfl rfl rfl) rfl (simL_nil (nrm_then ?_))
 refine sim_condn rfl (fun h43v => ?_) (fun h44v => ?_)
 refine sim_skip ?_
 exact nrm_cut (s := s20v) () ⟨rfl, trivial⟩ (.sel 0 rfl (.nil _))
 refine sim_region ?_
 refine vm rfl rfl ?_
 refine vq (q_neg rfl rfl) rfl ?_
 refine va rfl rfl (simL_nil ?_)
 exact nrm_cut (s := IntKind.i64.wrap (-s20v)) () ⟨rfl, trivial⟩ (.sel 0 rfl (.nil _))
 intro s41v y42v
 refine sr ?_
 refine vm rfl rfl ?_
 refine va rfl rfl ?_
 refine va rfl rfl (simL_nil (nrm_then (sim_rtn ?_)))
 exact rtn_fn () rfl rfl rfl (.sel 0 rfl (.nil _))

def synodref17_set.l0 (x0_0 : Int) (x0_1 : Int) (x0_2 : Int) (x0_4 : Int) (x0_5 : Int) (x0_6 : List UInt8) (x0_7 : List UInt8) (x0_8 : List UInt8) (x2 : List UInt8) (s9v : List (List UInt8)) : Nat → Int → Option ((Unit) ⊕ (Int × Int × Int × Int × Int × Int × Int × List UInt8 × List UInt8 × List UInt8))
  | 0, _ => none
  | k + 1, z16v => if z16v < (s9v.length : Int) then (if 0 ≤ z16v ∧ z16v < (s9v.length : Int) then (if (s9v.getD z16v.toNat ([] : List UInt8)) = x2 then (some (.inr (0, x0_0, x0_1, x0_2, IntKind.i64.wrap (z16v + 1), x0_4, x0_5, x0_6, x0_7, x0_8))) else (synodref17_set.l0 x0_0 x0_1 x0_2 x0_4 x0_5 x0_6 x0_7 x0_8 x2 s9v k (IntKind.i64.wrap (z16v + 1)))) else none) else (some (.inl ()))
def synodref17_set.f (k : Nat) (x0_0 : Int) (x0_1 : Int) (x0_2 : Int) (x0_3 : Int) (x0_4 : Int) (x0_5 : Int) (x0_6 : List UInt8) (x0_7 : List UInt8) (x0_8 : List UInt8) (x1 : Int) (x2 : List UInt8) : Option (Int × Int × Int × Int × Int × Int × Int × List UInt8 × List UInt8 × List UInt8) := if x1 = (107 : Int) then (some (0, x0_0, x0_1, x0_2, x0_3, x0_4, x0_5, x2, x0_7, x0_8)) else (if x1 = (118 : Int) then (some (0, x0_0, x0_1, x0_2, x0_3, x0_4, x0_5, x0_6, x2, x0_8)) else (if x1 = (111 : Int) then (some (0, x0_0, x0_1, x0_2, x0_3, x0_4, x0_5, x0_6, x0_7, x2)) else (if x1 = (112 : Int) then ((synodref17_Picks.f).bind fun s9v => (orR (synodref17_set.l0 x0_0 x0_1 x0_2 x0_4 x0_5 x0_6 x0_7 x0_8 x2 s9v k 0) fun s12v => (some (20, x0_0, x0_1, x0_2, x0_3, x0_4, x0_5, x0_6, x0_7, x0_8)))) else ((synodref17_number.f k x2).bind fun s31v => (if (!s31v.2) = true then (some (22, x0_0, x0_1, x0_2, x0_3, x0_4, x0_5, x0_6, x0_7, x0_8)) else ((if x1 = (78 : Int) then (some (s31v.1, x0_2, x0_3, x0_4)) else (if x1 = (67 : Int) then (some (x0_1, s31v.1, x0_3, x0_4)) else (if x1 = (110 : Int) then (some (x0_1, x0_2, s31v.1, x0_4)) else (some (x0_1, x0_2, x0_3, s31v.1))))).bind fun s36v => (some (0, x0_0, s36v.1, s36v.2.1, s36v.2.2.1, s36v.2.2.2, x0_5, x0_6, x0_7, x0_8))))))))
theorem synodref17_set.calls (W : World) (F : HA) (k : Nat) (b0 : Nat) (x0_0 : Int) (x0_1 : Int) (x0_2 : Int) (x0_3 : Int) (x0_4 : Int) (x0_5 : Int) (x0_6 : List UInt8) (x0_7 : List UInt8) (x0_8 : List UInt8) (x1 : Int) (x2 : List UInt8)  :
    Fn Tryd.prog W 47 [.pointer (some ⟨b0, 0, none⟩), .int .u8 x1, str x2] [obj b0 37 [.int .i64 x0_0, .int .i64 x0_1, .int .i64 x0_2, .int .i64 x0_3, .int .i64 x0_4, .int .i64 x0_5, str x0_6, str x0_7, str x0_8]] F (synodref17_set.f k x0_0 x0_1 x0_2 x0_3 x0_4 x0_5 x0_6 x0_7 x0_8 x1 x2) (fun (r : Int × Int × Int × Int × Int × Int × Int × List UInt8 × List UInt8 × List UInt8) (y : Unit) => .int .i64 r.1) (fun r y => [obj b0 37 [.int .i64 r.2.1, .int .i64 r.2.2.1, .int .i64 r.2.2.2.1, .int .i64 r.2.2.2.2.1, .int .i64 r.2.2.2.2.2.1, .int .i64 r.2.2.2.2.2.2.1, str r.2.2.2.2.2.2.2.1, str r.2.2.2.2.2.2.2.2.1, str r.2.2.2.2.2.2.2.2.2]]) := by
 unfold synodref17_set.f
 refine fn_intro 80 Tryd.func47 rfl Tryd.ntmps47 rfl ?_
 refine sr ?_
 refine va rfl rfl (simL_nil (nrm_then (sim_seq (sr ?_))))
 refine vm rfl rfl (simL_nil (nrm_then ?_))
 refine sim_block ?_
 refine sr ?_
 refine vq (q_eql rfl rfl rfl) rfl ?_
 refine va rfl rfl (simL_nil (nrm_then ?_))
 refine sim_cond rfl (fun h1v => ?_) (fun h2v => ?_)
 refine sr ?_
 refine vm rfl rfl ?_
 refine vm rfl rfl ?_
 refine vn rfl rfl ?_
 refine vq (q_fa rfl rfl Tryd.underlying37 rfl rfl Tryd.sizeOf9 rfl) rfl ?_
 refine simL_do (re_store 0 rfl rfl rfl Tryd.sizeOf9 rfl rfl (one_of (by rfl)) rfl rfl) rfl rfl ?_
 intro _
 refine simL_ent (H' := [obj b0 37 [.int .i64 x0_0, .int .i64 x0_1, .int .i64 x0_2, .int .i64 x0_3, .int .i64 x0_4, .int .i64 x0_5, str x2, str x0_7, str x0_8], F]) (Ent.refl _) ?_
 refine nx ?_
 refine va rfl rfl (simL_nil (nrm_then (sim_rtn ?_)))
 refine rtn_block ?_
 refine rtn_then ?_
 exact rtn_fn () rfl rfl rfl (.sel 0 rfl (.sel 0 rfl (.nil _)))
 refine sr ?_
 refine vq (q_eql rfl rfl rfl) rfl ?_
 refine va rfl rfl (simL_nil (nrm_then ?_))
 refine sim_cond rfl (fun h3v => ?_) (fun h4v => ?_)
 refine sr ?_
 refine vm rfl rfl ?_
 refine vm rfl rfl ?_
 refine vn rfl rfl ?_
 refine vq (q_fa rfl rfl Tryd.underlying37 rfl rfl Tryd.sizeOf9 rfl) rfl ?_
 refine simL_do (re_store 0 rfl rfl rfl Tryd.sizeOf9 rfl rfl (one_of (by rfl)) rfl rfl) rfl rfl ?_
 intro _
 refine simL_ent (H' := [obj b0 37 [.int .i64 x0_0, .int .i64 x0_1, .int .i64 x0_2, .int .i64 x0_3, .int .i64 x0_4, .int .i64 x0_5, str x0_6, str x2, str x0_8], F]) (Ent.refl _) ?_
 refine nx ?_
 refine va rfl rfl (simL_nil (nrm_then (sim_rtn ?_)))
 refine rtn_block ?_
 refine rtn_then ?_
 exact rtn_fn () rfl rfl rfl (.sel 0 rfl (.sel 0 rfl (.nil _)))
 refine sr ?_
 refine vq (q_eql rfl rfl rfl) rfl ?_
 refine va rfl rfl (simL_nil (nrm_then ?_))
 refine sim_cond rfl (fun h5v => ?_) (fun h6v => ?_)
 refine sr ?_
 refine vm rfl rfl ?_
 refine vm rfl rfl ?_
 refine vn rfl rfl ?_
 refine vq (q_fa rfl rfl Tryd.underlying37 rfl rfl Tryd.sizeOf9 rfl) rfl ?_
 refine simL_do (re_store 0 rfl rfl rfl Tryd.sizeOf9 rfl rfl (one_of (by rfl)) rfl rfl) rfl rfl ?_
 intro _
 refine simL_ent (H' := [obj b0 37 [.int .i64 x0_0, .int .i64 x0_1, .int .i64 x0_2, .int .i64 x0_3, .int .i64 x0_4, .int .i64 x0_5, str x0_6, str x0_7, str x2], F]) (Ent.refl _) ?_
 refine nx ?_
 refine va rfl rfl (simL_nil (nrm_then (sim_rtn ?_)))
 refine rtn_block ?_
 refine rtn_then ?_
 exact rtn_fn () rfl rfl rfl (.sel 0 rfl (.sel 0 rfl (.nil _)))
 refine sr ?_
 refine vq (q_eql rfl rfl rfl) rfl ?_
 refine va rfl rfl (simL_nil (nrm_then ?_))
 refine sim_cond rfl (fun h7v => ?_) (fun h8v => ?_)
 refine sr ?_
 refine simL_bind (fun s9v hs10v => ?_)
 refine simL_eff (re_call (vs := []) (cap := []) (A := []) (rst := [obj b0 37 [.int .i64 x0_0, .int .i64 x0_1, .int .i64 x0_2, .int .i64 x0_3, .int .i64 x0_4, .int .i64 x0_5, str x0_6, str x0_7, str x0_8], F]) rfl rfl rfl rfl rfl rfl Tryd.call75 (.sel 0 rfl (.sel 0 rfl (.nil _))) (synodref17_Picks.calls _ _  ) hs10v) rfl rfl rfl ?_
 intro y11v
 refine va rfl rfl (simL_nil (nrm_then ?_))
 refine sim_cutR (S := Unit) (Unit) (fun s y => []) (fun s y => [obj b0 37 [.int .i64 x0_0, .int .i64 x0_1, .int .i64 x0_2, .int .i64 x0_3, .int .i64 x0_4, .int .i64 x0_5, str x0_6, str x0_7, str x0_8], F]) ?_ ?_
 refine sr ?_
 refine va rfl rfl (simL_nil (nrm_then ?_))
 refine sim_block ?_
 refine sim_loop (S := Int) (Unit) (fun k s => synodref17_set.l0 x0_0 x0_1 x0_2 x0_4 x0_5 x0_6 x0_7 x0_8 x2 s9v k s) (fun s y => [(0, .pointer (some ⟨b0, 0, none⟩)), (2, str x2), (7, .slice y11v.1 s9v.length y11v.2), (8, .int .i64 s)]) (fun s y => [obj b0 37 [.int .i64 x0_0, .int .i64 x0_1, .int .i64 x0_2, .int .i64 x0_3, .int .i64 x0_4, .int .i64 x0_5, str x0_6, str x0_7, str x0_8], RowV 9 1 (V9 tt) y11v.1 s9v y11v.2, F]) (fun _ => by rw [synodref17_set.l0]) ?_ k 0 () ⟨rfl, rfl, rfl, rfl, trivial⟩ (.sel 1 rfl (.sel 0 rfl (.sel 0 rfl (.nil _))))
 intro k s14v y15v
 refine sim_eq (by rw [synodref17_set.l0]) ?_
 refine sim_seq (sr ?_)
 refine vm rfl rfl ?_
 refine vm rfl rfl ?_
 refine vq (q_len rfl rfl rfl Tryd.underlying23) rfl ?_
 refine vq (q_lss rfl rfl rfl) rfl (simL_nil (nrm_then ?_))
 refine sim_cond rfl (fun h17v => ?_) (fun h18v => ?_)
 refine sim_skip ?_
 refine nrm_then (sim_seq ?_)
 refine sim_block ?_
 refine sr ?_
 refine vm rfl rfl ?_
 refine vm rfl rfl ?_
 refine simL_openV 1 rfl (fun rs27v hl28v => ?_)
 refine simL_ask (fun hi19v => ?_)
 refine simL_posV 1 rfl hl28v rfl (i := s14v.toNat) (by omega) ([] : List UInt8) (fun b20v b20vo r23v ha21v hV24v hlr25v hcell26v => ?_)
 obtain rfl := hV24v
 refine vq (q_idx rfl rfl rfl ha21v Tryd.underlying23 Tryd.sizeOf9 hi19v.1 hi19v.2) rfl ?_
 refine vq (q_load rfl rfl Tryd.isAgg9 (hcell26v 1 rfl 0 _ rfl)) rfl ?_
 refine vm rfl rfl ?_
 refine vq (q_eqs rfl rfl rfl) rfl (simL_nil (nrm_then ?_))
 refine sim_cond rfl (fun h29v => ?_) (fun h30v => ?_)
 refine sr ?_
 refine vm rfl rfl ?_
 refine vm rfl rfl ?_
 refine vq (q_add rfl rfl rfl) rfl ?_
 refine vn rfl rfl ?_
 refine vq (q_fa rfl rfl Tryd.underlying37 rfl rfl Tryd.sizeOf3 rfl) rfl ?_
 refine simL_do (re_store 0 rfl rfl rfl Tryd.sizeOf3 rfl rfl (one_of (by rfl)) rfl rfl) rfl rfl ?_
 intro _
 refine simL_ent (H' := [obj b0 37 [.int .i64 x0_0, .int .i64 x0_1, .int .i64 x0_2, .int .i64 (IntKind.i64.wrap (s14v + 1)), .int .i64 x0_4, .int .i64 x0_5, str x0_6, str x0_7, str x0_8], Row 9 1 y11v.1 s9v.length y11v.2 rs27v.flatten, F]) (Ent.refl _) ?_
 refine nx ?_
 refine va rfl rfl (simL_nil (nrm_then (sim_rtn ?_)))
 refine rtn_block ?_
 refine rtn_then ?_
 refine rtn_loop ?_
 refine rtn_block ?_
 refine rtn_cutR ?_
 refine rtn_block ?_
 refine rtn_then ?_
 exact rtn_fn () rfl rfl rfl (.sel 0 rfl (.sel 1 rfl (.nil _)))
 refine sim_skip ?_
 refine nrm_block (nrm_then (sim_region ?_))
 refine vm rfl rfl ?_
 refine vq (q_add rfl rfl rfl) rfl ?_
 refine va rfl rfl (simL_nil ?_)
 exact nrm_again (s := IntKind.i64.wrap (s14v + 1)) () ⟨rfl, rfl, rfl, rfl, trivial⟩ (.sel 0 rfl (.sel' 0 rfl (RowV.mk hl28v) (.sel 0 rfl (.nil _))))
 refine sim_exi ?_
 refine exi_then ?_
 refine exi_loop ?_
 refine exi_here ?_
 exact nrm_cutR (s := ()) () trivial (.sel 0 rfl (.sel 1 rfl (.nil _)))
 intro s12v y13v
 refine sr ?_
 refine va rfl rfl (simL_nil (nrm_then (sim_rtn ?_)))
 refine rtn_block ?_
 refine rtn_then ?_
 exact rtn_fn () rfl rfl rfl (.sel 0 rfl (.sel 0 rfl (.nil _)))
 refine sim_skip ?_
 refine nrm_block (nrm_then (sr ?_))
 refine vm rfl rfl ?_
 refine simL_bind (fun s31v hs32v => ?_)
 refine simL_eff (re_call (vs := [str x2]) (cap := []) (A := []) (rst := [obj b0 37 [.int .i64 x0_0, .int .i64 x0_1, .int .i64 x0_2, .int .i64 x0_3, .int .i64 x0_4, .int .i64 x0_5, str x0_6, str x0_7, str x0_8], F]) rfl rfl rfl rfl rfl rfl Tryd.call56 (.sel 0 rfl (.sel 0 rfl (.nil _))) (synodref17_number.calls _ _ k x2 ) hs32v) rfl rfl rfl ?_
 intro y33v
 refine vm rfl rfl ?_
 refine vq (q_ext rfl rfl rfl) rfl ?_
 refine vq (q_ext rfl rfl rfl) rfl ?_
 refine va rfl rfl ?_
 refine va rfl rfl (simL_nil (nrm_then (sim_seq (sr ?_))))
 refine vm rfl rfl ?_
 refine vq (q_not rfl rfl) rfl (simL_nil (nrm_then ?_))
 refine sim_condb rfl (fun h34v => ?_) (fun h35v => ?_)
 refine sr ?_
 refine va rfl rfl (simL_nil (nrm_then (sim_rtn ?_)))
 refine rtn_then ?_
 exact rtn_fn () rfl rfl rfl (.sel 0 rfl (.sel 0 rfl (.nil _)))
 refine sim_skip ?_
 refine nrm_then ?_
 refine sim_cut (S := Int × Int × Int × Int) (Unit) (fun s y => []) (fun s y => [obj b0 37 [.int .i64 x0_0, .int .i64 s.1, .int .i64 s.2.1, .int .i64 s.2.2.1, .int .i64 s.2.2.2, .int .i64 x0_5, str x0_6, str x0_7, str x0_8], F]) ?_ ?_
 refine sr ?_
 refine vm rfl rfl (simL_nil (nrm_then ?_))
 refine sim_block ?_
 refine sr ?_
 refine vq (q_eql rfl rfl rfl) rfl ?_
 refine va rfl rfl (simL_nil (nrm_then ?_))
 refine sim_cond rfl (fun h38v => ?_) (fun h39v => ?_)
 refine sim_region ?_
 refine vm rfl rfl ?_
 refine vm rfl rfl ?_
 refine vn rfl rfl ?_
 refine vq (q_fa rfl rfl Tryd.underlying37 rfl rfl Tryd.sizeOf3 rfl) rfl ?_
 refine simL_do (re_store 0 rfl rfl rfl Tryd.sizeOf3 rfl rfl (one_of (by rfl)) rfl rfl) rfl rfl ?_
 intro _
 refine simL_ent (H' := [obj b0 37 [.int .i64 x0_0, .int .i64 s31v.1, .int .i64 x0_2, .int .i64 x0_3, .int .i64 x0_4, .int .i64 x0_5, str x0_6, str x0_7, str x0_8], F]) (Ent.refl _) ?_
 refine simL_nil (nrm_block ?_)
 exact nrm_cut (s := (s31v.1, x0_2, x0_3, x0_4)) () trivial (.sel 0 rfl (.sel 0 rfl (.nil _)))
 refine sr ?_
 refine vq (q_eql rfl rfl rfl) rfl ?_
 refine va rfl rfl (simL_nil (nrm_then ?_))
 refine sim_cond rfl (fun h40v => ?_) (fun h41v => ?_)
 refine sim_region ?_
 refine vm rfl rfl ?_
 refine vm rfl rfl ?_
 refine vn rfl rfl ?_
 refine vq (q_fa rfl rfl Tryd.underlying37 rfl rfl Tryd.sizeOf3 rfl) rfl ?_
 refine simL_do (re_store 0 rfl rfl rfl Tryd.sizeOf3 rfl rfl (one_of (by rfl)) rfl rfl) rfl rfl ?_
 intro _
 refine simL_ent (H' := [obj b0 37 [.int .i64 x0_0, .int .i64 x0_1, .int .i64 s31v.1, .int .i64 x0_3, .int .i64 x0_4, .int .i64 x0_5, str x0_6, str x0_7, str x0_8], F]) (Ent.refl _) ?_
 refine simL_nil (nrm_block ?_)
 exact nrm_cut (s := (x0_1, s31v.1, x0_3, x0_4)) () trivial (.sel 0 rfl (.sel 0 rfl (.nil _)))
 refine sr ?_
 refine vq (q_eql rfl rfl rfl) rfl ?_
 refine va rfl rfl (simL_nil (nrm_then ?_))
 refine sim_cond rfl (fun h42v => ?_) (fun h43v => ?_)
 refine sim_region ?_
 refine vm rfl rfl ?_
 refine vm rfl rfl ?_
 refine vn rfl rfl ?_
 refine vq (q_fa rfl rfl Tryd.underlying37 rfl rfl Tryd.sizeOf3 rfl) rfl ?_
 refine simL_do (re_store 0 rfl rfl rfl Tryd.sizeOf3 rfl rfl (one_of (by rfl)) rfl rfl) rfl rfl ?_
 intro _
 refine simL_ent (H' := [obj b0 37 [.int .i64 x0_0, .int .i64 x0_1, .int .i64 x0_2, .int .i64 s31v.1, .int .i64 x0_4, .int .i64 x0_5, str x0_6, str x0_7, str x0_8], F]) (Ent.refl _) ?_
 refine simL_nil (nrm_block ?_)
 exact nrm_cut (s := (x0_1, x0_2, s31v.1, x0_4)) () trivial (.sel 0 rfl (.sel 0 rfl (.nil _)))
 refine sim_region ?_
 refine vm rfl rfl ?_
 refine vm rfl rfl ?_
 refine vn rfl rfl ?_
 refine vq (q_fa rfl rfl Tryd.underlying37 rfl rfl Tryd.sizeOf3 rfl) rfl ?_
 refine simL_do (re_store 0 rfl rfl rfl Tryd.sizeOf3 rfl rfl (one_of (by rfl)) rfl rfl) rfl rfl ?_
 intro _
 refine simL_ent (H' := [obj b0 37 [.int .i64 x0_0, .int .i64 x0_1, .int .i64 x0_2, .int .i64 x0_3, .int .i64 s31v.1, .int .i64 x0_5, str x0_6, str x0_7, str x0_8], F]) (Ent.refl _) ?_
 refine simL_nil (nrm_block ?_)
 exact nrm_cut (s := (x0_1, x0_2, x0_3, s31v.1)) () trivial (.sel 0 rfl (.sel 0 rfl (.nil _)))
 intro s36v y37v
 refine sr ?_
 refine va rfl rfl (simL_nil (nrm_then (sim_rtn ?_)))
 exact rtn_fn () rfl rfl rfl (.sel 0 rfl (.sel 0 rfl (.nil _)))

def synodref17_ParseAct.l1 (s2v : List (List UInt8) × Int) (s7v : List (Ty109)) (s12v : Int) : Nat → Int → Int → Int → Int → Int → Int → Int → List UInt8 → List UInt8 → List UInt8 → Option ((Int × Int × Int × Int × Int × Int × List UInt8 × List UInt8 × List UInt8) ⊕ ((Unit) ⊕ ((Unit) ⊕ (Int × Int × Int × Int × Int × Int × List UInt8 × List UInt8 × List UInt8 × Int))))
  | 0, _, _, _, _, _, _, _, _, _, _ => none
  | k + 1, z90v, z91v, z92v, z93v, z94v, z95v, z96v, z97v, z98v, z99v => if 0 ≤ s12v ∧ s12v < (s7v.length : Int) then (if z90v < (((s7v.getD s12v.toNat dz109).2.2.1).length : Int) then (if 0 ≤ s12v ∧ s12v < (s7v.length : Int) then (if 0 ≤ z90v ∧ z90v < (((s7v.getD s12v.toNat dz109).2.2.1).length : Int) then (if 0 ≤ IntKind.i64.wrap (z90v + 1) ∧ IntKind.i64.wrap (z90v + 1) < (s2v.1.length : Int) then ((synodref17_set.f k z91v z92v z93v z94v z95v z96v z97v z98v z99v ((((s7v.getD s12v.toNat dz109).2.2.1).getD z90v.toNat 0).toNat : Int) (s2v.1.getD (IntKind.i64.wrap (z90v + 1)).toNat ([] : List UInt8))).bind fun s131v => (if s131v.1 = (0 : Int) then (synodref17_ParseAct.l1 s2v s7v s12v k (IntKind.i64.wrap (z90v + 1)) s131v.2.1 s131v.2.2.1 s131v.2.2.2.1 s131v.2.2.2.2.1 s131v.2.2.2.2.2.1 s131v.2.2.2.2.2.2.1 s131v.2.2.2.2.2.2.2.1 s131v.2.2.2.2.2.2.2.2.1 s131v.2.2.2.2.2.2.2.2.2) else (some (.inr (.inr (.inr (0, 0, 0, 0, 0, 0, ([] : List UInt8), ([] : List UInt8), ([] : List UInt8), s131v.1))))))) else none) else none) else none) else (some (.inl (z91v, z92v, z93v, z94v, z95v, z96v, z97v, z98v, z99v)))) else none
def synodref17_ParseAct.l0 (s2v : List (List UInt8) × Int) (s7v : List (Ty109)) : Nat → Int → Option ((Unit) ⊕ (Int × Int × Int × Int × Int × Int × List UInt8 × List UInt8 × List UInt8 × Int))
  | 0, _ => none
  | k + 1, z14v => if z14v < (s7v.length : Int) then (orR ((if (s2v.1.length : Int) = (0 : Int) then (some true) else (if 0 ≤ z14v ∧ z14v < (s7v.length : Int) then (if 0 ≤ (0 : Int) ∧ (0 : Int) < (s2v.1.length : Int) then (some (!decide (((s7v.getD z14v.toNat dz109).1) = (s2v.1.getD (0 : Int).toNat ([] : List UInt8))))) else none) else none)).bind fun s19v => (if s19v = true then (some (.inl ())) else (if 0 ≤ z14v ∧ z14v < (s7v.length : Int) then (if IntKind.i64.wrap ((s2v.1.length : Int) - 1) = (((s7v.getD z14v.toNat dz109).2.2.1).length : Int) then (if 0 ≤ z14v ∧ z14v < (s7v.length : Int) then (if 0 ≤ z14v ∧ z14v < (s7v.length : Int) then (if 0 ≤ z14v ∧ z14v < (s7v.length : Int) then (orR (synodref17_ParseAct.l1 s2v s7v z14v k 0 ((s7v.getD z14v.toNat dz109).2.1) 0 0 0 ((s7v.getD z14v.toNat dz109).2.2.2.1) ((s7v.getD z14v.toNat dz109).2.2.2.2) ([] : List UInt8) ([] : List UInt8) ([] : List UInt8)) fun s86v => (some (.inr (.inr (s86v.1, s86v.2.1, s86v.2.2.1, s86v.2.2.2.1, s86v.2.2.2.2.1, s86v.2.2.2.2.2.1, s86v.2.2.2.2.2.2.1, s86v.2.2.2.2.2.2.2.1, s86v.2.2.2.2.2.2.2.2, 0))))) else none) else none) else none) else (some (.inr (.inr (0, 0, 0, 0, 0, 0, ([] : List UInt8), ([] : List UInt8), ([] : List UInt8), 21))))) else none))) fun s17v => (synodref17_ParseAct.l0 s2v s7v k (IntKind.i64.wrap (z14v + 1)))) else (some (.inl ()))
def synodref17_ParseAct.f (k : Nat) (x0 : List UInt8) : Option (Int × Int × Int × Int × Int × Int × List UInt8 × List UInt8 × List UInt8 × Int) := (synodref17_Words.f k x0).bind fun s2v => (if s2v.2 = (0 : Int) then ((synodref17_Rows.f).bind fun s7v => (orR (synodref17_ParseAct.l0 s2v s7v k 0) fun s10v => (some (0, 0, 0, 0, 0, 0, ([] : List UInt8), ([] : List UInt8), ([] : List UInt8), 20)))) else (some (0, 0, 0, 0, 0, 0, ([] : List UInt8), ([] : List UInt8), ([] : List UInt8), s2v.2)))
theorem synodref17_ParseAct.calls (W : World) (F : HA) (k : Nat) (x0 : List UInt8)  :
    Fn Tryd.prog W 19 [str x0] [] F (synodref17_ParseAct.f k x0) (fun (r : Int × Int × Int × Int × Int × Int × List UInt8 × List UInt8 × List UInt8 × Int) (y : Unit) => .tuple #[.agg #[.int .i64 r.1, .int .i64 r.2.1, .int .i64 r.2.2.1, .int .i64 r.2.2.2.1, .int .i64 r.2.2.2.2.1, .int .i64 r.2.2.2.2.2.1, str r.2.2.2.2.2.2.1, str r.2.2.2.2.2.2.2.1, str r.2.2.2.2.2.2.2.2.1], .int .i64 r.2.2.2.2.2.2.2.2.2]) (fun r y => []) := by
 unfold synodref17_ParseAct.f
 refine fn_intro 97 Tryd.func19 rfl Tryd.ntmps19 rfl ?_
 refine sr ?_
 refine simL_eff (re_alloc rfl Tryd.zeroValue37 rfl) rfl rfl rfl ?_
 intro b1v
 refine va rfl rfl (nx ?_)
 refine vm rfl rfl ?_
 refine simL_bind (fun s2v hs3v => ?_)
 refine simL_eff (re_call (vs := [str x0]) (cap := []) (A := []) (rst := [obj b1v 37 [.int .i64 0, .int .i64 0, .int .i64 0, .int .i64 0, .int .i64 0, .int .i64 0, str ([] : List UInt8), str ([] : List UInt8), str ([] : List UInt8)], F]) rfl rfl rfl rfl rfl rfl Tryd.call13 (.sel 0 rfl (.sel 0 rfl (.nil _))) (synodref17_Words.calls _ _ k x0 ) hs3v) rfl rfl rfl ?_
 intro y4v
 refine vm rfl rfl ?_
 refine vq (q_ext rfl rfl rfl) rfl ?_
 refine vq (q_ext rfl rfl rfl) rfl ?_
 refine va rfl rfl ?_
 refine va rfl rfl (simL_nil (nrm_then (sim_seq (sr ?_))))
 refine vm rfl rfl ?_
 refine vq (q_neq rfl rfl rfl) rfl (simL_nil (nrm_then ?_))
 refine sim_condn rfl (fun h5v => ?_) (fun h6v => ?_)
 refine sim_skip ?_
 refine nrm_then (sr ?_)
 refine simL_bind (fun s7v hs8v => ?_)
 refine simL_eff (re_call (vs := []) (cap := []) (A := []) (rst := [RowV 9 1 (V9 tt) y4v.1 s2v.1 y4v.2, obj b1v 37 [.int .i64 0, .int .i64 0, .int .i64 0, .int .i64 0, .int .i64 0, .int .i64 0, str ([] : List UInt8), str ([] : List UInt8), str ([] : List UInt8)], F]) rfl rfl rfl rfl rfl rfl Tryd.call46 (.sel 0 rfl (.sel 0 rfl (.sel 0 rfl (.nil _)))) (synodref17_Rows.calls _ _  ) hs8v) rfl rfl rfl ?_
 intro y9v
 refine va rfl rfl (simL_nil (nrm_then ?_))
 refine sim_cutR (S := Unit) (Unit) (fun s y => [(2, .pointer (some ⟨b1v, 0, none⟩))]) (fun s y => [obj b1v 37 [.int .i64 0, .int .i64 0, .int .i64 0, .int .i64 0, .int .i64 0, .int .i64 0, str ([] : List UInt8), str ([] : List UInt8), str ([] : List UInt8)], F]) ?_ ?_
 refine sr ?_
 refine va rfl rfl (simL_nil (nrm_then ?_))
 refine sim_block ?_
 refine sim_loop (S := Int) (Unit) (fun k s => synodref17_ParseAct.l0 s2v s7v k s) (fun s y => [(2, .pointer (some ⟨b1v, 0, none⟩)), (4, .slice y4v.1 s2v.1.length y4v.2), (6, .slice y9v.1 s7v.length y9v.2), (7, .int .i64 s)]) (fun s y => [obj b1v 37 [.int .i64 0, .int .i64 0, .int .i64 0, .int .i64 0, .int .i64 0, .int .i64 0, str ([] : List UInt8), str ([] : List UInt8), str ([] : List UInt8)], RowV 9 1 (V9 tt) y4v.1 s2v.1 y4v.2, RowV 109 5 (V109 tt) y9v.1 s7v y9v.2, F]) (fun _ => by rw [synodref17_ParseAct.l0]) ?_ k 0 () ⟨rfl, rfl, rfl, rfl, trivial⟩ (.sel 2 rfl (.sel 1 rfl (.sel 0 rfl (.sel 0 rfl (.nil _)))))
 intro k s12v y13v
 refine sim_eq (by rw [synodref17_ParseAct.l0]) ?_
 refine sim_seq (sr ?_)
 refine vm rfl rfl ?_
 refine vm rfl rfl ?_
 refine vq (q_len rfl rfl rfl Tryd.underlying106) rfl ?_
 refine vq (q_lss rfl rfl rfl) rfl (simL_nil (nrm_then ?_))
 refine sim_cond rfl (fun h15v => ?_) (fun h16v => ?_)
 refine sim_skip ?_
 refine nrm_then ?_
 refine sim_cutR (S := Unit) (Unit) (fun s y => [(2, .pointer (some ⟨b1v, 0, none⟩)), (4, .slice y4v.1 s2v.1.length y4v.2), (6, .slice y9v.1 s7v.length y9v.2), (7, .int .i64 s12v)]) (fun s y => [obj b1v 37 [.int .i64 0, .int .i64 0, .int .i64 0, .int .i64 0, .int .i64 0, .int .i64 0, str ([] : List UInt8), str ([] : List UInt8), str ([] : List UInt8)], RowV 9 1 (V9 tt) y4v.1 s2v.1 y4v.2, RowV 109 5 (V109 tt) y9v.1 s7v y9v.2, F]) ?_ ?_
 refine sim_block ?_
 refine sim_seq ?_
 refine sim_cut (S := Bool) (Unit) (fun s y => [(2, .pointer (some ⟨b1v, 0, none⟩)), (4, .slice y4v.1 s2v.1.length y4v.2), (6, .slice y9v.1 s7v.length y9v.2), (7, .int .i64 s12v), (40, .bool s)]) (fun s y => [obj b1v 37 [.int .i64 0, .int .i64 0, .int .i64 0, .int .i64 0, .int .i64 0, .int .i64 0, str ([] : List UInt8), str ([] : List UInt8), str ([] : List UInt8)], RowV 9 1 (V9 tt) y4v.1 s2v.1 y4v.2, RowV 109 5 (V109 tt) y9v.1 s7v y9v.2, F]) ?_ ?_
 refine sim_openV 1 rfl (fun rs21v hl22v => ?_)
 refine sim_openV 2 rfl (fun rs23v hl24v => ?_)
 refine sim_if (fun hk25v => ?_) (fun hk25v => ?_)
 refine sim_draw (Γ := Unit) () [[], [0], [0, 1], [0, 1, 2], rL 4, rL 4, rL 6, rL 7, rL 8, rL 4, [0, 1, 2, 3, 9], [0, 1, 2, 3, 9, 10], rL 12, rL 13] [] [0, 1, 2, 3, 4, 5, 6, 7, 8, 9, 10, 11, 12, 13] (fun i => [[0], [0], [0], [0], [0], [0], [0], [0], [0], [0], [0], [0], [0], [0]].getD i []) (fun i => [[], [], [], [], [], [], [], [], [], [], [], [], [], []].getD i []) (fun γ i => [.slice y4v.1 s2v.1.length y4v.2, .int .i64 (s2v.1.length : Int), .bool (decide ((s2v.1.length : Int) = (0 : Int))), .bool (decide ((s2v.1.length : Int) = (0 : Int))), undef, undef, undef, undef, undef, undef, undef, undef, undef, .bool true].getD i undef) (fun j γ => [[obj b1v 37 [.int .i64 0, .int .i64 0, .int .i64 0, .int .i64 0, .int .i64 0, .int .i64 0, str ([] : List UInt8), str ([] : List UInt8), str ([] : List UInt8)], Row 9 1 y4v.1 s2v.1.length y4v.2 rs21v.flatten, Row 109 5 y9v.1 s7v.length y9v.2 rs23v.flatten, F]].getD j []) (fun γ => [(2, .pointer (some ⟨b1v, 0, none⟩)), (4, .slice y4v.1 s2v.1.length y4v.2), (6, .slice y9v.1 s7v.length y9v.2), (7, .int .i64 s12v), (31, undef), (32, undef), (33, undef), (34, undef), (35, undef), (36, undef), (37, undef), (38, undef), (39, undef), (40, .bool true)]) mixed (by decide) (by decide) (by decide) (by decide) (by decide) (by decide) (by decide) 97 rfl (by decide) (by decide) (by decide) (Ent.refl _) ?_ ?_ (fun _ => ⟨rfl, rfl, rfl, rfl, rfl, rfl, rfl, rfl, rfl, rfl, rfl, rfl, rfl, rfl, trivial⟩) ?_
 exact (aq rfl (fun γ => qm rfl (.o (s := 4) rfl (by decide) .nil) rfl) (aq rfl (fun γ => qp rfl rfl (.v 0 rfl rfl .nil) (q_len rfl rfl rfl Tryd.underlying23) rfl) (aq rfl (fun γ => qp rfl rfl (.v 1 rfl rfl .nil) (q_eql rfl rfl rfl) rfl) (aq rfl (fun γ => qm rfl (.v 2 rfl rfl .nil) rfl) (aq rfl (fun γ => qn rfl rfl (.o (s := 6) rfl (by decide) (.v 3 rfl rfl .nil)) rfl rfl (beq_yes' (decide_eq_true hk25v)) rfl) (aq rfl (fun γ => qn rfl rfl (.o (s := 7) rfl (by decide) (.v 3 rfl rfl .nil)) rfl rfl (beq_yes' (decide_eq_true hk25v)) rfl) (aq rfl (fun γ => qn rfl rfl (.v 3 rfl rfl (.v 4 rfl rfl (.v 5 rfl rfl .nil))) rfl rfl (beq_yes' (decide_eq_true hk25v)) rfl) (aq rfl (fun γ => qn rfl rfl (.v 3 rfl rfl (.v 6 rfl rfl .nil)) rfl rfl (beq_yes' (decide_eq_true hk25v)) rfl) (aq rfl (fun γ => qn rfl rfl (.v 3 rfl rfl (.v 7 rfl rfl .nil)) rfl rfl (beq_yes' (decide_eq_true hk25v)) rfl) (aq rfl (fun γ => qn rfl rfl (.o (s := 4) rfl (by decide) (.v 3 rfl rfl .nil)) rfl rfl (beq_yes' (decide_eq_true hk25v)) rfl) (aq rfl (fun γ => qn rfl rfl (.v 3 rfl rfl (.v 9 rfl rfl .nil)) rfl rfl (beq_yes' (decide_eq_true hk25v)) rfl) (aq rfl (fun γ => qn rfl rfl (.v 3 rfl rfl (.v 10 rfl rfl .nil)) rfl rfl (beq_yes' (decide_eq_true hk25v)) rfl) (aq rfl (fun γ => qn rfl rfl (.v 3 rfl rfl (.v 8 rfl rfl (.v 11 rfl rfl .nil))) rfl rfl (beq_yes' (decide_eq_true hk25v)) rfl) (aq rfl (fun γ => qp rfl rfl (.v 3 rfl rfl (.v 12 rfl rfl .nil)) (q_pick rfl rfl rfl rfl (bif_yes (decide_eq_true hk25v) _ _)) rfl) zA))))))))))))))
 exact zA
 intro g26v
 exact nrm_cut (s := true) () ⟨rfl, rfl, rfl, rfl, rfl, trivial⟩ (.sel 0 rfl (.sel' 0 rfl (RowV.mk hl22v) (.sel' 0 rfl (RowV.mk hl24v) (.sel 0 rfl (.nil _)))))
 refine sim_ask (fun hi27v => ?_)
 refine sim_posV 2 rfl hl24v rfl (i := s12v.toNat) (by omega) dz109 (fun b28v b28vo r31v ha29v hV32v hlr33v hcell34v => ?_)
 obtain rfl := hV32v
 refine sim_ask (fun hi35v => ?_)
 refine sim_posV 1 rfl hl22v rfl (i := (0 : Int).toNat) (by omega) ([] : List UInt8) (fun b36v b36vo r39v ha37v hV40v hlr41v hcell42v => ?_)
 obtain rfl := hV40v
 refine sim_draw (Γ := Unit) () [[], [0], [0, 1], [0, 1, 2], rL 4, rL 4, rL 6, rL 7, rL 8, rL 4, [0, 1, 2, 3, 9], [0, 1, 2, 3, 9, 10], rL 12, rL 13] [] [0, 1, 2, 3, 4, 5, 6, 7, 8, 9, 10, 11, 12, 13] (fun i => [[0], [0], [0], [0], [0], [0], [0], [0], [0], [0], [0], [0], [0], [0]].getD i []) (fun i => [[], [], [], [], [], [], [], [], [], [], [], [], [], []].getD i []) (fun γ i => [.slice y4v.1 s2v.1.length y4v.2, .int .i64 (s2v.1.length : Int), .bool (decide ((s2v.1.length : Int) = (0 : Int))), .bool (decide ((s2v.1.length : Int) = (0 : Int))), .slice y9v.1 s7v.length y9v.2, .int .i64 s12v, .pointer (some ⟨b28v, b28vo + s12v.toNat * 5, none⟩), .pointer (some ⟨b28v, b28vo + s12v.toNat * 5 + 0, none⟩), str ((s7v.getD s12v.toNat dz109).1), .slice y4v.1 s2v.1.length y4v.2, .pointer (some ⟨b36v, b36vo + (0 : Int).toNat * 1, none⟩), str (s2v.1.getD (0 : Int).toNat ([] : List UInt8)), .bool (!decide (((s7v.getD s12v.toNat dz109).1) = (s2v.1.getD (0 : Int).toNat ([] : List UInt8)))), .bool (!decide (((s7v.getD s12v.toNat dz109).1) = (s2v.1.getD (0 : Int).toNat ([] : List UInt8))))].getD i undef) (fun j γ => [[obj b1v 37 [.int .i64 0, .int .i64 0, .int .i64 0, .int .i64 0, .int .i64 0, .int .i64 0, str ([] : List UInt8), str ([] : List UInt8), str ([] : List UInt8)], Row 9 1 y4v.1 s2v.1.length y4v.2 rs21v.flatten, Row 109 5 y9v.1 s7v.length y9v.2 rs23v.flatten, F]].getD j []) (fun γ => [(2, .pointer (some ⟨b1v, 0, none⟩)), (4, .slice y4v.1 s2v.1.length y4v.2), (6, .slice y9v.1 s7v.length y9v.2), (7, .int .i64 s12v), (31, .slice y9v.1 s7v.length y9v.2), (32, .int .i64 s12v), (33, .pointer (some ⟨b28v, b28vo + s12v.toNat * 5, none⟩)), (34, .pointer (some ⟨b28v, b28vo + s12v.toNat * 5 + 0, none⟩)), (35, str ((s7v.getD s12v.toNat dz109).1)), (36, .slice y4v.1 s2v.1.length y4v.2), (37, .pointer (some ⟨b36v, b36vo + (0 : Int).toNat * 1, none⟩)), (38, str (s2v.1.getD (0 : Int).toNat ([] : List UInt8))), (39, .bool (!decide (((s7v.getD s12v.toNat dz109).1) = (s2v.1.getD (0 : Int).toNat ([] : List UInt8))))), (40, .bool (!decide (((s7v.getD s12v.toNat dz109).1) = (s2v.1.getD (0 : Int).toNat ([] : List UInt8)))))]) mixed (by decide) (by decide) (by decide) (by decide) (by decide) (by decide) (by decide) 97 rfl (by decide) (by decide) (by decide) (Ent.refl _) ?_ ?_ (fun _ => ⟨rfl, rfl, rfl, rfl, rfl, rfl, rfl, rfl, rfl, rfl, rfl, rfl, rfl, rfl, trivial⟩) ?_
 exact (aq rfl (fun γ => qm rfl (.o (s := 4) rfl (by decide) .nil) rfl) (aq rfl (fun γ => qp rfl rfl (.v 0 rfl rfl .nil) (q_len rfl rfl rfl Tryd.underlying23) rfl) (aq rfl (fun γ => qp rfl rfl (.v 1 rfl rfl .nil) (q_eql rfl rfl rfl) rfl) (aq rfl (fun γ => qm rfl (.v 2 rfl rfl .nil) rfl) (aq rfl (fun γ => qy rfl rfl (.o (s := 6) rfl (by decide) (.v 3 rfl rfl .nil)) rfl rfl (beq_no (decide_eq_false hk25v)) (q_move rfl rfl) rfl) (aq rfl (fun γ => qy rfl rfl (.o (s := 7) rfl (by decide) (.v 3 rfl rfl .nil)) rfl rfl (beq_no (decide_eq_false hk25v)) (q_move rfl rfl) rfl) (aq rfl (fun γ => qy rfl rfl (.v 3 rfl rfl (.v 4 rfl rfl (.v 5 rfl rfl .nil))) rfl rfl (beq_no (decide_eq_false hk25v)) (q_idx rfl rfl rfl ha29v Tryd.underlying106 Tryd.sizeOf109 hi27v.1 hi27v.2) rfl) (aq rfl (fun γ => qy rfl rfl (.v 3 rfl rfl (.v 6 rfl rfl .nil)) rfl rfl (beq_no (decide_eq_false hk25v)) (q_fa rfl rfl Tryd.underlying109 rfl rfl Tryd.sizeOf9 rfl) rfl) (aq rfl (fun γ => qy rfl rfl (.v 3 rfl rfl (.v 7 rfl rfl .nil)) rfl rfl (beq_no (decide_eq_false hk25v)) (q_load rfl rfl Tryd.isAgg9 (hcell34v 2 rfl 0 _ rfl)) rfl) (aq rfl (fun γ => qy rfl rfl (.o (s := 4) rfl (by decide) (.v 3 rfl rfl .nil)) rfl rfl (beq_no (decide_eq_false hk25v)) (q_move rfl rfl) rfl) (aq rfl (fun γ => qy rfl rfl (.v 3 rfl rfl (.v 9 rfl rfl .nil)) rfl rfl (beq_no (decide_eq_false hk25v)) (q_idx rfl rfl rfl ha37v Tryd.underlying23 Tryd.sizeOf9 hi35v.1 hi35v.2) rfl) (aq rfl (fun γ => qy rfl rfl (.v 3 rfl rfl (.v 10 rfl rfl .nil)) rfl rfl (beq_no (decide_eq_false hk25v)) (q_load rfl rfl Tryd.isAgg9 (hcell42v 1 rfl 0 _ rfl)) rfl) (aq rfl (fun γ => qy rfl rfl (.v 3 rfl rfl (.v 8 rfl rfl (.v 11 rfl rfl .nil))) rfl rfl (beq_no (decide_eq_false hk25v)) (q_nes rfl rfl rfl) rfl) (aq rfl (fun γ => qp rfl rfl (.v 3 rfl rfl (.v 12 rfl rfl .nil)) (q_pick rfl rfl rfl rfl (bif_no (decide_eq_false hk25v) _ _)) rfl) zA))))))))))))))
 exact zA
 intro g43v
 exact nrm_cut (s := !decide (((s7v.getD s12v.toNat dz109).1) = (s2v.1.getD (0 : Int).toNat ([] : List UInt8)))) () ⟨rfl, rfl, rfl, rfl, rfl, trivial⟩ (.sel 0 rfl (.sel' 0 rfl (RowV.mk hl22v) (.sel' 0 rfl (RowV.mk hl24v) (.sel 0 rfl (.nil _)))))
 intro s19v y20v
 refine sim_condb rfl (fun h44v => ?_) (fun h45v => ?_)
 refine sim_exi ?_
 refine exi_then ?_
 refine exi_here ?_
 exact nrm_cutR (s := ()) () ⟨rfl, rfl, rfl, rfl, trivial⟩ (.sel 0 rfl (.sel 0 rfl (.sel 0 rfl (.sel 0 rfl (.nil _)))))
 refine sim_skip ?_
 refine nrm_then (sim_seq (sr ?_))
 refine vm rfl rfl ?_
 refine vq (q_len rfl rfl rfl Tryd.underlying23) rfl ?_
 refine vq (q_sub rfl rfl rfl) rfl ?_
 refine vm rfl rfl ?_
 refine vm rfl rfl ?_
 refine simL_openV 2 rfl (fun rs54v hl55v => ?_)
 refine simL_ask (fun hi46v => ?_)
 refine simL_posV 2 rfl hl55v rfl (i := s12v.toNat) (by omega) dz109 (fun b47v b47vo r50v ha48v hV51v hlr52v hcell53v => ?_)
 obtain rfl := hV51v
 refine vq (q_idx rfl rfl rfl ha48v Tryd.underlying106 Tryd.sizeOf109 hi46v.1 hi46v.2) rfl ?_
 refine vq (q_fa rfl rfl Tryd.underlying109 rfl rfl Tryd.sizeOf9 rfl) rfl ?_
 refine vq (q_load rfl rfl Tryd.isAgg9 (hcell53v 2 rfl 2 _ rfl)) rfl ?_
 refine vq (q_lens rfl rfl rfl Tryd.underlying9) rfl ?_
 refine vq (q_neq rfl rfl rfl) rfl (simL_nil (nrm_then ?_))
 refine sim_condn rfl (fun h56v => ?_) (fun h57v => ?_)
 refine sim_skip ?_
 refine nrm_then (sim_seq ?_)
 refine sim_openV 1 rfl (fun rs58v hl59v => ?_)
 refine sim_ask (fun hi60v => ?_)
 refine sim_posV 2 rfl hl55v rfl (i := s12v.toNat) (by omega) dz109 (fun b61v b61vo r64v ha62v hV65v hlr66v hcell67v => ?_)
 obtain rfl := hV65v
 refine sim_ask (fun hi68v => ?_)
 refine sim_posV 2 rfl hl55v rfl (i := s12v.toNat) (by omega) dz109 (fun b69v b69vo r72v ha70v hV73v hlr74v hcell75v => ?_)
 obtain rfl := hV73v
 refine sim_ask (fun hi76v => ?_)
 refine sim_posV 2 rfl hl55v rfl (i := s12v.toNat) (by omega) dz109 (fun b77v b77vo r80v ha78v hV81v hlr82v hcell83v => ?_)
 obtain rfl := hV81v
 refine sim_draw (Γ := Nat) 0 [[], [], [0, 1], [0, 1, 2], rL 4, [], [], [5, 6], [5, 6, 7], [5, 6, 7, 8], [], [], [10, 11], [10, 11, 12], [10, 11, 12, 13], rL 15, [], rL 17] [16, 17] [0, 1, 2, 3, 4, 5, 6, 7, 8, 9, 10, 11, 12, 13, 14, 15] (fun i => [[0, 1], [0, 1], [0, 1], [0, 1], [0, 1], [0, 1], [0, 1], [0, 1], [0, 1], [0, 1], [0, 1], [0, 1], [0, 1], [0, 1], [0, 1], [0, 1], [], []].getD i []) (fun i => [[], [], [], [], [], [], [], [], [], [], [], [], [], [], [], [], rL 16, rL 17].getD i []) (fun γ i => [.slice y9v.1 s7v.length y9v.2, .int .i64 s12v, .pointer (some ⟨b61v, b61vo + s12v.toNat * 5, none⟩), .pointer (some ⟨b61v, b61vo + s12v.toNat * 5 + 1, none⟩), .int .i64 ((s7v.getD s12v.toNat dz109).2.1), .slice y9v.1 s7v.length y9v.2, .int .i64 s12v, .pointer (some ⟨b69v, b69vo + s12v.toNat * 5, none⟩), .pointer (some ⟨b69v, b69vo + s12v.toNat * 5 + 3, none⟩), .int .i64 ((s7v.getD s12v.toNat dz109).2.2.2.1), .slice y9v.1 s7v.length y9v.2, .int .i64 s12v, .pointer (some ⟨b77v, b77vo + s12v.toNat * 5, none⟩), .pointer (some ⟨b77v, b77vo + s12v.toNat * 5 + 4, none⟩), .int .i64 ((s7v.getD s12v.toNat dz109).2.2.2.2), .agg #[.int .i64 ((s7v.getD s12v.toNat dz109).2.1), .int .i64 0, .int .i64 0, .int .i64 0, .int .i64 ((s7v.getD s12v.toNat dz109).2.2.2.1), .int .i64 ((s7v.getD s12v.toNat dz109).2.2.2.2), str ([] : List UInt8), str ([] : List UInt8), str ([] : List UInt8)], .pointer (some ⟨γ, 0, none⟩), undef].getD i undef) (fun j γ => [[obj b1v 37 [.int .i64 0, .int .i64 0, .int .i64 0, .int .i64 0, .int .i64 0, .int .i64 0, str ([] : List UInt8), str ([] : List UInt8), str ([] : List UInt8)], Row 9 1 y4v.1 s2v.1.length y4v.2 rs58v.flatten, Row 109 5 y9v.1 s7v.length y9v.2 rs54v.flatten, F], [obj γ 37 [.int .i64 0, .int .i64 0, .int .i64 0, .int .i64 0, .int .i64 0, .int .i64 0, str ([] : List UInt8), str ([] : List UInt8), str ([] : List UInt8)], obj b1v 37 [.int .i64 0, .int .i64 0, .int .i64 0, .int .i64 0, .int .i64 0, .int .i64 0, str ([] : List UInt8), str ([] : List UInt8), str ([] : List UInt8)], Row 9 1 y4v.1 s2v.1.length y4v.2 rs58v.flatten, Row 109 5 y9v.1 s7v.length y9v.2 rs54v.flatten, F], [obj γ 37 [.int .i64 ((s7v.getD s12v.toNat dz109).2.1), .int .i64 0, .int .i64 0, .int .i64 0, .int .i64 ((s7v.getD s12v.toNat dz109).2.2.2.1), .int .i64 ((s7v.getD s12v.toNat dz109).2.2.2.2), str ([] : List UInt8), str ([] : List UInt8), str ([] : List UInt8)], obj b1v 37 [.int .i64 0, .int .i64 0, .int .i64 0, .int .i64 0, .int .i64 0, .int .i64 0, str ([] : List UInt8), str ([] : List UInt8), str ([] : List UInt8)], Row 9 1 y4v.1 s2v.1.length y4v.2 rs58v.flatten, Row 109 5 y9v.1 s7v.length y9v.2 rs54v.flatten, F]].getD j []) (fun γ => [(2, .pointer (some ⟨b1v, 0, none⟩)), (4, .slice y4v.1 s2v.1.length y4v.2), (6, .slice y9v.1 s7v.length y9v.2), (7, .int .i64 s12v), (8, .pointer (some ⟨γ, 0, none⟩))]) mixed (by decide) (by decide) (by decide) (by decide) (by decide) (by decide) (by decide) 97 rfl (by decide) (by decide) (by decide) (Ent.refl _) ?_ ?_ (fun _ => ⟨rfl, rfl, rfl, rfl, rfl, trivial⟩) ?_
 exact (ac (fun γ => (ac (qm rfl (.o (s := 6) rfl (by decide) .nil) rfl) (ac (qm rfl (.o (s := 6) rfl (by decide) .nil) rfl) zA))) (ac (fun γ => (ac (qm rfl (.o (s := 7) rfl (by decide) .nil) rfl) (ac (qm rfl (.o (s := 7) rfl (by decide) .nil) rfl) zA))) (ac (fun γ => (ac (qp rfl rfl (.v 0 rfl rfl (.v 1 rfl rfl .nil)) (q_idx rfl rfl rfl ha62v Tryd.underlying106 Tryd.sizeOf109 hi60v.1 hi60v.2) rfl) (ac (qp rfl rfl (.v 0 rfl rfl (.v 1 rfl rfl .nil)) (q_idx rfl rfl rfl ha62v Tryd.underlying106 Tryd.sizeOf109 hi60v.1 hi60v.2) rfl) zA))) (ac (fun γ => (ac (qp rfl rfl (.v 2 rfl rfl .nil) (q_fa rfl rfl Tryd.underlying109 rfl rfl Tryd.sizeOf3 rfl) rfl) (ac (qp rfl rfl (.v 2 rfl rfl .nil) (q_fa rfl rfl Tryd.underlying109 rfl rfl Tryd.sizeOf3 rfl) rfl) zA))) (ac (fun γ => (ac (qp rfl rfl (.v 3 rfl rfl .nil) (q_load rfl rfl Tryd.isAgg3 (hcell67v 2 rfl 1 _ rfl)) rfl) (ac (qp rfl rfl (.v 3 rfl rfl .nil) (q_load rfl rfl Tryd.isAgg3 (hcell67v 3 rfl 1 _ rfl)) rfl) zA))) (ac (fun γ => (ac (qm rfl (.o (s := 6) rfl (by decide) .nil) rfl) (ac (qm rfl (.o (s := 6) rfl (by decide) .nil) rfl) zA))) (ac (fun γ => (ac (qm rfl (.o (s := 7) rfl (by decide) .nil) rfl) (ac (qm rfl (.o (s := 7) rfl (by decide) .nil) rfl) zA))) (ac (fun γ => (ac (qp rfl rfl (.v 5 rfl rfl (.v 6 rfl rfl .nil)) (q_idx rfl rfl rfl ha70v Tryd.underlying106 Tryd.sizeOf109 hi68v.1 hi68v.2) rfl) (ac (qp rfl rfl (.v 5 rfl rfl (.v 6 rfl rfl .nil)) (q_idx rfl rfl rfl ha70v Tryd.underlying106 Tryd.sizeOf109 hi68v.1 hi68v.2) rfl) zA))) (ac (fun γ => (ac (qp rfl rfl (.v 7 rfl rfl .nil) (q_fa rfl rfl Tryd.underlying109 rfl rfl Tryd.sizeOf3 rfl) rfl) (ac (qp rfl rfl (.v 7 rfl rfl .nil) (q_fa rfl rfl Tryd.underlying109 rfl rfl Tryd.sizeOf3 rfl) rfl) zA))) (ac (fun γ => (ac (qp rfl rfl (.v 8 rfl rfl .nil) (q_load rfl rfl Tryd.isAgg3 (hcell75v 2 rfl 3 _ rfl)) rfl) (ac (qp rfl rfl (.v 8 rfl rfl .nil) (q_load rfl rfl Tryd.isAgg3 (hcell75v 3 rfl 3 _ rfl)) rfl) zA))) (ac (fun γ => (ac (qm rfl (.o (s := 6) rfl (by decide) .nil) rfl) (ac (qm rfl (.o (s := 6) rfl (by decide) .nil) rfl) zA))) (ac (fun γ => (ac (qm rfl (.o (s := 7) rfl (by decide) .nil) rfl) (ac (qm rfl (.o (s := 7) rfl (by decide) .nil) rfl) zA))) (ac (fun γ => (ac (qp rfl rfl (.v 10 rfl rfl (.v 11 rfl rfl .nil)) (q_idx rfl rfl rfl ha78v Tryd.underlying106 Tryd.sizeOf109 hi76v.1 hi76v.2) rfl) (ac (qp rfl rfl (.v 10 rfl rfl (.v 11 rfl rfl .nil)) (q_idx rfl rfl rfl ha78v Tryd.underlying106 Tryd.sizeOf109 hi76v.1 hi76v.2) rfl) zA))) (ac (fun γ => (ac (qp rfl rfl (.v 12 rfl rfl .nil) (q_fa rfl rfl Tryd.underlying109 rfl rfl Tryd.sizeOf3 rfl) rfl) (ac (qp rfl rfl (.v 12 rfl rfl .nil) (q_fa rfl rfl Tryd.underlying109 rfl rfl Tryd.sizeOf3 rfl) rfl) zA))) (ac (fun γ => (ac (qp rfl rfl (.v 13 rfl rfl .nil) (q_load rfl rfl Tryd.isAgg3 (hcell83v 2 rfl 4 _ rfl)) rfl) (ac (qp rfl rfl (.v 13 rfl rfl .nil) (q_load rfl rfl Tryd.isAgg3 (hcell83v 3 rfl 4 _ rfl)) rfl) zA))) (ac (fun γ => (ac (qp rfl rfl (.v 4 rfl rfl (.v 9 rfl rfl (.v 14 rfl rfl .nil))) (q_build (v := .agg #[.int .i64 ((s7v.getD s12v.toNat dz109).2.1), .int .i64 0, .int .i64 0, .int .i64 0, .int .i64 ((s7v.getD s12v.toNat dz109).2.2.2.1), .int .i64 ((s7v.getD s12v.toNat dz109).2.2.2.2), str ([] : List UInt8), str ([] : List UInt8), str ([] : List UInt8)]) rfl rfl (fun _ => by kernel_rfl)) rfl) (ac (qp rfl rfl (.v 4 rfl rfl (.v 9 rfl rfl (.v 14 rfl rfl .nil))) (q_build (v := .agg #[.int .i64 ((s7v.getD s12v.toNat dz109).2.1), .int .i64 0, .int .i64 0, .int .i64 0, .int .i64 ((s7v.getD s12v.toNat dz109).2.2.2.1), .int .i64 ((s7v.getD s12v.toNat dz109).2.2.2.2), str ([] : List UInt8), str ([] : List UInt8), str ([] : List UInt8)]) rfl rfl (fun _ => by kernel_rfl)) rfl) zA))) zA))))))))))))))))
 exact (ac (fun γ => eo (Z := Nat) (fun z => z) rfl rfl .nil (re_alloc rfl Tryd.zeroValue37 rfl) (fun _ => ⟨rfl, rfl, rfl, rfl, rfl, rfl, rfl, rfl, rfl, rfl, rfl, rfl, rfl, rfl, rfl, rfl, trivial⟩) (fun _ => .inr rfl) (fun z => Ent.refl _)) (ac (fun γ => eo (Z := Unit) (fun z => γ) rfl rfl (.v 16 rfl rfl (.v 15 rfl rfl .nil)) (re_store 0 rfl rfl rfl Tryd.sizeOf37 rfl rfl (one_of (by rfl)) rfl rfl) (fun _ => ⟨rfl, rfl, rfl, rfl, rfl, rfl, rfl, rfl, rfl, rfl, rfl, rfl, rfl, rfl, rfl, rfl, rfl, trivial⟩) (fun _ => .inl rfl) (fun z => Ent.refl _)) zA))
 intro g85v
 refine nrm_then ?_
 refine sim_cutR (S := Int × Int × Int × Int × Int × Int × List UInt8 × List UInt8 × List UInt8) (Unit) (fun s y => [(2, .pointer (some ⟨b1v, 0, none⟩)), (8, .pointer (some ⟨g85v, 0, none⟩))]) (fun s y => [obj g85v 37 [.int .i64 s.1, .int .i64 s.2.1, .int .i64 s.2.2.1, .int .i64 s.2.2.2.1, .int .i64 s.2.2.2.2.1, .int .i64 s.2.2.2.2.2.1, str s.2.2.2.2.2.2.1, str s.2.2.2.2.2.2.2.1, str s.2.2.2.2.2.2.2.2], obj b1v 37 [.int .i64 0, .int .i64 0, .int .i64 0, .int .i64 0, .int .i64 0, .int .i64 0, str ([] : List UInt8), str ([] : List UInt8), str ([] : List UInt8)], F]) ?_ ?_
 refine sr ?_
 refine va rfl rfl (simL_nil (nrm_then ?_))
 refine sim_block ?_
 refine sim_loop (S := Int × Int × Int × Int × Int × Int × Int × List UInt8 × List UInt8 × List UInt8) (Unit) (fun k s => synodref17_ParseAct.l1 s2v s7v s12v k s.1 s.2.1 s.2.2.1 s.2.2.2.1 s.2.2.2.2.1 s.2.2.2.2.2.1 s.2.2.2.2.2.2.1 s.2.2.2.2.2.2.2.1 s.2.2.2.2.2.2.2.2.1 s.2.2.2.2.2.2.2.2.2) (fun s y => [(2, .pointer (some ⟨b1v, 0, none⟩)), (4, .slice y4v.1 s2v.1.length y4v.2), (6, .slice y9v.1 s7v.length y9v.2), (7, .int .i64 s12v), (8, .pointer (some ⟨g85v, 0, none⟩)), (9, .int .i64 s.1)]) (fun s y => [obj g85v 37 [.int .i64 s.2.1, .int .i64 s.2.2.1, .int .i64 s.2.2.2.1, .int .i64 s.2.2.2.2.1, .int .i64 s.2.2.2.2.2.1, .int .i64 s.2.2.2.2.2.2.1, str s.2.2.2.2.2.2.2.1, str s.2.2.2.2.2.2.2.2.1, str s.2.2.2.2.2.2.2.2.2], obj b1v 37 [.int .i64 0, .int .i64 0, .int .i64 0, .int .i64 0, .int .i64 0, .int .i64 0, str ([] : List UInt8), str ([] : List UInt8), str ([] : List UInt8)], RowV 9 1 (V9 tt) y4v.1 s2v.1 y4v.2, RowV 109 5 (V109 tt) y9v.1 s7v y9v.2, F]) (fun _ => by rw [synodref17_ParseAct.l1]) ?_ k (0, (s7v.getD s12v.toNat dz109).2.1, 0, 0, 0, (s7v.getD s12v.toNat dz109).2.2.2.1, (s7v.getD s12v.toNat dz109).2.2.2.2, ([] : List UInt8), ([] : List UInt8), ([] : List UInt8)) () ⟨rfl, rfl, rfl, rfl, rfl, rfl, trivial⟩ (.sel 0 rfl (.sel 0 rfl (.sel' 0 rfl (RowV.mk hl59v) (.sel' 0 rfl (RowV.mk hl55v) (.sel 0 rfl (.nil _))))))
 intro k s88v y89v
 refine sim_eq (by rw [synodref17_ParseAct.l1]) ?_
 refine sim_seq (sr ?_)
 refine vm rfl rfl ?_
 refine vm rfl rfl ?_
 refine vm rfl rfl ?_
 refine simL_openV 3 rfl (fun rs108v hl109v => ?_)
 refine simL_ask (fun hi100v => ?_)
 refine simL_posV 3 rfl hl109v rfl (i := s12v.toNat) (by omega) dz109 (fun b101v b101vo r104v ha102v hV105v hlr106v hcell107v => ?_)
 obtain rfl := hV105v
 refine vq (q_idx rfl rfl rfl ha102v Tryd.underlying106 Tryd.sizeOf109 hi100v.1 hi100v.2) rfl ?_
 refine vq (q_fa rfl rfl Tryd.underlying109 rfl rfl Tryd.sizeOf9 rfl) rfl ?_
 refine vq (q_load rfl rfl Tryd.isAgg9 (hcell107v 3 rfl 2 _ rfl)) rfl ?_
 refine vq (q_lens rfl rfl rfl Tryd.underlying9) rfl ?_
 refine vq (q_lss rfl rfl rfl) rfl (simL_nil (nrm_then ?_))
 refine sim_cond rfl (fun h110v => ?_) (fun h111v => ?_)
 refine sim_skip ?_
 refine nrm_then (sim_seq ?_)
 refine sim_block ?_
 refine sim_seq ?_
 refine sim_openV 2 rfl (fun rs112v hl113v => ?_)
 refine sim_ask (fun hi114v => ?_)
 refine sim_posV 3 rfl hl109v rfl (i := s12v.toNat) (by omega) dz109 (fun b115v b115vo r118v ha116v hV119v hlr120v hcell121v => ?_)
 obtain rfl := hV119v
 refine sim_ask (fun hi122v => ?_)
 refine sim_ask (fun hi123v => ?_)
 refine sim_posV 2 rfl hl113v rfl (i := (IntKind.i64.wrap (s88v.1 + 1)).toNat) (by omega) ([] : List UInt8) (fun b124v b124vo r127v ha125v hV128v hlr129v hcell130v => ?_)
 obtain rfl := hV128v
 refine sim_bind (fun s131v hs132v => ?_)
 refine sim_draw (Γ := Unit) () [[], [], [0, 1], [0, 1, 2], rL 4, [], rL 6, [], [], [8], [7, 8, 9], [7, 8, 9, 10], rL 12, rL 13] [12] [0, 1, 2, 3, 4, 5, 6, 7, 8, 9, 10, 11, 13] (fun i => [[0], [0], [0], [0], [0], [0], [0], [0], [0], [0], [0], [0], [], [1]].getD i []) (fun i => [[], [], [], [], [], [], [], [], [], [], [], [], rL 12, []].getD i []) (fun γ i => [.slice y9v.1 s7v.length y9v.2, .int .i64 s12v, .pointer (some ⟨b115v, b115vo + s12v.toNat * 5, none⟩), .pointer (some ⟨b115v, b115vo + s12v.toNat * 5 + 2, none⟩), str ((s7v.getD s12v.toNat dz109).2.2.1), .int .i64 s88v.1, .int .u8 ((((s7v.getD s12v.toNat dz109).2.2.1).getD s88v.1.toNat 0).toNat : Int), .slice y4v.1 s2v.1.length y4v.2, .int .i64 s88v.1, .int .i64 (IntKind.i64.wrap (s88v.1 + 1)), .pointer (some ⟨b124v, b124vo + (IntKind.i64.wrap (s88v.1 + 1)).toNat * 1, none⟩), str (s2v.1.getD (IntKind.i64.wrap (s88v.1 + 1)).toNat ([] : List UInt8)), .int .i64 s131v.1, .int .i64 s131v.1].getD i undef) (fun j γ => [[obj g85v 37 [.int .i64 s88v.2.1, .int .i64 s88v.2.2.1, .int .i64 s88v.2.2.2.1, .int .i64 s88v.2.2.2.2.1, .int .i64 s88v.2.2.2.2.2.1, .int .i64 s88v.2.2.2.2.2.2.1, str s88v.2.2.2.2.2.2.2.1, str s88v.2.2.2.2.2.2.2.2.1, str s88v.2.2.2.2.2.2.2.2.2], obj b1v 37 [.int .i64 0, .int .i64 0, .int .i64 0, .int .i64 0, .int .i64 0, .int .i64 0, str ([] : List UInt8), str ([] : List UInt8), str ([] : List UInt8)], Row 9 1 y4v.1 s2v.1.length y4v.2 rs112v.flatten, Row 109 5 y9v.1 s7v.length y9v.2 rs108v.flatten, F], [obj g85v 37 [.int .i64 s131v.2.1, .int .i64 s131v.2.2.1, .int .i64 s131v.2.2.2.1, .int .i64 s131v.2.2.2.2.1, .int .i64 s131v.2.2.2.2.2.1, .int .i64 s131v.2.2.2.2.2.2.1, str s131v.2.2.2.2.2.2.2.1, str s131v.2.2.2.2.2.2.2.2.1, str s131v.2.2.2.2.2.2.2.2.2], obj b1v 37 [.int .i64 0, .int .i64 0, .int .i64 0, .int .i64 0, .int .i64 0, .int .i64 0, str ([] : List UInt8), str ([] : List UInt8), str ([] : List UInt8)], Row 9 1 y4v.1 s2v.1.length y4v.2 rs112v.flatten, Row 109 5 y9v.1 s7v.length y9v.2 rs108v.flatten, F]].getD j []) (fun γ => [(2, .pointer (some ⟨b1v, 0, none⟩)), (4, .slice y4v.1 s2v.1.length y4v.2), (6, .slice y9v.1 s7v.length y9v.2), (7, .int .i64 s12v), (8, .pointer (some ⟨g85v, 0, none⟩)), (9, .int .i64 s88v.1), (10, .int .i64 s131v.1)]) mixed (by decide) (by decide) (by decide) (by decide) (by decide) (by decide) (by decide) 97 rfl (by decide) (by decide) (by decide) (Ent.refl _) ?_ ?_ (fun _ => ⟨rfl, rfl, rfl, rfl, rfl, rfl, rfl, trivial⟩) ?_
 exact (aq rfl (fun γ => qm rfl (.o (s := 6) rfl (by decide) .nil) rfl) (aq rfl (fun γ => qm rfl (.o (s := 7) rfl (by decide) .nil) rfl) (aq rfl (fun γ => qp rfl rfl (.v 0 rfl rfl (.v 1 rfl rfl .nil)) (q_idx rfl rfl rfl ha116v Tryd.underlying106 Tryd.sizeOf109 hi114v.1 hi114v.2) rfl) (aq rfl (fun γ => qp rfl rfl (.v 2 rfl rfl .nil) (q_fa rfl rfl Tryd.underlying109 rfl rfl Tryd.sizeOf9 rfl) rfl) (aq rfl (fun γ => qp rfl rfl (.v 3 rfl rfl .nil) (q_load rfl rfl Tryd.isAgg9 (hcell121v 3 rfl 2 _ rfl)) rfl) (aq rfl (fun γ => qm rfl (.o (s := 9) rfl (by decide) .nil) rfl) (aq rfl (fun γ => qp rfl rfl (.v 4 rfl rfl (.v 5 rfl rfl .nil)) (q_sidx rfl rfl rfl Tryd.underlying9 hi122v.1 hi122v.2) rfl) (aq rfl (fun γ => qm rfl (.o (s := 4) rfl (by decide) .nil) rfl) (aq rfl (fun γ => qm rfl (.o (s := 9) rfl (by decide) .nil) rfl) (aq rfl (fun γ => qp rfl rfl (.v 8 rfl rfl .nil) (q_add rfl rfl rfl) rfl) (aq rfl (fun γ => qp rfl rfl (.v 7 rfl rfl (.v 9 rfl rfl .nil)) (q_idx rfl rfl rfl ha125v Tryd.underlying23 Tryd.sizeOf9 hi123v.1 hi123v.2) rfl) (aq rfl (fun γ => qp rfl rfl (.v 10 rfl rfl .nil) (q_load rfl rfl Tryd.isAgg9 (hcell130v 2 rfl 0 _ rfl)) rfl) (aq rfl (fun γ => qp rfl rfl (.v 12 rfl rfl .nil) (q_asg rfl rfl) rfl) zA)))))))))))))
 exact (ac (fun γ => eo (Z := Unit) (fun z => ()) rfl rfl (.o (s := 8) rfl (by decide) (.v 6 rfl rfl (.v 11 rfl rfl .nil))) (re_call (vs := [.pointer (some ⟨g85v, 0, none⟩), .int .u8 ((((s7v.getD s12v.toNat dz109).2.2.1).getD s88v.1.toNat 0).toNat : Int), str (s2v.1.getD (IntKind.i64.wrap (s88v.1 + 1)).toNat ([] : List UInt8))]) (cap := []) (A := [obj g85v 37 [.int .i64 s88v.2.1, .int .i64 s88v.2.2.1, .int .i64 s88v.2.2.2.1, .int .i64 s88v.2.2.2.2.1, .int .i64 s88v.2.2.2.2.2.1, .int .i64 s88v.2.2.2.2.2.2.1, str s88v.2.2.2.2.2.2.2.1, str s88v.2.2.2.2.2.2.2.2.1, str s88v.2.2.2.2.2.2.2.2.2]]) (rst := [obj b1v 37 [.int .i64 0, .int .i64 0, .int .i64 0, .int .i64 0, .int .i64 0, .int .i64 0, str ([] : List UInt8), str ([] : List UInt8), str ([] : List UInt8)], Row 9 1 y4v.1 s2v.1.length y4v.2 rs112v.flatten, Row 109 5 y9v.1 s7v.length y9v.2 rs108v.flatten, F]) rfl rfl rfl rfl rfl rfl Tryd.call47 (.sel 0 rfl (.sel 0 rfl (.sel 0 rfl (.sel 0 rfl (.sel 0 rfl (.nil _)))))) (synodref17_set.calls _ _ k g85v s88v.2.1 s88v.2.2.1 s88v.2.2.2.1 s88v.2.2.2.2.1 s88v.2.2.2.2.2.1 s88v.2.2.2.2.2.2.1 s88v.2.2.2.2.2.2.2.1 s88v.2.2.2.2.2.2.2.2.1 s88v.2.2.2.2.2.2.2.2.2 ((((s7v.getD s12v.toNat dz109).2.2.1).getD s88v.1.toNat 0).toNat : Int) (s2v.1.getD (IntKind.i64.wrap (s88v.1 + 1)).toNat ([] : List UInt8)) ) hs132v) (fun _ => ⟨rfl, rfl, rfl, rfl, rfl, rfl, rfl, rfl, rfl, rfl, rfl, rfl, trivial⟩) (fun _ => .inr rfl) (fun z => Ent.refl _)) zA)
 intro g134v
 refine nrm_then (sr ?_)
 refine vm rfl rfl ?_
 refine vq (q_neq rfl rfl rfl) rfl (simL_nil (nrm_then ?_))
 refine sim_condn rfl (fun h135v => ?_) (fun h136v => ?_)
 refine sim_skip ?_
 refine nrm_block (nrm_then (sim_region ?_))
 refine vm rfl rfl ?_
 refine vq (q_add rfl rfl rfl) rfl ?_
 refine va rfl rfl (simL_nil ?_)
 exact nrm_again (s := (IntKind.i64.wrap (s88v.1 + 1), s131v.2.1, s131v.2.2.1, s131v.2.2.2.1, s131v.2.2.2.2.1, s131v.2.2.2.2.2.1, s131v.2.2.2.2.2.2.1, s131v.2.2.2.2.2.2.2.1, s131v.2.2.2.2.2.2.2.2.1, s131v.2.2.2.2.2.2.2.2.2)) () ⟨rfl, rfl, rfl, rfl, rfl, rfl, trivial⟩ (.sel 0 rfl (.sel 0 rfl (.sel' 0 rfl (RowV.mk hl113v) (.sel' 0 rfl (RowV.mk hl109v) (.sel 0 rfl (.nil _))))))
 refine sr ?_
 refine vq (q_build (v := .agg #[.int .i64 0, .int .i64 0, .int .i64 0, .int .i64 0, .int .i64 0, .int .i64 0, str ([] : List UInt8), str ([] : List UInt8), str ([] : List UInt8)]) rfl rfl (fun _ => by kernel_rfl)) rfl ?_
 refine vm rfl rfl ?_
 refine simL_do (re_store 1 rfl rfl rfl Tryd.sizeOf37 rfl rfl (one_of (by rfl)) rfl rfl) rfl rfl ?_
 intro _
 refine simL_ent (H' := [obj g85v 37 [.int .i64 s131v.2.1, .int .i64 s131v.2.2.1, .int .i64 s131v.2.2.2.1, .int .i64 s131v.2.2.2.2.1, .int .i64 s131v.2.2.2.2.2.1, .int .i64 s131v.2.2.2.2.2.2.1, str s131v.2.2.2.2.2.2.2.1, str s131v.2.2.2.2.2.2.2.2.1, str s131v.2.2.2.2.2.2.2.2.2], obj b1v 37 [.int .i64 0, .int .i64 0, .int .i64 0, .int .i64 0, .int .i64 0, .int .i64 0, str ([] : List UInt8), str ([] : List UInt8), str ([] : List UInt8)], Row 9 1 y4v.1 s2v.1.length y4v.2 rs112v.flatten, Row 109 5 y9v.1 s7v.length y9v.2 rs108v.flatten, F]) (Ent.refl _) ?_
 refine va rfl rfl (simL_nil (nrm_then (sim_rtn ?_)))
 refine rtn_block ?_
 refine rtn_then ?_
 refine rtn_loop ?_
 refine rtn_block ?_
 refine rtn_cutR ?_
 refine rtn_block ?_
 refine rtn_cutR ?_
 refine rtn_loop ?_
 refine rtn_block ?_
 refine rtn_cutR ?_
 exact rtn_fnC (vs := [.agg #[.int .i64 0, .int .i64 0, .int .i64 0, .int .i64 0, .int .i64 0, .int .i64 0, str ([] : List UInt8), str ([] : List UInt8), str ([] : List UInt8)], .int .i64 s131v.1]) () rfl ⟨⟨b1v, rfl, load_agg 1 Tryd.isAgg37 Tryd.sizeOf37 rfl rfl⟩, rfl, trivial⟩ rfl (.sel 4 rfl (.nil _))
 refine sim_exi ?_
 refine exi_then ?_
 refine exi_loop ?_
 refine exi_here ?_
 exact nrm_cutR (s := (s88v.2.1, s88v.2.2.1, s88v.2.2.2.1, s88v.2.2.2.2.1, s88v.2.2.2.2.2.1, s88v.2.2.2.2.2.2.1, s88v.2.2.2.2.2.2.2.1, s88v.2.2.2.2.2.2.2.2.1, s88v.2.2.2.2.2.2.2.2.2)) () ⟨rfl, rfl, trivial⟩ (.sel 0 rfl (.sel 0 rfl (.sel 2 rfl (.nil _))))
 intro s86v y87v
 refine sr ?_
 refine vq (q_loado 0 rfl rfl Tryd.isAgg37 Tryd.sizeOf37 rfl rfl) rfl ?_
 refine simL_do (re_store 1 rfl rfl rfl Tryd.sizeOf37 rfl rfl (one_of (by rfl)) rfl rfl) rfl rfl ?_
 intro _
 refine simL_ent (H' := [obj g85v 37 [.int .i64 s86v.1, .int .i64 s86v.2.1, .int .i64 s86v.2.2.1, .int .i64 s86v.2.2.2.1, .int .i64 s86v.2.2.2.2.1, .int .i64 s86v.2.2.2.2.2.1, str s86v.2.2.2.2.2.2.1, str s86v.2.2.2.2.2.2.2.1, str s86v.2.2.2.2.2.2.2.2], obj b1v 37 [.int .i64 s86v.1, .int .i64 s86v.2.1, .int .i64 s86v.2.2.1, .int .i64 s86v.2.2.2.1, .int .i64 s86v.2.2.2.2.1, .int .i64 s86v.2.2.2.2.2.1, str s86v.2.2.2.2.2.2.1, str s86v.2.2.2.2.2.2.2.1, str s86v.2.2.2.2.2.2.2.2], F]) (Ent.refl _) ?_
 refine va rfl rfl (simL_nil (nrm_then (sim_rtn ?_)))
 refine rtn_block ?_
 refine rtn_cutR ?_
 refine rtn_loop ?_
 refine rtn_block ?_
 refine rtn_cutR ?_
 exact rtn_fnC (vs := [.agg #[.int .i64 s86v.1, .int .i64 s86v.2.1, .int .i64 s86v.2.2.1, .int .i64 s86v.2.2.2.1, .int .i64 s86v.2.2.2.2.1, .int .i64 s86v.2.2.2.2.2.1, str s86v.2.2.2.2.2.2.1, str s86v.2.2.2.2.2.2.2.1, str s86v.2.2.2.2.2.2.2.2], .int .i64 0]) () rfl ⟨⟨b1v, rfl, load_agg 1 Tryd.isAgg37 Tryd.sizeOf37 rfl rfl⟩, rfl, trivial⟩ rfl (.sel 2 rfl (.nil _))
 refine sr ?_
 refine vq (q_build (v := .agg #[.int .i64 0, .int .i64 0, .int .i64 0, .int .i64 0, .int .i64 0, .int .i64 0, str ([] : List UInt8), str ([] : List UInt8), str ([] : List UInt8)]) rfl rfl (fun _ => by kernel_rfl)) rfl ?_
 refine simL_do (re_store 0 rfl rfl rfl Tryd.sizeOf37 rfl rfl (one_of (by rfl)) rfl rfl) rfl rfl ?_
 intro _
 refine simL_ent (H' := [obj b1v 37 [.int .i64 0, .int .i64 0, .int .i64 0, .int .i64 0, .int .i64 0, .int .i64 0, str ([] : List UInt8), str ([] : List UInt8), str ([] : List UInt8)], RowV 9 1 (V9 tt) y4v.1 s2v.1 y4v.2, Row 109 5 y9v.1 s7v.length y9v.2 rs54v.flatten, F]) (Ent.refl _) ?_
 refine va rfl rfl (simL_nil (nrm_then (sim_rtn ?_)))
 refine rtn_then ?_
 refine rtn_block ?_
 refine rtn_cutR ?_
 refine rtn_loop ?_
 refine rtn_block ?_
 refine rtn_cutR ?_
 exact rtn_fnC (vs := [.agg #[.int .i64 0, .int .i64 0, .int .i64 0, .int .i64 0, .int .i64 0, .int .i64 0, str ([] : List UInt8), str ([] : List UInt8), str ([] : List UInt8)], .int .i64 21]) () rfl ⟨⟨b1v, rfl, load_agg 0 Tryd.isAgg37 Tryd.sizeOf37 rfl rfl⟩, rfl, trivial⟩ rfl (.sel 3 rfl (.nil _))
 intro s17v y18v
 refine sim_region ?_
 refine vm rfl rfl ?_
 refine vq (q_add rfl rfl rfl) rfl ?_
 refine va rfl rfl (simL_nil ?_)
 exact nrm_again (s := IntKind.i64.wrap (s12v + 1)) () ⟨rfl, rfl, rfl, rfl, trivial⟩ (.sel 0 rfl (.sel 0 rfl (.sel 0 rfl (.sel 0 rfl (.nil _)))))
 refine sim_exi ?_
 refine exi_then ?_
 refine exi_loop ?_
 refine exi_here ?_
 exact nrm_cutR (s := ()) () ⟨rfl, trivial⟩ (.sel 0 rfl (.sel 2 rfl (.nil _)))
 intro s10v y11v
 refine sr ?_
 refine vq (q_build (v := .agg #[.int .i64 0, .int .i64 0, .int .i64 0, .int .i64 0, .int .i64 0, .int .i64 0, str ([] : List UInt8), str ([] : List UInt8), str ([] : List UInt8)]) rfl rfl (fun _ => by kernel_rfl)) rfl ?_
 refine simL_do (re_store 0 rfl rfl rfl Tryd.sizeOf37 rfl rfl (one_of (by rfl)) rfl rfl) rfl rfl ?_
 intro _
 refine simL_ent (H' := [obj b1v 37 [.int .i64 0, .int .i64 0, .int .i64 0, .int .i64 0, .int .i64 0, .int .i64 0, str ([] : List UInt8), str ([] : List UInt8), str ([] : List UInt8)], F]) (Ent.refl _) ?_
 refine va rfl rfl (simL_nil (nrm_then (sim_rtn ?_)))
 exact rtn_fnC (vs := [.agg #[.int .i64 0, .int .i64 0, .int .i64 0, .int .i64 0, .int .i64 0, .int .i64 0, str ([] : List UInt8), str ([] : List UInt8), str ([] : List UInt8)], .int .i64 20]) () rfl ⟨⟨b1v, rfl, load_agg 0 Tryd.isAgg37 Tryd.sizeOf37 rfl rfl⟩, rfl, trivial⟩ rfl (.sel 1 rfl (.nil _))
 refine sr ?_
 refine vq (q_build (v := .agg #[.int .i64 0, .int .i64 0, .int .i64 0, .int .i64 0, .int .i64 0, .int .i64 0, str ([] : List UInt8), str ([] : List UInt8), str ([] : List UInt8)]) rfl rfl (fun _ => by kernel_rfl)) rfl ?_
 refine vm rfl rfl ?_
 refine simL_do (re_store 1 rfl rfl rfl Tryd.sizeOf37 rfl rfl (one_of (by rfl)) rfl rfl) rfl rfl ?_
 intro _
 refine simL_ent (H' := [RowV 9 1 (V9 tt) y4v.1 s2v.1 y4v.2, obj b1v 37 [.int .i64 0, .int .i64 0, .int .i64 0, .int .i64 0, .int .i64 0, .int .i64 0, str ([] : List UInt8), str ([] : List UInt8), str ([] : List UInt8)], F]) (Ent.refl _) ?_
 refine va rfl rfl (simL_nil (nrm_then (sim_rtn ?_)))
 refine rtn_then ?_
 exact rtn_fnC (vs := [.agg #[.int .i64 0, .int .i64 0, .int .i64 0, .int .i64 0, .int .i64 0, .int .i64 0, str ([] : List UInt8), str ([] : List UInt8), str ([] : List UInt8)], .int .i64 s2v.2]) () rfl ⟨⟨b1v, rfl, load_agg 1 Tryd.isAgg37 Tryd.sizeOf37 rfl rfl⟩, rfl, trivial⟩ rfl (.sel 2 rfl (.nil _))

def synodlaw15_Act.f (x0_0 : Int) (x0_1 : Int) (x0_2 : Int) (x0_3 : Int) (x0_4 : Int) (x0_5 : Int) (x0_6 : List UInt8) (x0_7 : List UInt8) (x0_8 : List UInt8) : Option (Int × Int × Int × Int × Int × Int × List UInt8 × List UInt8 × List UInt8) := some (x0_0, x0_1, x0_2, x0_3, x0_4, x0_5, x0_6, x0_7, x0_8)
theorem synodlaw15_Act.calls (W : World) (F : HA) (x0_0 : Int) (x0_1 : Int) (x0_2 : Int) (x0_3 : Int) (x0_4 : Int) (x0_5 : Int) (x0_6 : List UInt8) (x0_7 : List UInt8) (x0_8 : List UInt8)  :
    Fn Tryd.prog W 22 [.agg #[.int .i64 x0_0, .int .i64 x0_1, .int .i64 x0_2, .int .i64 x0_3, .int .i64 x0_4, .int .i64 x0_5, str x0_6, str x0_7, str x0_8]] [] F (synodlaw15_Act.f x0_0 x0_1 x0_2 x0_3 x0_4 x0_5 x0_6 x0_7 x0_8) (fun (r : Int × Int × Int × Int × Int × Int × List UInt8 × List UInt8 × List UInt8) (y : Unit) => .agg #[.int .i64 r.1, .int .i64 r.2.1, .int .i64 r.2.2.1, .int .i64 r.2.2.2.1, .int .i64 r.2.2.2.2.1, .int .i64 r.2.2.2.2.2.1, str r.2.2.2.2.2.2.1, str r.2.2.2.2.2.2.2.1, str r.2.2.2.2.2.2.2.2]) (fun r y => []) := by
 unfold synodlaw15_Act.f
 refine fn_intro 22 Tryd.func22 rfl Tryd.ntmps22 rfl ?_
 refine sr ?_
 refine simL_eff (re_box rfl rfl rfl) rfl rfl rfl ?_
 intro b1v
 refine simL_eff (re_alloc rfl Tryd.zeroValue37 rfl) rfl rfl rfl ?_
 intro b2v
 refine nx ?_
 refine vq (q_fa rfl rfl Tryd.underlying34 rfl rfl Tryd.sizeOf3 rfl) rfl ?_
 refine vq (q_load rfl rfl Tryd.isAgg3 (.obj 1 rfl rfl)) rfl ?_
 refine vq (q_fa rfl rfl Tryd.underlying34 rfl rfl Tryd.sizeOf3 rfl) rfl ?_
 refine vq (q_load rfl rfl Tryd.isAgg3 (.obj 1 rfl rfl)) rfl ?_
 refine vq (q_fa rfl rfl Tryd.underlying34 rfl rfl Tryd.sizeOf3 rfl) rfl ?_
 refine vq (q_load rfl rfl Tryd.isAgg3 (.obj 1 rfl rfl)) rfl ?_
 refine vq (q_fa rfl rfl Tryd.underlying34 rfl rfl Tryd.sizeOf3 rfl) rfl ?_
 refine vq (q_load rfl rfl Tryd.isAgg3 (.obj 1 rfl rfl)) rfl ?_
 refine vq (q_fa rfl rfl Tryd.underlying34 rfl rfl Tryd.sizeOf3 rfl) rfl ?_
 refine vq (q_load rfl rfl Tryd.isAgg3 (.obj 1 rfl rfl)) rfl ?_
 refine vq (q_fa rfl rfl Tryd.underlying34 rfl rfl Tryd.sizeOf3 rfl) rfl ?_
 refine vq (q_load rfl rfl Tryd.isAgg3 (.obj 1 rfl rfl)) rfl ?_
 refine vq (q_fa rfl rfl Tryd.underlying34 rfl rfl Tryd.sizeOf9 rfl) rfl ?_
 refine vq (q_load rfl rfl Tryd.isAgg9 (.obj 1 rfl rfl)) rfl ?_
 refine vq (q_fa rfl rfl Tryd.underlying34 rfl rfl Tryd.sizeOf9 rfl) rfl ?_
 refine vq (q_load rfl rfl Tryd.isAgg9 (.obj 1 rfl rfl)) rfl ?_
 refine vq (q_fa rfl rfl Tryd.underlying34 rfl rfl Tryd.sizeOf9 rfl) rfl ?_
 refine vq (q_load rfl rfl Tryd.isAgg9 (.obj 1 rfl rfl)) rfl ?_
 refine vq (q_build (v := .agg #[.int .i64 x0_0, .int .i64 x0_1, .int .i64 x0_2, .int .i64 x0_3, .int .i64 x0_4, .int .i64 x0_5, str x0_6, str x0_7, str x0_8]) rfl rfl (fun _ => by kernel_rfl)) rfl ?_
 refine simL_do (re_store 0 rfl rfl rfl Tryd.sizeOf37 rfl rfl (one_of (by rfl)) rfl rfl) rfl rfl ?_
 intro _
 refine simL_ent (H' := [obj b2v 37 [.int .i64 x0_0, .int .i64 x0_1, .int .i64 x0_2, .int .i64 x0_3, .int .i64 x0_4, .int .i64 x0_5, str x0_6, str x0_7, str x0_8], obj b1v 34 [.int .i64 x0_0, .int .i64 x0_1, .int .i64 x0_2, .int .i64 x0_3, .int .i64 x0_4, .int .i64 x0_5, str x0_6, str x0_7, str x0_8], F]) (Ent.refl _) ?_
 refine simL_nil (nrm_then (sim_rtn ?_))
 exact rtn_fnC (vs := [.agg #[.int .i64 x0_0, .int .i64 x0_1, .int .i64 x0_2, .int .i64 x0_3, .int .i64 x0_4, .int .i64 x0_5, str x0_6, str x0_7, str x0_8]]) () rfl ⟨⟨b2v, rfl, load_agg 0 Tryd.isAgg37 Tryd.sizeOf37 rfl rfl⟩, trivial⟩ rfl (.sel 2 rfl (.nil _))

def synodref17_Quote.l1 (x0 : List UInt8) : Nat → List UInt8 → Int → Option (List UInt8)
  | 0, _, _ => none
  | k + 1, z30v, z31v => if z31v < (x0.length : Int) then (if 0 ≤ z31v ∧ z31v < (x0.length : Int) then ((synodref17_plain.f ((x0.getD z31v.toNat 0).toNat : Int)).bind fun s35v => (if s35v = true then (if (z30v.length + ([(x0.getD z31v.toNat 0)] : List UInt8).length) * 1 ≤ 140737488355328 then (synodref17_Quote.l1 x0 k (z30v ++ ([(x0.getD z31v.toNat 0)] : List UInt8)) (IntKind.i64.wrap (z31v + 1))) else none) else (if ((decide (((x0.getD z31v.toNat 0).toNat : Int) = (34 : Int))) || (decide (((x0.getD z31v.toNat 0).toNat : Int) = (92 : Int)))) = true then (if (z30v.length + ([92, (x0.getD z31v.toNat 0)] : List UInt8).length) * 1 ≤ 140737488355328 then (synodref17_Quote.l1 x0 k (z30v ++ ([92, (x0.getD z31v.toNat 0)] : List UInt8)) (IntKind.i64.wrap (z31v + 1))) else none) else ((synodref17_digit.f (IntKind.i64.wrap (Int.tdiv (IntKind.i64.wrap ((x0.getD z31v.toNat 0).toNat : Int)) 16))).bind fun s51v => ((synodref17_digit.f (Int.tmod (IntKind.i64.wrap ((x0.getD z31v.toNat 0).toNat : Int)) 16)).bind fun s55v => (if 0 ≤ s51v ∧ s51v < 256 then (if 0 ≤ s55v ∧ s55v < 256 then (if (z30v.length + ([92, 120, (byte s51v), (byte s55v)] : List UInt8).length) * 1 ≤ 140737488355328 then (synodref17_Quote.l1 x0 k (z30v ++ ([92, 120, (byte s51v), (byte s55v)] : List UInt8)) (IntKind.i64.wrap (z31v + 1))) else none) else none) else none)))))) else none) else (some z30v)
def synodref17_Quote.l0 (x0 : List UInt8) : Nat → Bool → Int → Option (Bool)
  | 0, _, _ => none
  | k + 1, z10v, z11v => if z11v < (x0.length : Int) then ((if z10v = true then (if 0 ≤ z11v ∧ z11v < (x0.length : Int) then ((synodref17_bare.f ((x0.getD z11v.toNat 0).toNat : Int)).bind fun s17v => (some s17v)) else none) else (some false)).bind fun s14v => (synodref17_Quote.l0 x0 k s14v (IntKind.i64.wrap (z11v + 1)))) else (some z10v)
def synodref17_Quote.f (k : Nat) (x0 : List UInt8) : Option (List UInt8) := (if x0 = ([] : List UInt8) then (some false) else (if 0 ≤ (0 : Int) ∧ (0 : Int) < (x0.length : Int) then (some (!decide (((x0.getD (0 : Int).toNat 0).toNat : Int) = (35 : Int)))) else none)).bind fun s1v => ((synodref17_Quote.l0 x0 k s1v 0).bind fun s6v => (if s6v = true then (some x0) else ((synodref17_Quote.l1 x0 k ([34] : List UInt8) 0).bind fun s26v => (if (s26v.length + ([34] : List UInt8).length) * 1 ≤ 140737488355328 then (some (s26v ++ ([34] : List UInt8))) else none))))
theorem synodref17_Quote.calls (W : World) (F : HA) (k : Nat) (x0 : List UInt8)  :
    Fn Tryd.prog W 17 [str x0] [] F (synodref17_Quote.f k x0) (fun (r : List UInt8) (y : Unit) => str r) (fun r y => []) := by
 unfold synodref17_Quote.f
 refine fn_intro 71 Tryd.func17 rfl Tryd.ntmps17 rfl ?_
 refine sr ?_
 refine va rfl rfl (nx ?_)
 refine vm rfl rfl ?_
 refine vq (q_nes rfl rfl rfl) rfl ?_
 refine vm rfl rfl ?_
 refine simL_cut' 4 (S := Bool) (Unit) (fun s y => [(0, str x0), (14, .bool s)]) (fun s y => [F]) ?_ ?_
 refine simL_casen (fun hb4v => ?_) (fun hb5v => ?_)
 rw [hb4v]
 refine simL_valg (q_move rfl rfl) rfl rfl rfl rfl rfl rfl ?_
 refine simL_ask (fun hi3v => ?_)
 refine simL_valg (q_sidx rfl rfl rfl Tryd.underlying9 hi3v.1 hi3v.2) rfl rfl rfl rfl rfl rfl ?_
 refine simL_valg (q_neq rfl rfl rfl) rfl rfl rfl rfl rfl rfl ?_
 refine vq (q_pick rfl rfl rfl rfl rfl) rfl (simL_nil ?_)
 exact nrm_cut (s := !decide (((x0.getD (0 : Int).toNat 0).toNat : Int) = (35 : Int))) () ⟨rfl, rfl, trivial⟩ (.sel 0 rfl (.nil _))
 rw [hb5v]
 refine simL_skipd rfl rfl rfl rfl rfl rfl ?_
 refine simL_skipd rfl rfl rfl rfl rfl rfl ?_
 refine simL_skipd rfl rfl rfl rfl rfl rfl ?_
 refine vq (q_pick rfl rfl rfl rfl rfl) rfl (simL_nil ?_)
 exact nrm_cut (s := false) () ⟨rfl, rfl, trivial⟩ (.sel 0 rfl (.nil _))
 intro s1v y2v
 refine va rfl rfl (simL_nil (nrm_then ?_))
 refine sim_cut (S := Bool) (Unit) (fun s y => [(0, str x0), (3, .bool s)]) (fun s y => [F]) ?_ ?_
 refine sr ?_
 refine va rfl rfl (simL_nil (nrm_then ?_))
 refine sim_block ?_
 refine sim_loop (S := Bool × Int) (Unit) (fun k s => synodref17_Quote.l0 x0 k s.1 s.2) (fun s y => [(0, str x0), (3, .bool s.1), (4, .int .i64 s.2)]) (fun s y => [F]) (fun _ => by rw [synodref17_Quote.l0]) ?_ k (s1v, 0) () ⟨rfl, rfl, rfl, trivial⟩ (.sel 0 rfl (.nil _))
 intro k s8v y9v
 refine sim_eq (by rw [synodref17_Quote.l0]) ?_
 refine sim_seq (sr ?_)
 refine vm rfl rfl ?_
 refine vm rfl rfl ?_
 refine vq (q_lens rfl rfl rfl Tryd.underlying9) rfl ?_
 refine vq (q_lss rfl rfl rfl) rfl (simL_nil (nrm_then ?_))
 refine sim_cond rfl (fun h12v => ?_) (fun h13v => ?_)
 refine sim_skip ?_
 refine nrm_then (sim_seq ?_)
 refine sim_block ?_
 refine sim_region ?_
 refine vm rfl rfl ?_
 refine vm rfl rfl ?_
 refine simL_cut' 5 (S := Bool) (Unit) (fun s y => [(0, str x0), (4, .int .i64 s8v.2), (27, .bool s)]) (fun s y => [F]) ?_ ?_
 refine simL_caseb (fun hb20v => ?_) (fun hb21v => ?_)
 rw [hb20v]
 refine simL_valg (q_move rfl rfl) rfl rfl rfl rfl rfl rfl ?_
 refine simL_valg (q_move rfl rfl) rfl rfl rfl rfl rfl rfl ?_
 refine simL_ask (fun hi16v => ?_)
 refine simL_valg (q_sidx rfl rfl rfl Tryd.underlying9 hi16v.1 hi16v.2) rfl rfl rfl rfl rfl rfl ?_
 refine simL_bind (fun s17v hs18v => ?_)
 refine simL_effg (re_call (vs := [.int .u8 ((x0.getD s8v.2.toNat 0).toNat : Int)]) (cap := []) (A := []) (rst := [F]) rfl rfl rfl rfl rfl rfl Tryd.call40 (.sel 0 rfl (.nil _)) (synodref17_bare.calls _ _ ((x0.getD s8v.2.toNat 0).toNat : Int) ) hs18v) rfl rfl rfl rfl rfl rfl ?_
 intro y19v
 refine vq (q_pick rfl rfl rfl rfl rfl) rfl (simL_nil ?_)
 exact nrm_cut (s := s17v) () ⟨rfl, rfl, rfl, trivial⟩ (.sel 0 rfl (.nil _))
 rw [hb21v]
 refine simL_skipd rfl rfl rfl rfl rfl rfl ?_
 refine simL_skipd rfl rfl rfl rfl rfl rfl ?_
 refine simL_skipd rfl rfl rfl rfl rfl rfl ?_
 refine simL_skipd rfl rfl rfl rfl rfl rfl ?_
 refine vq (q_pick rfl rfl rfl rfl rfl) rfl (simL_nil ?_)
 exact nrm_cut (s := false) () ⟨rfl, rfl, rfl, trivial⟩ (.sel 0 rfl (.nil _))
 intro s14v y15v
 refine va rfl rfl (simL_nil (nrm_block (nrm_then (sim_region ?_))))
 refine vm rfl rfl ?_
 refine vq (q_add rfl rfl rfl) rfl ?_
 refine va rfl rfl (simL_nil ?_)
 exact nrm_again (s := (s14v, IntKind.i64.wrap (s8v.2 + 1))) () ⟨rfl, rfl, rfl, trivial⟩ (.sel 0 rfl (.nil _))
 refine sim_exi ?_
 refine exi_then ?_
 refine exi_loop ?_
 refine exi_here ?_
 exact nrm_cut (s := s8v.1) () ⟨rfl, rfl, trivial⟩ (.sel 0 rfl (.nil _))
 intro s6v y7v
 refine sim_seq (sr ?_)
 refine vm rfl rfl (simL_nil (nrm_then ?_))
 refine sim_condb rfl (fun h22v => ?_) (fun h23v => ?_)
 refine sr ?_
 refine vm rfl rfl ?_
 refine va rfl rfl (simL_nil (nrm_then (sim_rtn ?_)))
 refine rtn_then ?_
 exact rtn_fn () rfl rfl rfl (.sel 0 rfl (.nil _))
 refine sim_skip ?_
 refine nrm_then (sr ?_)
 refine simL_eff (re_litb (cs := [.int .u8 34]) ([34] : List UInt8) rfl rfl Tryd.underlying93 elt5 rfl (by kernel_rfl) rfl rfl rfl) rfl rfl rfl ?_
 intro b24v
 refine va rfl rfl (simL_nil (nrm_then ?_))
 refine sim_cut (S := List UInt8) (Option Addr × Nat) (fun s y => [(5, .slice y.1 s.length y.2)]) (fun s y => [Row 5 1 y.1 s.length y.2 (encB s), F]) ?_ ?_
 refine sr ?_
 refine va rfl rfl (simL_nil (nrm_then ?_))
 refine sim_block ?_
 refine sim_loop (S := List UInt8 × Int) (Option Addr × Nat) (fun k s => synodref17_Quote.l1 x0 k s.1 s.2) (fun s y => [(0, str x0), (5, .slice y.1 s.1.length y.2), (6, .int .i64 s.2)]) (fun s y => [Row 5 1 y.1 s.1.length y.2 (encB s.1), F]) (fun _ => by rw [synodref17_Quote.l1]) ?_ k (([34] : List UInt8), 0) ((some ⟨b24v, 0, none⟩), 1) ⟨rfl, rfl, rfl, trivial⟩ (.sel 0 rfl (.sel 0 rfl (.nil _)))
 intro k s28v y29v
 refine sim_eq (by rw [synodref17_Quote.l1]) ?_
 refine sim_seq (sr ?_)
 refine vm rfl rfl ?_
 refine vm rfl rfl ?_
 refine vq (q_lens rfl rfl rfl Tryd.underlying9) rfl ?_
 refine vq (q_lss rfl rfl rfl) rfl (simL_nil (nrm_then ?_))
 refine sim_cond rfl (fun h32v => ?_) (fun h33v => ?_)
 refine sim_skip ?_
 refine nrm_then (sim_seq ?_)
 refine sim_block ?_
 refine sr ?_
 refine vm rfl rfl ?_
 refine vm rfl rfl ?_
 refine simL_ask (fun hi34v => ?_)
 refine vq (q_sidx rfl rfl rfl Tryd.underlying9 hi34v.1 hi34v.2) rfl ?_
 refine va rfl rfl (nx ?_)
 refine vm rfl rfl ?_
 refine simL_bind (fun s35v hs36v => ?_)
 refine simL_eff (re_call (vs := [.int .u8 ((x0.getD s28v.2.toNat 0).toNat : Int)]) (cap := []) (A := []) (rst := [Row 5 1 y29v.1 s28v.1.length y29v.2 (encB s28v.1), F]) rfl rfl rfl rfl rfl rfl Tryd.call42 (.sel 0 rfl (.sel 0 rfl (.nil _))) (synodref17_plain.calls _ _ ((x0.getD s28v.2.toNat 0).toNat : Int) ) hs36v) rfl rfl rfl ?_
 intro y37v
 refine simL_nil (nrm_then ?_)
 refine sim_condb rfl (fun h38v => ?_) (fun h39v => ?_)
 refine sim_region ?_
 refine vm rfl rfl ?_
 refine vm rfl rfl ?_
 refine simL_eff (re_litb (cs := [.int .u8 ((x0.getD s28v.2.toNat 0).toNat : Int)]) ([(x0.getD s28v.2.toNat 0)] : List UInt8) rfl rfl Tryd.underlying93 elt5 rfl (by kernel_rfl) rfl rfl rfl) rfl rfl rfl ?_
 intro b40v
 refine simL_ask (fun hb43v => ?_)
 refine simL_eff (re_appendb 1 rfl rfl rfl Tryd.underlying93 elt5 rfl (Rds.row 0 rfl) hb43v) rfl rfl rfl ?_
 intro y42v
 refine va rfl rfl (simL_nil (nrm_block (nrm_then (sim_region ?_))))
 refine vm rfl rfl ?_
 refine vq (q_add rfl rfl rfl) rfl ?_
 refine va rfl rfl (simL_nil ?_)
 exact nrm_again (s := (s28v.1 ++ ([(x0.getD s28v.2.toNat 0)] : List UInt8), IntKind.i64.wrap (s28v.2 + 1))) (y42v.1, y42v.2) ⟨rfl, rfl, rfl, trivial⟩ (.sel 1 rfl (.sel 1 rfl (.nil _)))
 refine sr ?_
 refine vm rfl rfl ?_
 refine vq (q_eql rfl rfl rfl) rfl ?_
 refine vm rfl rfl ?_
 refine simL_valc (b := decide (((x0.getD s28v.2.toNat 0).toNat : Int) = (34 : Int))) (fun hb65v => RQ.sub (E' := [(7, .int .u8 ((x0.getD s28v.2.toNat 0).toNat : Int))]) ⟨rfl, trivial⟩ (q_move rfl rfl)) rfl rfl rfl rfl rfl ?_
 refine simL_valc (b := decide (((x0.getD s28v.2.toNat 0).toNat : Int) = (34 : Int))) (fun hb64v => RQ.sub (E' := [(49, .int .u8 ((x0.getD s28v.2.toNat 0).toNat : Int))]) ⟨lk_cv rfl hb64v, trivial⟩ (q_eql rfl rfl rfl)) rfl rfl rfl rfl rfl ?_
 refine vq (q_or rfl rfl rfl) rfl (simL_nil (nrm_then ?_))
 refine sim_condb rfl (fun h44v => ?_) (fun h45v => ?_)
 refine sim_region ?_
 refine vm rfl rfl ?_
 refine vm rfl rfl ?_
 refine simL_eff (re_litb (cs := [.int .u8 92, .int .u8 ((x0.getD s28v.2.toNat 0).toNat : Int)]) ([92, (x0.getD s28v.2.toNat 0)] : List UInt8) rfl rfl Tryd.underlying93 elt5 rfl (by kernel_rfl) rfl rfl rfl) rfl rfl rfl ?_
 intro b46v
 refine simL_ask (fun hb49v => ?_)
 refine simL_eff (re_appendb 1 rfl rfl rfl Tryd.underlying93 elt5 rfl (Rds.row 0 rfl) hb49v) rfl rfl rfl ?_
 intro y48v
 refine va rfl rfl (simL_nil (nrm_block (nrm_then (sim_region ?_))))
 refine vm rfl rfl ?_
 refine vq (q_add rfl rfl rfl) rfl ?_
 refine va rfl rfl (simL_nil ?_)
 exact nrm_again (s := (s28v.1 ++ ([92, (x0.getD s28v.2.toNat 0)] : List UInt8), IntKind.i64.wrap (s28v.2 + 1))) (y48v.1, y48v.2) ⟨rfl, rfl, rfl, trivial⟩ (.sel 1 rfl (.sel 1 rfl (.nil _)))
 refine sim_region ?_
 refine vm rfl rfl ?_
 refine vm rfl rfl ?_
 refine vq (q_conv rfl rfl Tryd.underlying5 Tryd.underlying3) rfl ?_
 refine vq (q_quo rfl rfl rfl (by decide)) rfl ?_
 refine simL_bind (fun s51v hs52v => ?_)
 refine simL_eff (re_call (vs := [.int .i64 (IntKind.i64.wrap (Int.tdiv (IntKind.i64.wrap ((x0.getD s28v.2.toNat 0).toNat : Int)) 16))]) (cap := []) (A := []) (rst := [Row 5 1 y29v.1 s28v.1.length y29v.2 (encB s28v.1), F]) rfl rfl rfl rfl rfl rfl Tryd.call43 (.sel 0 rfl (.sel 0 rfl (.nil _))) (synodref17_digit.calls _ _ (IntKind.i64.wrap (Int.tdiv (IntKind.i64.wrap ((x0.getD s28v.2.toNat 0).toNat : Int)) 16)) ) hs52v) rfl rfl rfl ?_
 intro y53v
 refine vm rfl rfl ?_
 refine vq (q_conv rfl rfl Tryd.underlying5 Tryd.underlying3) rfl ?_
 refine vq (q_rem rfl rfl rfl (by decide)) rfl ?_
 refine simL_bind (fun s55v hs56v => ?_)
 refine simL_eff (re_call (vs := [.int .i64 (Int.tmod (IntKind.i64.wrap ((x0.getD s28v.2.toNat 0).toNat : Int)) 16)]) (cap := []) (A := []) (rst := [Row 5 1 y29v.1 s28v.1.length y29v.2 (encB s28v.1), F]) rfl rfl rfl rfl rfl rfl Tryd.call43 (.sel 0 rfl (.sel 0 rfl (.nil _))) (synodref17_digit.calls _ _ (Int.tmod (IntKind.i64.wrap ((x0.getD s28v.2.toNat 0).toNat : Int)) 16) ) hs56v) rfl rfl rfl ?_
 intro y57v
 refine simL_ask (fun hb62v => ?_)
 refine simL_ask (fun hb63v => ?_)
 refine simL_eff (re_litb (cs := [.int .u8 92, .int .u8 120, .int .u8 s51v, .int .u8 s55v]) ([92, 120, (byte s51v), (byte s55v)] : List UInt8) rfl rfl Tryd.underlying93 elt5 rfl (by kernel_rfl) rfl rfl (lit_cons rfl (lit_cons rfl (lit_cons (byte_toNat hb62v.1 hb62v.2) (lit_cons (byte_toNat hb63v.1 hb63v.2) lit_nil))))) rfl rfl rfl ?_
 intro b58v
 refine simL_ask (fun hb61v => ?_)
 refine simL_eff (re_appendb 1 rfl rfl rfl Tryd.underlying93 elt5 rfl (Rds.row 0 rfl) hb61v) rfl rfl rfl ?_
 intro y60v
 refine va rfl rfl (simL_nil (nrm_block (nrm_then (sim_region ?_))))
 refine vm rfl rfl ?_
 refine vq (q_add rfl rfl rfl) rfl ?_
 refine va rfl rfl (simL_nil ?_)
 exact nrm_again (s := (s28v.1 ++ ([92, 120, (byte s51v), (byte s55v)] : List UInt8), IntKind.i64.wrap (s28v.2 + 1))) (y60v.1, y60v.2) ⟨rfl, rfl, rfl, trivial⟩ (.sel 1 rfl (.sel 1 rfl (.nil _)))
 refine sim_exi ?_
 refine exi_then ?_
 refine exi_loop ?_
 refine exi_here ?_
 exact nrm_cut (s := s28v.1) (y29v.1, y29v.2) ⟨rfl, trivial⟩ (.sel 0 rfl (.sel 0 rfl (.nil _)))
 intro s26v y27v
 refine sr ?_
 refine vm rfl rfl ?_
 refine simL_eff (re_litb (cs := [.int .u8 34]) ([34] : List UInt8) rfl rfl Tryd.underlying93 elt5 rfl (by kernel_rfl) rfl rfl rfl) rfl rfl rfl ?_
 intro b66v
 refine simL_ask (fun hb69v => ?_)
 refine simL_eff (re_appendb 1 rfl rfl rfl Tryd.underlying93 elt5 rfl (Rds.row 0 rfl) hb69v) rfl rfl rfl ?_
 intro y68v
 refine vq (q_tostr rfl rfl Tryd.underlying93 Tryd.underlying5 Tryd.underlying9 (Rds.row 1 rfl) rfl) rfl ?_
 refine va rfl rfl (simL_nil (nrm_then (sim_rtn ?_)))
 exact rtn_fn () rfl rfl rfl (.sel 2 rfl (.nil _))
end Go.Proofs.YtbcnegennmpliaaDoor
