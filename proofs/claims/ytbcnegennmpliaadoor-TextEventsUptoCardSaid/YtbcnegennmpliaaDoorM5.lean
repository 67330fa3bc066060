/- Texts that lead to the law TextEvents: G4. Conditions: as each says. -/
import Derived.Test.YtbcnegennmpliaaDoorM4
namespace Go.Proofs.YtbcnegennmpliaaDoor
open Go.RowKit
set_option linter.unusedVariables false
set_option linter.unusedSimpArgs false
set_option maxRecDepth 20000
set_option maxHeartbeats 20000000
def synodlaw17_first.f (k : Nat)  : Option (Bool) := (text_Words.f k ([112, 117, 116, 32, 32, 49, 32, 50, 32, 97, 32, 34, 98, 32, 99, 34] : List UInt8)).bind fun s1v => ((text_ParseAct.f k ([116, 105, 99, 107, 32, 49, 32, 45, 53] : List UInt8)).bind fun s4v => ((text_ParseAct.f k ([116, 105, 99, 107, 32, 48, 49, 32, 50] : List UInt8)).bind fun s8v => ((text_FormatAct.f k (13 : Int) (2 : Int) (1 : Int) (0 : Int) (0 : Int) (4 : Int) ([107] : List UInt8) ([110, 101, 119] : List UInt8) ([111, 32, 100] : List UInt8)).bind fun s12v => ((synodref_SameTexts.f k s1v.1 ([([112, 117, 116] : List UInt8), ([49] : List UInt8), ([50] : List UInt8), ([97] : List UInt8), ([98, 32, 99] : List UInt8)] : List (List UInt8))).bind fun s27v => ((if s27v = true then ((synodref_Num.f s1v.2).bind fun s32v => (some (decide (s32v = (0 : Int))))) else (some false)).bind fun s30v => ((if (s30v && (decide (s4v.1 = (1 : Int)) && (decide (s4v.2.1 = (1 : Int)) && (decide (s4v.2.2.1 = (0 : Int)) && (decide (s4v.2.2.2.1 = (-5)) && (decide (s4v.2.2.2.2.1 = (0 : Int)) && (decide (s4v.2.2.2.2.2.1 = (0 : Int)) && (decide (s4v.2.2.2.2.2.2.1 = ([] : List UInt8)) && (decide (s4v.2.2.2.2.2.2.2.1 = ([] : List UInt8)) && (decide (s4v.2.2.2.2.2.2.2.2.1 = ([] : List UInt8)))))))))))) = true then ((synodref_Num.f s4v.2.2.2.2.2.2.2.2.2).bind fun s39v => (some (decide (s39v = (0 : Int))))) else (some false)).bind fun s37v => ((if s37v = true then ((synodref_Num.f s8v.2.2.2.2.2.2.2.2.2).bind fun s46v => (some (decide (s46v = (22 : Int))))) else (some false)).bind fun s44v => ((if (s44v && (decide (s12v.1 = ([115, 119, 97, 112, 32, 49, 32, 50, 32, 107, 32, 34, 111, 32, 100, 34, 32, 110, 101, 119] : List UInt8)))) = true then ((synodref_Num.f s12v.2).bind fun s53v => (some (decide (s53v = (0 : Int))))) else (some false)).bind fun s51v => (some s51v)))))))))
theorem synodlaw17_first.calls (W : World) (F : HA) (k : Nat)  (hgl : Glb Tryd.prog F) :
    Fn Tryd.prog W 11 [] [] F (synodlaw17_first.f k ) (fun (r : Bool) (y : Unit) => .bool r) (fun r y => []) := by
 unfold synodlaw17_first.f
 refine fn_intro 58 Tryd.func11 rfl Tryd.ntmps11 rfl ?_
 refine sr ?_
 refine va rfl rfl (nx ?_)
 refine simL_bind (fun s1v hs2v => ?_)
 refine simL_eff (re_call (vs := [str ([112, 117, 116, 32, 32, 49, 32, 50, 32, 97, 32, 34, 98, 32, 99, 34] : List UInt8)]) (cap := []) (A := []) (rst := [F]) rfl rfl rfl rfl rfl rfl Tryd.call12 (.sel 0 rfl (.nil _)) (text_Words.calls _ _ k ([112, 117, 116, 32, 32, 49, 32, 50, 32, 97, 32, 34, 98, 32, 99, 34] : List UInt8) ) hs2v) rfl rfl rfl ?_
 intro y3v
 refine vm rfl rfl ?_
 refine vq (q_ext rfl rfl rfl) rfl ?_
 refine vq (q_ext rfl rfl rfl) rfl ?_
 refine va rfl rfl ?_
 refine va rfl rfl (nx ?_)
 refine simL_bind (fun s4v hs5v => ?_)
 refine simL_eff (re_call (vs := [str ([116, 105, 99, 107, 32, 49, 32, 45, 53] : List UInt8)]) (cap := []) (A := []) (rst := [RowV 9 1 (V9 tt) y3v.1 s1v.1 y3v.2, F]) rfl rfl rfl rfl rfl rfl Tryd.call18 (.sel 0 rfl (.sel 0 rfl (.nil _))) (text_ParseAct.calls _ _ k ([116, 105, 99, 107, 32, 49, 32, 45, 53] : List UInt8) (hgl.lend 1 rfl)) hs5v) rfl rfl rfl ?_
 intro y6v
 refine vm rfl rfl ?_
 refine vq (q_ext rfl rfl rfl) rfl ?_
 refine vq (q_ext rfl rfl rfl) rfl ?_
 refine simL_eff (re_alloc rfl Tryd.zeroValue34 rfl) rfl rfl rfl ?_
 intro b7v
 refine simL_do (re_store 0 rfl rfl rfl Tryd.sizeOf34 rfl rfl (one_of (by rfl)) rfl rfl) rfl rfl ?_
 intro _
 refine simL_ent (H' := [obj b7v 34 [.int .i64 s4v.1, .int .i64 s4v.2.1, .int .i64 s4v.2.2.1, .int .i64 s4v.2.2.2.1, .int .i64 s4v.2.2.2.2.1, .int .i64 s4v.2.2.2.2.2.1, str s4v.2.2.2.2.2.2.1, str s4v.2.2.2.2.2.2.2.1, str s4v.2.2.2.2.2.2.2.2.1], RowV 9 1 (V9 tt) y3v.1 s1v.1 y3v.2, F]) (Ent.refl _) ?_
 refine va rfl rfl (nx ?_)
 refine simL_bind (fun s8v hs9v => ?_)
 refine simL_eff (re_call (vs := [str ([116, 105, 99, 107, 32, 48, 49, 32, 50] : List UInt8)]) (cap := []) (A := []) (rst := [obj b7v 34 [.int .i64 s4v.1, .int .i64 s4v.2.1, .int .i64 s4v.2.2.1, .int .i64 s4v.2.2.2.1, .int .i64 s4v.2.2.2.2.1, .int .i64 s4v.2.2.2.2.2.1, str s4v.2.2.2.2.2.2.1, str s4v.2.2.2.2.2.2.2.1, str s4v.2.2.2.2.2.2.2.2.1], RowV 9 1 (V9 tt) y3v.1 s1v.1 y3v.2, F]) rfl rfl rfl rfl rfl rfl Tryd.call18 (.sel 0 rfl (.sel 0 rfl (.sel 0 rfl (.nil _)))) (text_ParseAct.calls _ _ k ([116, 105, 99, 107, 32, 48, 49, 32, 50] : List UInt8) (hgl.lend 2 rfl)) hs9v) rfl rfl rfl ?_
 intro y10v
 refine vm rfl rfl ?_
 refine vq (q_ext rfl rfl rfl) rfl ?_
 refine vq (q_ext rfl rfl rfl) rfl ?_
 refine simL_eff (re_alloc rfl Tryd.zeroValue34 rfl) rfl rfl rfl ?_
 intro b11v
 refine simL_do (re_store 0 rfl rfl rfl Tryd.sizeOf34 rfl rfl (one_of (by rfl)) rfl rfl) rfl rfl ?_
 intro _
 refine simL_ent (H' := [obj b11v 34 [.int .i64 s8v.1, .int .i64 s8v.2.1, .int .i64 s8v.2.2.1, .int .i64 s8v.2.2.2.1, .int .i64 s8v.2.2.2.2.1, .int .i64 s8v.2.2.2.2.2.1, str s8v.2.2.2.2.2.2.1, str s8v.2.2.2.2.2.2.2.1, str s8v.2.2.2.2.2.2.2.2.1], obj b7v 34 [.int .i64 s4v.1, .int .i64 s4v.2.1, .int .i64 s4v.2.2.1, .int .i64 s4v.2.2.2.1, .int .i64 s4v.2.2.2.2.1, .int .i64 s4v.2.2.2.2.2.1, str s4v.2.2.2.2.2.2.1, str s4v.2.2.2.2.2.2.2.1, str s4v.2.2.2.2.2.2.2.2.1], RowV 9 1 (V9 tt) y3v.1 s1v.1 y3v.2, F]) (Ent.refl _) ?_
 refine va rfl rfl (nx ?_)
 refine vq (q_build (v := .agg #[.int .i64 13, .int .i64 2, .int .i64 1, .int .i64 0, .int .i64 0, .int .i64 4, str ([107] : List UInt8), str ([110, 101, 119] : List UInt8), str ([111, 32, 100] : List UInt8)]) rfl rfl (fun _ => by kernel_rfl)) rfl ?_
 refine simL_bind (fun s12v hs13v => ?_)
 refine simL_eff (re_call (vs := [.agg #[.int .i64 13, .int .i64 2, .int .i64 1, .int .i64 0, .int .i64 0, .int .i64 4, str ([107] : List UInt8), str ([110, 101, 119] : List UInt8), str ([111, 32, 100] : List UInt8)]]) (cap := []) (A := []) (rst := [obj b11v 34 [.int .i64 s8v.1, .int .i64 s8v.2.1, .int .i64 s8v.2.2.1, .int .i64 s8v.2.2.2.1, .int .i64 s8v.2.2.2.2.1, .int .i64 s8v.2.2.2.2.2.1, str s8v.2.2.2.2.2.2.1, str s8v.2.2.2.2.2.2.2.1, str s8v.2.2.2.2.2.2.2.2.1], obj b7v 34 [.int .i64 s4v.1, .int .i64 s4v.2.1, .int .i64 s4v.2.2.1, .int .i64 s4v.2.2.2.1, .int .i64 s4v.2.2.2.2.1, .int .i64 s4v.2.2.2.2.2.1, str s4v.2.2.2.2.2.2.1, str s4v.2.2.2.2.2.2.2.1, str s4v.2.2.2.2.2.2.2.2.1], RowV 9 1 (V9 tt) y3v.1 s1v.1 y3v.2, F]) rfl rfl rfl rfl rfl rfl Tryd.call20 (.sel 0 rfl (.sel 0 rfl (.sel 0 rfl (.sel 0 rfl (.nil _))))) (text_FormatAct.calls _ _ k (13 : Int) (2 : Int) (1 : Int) (0 : Int) (0 : Int) (4 : Int) ([107] : List UInt8) ([110, 101, 119] : List UInt8) ([111, 32, 100] : List UInt8) (hgl.lend 3 rfl)) hs13v) rfl rfl rfl ?_
 intro y14v
 refine vm rfl rfl ?_
 refine vq (q_ext rfl rfl rfl) rfl ?_
 refine vq (q_ext rfl rfl rfl) rfl ?_
 refine va rfl rfl ?_
 refine va rfl rfl (nx ?_)
 refine vm rfl rfl ?_
 have hlb16v : ListV 1 (V9 tt) ([([112, 117, 116] : List UInt8), ([49] : List UInt8), ([50] : List UInt8), ([97] : List UInt8), ([98, 32, 99] : List UInt8)] : List (List UInt8)) [[str ([112, 117, 116] : List UInt8)], [str ([49] : List UInt8)], [str ([50] : List UInt8)], [str ([97] : List UInt8)], [str ([98, 32, 99] : List UInt8)]] := ⟨⟨rfl, one_of (by rfl), rfl⟩, ⟨rfl, one_of (by rfl), rfl⟩, ⟨rfl, one_of (by rfl), rfl⟩, ⟨rfl, one_of (by rfl), rfl⟩, ⟨rfl, one_of (by rfl), rfl⟩, trivial⟩
 refine simL_eff (re_litV (V := (V9 tt)) (xs := ([([112, 117, 116] : List UInt8), ([49] : List UInt8), ([50] : List UInt8), ([97] : List UInt8), ([98, 32, 99] : List UInt8)] : List (List UInt8))) [[str ([112, 117, 116] : List UInt8)], [str ([49] : List UInt8)], [str ([50] : List UInt8)], [str ([97] : List UInt8)], [str ([98, 32, 99] : List UInt8)]] rfl rfl Tryd.underlying23 elt9 rfl (by kernel_rfl) rfl hlb16v rfl rfl) rfl rfl rfl ?_
 intro b16v
 refine simL_openV 3 rfl (fun rs17v hl18v => ?_)
 refine simL_bind (fun s27v hs28v => ?_)
 refine simL_lend 3 rfl (fun hq19v hq20v hq21v hq22v => ?_)
 refine simL_lend 0 rfl (fun hq23v hq24v hq25v hq26v => ?_)
 refine simL_eff (re_call (vs := [.slice y3v.1 s1v.1.length y3v.2, .slice (some ⟨b16v, 0, none⟩) (([([112, 117, 116] : List UInt8), ([49] : List UInt8), ([50] : List UInt8), ([97] : List UInt8), ([98, 32, 99] : List UInt8)] : List (List UInt8)).length) 5]) (cap := []) (A := []) (rst := [Row 9 1 (some ⟨b16v, 0, none⟩) ([([112, 117, 116] : List UInt8), ([49] : List UInt8), ([50] : List UInt8), ([97] : List UInt8), ([98, 32, 99] : List UInt8)] : List (List UInt8)).length 5 [[str ([112, 117, 116] : List UInt8)], [str ([49] : List UInt8)], [str ([50] : List UInt8)], [str ([97] : List UInt8)], [str ([98, 32, 99] : List UInt8)]].flatten, obj b11v 34 [.int .i64 s8v.1, .int .i64 s8v.2.1, .int .i64 s8v.2.2.1, .int .i64 s8v.2.2.2.1, .int .i64 s8v.2.2.2.2.1, .int .i64 s8v.2.2.2.2.2.1, str s8v.2.2.2.2.2.2.1, str s8v.2.2.2.2.2.2.2.1, str s8v.2.2.2.2.2.2.2.2.1], obj b7v 34 [.int .i64 s4v.1, .int .i64 s4v.2.1, .int .i64 s4v.2.2.1, .int .i64 s4v.2.2.2.1, .int .i64 s4v.2.2.2.2.1, .int .i64 s4v.2.2.2.2.2.1, str s4v.2.2.2.2.2.2.1, str s4v.2.2.2.2.2.2.2.1, str s4v.2.2.2.2.2.2.2.2.1], Row 9 1 y3v.1 s1v.1.length y3v.2 rs17v.flatten, F]) rfl rfl rfl rfl rfl rfl Tryd.call14 (.sel 0 rfl (.sel 0 rfl (.sel 0 rfl (.sel 0 rfl (.sel 0 rfl (.nil _)))))) (synodref_SameTexts.calls _ _ k y3v.1 y3v.2 s1v.1 (some ⟨b16v, 0, none⟩) 5 ([([112, 117, 116] : List UInt8), ([49] : List UInt8), ([50] : List UInt8), ([97] : List UInt8), ([98, 32, 99] : List UInt8)] : List (List UInt8)) ((Rd.asV hl18v hq19v).up (Up.lend 3 rfl) (fun _ _ h => h)) hq20v hq21v ((Rd.asV hlb16v hq23v).up (Up.lend 0 rfl) (fun _ _ h => h)) hq24v hq25v) hs28v) rfl rfl rfl ?_
 intro y29v
 refine vm rfl rfl ?_
 refine simL_cut' 4 (S := Bool) (Unit) (fun s y => [(3, .pointer (some ⟨b7v, 0, none⟩)), (4, .int .i64 s4v.2.2.2.2.2.2.2.2.2), (6, .int .i64 s8v.2.2.2.2.2.2.2.2.2), (7, str s12v.1), (8, .int .i64 s12v.2), (33, .bool s)]) (fun s y => [obj b7v 34 [.int .i64 s4v.1, .int .i64 s4v.2.1, .int .i64 s4v.2.2.1, .int .i64 s4v.2.2.2.1, .int .i64 s4v.2.2.2.2.1, .int .i64 s4v.2.2.2.2.2.1, str s4v.2.2.2.2.2.2.1, str s4v.2.2.2.2.2.2.2.1, str s4v.2.2.2.2.2.2.2.2.1], F]) ?_ ?_
 refine simL_caseb (fun hb35v => ?_) (fun hb36v => ?_)
 rw [hb35v]
 refine simL_valg (q_move rfl rfl) rfl rfl rfl rfl rfl rfl ?_
 refine simL_bind (fun s32v hs33v => ?_)
 refine simL_effg (re_call (vs := [.int .i64 s1v.2]) (cap := []) (A := []) (rst := [Row 9 1 (some ⟨b16v, 0, none⟩) ([([112, 117, 116] : List UInt8), ([49] : List UInt8), ([50] : List UInt8), ([97] : List UInt8), ([98, 32, 99] : List UInt8)] : List (List UInt8)).length 5 [[str ([112, 117, 116] : List UInt8)], [str ([49] : List UInt8)], [str ([50] : List UInt8)], [str ([97] : List UInt8)], [str ([98, 32, 99] : List UInt8)]].flatten, obj b11v 34 [.int .i64 s8v.1, .int .i64 s8v.2.1, .int .i64 s8v.2.2.1, .int .i64 s8v.2.2.2.1, .int .i64 s8v.2.2.2.2.1, .int .i64 s8v.2.2.2.2.2.1, str s8v.2.2.2.2.2.2.1, str s8v.2.2.2.2.2.2.2.1, str s8v.2.2.2.2.2.2.2.2.1], obj b7v 34 [.int .i64 s4v.1, .int .i64 s4v.2.1, .int .i64 s4v.2.2.1, .int .i64 s4v.2.2.2.1, .int .i64 s4v.2.2.2.2.1, .int .i64 s4v.2.2.2.2.2.1, str s4v.2.2.2.2.2.2.1, str s4v.2.2.2.2.2.2.2.1, str s4v.2.2.2.2.2.2.2.2.1], Row 9 1 y3v.1 s1v.1.length y3v.2 rs17v.flatten, F]) rfl rfl rfl rfl rfl rfl Tryd.call15 (.sel 0 rfl (.sel 0 rfl (.sel 0 rfl (.sel 0 rfl (.sel 0 rfl (.nil _)))))) (synodref_Num.calls _ _ s1v.2 ) hs33v) rfl rfl rfl rfl rfl rfl ?_
 intro y34v
 refine simL_valg (q_eql rfl rfl rfl) rfl rfl rfl rfl rfl rfl ?_
 refine vq (q_pick rfl rfl rfl rfl rfl) rfl (simL_nil ?_)
 exact nrm_cut (s := decide (s32v = (0 : Int))) () ⟨rfl, rfl, rfl, rfl, rfl, rfl, trivial⟩ (.sel 2 rfl (.sel 3 rfl (.nil _)))
 rw [hb36v]
 refine simL_skipd rfl rfl rfl rfl rfl rfl ?_
 refine simL_skipd rfl rfl rfl rfl rfl rfl ?_
 refine simL_skipd rfl rfl rfl rfl rfl rfl ?_
 refine vq (q_pick rfl rfl rfl rfl rfl) rfl (simL_nil ?_)
 exact nrm_cut (s := false) () ⟨rfl, rfl, rfl, rfl, rfl, rfl, trivial⟩ (.sel 2 rfl (.sel 3 rfl (.nil _)))
 intro s30v y31v
 refine vm rfl rfl ?_
 refine simL_valc (b := s30v) (fun hb62v => RQ.sub (E' := [(3, .pointer (some ⟨b7v, 0, none⟩))]) ⟨rfl, trivial⟩ (q_loado 0 rfl rfl Tryd.isAgg34 Tryd.sizeOf34 rfl rfl)) rfl rfl rfl rfl rfl ?_
 refine simL_valc (b := s30v) (fun hb61v => RQ.sub (E' := []) trivial (q_build (v := .agg #[.int .i64 1, .int .i64 1, .int .i64 0, .int .i64 (-5), .int .i64 0, .int .i64 0, str ([] : List UInt8), str ([] : List UInt8), str ([] : List UInt8)]) rfl rfl (fun _ => by kernel_rfl))) rfl rfl rfl rfl rfl ?_
 refine simL_valc (b := s30v) (fun hb60v => RQ.sub (E' := [(35, .agg #[.int .i64 s4v.1, .int .i64 s4v.2.1, .int .i64 s4v.2.2.1, .int .i64 s4v.2.2.2.1, .int .i64 s4v.2.2.2.2.1, .int .i64 s4v.2.2.2.2.2.1, str s4v.2.2.2.2.2.2.1, str s4v.2.2.2.2.2.2.2.1, str s4v.2.2.2.2.2.2.2.2.1]), (36, .agg #[.int .i64 1, .int .i64 1, .int .i64 0, .int .i64 (-5), .int .i64 0, .int .i64 0, str ([] : List UInt8), str ([] : List UInt8), str ([] : List UInt8)])]) ⟨lk_cv rfl hb60v, lk_cv rfl hb60v, trivial⟩ (q_eqagg rfl rfl rfl (by kernel_rfl) (fun d w => eqi_struct Tryd.underlying34 (by kernel_rfl) (eqf_cons (by rfl) (part_of Tryd.isAgg3 rfl) (part_of Tryd.isAgg3 rfl) (eqi_int Tryd.underlying3) (eqf_cons (by rfl) (part_of Tryd.isAgg3 rfl) (part_of Tryd.isAgg3 rfl) (eqi_int Tryd.underlying3) (eqf_cons (by rfl) (part_of Tryd.isAgg3 rfl) (part_of Tryd.isAgg3 rfl) (eqi_int Tryd.underlying3) (eqf_cons (by rfl) (part_of Tryd.isAgg3 rfl) (part_of Tryd.isAgg3 rfl) (eqi_int Tryd.underlying3) (eqf_cons (by rfl) (part_of Tryd.isAgg3 rfl) (part_of Tryd.isAgg3 rfl) (eqi_int Tryd.underlying3) (eqf_cons (by rfl) (part_of Tryd.isAgg3 rfl) (part_of Tryd.isAgg3 rfl) (eqi_int Tryd.underlying3) (eqf_cons (by rfl) (part_of Tryd.isAgg9 rfl) (part_of Tryd.isAgg9 rfl) (eqi_str Tryd.underlying9) (eqf_cons (by rfl) (part_of Tryd.isAgg9 rfl) (part_of Tryd.isAgg9 rfl) (eqi_str Tryd.underlying9) (eqf_last (by rfl) (part_of Tryd.isAgg9 rfl) (part_of Tryd.isAgg9 rfl) (eqi_str Tryd.underlying9))))))))))))) rfl rfl rfl rfl rfl ?_
 refine vq (q_and rfl rfl rfl) rfl ?_
 refine vm rfl rfl ?_
 refine simL_cut' 4 (S := Bool) (Unit) (fun s y => [(6, .int .i64 s8v.2.2.2.2.2.2.2.2.2), (7, str s12v.1), (8, .int .i64 s12v.2), (43, .bool s)]) (fun s y => [F]) ?_ ?_
 refine simL_caseb (fun hb42v => ?_) (fun hb43v => ?_)
 rw [hb42v]
 refine simL_valg (q_move rfl rfl) rfl rfl rfl rfl rfl rfl ?_
 refine simL_bind (fun s39v hs40v => ?_)
 refine simL_effg (re_call (vs := [.int .i64 s4v.2.2.2.2.2.2.2.2.2]) (cap := []) (A := []) (rst := [obj b7v 34 [.int .i64 s4v.1, .int .i64 s4v.2.1, .int .i64 s4v.2.2.1, .int .i64 s4v.2.2.2.1, .int .i64 s4v.2.2.2.2.1, .int .i64 s4v.2.2.2.2.2.1, str s4v.2.2.2.2.2.2.1, str s4v.2.2.2.2.2.2.2.1, str s4v.2.2.2.2.2.2.2.2.1], F]) rfl rfl rfl rfl rfl rfl Tryd.call15 (.sel 0 rfl (.sel 0 rfl (.nil _))) (synodref_Num.calls _ _ s4v.2.2.2.2.2.2.2.2.2 ) hs40v) rfl rfl rfl rfl rfl rfl ?_
 intro y41v
 refine simL_valg (q_eql rfl rfl rfl) rfl rfl rfl rfl rfl rfl ?_
 refine vq (q_pick rfl rfl rfl rfl rfl) rfl (simL_nil ?_)
 exact nrm_cut (s := decide (s39v = (0 : Int))) () ⟨rfl, rfl, rfl, rfl, trivial⟩ (.sel 1 rfl (.nil _))
 rw [hb43v]
 refine simL_skipd rfl rfl rfl rfl rfl rfl ?_
 refine simL_skipd rfl rfl rfl rfl rfl rfl ?_
 refine simL_skipd rfl rfl rfl rfl rfl rfl ?_
 refine vq (q_pick rfl rfl rfl rfl rfl) rfl (simL_nil ?_)
 exact nrm_cut (s := false) () ⟨rfl, rfl, rfl, rfl, trivial⟩ (.sel 1 rfl (.nil _))
 intro s37v y38v
 refine vm rfl rfl ?_
 refine simL_cut' 4 (S := Bool) (Unit) (fun s y => [(7, str s12v.1), (8, .int .i64 s12v.2), (48, .bool s)]) (fun s y => [F]) ?_ ?_
 refine simL_caseb (fun hb49v => ?_) (fun hb50v => ?_)
 rw [hb49v]
 refine simL_valg (q_move rfl rfl) rfl rfl rfl rfl rfl rfl ?_
 refine simL_bind (fun s46v hs47v => ?_)
 refine simL_effg (re_call (vs := [.int .i64 s8v.2.2.2.2.2.2.2.2.2]) (cap := []) (A := []) (rst := [F]) rfl rfl rfl rfl rfl rfl Tryd.call15 (.sel 0 rfl (.nil _)) (synodref_Num.calls _ _ s8v.2.2.2.2.2.2.2.2.2 ) hs47v) rfl rfl rfl rfl rfl rfl ?_
 intro y48v
 refine simL_valg (q_eql rfl rfl rfl) rfl rfl rfl rfl rfl rfl ?_
 refine vq (q_pick rfl rfl rfl rfl rfl) rfl (simL_nil ?_)
 exact nrm_cut (s := decide (s46v = (22 : Int))) () ⟨rfl, rfl, rfl, trivial⟩ (.sel 0 rfl (.nil _))
 rw [hb50v]
 refine simL_skipd rfl rfl rfl rfl rfl rfl ?_
 refine simL_skipd rfl rfl rfl rfl rfl rfl ?_
 refine simL_skipd rfl rfl rfl rfl rfl rfl ?_
 refine vq (q_pick rfl rfl rfl rfl rfl) rfl (simL_nil ?_)
 exact nrm_cut (s := false) () ⟨rfl, rfl, rfl, trivial⟩ (.sel 0 rfl (.nil _))
 intro s44v y45v
 refine vm rfl rfl ?_
 refine simL_valc (b := s44v) (fun hb59v => RQ.sub (E' := [(7, str s12v.1)]) ⟨rfl, trivial⟩ (q_move rfl rfl)) rfl rfl rfl rfl rfl ?_
 refine simL_valc (b := s44v) (fun hb58v => RQ.sub (E' := [(50, str s12v.1)]) ⟨lk_cv rfl hb58v, trivial⟩ (q_eqs rfl rfl rfl)) rfl rfl rfl rfl rfl ?_
 refine vq (q_and rfl rfl rfl) rfl ?_
 refine vm rfl rfl ?_
 refine simL_cut' 4 (S := Bool) (Unit) (fun s y => [(57, .bool s)]) (fun s y => [F]) ?_ ?_
 refine simL_caseb (fun hb56v => ?_) (fun hb57v => ?_)
 rw [hb56v]
 refine simL_valg (q_move rfl rfl) rfl rfl rfl rfl rfl rfl ?_
 refine simL_bind (fun s53v hs54v => ?_)
 refine simL_effg (re_call (vs := [.int .i64 s12v.2]) (cap := []) (A := []) (rst := [F]) rfl rfl rfl rfl rfl rfl Tryd.call15 (.sel 0 rfl (.nil _)) (synodref_Num.calls _ _ s12v.2 ) hs54v) rfl rfl rfl rfl rfl rfl ?_
 intro y55v
 refine simL_valg (q_eql rfl rfl rfl) rfl rfl rfl rfl rfl rfl ?_
 refine vq (q_pick rfl rfl rfl rfl rfl) rfl (simL_nil ?_)
 exact nrm_cut (s := decide (s53v = (0 : Int))) () ⟨rfl, trivial⟩ (.sel 0 rfl (.nil _))
 rw [hb57v]
 refine simL_skipd rfl rfl rfl rfl rfl rfl ?_
 refine simL_skipd rfl rfl rfl rfl rfl rfl ?_
 refine simL_skipd rfl rfl rfl rfl rfl rfl ?_
 refine vq (q_pick rfl rfl rfl rfl rfl) rfl (simL_nil ?_)
 exact nrm_cut (s := false) () ⟨rfl, trivial⟩ (.sel 0 rfl (.nil _))
 intro s51v y52v
 refine va rfl rfl (simL_nil (nrm_then (sim_rtn ?_)))
 exact rtn_fn () rfl rfl rfl (.sel 0 rfl (.nil _))

def text_numbers.l0 (x1 : List Int) : Nat → List UInt8 → Int → Option (List UInt8)
  | 0, _, _ => none
  | k + 1, z5v, z6v => if z6v < (x1.length : Int) then (if 0 ≤ z6v ∧ z6v < (x1.length : Int) then ((strconv_Itoa.f (x1.getD z6v.toNat (0 : Int))).bind fun s17v => (if ([32] : List UInt8).length + s17v.length ≤ 9223372036854775807 then (if z5v.length + (([32] : List UInt8) ++ s17v).length ≤ 9223372036854775807 then (text_numbers.l0 x1 k (z5v ++ (([32] : List UInt8) ++ s17v)) (IntKind.i64.wrap (z6v + 1))) else none) else none)) else none) else (some z5v)
def text_numbers.f (k : Nat) (x0 : List UInt8) (x1 : List Int) : Option (List UInt8) := (text_numbers.l0 x1 k x0 0).bind fun s1v => (some s1v)
theorem text_numbers.calls (W : World) (F : HA) (k : Nat) (x0 : List UInt8) (a1 : Option Addr) (c1 : Nat) (x1 : List Int) (h1 : RdV F 1 (V3 tt) a1 x1) (hc1 : x1.length ≤ c1) (hm1 : c1 ≤ maxLen) (hgl : Glb Tryd.prog F) :
    Fn Tryd.prog W 59 [str x0, .slice a1 x1.length c1] [] F (text_numbers.f k x0 x1) (fun (r : List UInt8) (y : Unit) => str r) (fun r y => []) := by
 unfold text_numbers.f
 refine fn_intro 20 Tryd.func59 rfl Tryd.ntmps59 rfl ?_
 refine sr ?_
 refine va rfl rfl (simL_nil (nrm_then ?_))
 refine sim_cut (S := List UInt8) (Unit) (fun s y => [(0, str s)]) (fun s y => [F]) ?_ ?_
 refine sr ?_
 refine vm rfl rfl ?_
 refine vq (q_len rfl rfl rfl Tryd.underlying68) rfl ?_
 refine vm rfl rfl (simL_nil (nrm_then ?_))
 refine sim_block ?_
 refine sim_loop (S := List UInt8 × Int) (Unit) (fun k s => text_numbers.l0 x1 k s.1 s.2) (fun s y => [(0, str s.1), (7, .slice a1 x1.length c1), (8, .int .i64 (x1.length : Int)), (9, .int .i64 s.2)]) (fun s y => [F]) (fun _ => by rw [text_numbers.l0]) ?_ k (x0, 0) () ⟨rfl, rfl, rfl, rfl, trivial⟩ (.sel 0 rfl (.nil _))
 intro k s3v y4v
 refine sim_eq (by rw [text_numbers.l0]) ?_
 refine sr ?_
 refine vq (q_lss rfl rfl rfl) rfl (simL_nil (nrm_then (sim_seq ?_)))
 refine sim_cond rfl (fun h7v => ?_) (fun h8v => ?_)
 refine sim_skip ?_
 refine nrm_then (sim_seq ?_)
 refine sim_block ?_
 refine sr ?_
 refine simL_ask (fun hi9v => ?_)
 obtain ⟨b10v, b10vo, r13v, ha11v, hV14v, hlr15v, hcell16v⟩ := RdV.pos h1 (Up.refl _) rfl (i := s3v.2.toNat) (by omega) (0 : Int)
 obtain rfl := hV14v
 refine vq (q_idx rfl rfl rfl ha11v Tryd.underlying68 Tryd.sizeOf3 hi9v.1 hi9v.2) rfl ?_
 refine vq (q_load rfl rfl Tryd.isAgg3 (hcell16v 0 rfl 0 _ rfl)) rfl ?_
 refine va rfl rfl (ny ?_)
 refine vm rfl rfl ?_
 refine vm rfl rfl ?_
 refine simL_bind (fun s17v hs18v => ?_)
 refine simL_eff (re_call (vs := [.int .i64 (x1.getD s3v.2.toNat (0 : Int))]) (cap := []) (A := []) (rst := [F]) rfl rfl rfl rfl rfl rfl Tryd.call51 (.sel 0 rfl (.nil _)) (strconv_Itoa.calls _ _ (x1.getD s3v.2.toNat (0 : Int)) (hgl.lend 0 rfl)) hs18v) rfl rfl rfl ?_
 intro y19v
 refine simL_ask (fun hb20v => ?_)
 refine vq (q_cat rfl rfl rfl hb20v) rfl ?_
 refine simL_ask (fun hb21v => ?_)
 refine vq (q_cat rfl rfl rfl hb21v) rfl ?_
 refine va rfl rfl (simL_nil (nrm_block (nrm_then (sim_region ?_))))
 refine vq (q_add rfl rfl rfl) rfl ?_
 refine vm rfl rfl (simL_nil ?_)
 exact nrm_again (s := (s3v.1 ++ (([32] : List UInt8) ++ s17v), IntKind.i64.wrap (s3v.2 + 1))) () ⟨rfl, rfl, rfl, rfl, trivial⟩ (.sel 0 rfl (.nil _))
 refine sim_exi ?_
 refine exi_then ?_
 refine exi_loop ?_
 refine exi_here ?_
 exact nrm_cut (s := s3v.1) () ⟨rfl, trivial⟩ (.sel 0 rfl (.nil _))
 intro s1v y2v
 refine sr ?_
 refine vm rfl rfl ?_
 refine va rfl rfl (simL_nil (nrm_then (sim_rtn ?_)))
 exact rtn_fn () rfl rfl rfl (.sel 0 rfl (.nil _))

def text_codes.f  : Option (List (List UInt8)) := some ([([100, 111, 110, 101] : List UInt8), ([110, 111, 110, 101] : List UInt8), ([111, 116, 104, 101, 114] : List UInt8), ([111, 108, 100] : List UInt8), ([102, 117, 108, 108] : List UInt8), ([108, 101, 97, 100] : List UInt8), ([98, 117, 115, 121] : List UInt8), ([108, 111, 115, 116] : List UInt8), ([108, 105, 109, 105, 116] : List UInt8), ([100, 111, 119, 110] : List UInt8)] : List (List UInt8))
theorem text_codes.calls (W : World) (F : HA)   :
    Fn Tryd.prog W 61 [] [] F (text_codes.f ) (fun (r : List (List UInt8)) (y : Option Addr × Nat) => .slice y.1 r.length y.2) (fun r y => [RowV 9 1 (V9 tt) y.1 r y.2]) := by
 unfold text_codes.f
 refine fn_intro 2 Tryd.func61 rfl Tryd.ntmps61 rfl ?_
 refine sr ?_
 refine va rfl rfl (nx ?_)
 have hlb2v : ListV 1 (V9 tt) ([([100, 111, 110, 101] : List UInt8), ([110, 111, 110, 101] : List UInt8), ([111, 116, 104, 101, 114] : List UInt8), ([111, 108, 100] : List UInt8), ([102, 117, 108, 108] : List UInt8), ([108, 101, 97, 100] : List UInt8), ([98, 117, 115, 121] : List UInt8), ([108, 111, 115, 116] : List UInt8), ([108, 105, 109, 105, 116] : List UInt8), ([100, 111, 119, 110] : List UInt8)] : List (List UInt8)) [[str ([100, 111, 110, 101] : List UInt8)], [str ([110, 111, 110, 101] : List UInt8)], [str ([111, 116, 104, 101, 114] : List UInt8)], [str ([111, 108, 100] : List UInt8)], [str ([102, 117, 108, 108] : List UInt8)], [str ([108, 101, 97, 100] : List UInt8)], [str ([98, 117, 115, 121] : List UInt8)], [str ([108, 111, 115, 116] : List UInt8)], [str ([108, 105, 109, 105, 116] : List UInt8)], [str ([100, 111, 119, 110] : List UInt8)]] := ⟨⟨rfl, one_of (by rfl), rfl⟩, ⟨rfl, one_of (by rfl), rfl⟩, ⟨rfl, one_of (by rfl), rfl⟩, ⟨rfl, one_of (by rfl), rfl⟩, ⟨rfl, one_of (by rfl), rfl⟩, ⟨rfl, one_of (by rfl), rfl⟩, ⟨rfl, one_of (by rfl), rfl⟩, ⟨rfl, one_of (by rfl), rfl⟩, ⟨rfl, one_of (by rfl), rfl⟩, ⟨rfl, one_of (by rfl), rfl⟩, trivial⟩
 refine simL_eff (re_litV (V := (V9 tt)) (xs := ([([100, 111, 110, 101] : List UInt8), ([110, 111, 110, 101] : List UInt8), ([111, 116, 104, 101, 114] : List UInt8), ([111, 108, 100] : List UInt8), ([102, 117, 108, 108] : List UInt8), ([108, 101, 97, 100] : List UInt8), ([98, 117, 115, 121] : List UInt8), ([108, 111, 115, 116] : List UInt8), ([108, 105, 109, 105, 116] : List UInt8), ([100, 111, 119, 110] : List UInt8)] : List (List UInt8))) [[str ([100, 111, 110, 101] : List UInt8)], [str ([110, 111, 110, 101] : List UInt8)], [str ([111, 116, 104, 101, 114] : List UInt8)], [str ([111, 108, 100] : List UInt8)], [str ([102, 117, 108, 108] : List UInt8)], [str ([108, 101, 97, 100] : List UInt8)], [str ([98, 117, 115, 121] : List UInt8)], [str ([108, 111, 115, 116] : List UInt8)], [str ([108, 105, 109, 105, 116] : List UInt8)], [str ([100, 111, 119, 110] : List UInt8)]] rfl rfl Tryd.underlying23 elt9 rfl (by kernel_rfl) rfl hlb2v rfl rfl) rfl rfl rfl ?_
 intro b2v
 refine va rfl rfl (simL_nil (nrm_then (sim_rtn ?_)))
 exact rtn_fn ((some ⟨b2v, 0, none⟩), 10) rfl rfl rfl (.sel' 0 rfl (RowV.mk hlb2v) (.sel 0 rfl (.nil _)))

def text_at.f (x0 : List (List UInt8)) (x1 : Int) : Option (List UInt8) := if ((decide (x1 < (1 : Int))) || (decide ((x0.length : Int) < x1))) = true then (some ([63] : List UInt8)) else (if 0 ≤ IntKind.i64.wrap (x1 - 1) ∧ IntKind.i64.wrap (x1 - 1) < (x0.length : Int) then (some (x0.getD (IntKind.i64.wrap (x1 - 1)).toNat ([] : List UInt8))) else none)
theorem text_at.calls (W : World) (F : HA) (a0 : Option Addr) (c0 : Nat) (x0 : List (List UInt8)) (x1 : Int) (h0 : RdV F 1 (V9 tt) a0 x0) (hc0 : x0.length ≤ c0) (hm0 : c0 ≤ maxLen) :
    Fn Tryd.prog W 60 [.slice a0 x0.length c0, .int .i64 x1] [] F (text_at.f x0 x1) (fun (r : List UInt8) (y : Unit) => str r) (fun r y => []) := by
 unfold text_at.f
 refine fn_intro 18 Tryd.func60 rfl Tryd.ntmps60 rfl ?_
 refine sr ?_
 refine va rfl rfl (simL_nil (nrm_then (sim_seq (sr ?_))))
 refine vm rfl rfl ?_
 refine vq (q_lss rfl rfl rfl) rfl ?_
 refine vm rfl rfl ?_
 refine simL_valc (b := decide (x1 < (1 : Int))) (fun hb14v => RQ.sub (E' := [(1, .int .i64 x1)]) ⟨rfl, trivial⟩ (q_move rfl rfl)) rfl rfl rfl rfl rfl ?_
 refine simL_valc (b := decide (x1 < (1 : Int))) (fun hb13v => RQ.sub (E' := [(0, .slice a0 x0.length c0)]) ⟨rfl, trivial⟩ (q_move rfl rfl)) rfl rfl rfl rfl rfl ?_
 refine simL_valc (b := decide (x1 < (1 : Int))) (fun hb12v => RQ.sub (E' := [(9, .slice a0 x0.length c0)]) ⟨lk_cv rfl hb12v, trivial⟩ (q_len rfl rfl rfl Tryd.underlying23)) rfl rfl rfl rfl rfl ?_
 refine simL_valc (b := decide (x1 < (1 : Int))) (fun hb11v => RQ.sub (E' := [(8, .int .i64 x1), (10, .int .i64 (x0.length : Int))]) ⟨lk_cv rfl hb11v, lk_cv rfl hb11v, trivial⟩ (q_gtr rfl rfl rfl)) rfl rfl rfl rfl rfl ?_
 refine vq (q_or rfl rfl rfl) rfl (simL_nil (nrm_then ?_))
 refine sim_condb rfl (fun h1v => ?_) (fun h2v => ?_)
 refine sr ?_
 refine va rfl rfl (simL_nil (nrm_then (sim_rtn ?_)))
 refine rtn_then ?_
 exact rtn_fn () rfl rfl rfl (.sel 0 rfl (.nil _))
 refine sim_skip ?_
 refine nrm_then (sr ?_)
 refine vm rfl rfl ?_
 refine vm rfl rfl ?_
 refine vq (q_sub rfl rfl rfl) rfl ?_
 refine simL_ask (fun hi3v => ?_)
 obtain ⟨b4v, b4vo, r7v, ha5v, hV8v, hlr9v, hcell10v⟩ := RdV.pos h0 (Up.refl _) rfl (i := (IntKind.i64.wrap (x1 - 1)).toNat) (by omega) ([] : List UInt8)
 obtain rfl := hV8v
 refine vq (q_idx rfl rfl rfl ha5v Tryd.underlying23 Tryd.sizeOf9 hi3v.1 hi3v.2) rfl ?_
 refine vq (q_load rfl rfl Tryd.isAgg9 (hcell10v 0 rfl 0 _ rfl)) rfl ?_
 refine va rfl rfl (simL_nil (nrm_then (sim_rtn ?_)))
 exact rtn_fn () rfl rfl rfl (.sel 0 rfl (.nil _))

def text_Reply.f (k : Nat) (x0_0 : Int) (x0_1 : List UInt8) : Option (List UInt8) := (text_codes.f).bind fun s2v => ((text_at.f s2v x0_0).bind fun s11v => ((if x0_1 = ([] : List UInt8) then (some s11v) else ((text_Quote.f k x0_1).bind fun s19v => (if ([32] : List UInt8).length + s19v.length ≤ 9223372036854775807 then (if s11v.length + (([32] : List UInt8) ++ s19v).length ≤ 9223372036854775807 then (some (s11v ++ (([32] : List UInt8) ++ s19v))) else none) else none))).bind fun s15v => (some s15v)))
theorem text_Reply.calls (W : World) (F : HA) (k : Nat) (x0_0 : Int) (x0_1 : List UInt8)  :
    Fn Tryd.prog W 31 [.agg #[.int .i64 x0_0, str x0_1]] [] F (text_Reply.f k x0_0 x0_1) (fun (r : List UInt8) (y : Unit) => str r) (fun r y => []) := by
 unfold text_Reply.f
 refine fn_intro 18 Tryd.func31 rfl Tryd.ntmps31 rfl ?_
 refine sr ?_
 refine simL_eff (re_box rfl rfl rfl) rfl rfl rfl ?_
 intro b1v
 refine va rfl rfl (simL_nil (nrm_then (sim_seq ?_)))
 refine sim_bind (fun s2v hs3v => ?_)
 refine sim_bind (fun s11v hs12v => ?_)
 refine sim_draw (Γ := (Option Addr × Nat)) (none, 0) [[], [], [1], [0, 1, 2], rL 4] [0, 3] [1, 2, 4] (fun i => [[], [0, 1], [0, 1], [], [2]].getD i []) (fun i => [[1, 2], [], [], [0, 1, 2], []].getD i []) (fun γ i => [.slice γ.1 s2v.length γ.2, .pointer (some ⟨b1v, 0, none⟩), .int .i64 x0_0, str s11v, str s11v].getD i undef) (fun j γ => [[obj b1v 74 [.int .i64 x0_0, str x0_1], F], [RowV 9 1 (V9 tt) γ.1 s2v γ.2, obj b1v 74 [.int .i64 x0_0, str x0_1], F], [RowV 9 1 (V9 tt) γ.1 s2v γ.2, obj b1v 74 [.int .i64 x0_0, str x0_1], F]].getD j []) (fun γ => [(1, .pointer (some ⟨b1v, 0, none⟩)), (3, str s11v)]) mixed (by decide) (by decide) (by decide) (by decide) (by decide) (by decide) (by decide) 18 rfl (by decide) (by decide) (by decide) (Ent.refl _) ?_ ?_ (fun _ => ⟨rfl, rfl, trivial⟩) ?_
 exact (ac (fun γ => (ac (qp rfl rfl (.o (s := 1) rfl (by decide) .nil) (q_fa rfl rfl Tryd.underlying74 rfl rfl Tryd.sizeOf3 rfl) rfl) (ac (qp rfl rfl (.o (s := 1) rfl (by decide) .nil) (q_fa rfl rfl Tryd.underlying74 rfl rfl Tryd.sizeOf3 rfl) rfl) zA))) (ac (fun γ => (ac (qp rfl rfl (.v 1 rfl rfl .nil) (q_load rfl rfl Tryd.isAgg3 (.obj 0 rfl rfl)) rfl) (ac (qp rfl rfl (.v 1 rfl rfl .nil) (q_load rfl rfl Tryd.isAgg3 (.obj 1 rfl rfl)) rfl) zA))) (aq rfl (fun γ => qp rfl rfl (.v 3 rfl rfl .nil) (q_asg rfl rfl) rfl) zA)))
 exact (ac (fun γ => eo (Z := Option Addr × Nat) (fun z => z) rfl rfl .nil (re_call (vs := []) (cap := []) (A := []) (rst := [obj b1v 74 [.int .i64 x0_0, str x0_1], F]) rfl rfl rfl rfl rfl rfl Tryd.call61 (.sel 0 rfl (.sel 0 rfl (.nil _))) (text_codes.calls _ _  ) hs3v) (fun _ => ⟨rfl, rfl, trivial⟩) (fun _ => .inr rfl) (fun z => Ent.refl _)) (ac (fun γ => eo (Z := Unit) (fun z => γ) rfl rfl (.v 0 rfl rfl (.v 2 rfl rfl .nil)) (RE.openV 0 rfl (fun rs9v hl10v => RE.lend 0 rfl (fun hq5v hq6v hq7v hq8v => re_call (val := fun (r : List UInt8) (y : Unit) => str r) (B := fun _ _ => []) (vs := [.slice γ.1 s2v.length γ.2, .int .i64 x0_0]) (cap := []) (A := []) (rst := [Row 9 1 γ.1 s2v.length γ.2 rs9v.flatten, obj b1v 74 [.int .i64 x0_0, str x0_1], F]) rfl rfl rfl rfl rfl rfl Tryd.call60 (.sel 0 rfl (.sel 0 rfl (.sel 0 rfl (.nil _)))) (text_at.calls _ _ γ.1 γ.2 s2v x0_0 ((Rd.asV hl10v hq5v).up (Up.lend 0 rfl) (fun _ _ h => h)) hq6v hq7v) hs12v)) (fun rs9v hl10v _ => (.sel' 0 rfl (RowV.mk hl10v) (.sel 0 rfl (.sel 0 rfl (.nil _)))))) (fun _ => ⟨rfl, rfl, rfl, trivial⟩) (fun _ => .inr rfl) (fun z => Ent.refl _)) zA))
 intro g14v
 refine nrm_then ?_
 refine sim_cut (S := List UInt8) (Unit) (fun s y => [(3, str s)]) (fun s y => [F]) ?_ ?_
 refine sr ?_
 refine vq (q_fa rfl rfl Tryd.underlying74 rfl rfl Tryd.sizeOf9 rfl) rfl ?_
 refine vq (q_load rfl rfl Tryd.isAgg9 (.obj 1 rfl rfl)) rfl ?_
 refine vq (q_nes rfl rfl rfl) rfl (simL_nil (nrm_then ?_))
 refine sim_condn rfl (fun h17v => ?_) (fun h18v => ?_)
 refine sim_skip ?_
 exact nrm_cut (s := s11v) () ⟨rfl, trivial⟩ (.sel 2 rfl (.nil _))
 refine sim_region ?_
 refine vm rfl rfl ?_
 refine vq (q_fa rfl rfl Tryd.underlying74 rfl rfl Tryd.sizeOf9 rfl) rfl ?_
 refine vq (q_load rfl rfl Tryd.isAgg9 (.obj 1 rfl rfl)) rfl ?_
 refine simL_bind (fun s19v hs20v => ?_)
 refine simL_eff (re_call (vs := [str x0_1]) (cap := []) (A := []) (rst := [RowV 9 1 (V9 tt) g14v.1 s2v g14v.2, obj b1v 74 [.int .i64 x0_0, str x0_1], F]) rfl rfl rfl rfl rfl rfl Tryd.call16 (.sel 0 rfl (.sel 0 rfl (.sel 0 rfl (.nil _)))) (text_Quote.calls _ _ k x0_1 ) hs20v) rfl rfl rfl ?_
 intro y21v
 refine simL_ask (fun hb22v => ?_)
 refine vq (q_cat rfl rfl rfl hb22v) rfl ?_
 refine simL_ask (fun hb23v => ?_)
 refine vq (q_cat rfl rfl rfl hb23v) rfl ?_
 refine va rfl rfl (simL_nil ?_)
 exact nrm_cut (s := s11v ++ (([32] : List UInt8) ++ s19v)) () ⟨rfl, trivial⟩ (.sel 2 rfl (.nil _))
 intro s15v y16v
 refine sr ?_
 refine vm rfl rfl ?_
 refine va rfl rfl (simL_nil (nrm_then (sim_rtn ?_)))
 exact rtn_fn () rfl rfl rfl (.sel 0 rfl (.nil _))

def text_FormatEvent.f (k : Nat) (x0_0 : Int) (x0_1 : Int) (x0_2 : Int) (x0_3 : Int) (x0_4 : Int) (x0_5 : List UInt8) : Option (List UInt8) := if x0_0 = (1 : Int) then ((text_numbers.f k ([115, 101, 110, 100] : List UInt8) ([x0_1, x0_3] : List Int)).bind fun s10v => (some s10v)) else (if x0_0 = (2 : Int) then ((text_numbers.f k ([115, 121, 110, 99] : List UInt8) ([x0_1, x0_3] : List Int)).bind fun s21v => (some s21v)) else (if x0_0 = (3 : Int) then ((text_numbers.f k ([97, 112, 112, 108, 121] : List UInt8) ([x0_1, x0_3] : List Int)).bind fun s32v => (some s32v)) else (if x0_0 = (5 : Int) then ((text_numbers.f k ([115, 110, 97, 112] : List UInt8) ([x0_1, x0_3] : List Int)).bind fun s43v => (some s43v)) else (if x0_0 = (6 : Int) then ((text_numbers.f k ([100, 111, 119, 110] : List UInt8) ([x0_1] : List Int)).bind fun s54v => (some s54v)) else (if x0_0 = (7 : Int) then ((text_numbers.f k ([101, 110, 100] : List UInt8) ([x0_1, x0_3] : List Int)).bind fun s65v => (some s65v)) else (if x0_0 = (8 : Int) then ((text_numbers.f k ([98, 97, 99, 107] : List UInt8) ([x0_2, x0_1] : List Int)).bind fun s76v => (if s76v.length + ([32] : List UInt8).length ≤ 9223372036854775807 then ((text_Reply.f k x0_4 x0_5).bind fun s80v => (if (s76v ++ ([32] : List UInt8)).length + s80v.length ≤ 9223372036854775807 then (some ((s76v ++ ([32] : List UInt8)) ++ s80v)) else none)) else none)) else (some ([63] : List UInt8))))))))
theorem text_FormatEvent.calls (W : World) (F : HA) (k : Nat) (x0_0 : Int) (x0_1 : Int) (x0_2 : Int) (x0_3 : Int) (x0_4 : Int) (x0_5 : List UInt8) (hgl : Glb Tryd.prog F) :
    Fn Tryd.prog W 29 [.agg #[.int .i64 x0_0, .int .i64 x0_1, .int .i64 x0_2, .int .i64 x0_3, .int .i64 x0_4, str x0_5]] [] F (text_FormatEvent.f k x0_0 x0_1 x0_2 x0_3 x0_4 x0_5) (fun (r : List UInt8) (y : Unit) => str r) (fun r y => []) := by
 unfold text_FormatEvent.f
 refine fn_intro 64 Tryd.func29 rfl Tryd.ntmps29 rfl ?_
 refine sr ?_
 refine simL_eff (re_box rfl rfl rfl) rfl rfl rfl ?_
 intro b1v
 refine va rfl rfl (simL_nil (nrm_then (sim_seq (sr ?_))))
 refine vq (q_fa rfl rfl Tryd.underlying78 rfl rfl Tryd.sizeOf3 rfl) rfl ?_
 refine vq (q_load rfl rfl Tryd.isAgg3 (.obj 0 rfl rfl)) rfl (simL_nil (nrm_then ?_))
 refine sim_block ?_
 refine sr ?_
 refine vq (q_eql rfl rfl rfl) rfl ?_
 refine va rfl rfl (simL_nil (nrm_then ?_))
 refine sim_cond rfl (fun h2v => ?_) (fun h3v => ?_)
 refine sr ?_
 refine vq (q_fa rfl rfl Tryd.underlying78 rfl rfl Tryd.sizeOf3 rfl) rfl ?_
 refine vq (q_load rfl rfl Tryd.isAgg3 (.obj 0 rfl rfl)) rfl ?_
 refine vq (q_fa rfl rfl Tryd.underlying78 rfl rfl Tryd.sizeOf3 rfl) rfl ?_
 refine vq (q_load rfl rfl Tryd.isAgg3 (.obj 0 rfl rfl)) rfl ?_
 have hlb5v : ListV 1 (V3 tt) ([x0_1, x0_3] : List Int) [[.int .i64 x0_1], [.int .i64 x0_3]] := ⟨⟨rfl, one_of (by rfl), rfl⟩, ⟨rfl, one_of (by rfl), rfl⟩, trivial⟩
 refine simL_eff (re_litV (V := (V3 tt)) (xs := ([x0_1, x0_3] : List Int)) [[.int .i64 x0_1], [.int .i64 x0_3]] rfl rfl Tryd.underlying68 elt3 rfl (by kernel_rfl) rfl hlb5v rfl rfl) rfl rfl rfl ?_
 intro b5v
 refine simL_bind (fun s10v hs11v => ?_)
 refine simL_lend 0 rfl (fun hq6v hq7v hq8v hq9v => ?_)
 refine simL_eff (re_call (vs := [str ([115, 101, 110, 100] : List UInt8), .slice (some ⟨b5v, 0, none⟩) (([x0_1, x0_3] : List Int).length) 2]) (cap := []) (A := []) (rst := [Row 3 1 (some ⟨b5v, 0, none⟩) ([x0_1, x0_3] : List Int).length 2 [[.int .i64 x0_1], [.int .i64 x0_3]].flatten, obj b1v 78 [.int .i64 x0_0, .int .i64 x0_1, .int .i64 x0_2, .int .i64 x0_3, .int .i64 x0_4, str x0_5], F]) rfl rfl rfl rfl rfl rfl Tryd.call59 (.sel 0 rfl (.sel 0 rfl (.sel 0 rfl (.nil _)))) (text_numbers.calls _ _ k ([115, 101, 110, 100] : List UInt8) (some ⟨b5v, 0, none⟩) 2 ([x0_1, x0_3] : List Int) ((Rd.asV hlb5v hq6v).up (Up.lend 0 rfl) (fun _ _ h => h)) hq7v hq8v (hgl.lend 2 rfl)) hs11v) rfl rfl rfl ?_
 intro y12v
 refine va rfl rfl (simL_nil (nrm_then (sim_rtn ?_)))
 refine rtn_block ?_
 refine rtn_then ?_
 exact rtn_fn () rfl rfl rfl (.sel 2 rfl (.nil _))
 refine sr ?_
 refine vq (q_eql rfl rfl rfl) rfl ?_
 refine va rfl rfl (simL_nil (nrm_then ?_))
 refine sim_cond rfl (fun h13v => ?_) (fun h14v => ?_)
 refine sr ?_
 refine vq (q_fa rfl rfl Tryd.underlying78 rfl rfl Tryd.sizeOf3 rfl) rfl ?_
 refine vq (q_load rfl rfl Tryd.isAgg3 (.obj 0 rfl rfl)) rfl ?_
 refine vq (q_fa rfl rfl Tryd.underlying78 rfl rfl Tryd.sizeOf3 rfl) rfl ?_
 refine vq (q_load rfl rfl Tryd.isAgg3 (.obj 0 rfl rfl)) rfl ?_
 have hlb16v : ListV 1 (V3 tt) ([x0_1, x0_3] : List Int) [[.int .i64 x0_1], [.int .i64 x0_3]] := ⟨⟨rfl, one_of (by rfl), rfl⟩, ⟨rfl, one_of (by rfl), rfl⟩, trivial⟩
 refine simL_eff (re_litV (V := (V3 tt)) (xs := ([x0_1, x0_3] : List Int)) [[.int .i64 x0_1], [.int .i64 x0_3]] rfl rfl Tryd.underlying68 elt3 rfl (by kernel_rfl) rfl hlb16v rfl rfl) rfl rfl rfl ?_
 intro b16v
 refine simL_bind (fun s21v hs22v => ?_)
 refine simL_lend 0 rfl (fun hq17v hq18v hq19v hq20v => ?_)
 refine simL_eff (re_call (vs := [str ([115, 121, 110, 99] : List UInt8), .slice (some ⟨b16v, 0, none⟩) (([x0_1, x0_3] : List Int).length) 2]) (cap := []) (A := []) (rst := [Row 3 1 (some ⟨b16v, 0, none⟩) ([x0_1, x0_3] : List Int).length 2 [[.int .i64 x0_1], [.int .i64 x0_3]].flatten, obj b1v 78 [.int .i64 x0_0, .int .i64 x0_1, .int .i64 x0_2, .int .i64 x0_3, .int .i64 x0_4, str x0_5], F]) rfl rfl rfl rfl rfl rfl Tryd.call59 (.sel 0 rfl (.sel 0 rfl (.sel 0 rfl (.nil _)))) (text_numbers.calls _ _ k ([115, 121, 110, 99] : List UInt8) (some ⟨b16v, 0, none⟩) 2 ([x0_1, x0_3] : List Int) ((Rd.asV hlb16v hq17v).up (Up.lend 0 rfl) (fun _ _ h => h)) hq18v hq19v (hgl.lend 2 rfl)) hs22v) rfl rfl rfl ?_
 intro y23v
 refine va rfl rfl (simL_nil (nrm_then (sim_rtn ?_)))
 refine rtn_block ?_
 refine rtn_then ?_
 exact rtn_fn () rfl rfl rfl (.sel 2 rfl (.nil _))
 refine sr ?_
 refine vq (q_eql rfl rfl rfl) rfl ?_
 refine va rfl rfl (simL_nil (nrm_then ?_))
 refine sim_cond rfl (fun h24v => ?_) (fun h25v => ?_)
 refine sr ?_
 refine vq (q_fa rfl rfl Tryd.underlying78 rfl rfl Tryd.sizeOf3 rfl) rfl ?_
 refine vq (q_load rfl rfl Tryd.isAgg3 (.obj 0 rfl rfl)) rfl ?_
 refine vq (q_fa rfl rfl Tryd.underlying78 rfl rfl Tryd.sizeOf3 rfl) rfl ?_
 refine vq (q_load rfl rfl Tryd.isAgg3 (.obj 0 rfl rfl)) rfl ?_
 have hlb27v : ListV 1 (V3 tt) ([x0_1, x0_3] : List Int) [[.int .i64 x0_1], [.int .i64 x0_3]] := ⟨⟨rfl, one_of (by rfl), rfl⟩, ⟨rfl, one_of (by rfl), rfl⟩, trivial⟩
 refine simL_eff (re_litV (V := (V3 tt)) (xs := ([x0_1, x0_3] : List Int)) [[.int .i64 x0_1], [.int .i64 x0_3]] rfl rfl Tryd.underlying68 elt3 rfl (by kernel_rfl) rfl hlb27v rfl rfl) rfl rfl rfl ?_
 intro b27v
 refine simL_bind (fun s32v hs33v => ?_)
 refine simL_lend 0 rfl (fun hq28v hq29v hq30v hq31v => ?_)
 refine simL_eff (re_call (vs := [str ([97, 112, 112, 108, 121] : List UInt8), .slice (some ⟨b27v, 0, none⟩) (([x0_1, x0_3] : List Int).length) 2]) (cap := []) (A := []) (rst := [Row 3 1 (some ⟨b27v, 0, none⟩) ([x0_1, x0_3] : List Int).length 2 [[.int .i64 x0_1], [.int .i64 x0_3]].flatten, obj b1v 78 [.int .i64 x0_0, .int .i64 x0_1, .int .i64 x0_2, .int .i64 x0_3, .int .i64 x0_4, str x0_5], F]) rfl rfl rfl rfl rfl rfl Tryd.call59 (.sel 0 rfl (.sel 0 rfl (.sel 0 rfl (.nil _)))) (text_numbers.calls _ _ k ([97, 112, 112, 108, 121] : List UInt8) (some ⟨b27v, 0, none⟩) 2 ([x0_1, x0_3] : List Int) ((Rd.asV hlb27v hq28v).up (Up.lend 0 rfl) (fun _ _ h => h)) hq29v hq30v (hgl.lend 2 rfl)) hs33v) rfl rfl rfl ?_
 intro y34v
 refine va rfl rfl (simL_nil (nrm_then (sim_rtn ?_)))
 refine rtn_block ?_
 refine rtn_then ?_
 exact rtn_fn () rfl rfl rfl (.sel 2 rfl (.nil _))
 refine sr ?_
 refine vq (q_eql rfl rfl rfl) rfl ?_
 refine va rfl rfl (simL_nil (nrm_then ?_))
 refine sim_cond rfl (fun h35v => ?_) (fun h36v => ?_)
 refine sr ?_
 refine vq (q_fa rfl rfl Tryd.underlying78 rfl rfl Tryd.sizeOf3 rfl) rfl ?_
 refine vq (q_load rfl rfl Tryd.isAgg3 (.obj 0 rfl rfl)) rfl ?_
 refine vq (q_fa rfl rfl Tryd.underlying78 rfl rfl Tryd.sizeOf3 rfl) rfl ?_
 refine vq (q_load rfl rfl Tryd.isAgg3 (.obj 0 rfl rfl)) rfl ?_
 have hlb38v : ListV 1 (V3 tt) ([x0_1, x0_3] : List Int) [[.int .i64 x0_1], [.int .i64 x0_3]] := ⟨⟨rfl, one_of (by rfl), rfl⟩, ⟨rfl, one_of (by rfl), rfl⟩, trivial⟩
 refine simL_eff (re_litV (V := (V3 tt)) (xs := ([x0_1, x0_3] : List Int)) [[.int .i64 x0_1], [.int .i64 x0_3]] rfl rfl Tryd.underlying68 elt3 rfl (by kernel_rfl) rfl hlb38v rfl rfl) rfl rfl rfl ?_
 intro b38v
 refine simL_bind (fun s43v hs44v => ?_)
 refine simL_lend 0 rfl (fun hq39v hq40v hq41v hq42v => ?_)
 refine simL_eff (re_call (vs := [str ([115, 110, 97, 112] : List UInt8), .slice (some ⟨b38v, 0, none⟩) (([x0_1, x0_3] : List Int).length) 2]) (cap := []) (A := []) (rst := [Row 3 1 (some ⟨b38v, 0, none⟩) ([x0_1, x0_3] : List Int).length 2 [[.int .i64 x0_1], [.int .i64 x0_3]].flatten, obj b1v 78 [.int .i64 x0_0, .int .i64 x0_1, .int .i64 x0_2, .int .i64 x0_3, .int .i64 x0_4, str x0_5], F]) rfl rfl rfl rfl rfl rfl Tryd.call59 (.sel 0 rfl (.sel 0 rfl (.sel 0 rfl (.nil _)))) (text_numbers.calls _ _ k ([115, 110, 97, 112] : List UInt8) (some ⟨b38v, 0, none⟩) 2 ([x0_1, x0_3] : List Int) ((Rd.asV hlb38v hq39v).up (Up.lend 0 rfl) (fun _ _ h => h)) hq40v hq41v (hgl.lend 2 rfl)) hs44v) rfl rfl rfl ?_
 intro y45v
 refine va rfl rfl (simL_nil (nrm_then (sim_rtn ?_)))
 refine rtn_block ?_
 refine rtn_then ?_
 exact rtn_fn () rfl rfl rfl (.sel 2 rfl (.nil _))
 refine sr ?_
 refine vq (q_eql rfl rfl rfl) rfl ?_
 refine va rfl rfl (simL_nil (nrm_then ?_))
 refine sim_cond rfl (fun h46v => ?_) (fun h47v => ?_)
 refine sr ?_
 refine vq (q_fa rfl rfl Tryd.underlying78 rfl rfl Tryd.sizeOf3 rfl) rfl ?_
 refine vq (q_load rfl rfl Tryd.isAgg3 (.obj 0 rfl rfl)) rfl ?_
 have hlb49v : ListV 1 (V3 tt) ([x0_1] : List Int) [[.int .i64 x0_1]] := ⟨⟨rfl, one_of (by rfl), rfl⟩, trivial⟩
 refine simL_eff (re_litV (V := (V3 tt)) (xs := ([x0_1] : List Int)) [[.int .i64 x0_1]] rfl rfl Tryd.underlying68 elt3 rfl (by kernel_rfl) rfl hlb49v rfl rfl) rfl rfl rfl ?_
 intro b49v
 refine simL_bind (fun s54v hs55v => ?_)
 refine simL_lend 0 rfl (fun hq50v hq51v hq52v hq53v => ?_)
 refine simL_eff (re_call (vs := [str ([100, 111, 119, 110] : List UInt8), .slice (some ⟨b49v, 0, none⟩) (([x0_1] : List Int).length) 1]) (cap := []) (A := []) (rst := [Row 3 1 (some ⟨b49v, 0, none⟩) ([x0_1] : List Int).length 1 [[.int .i64 x0_1]].flatten, obj b1v 78 [.int .i64 x0_0, .int .i64 x0_1, .int .i64 x0_2, .int .i64 x0_3, .int .i64 x0_4, str x0_5], F]) rfl rfl rfl rfl rfl rfl Tryd.call59 (.sel 0 rfl (.sel 0 rfl (.sel 0 rfl (.nil _)))) (text_numbers.calls _ _ k ([100, 111, 119, 110] : List UInt8) (some ⟨b49v, 0, none⟩) 1 ([x0_1] : List Int) ((Rd.asV hlb49v hq50v).up (Up.lend 0 rfl) (fun _ _ h => h)) hq51v hq52v (hgl.lend 2 rfl)) hs55v) rfl rfl rfl ?_
 intro y56v
 refine va rfl rfl (simL_nil (nrm_then (sim_rtn ?_)))
 refine rtn_block ?_
 refine rtn_then ?_
 exact rtn_fn () rfl rfl rfl (.sel 2 rfl (.nil _))
 refine sr ?_
 refine vq (q_eql rfl rfl rfl) rfl ?_
 refine va rfl rfl (simL_nil (nrm_then ?_))
 refine sim_cond rfl (fun h57v => ?_) (fun h58v => ?_)
 refine sr ?_
 refine vq (q_fa rfl rfl Tryd.underlying78 rfl rfl Tryd.sizeOf3 rfl) rfl ?_
 refine vq (q_load rfl rfl Tryd.isAgg3 (.obj 0 rfl rfl)) rfl ?_
 refine vq (q_fa rfl rfl Tryd.underlying78 rfl rfl Tryd.sizeOf3 rfl) rfl ?_
 refine vq (q_load rfl rfl Tryd.isAgg3 (.obj 0 rfl rfl)) rfl ?_
 have hlb60v : ListV 1 (V3 tt) ([x0_1, x0_3] : List Int) [[.int .i64 x0_1], [.int .i64 x0_3]] := ⟨⟨rfl, one_of (by rfl), rfl⟩, ⟨rfl, one_of (by rfl), rfl⟩, trivial⟩
 refine simL_eff (re_litV (V := (V3 tt)) (xs := ([x0_1, x0_3] : List Int)) [[.int .i64 x0_1], [.int .i64 x0_3]] rfl rfl Tryd.underlying68 elt3 rfl (by kernel_rfl) rfl hlb60v rfl rfl) rfl rfl rfl ?_
 intro b60v
 refine simL_bind (fun s65v hs66v => ?_)
 refine simL_lend 0 rfl (fun hq61v hq62v hq63v hq64v => ?_)
 refine simL_eff (re_call (vs := [str ([101, 110, 100] : List UInt8), .slice (some ⟨b60v, 0, none⟩) (([x0_1, x0_3] : List Int).length) 2]) (cap := []) (A := []) (rst := [Row 3 1 (some ⟨b60v, 0, none⟩) ([x0_1, x0_3] : List Int).length 2 [[.int .i64 x0_1], [.int .i64 x0_3]].flatten, obj b1v 78 [.int .i64 x0_0, .int .i64 x0_1, .int .i64 x0_2, .int .i64 x0_3, .int .i64 x0_4, str x0_5], F]) rfl rfl rfl rfl rfl rfl Tryd.call59 (.sel 0 rfl (.sel 0 rfl (.sel 0 rfl (.nil _)))) (text_numbers.calls _ _ k ([101, 110, 100] : List UInt8) (some ⟨b60v, 0, none⟩) 2 ([x0_1, x0_3] : List Int) ((Rd.asV hlb60v hq61v).up (Up.lend 0 rfl) (fun _ _ h => h)) hq62v hq63v (hgl.lend 2 rfl)) hs66v) rfl rfl rfl ?_
 intro y67v
 refine va rfl rfl (simL_nil (nrm_then (sim_rtn ?_)))
 refine rtn_block ?_
 refine rtn_then ?_
 exact rtn_fn () rfl rfl rfl (.sel 2 rfl (.nil _))
 refine sr ?_
 refine vq (q_eql rfl rfl rfl) rfl ?_
 refine va rfl rfl (simL_nil (nrm_then ?_))
 refine sim_cond rfl (fun h68v => ?_) (fun h69v => ?_)
 refine sim_seq ?_
 have hlb71v : ListV 1 (V3 tt) ([x0_2, x0_1] : List Int) [[.int .i64 x0_2], [.int .i64 x0_1]] := ⟨⟨rfl, one_of (by rfl), rfl⟩, ⟨rfl, one_of (by rfl), rfl⟩, trivial⟩
 refine sim_bind (fun s76v hs77v => ?_)
 refine sim_ask (fun hb79v => ?_)
 refine sim_bind (fun s80v hs81v => ?_)
 refine sim_ask (fun hb83v => ?_)
 refine sim_draw (Γ := Nat) 0 [[], [0], [], [2], rL 4, rL 5, rL 6, [], [7], [0, 1, 2, 3, 4, 5, 7, 8], rL 10, rL 11] [4, 5, 9] [0, 1, 2, 3, 6, 7, 8, 10, 11] (fun i => [[0], [0], [0], [0], [], [], [2, 3], [0, 1, 2], [0, 1, 2], [], [3], [3]].getD i []) (fun i => [[], [], [], [], [0, 1, 2, 3, 7, 8], [0, 1, 2, 3, 4, 7, 8], [], [], [], rL 9, [], []].getD i []) (fun γ i => [.pointer (some ⟨b1v, 2, none⟩), .int .i64 x0_2, .pointer (some ⟨b1v, 1, none⟩), .int .i64 x0_1, .slice (some ⟨γ, 0, none⟩) (([x0_2, x0_1] : List Int).length) 2, str s76v, str (s76v ++ ([32] : List UInt8)), .pointer (some ⟨b1v, 4, none⟩), .agg #[.int .i64 x0_4, str x0_5], str s80v, str ((s76v ++ ([32] : List UInt8)) ++ s80v), str ((s76v ++ ([32] : List UInt8)) ++ s80v)].getD i undef) (fun j γ => [[obj b1v 78 [.int .i64 x0_0, .int .i64 x0_1, .int .i64 x0_2, .int .i64 x0_3, .int .i64 x0_4, str x0_5], F], [Row 3 1 (some ⟨γ, 0, none⟩) ([x0_2, x0_1] : List Int).length 2 [[.int .i64 x0_2], [.int .i64 x0_1]].flatten, obj b1v 78 [.int .i64 x0_0, .int .i64 x0_1, .int .i64 x0_2, .int .i64 x0_3, .int .i64 x0_4, str x0_5], F], [Row 3 1 (some ⟨γ, 0, none⟩) ([x0_2, x0_1] : List Int).length 2 [[.int .i64 x0_2], [.int .i64 x0_1]].flatten, obj b1v 78 [.int .i64 x0_0, .int .i64 x0_1, .int .i64 x0_2, .int .i64 x0_3, .int .i64 x0_4, str x0_5], F], [Row 3 1 (some ⟨γ, 0, none⟩) ([x0_2, x0_1] : List Int).length 2 [[.int .i64 x0_2], [.int .i64 x0_1]].flatten, obj b1v 78 [.int .i64 x0_0, .int .i64 x0_1, .int .i64 x0_2, .int .i64 x0_3, .int .i64 x0_4, str x0_5], F]].getD j []) (fun γ => [(2, str ((s76v ++ ([32] : List UInt8)) ++ s80v))]) mixed (by decide) (by decide) (by decide) (by decide) (by decide) (by decide) (by decide) 64 rfl (by decide) (by decide) (by decide) (Ent.refl _) ?_ ?_ (fun _ => ⟨rfl, trivial⟩) ?_
 exact (aq rfl (fun γ => qp rfl rfl (.o (s := 1) rfl (by decide) .nil) (q_fa rfl rfl Tryd.underlying78 rfl rfl Tryd.sizeOf3 rfl) rfl) (aq rfl (fun γ => qp rfl rfl (.v 0 rfl rfl .nil) (q_load rfl rfl Tryd.isAgg3 (.obj 0 rfl rfl)) rfl) (aq rfl (fun γ => qp rfl rfl (.o (s := 1) rfl (by decide) .nil) (q_fa rfl rfl Tryd.underlying78 rfl rfl Tryd.sizeOf3 rfl) rfl) (aq rfl (fun γ => qp rfl rfl (.v 2 rfl rfl .nil) (q_load rfl rfl Tryd.isAgg3 (.obj 0 rfl rfl)) rfl) (ac (fun γ => (ac (qp rfl rfl (.v 5 rfl rfl .nil) (q_cat rfl rfl rfl hb79v) rfl) (ac (qp rfl rfl (.v 5 rfl rfl .nil) (q_cat rfl rfl rfl hb79v) rfl) zA))) (ac (fun γ => (ac (qp rfl rfl (.o (s := 1) rfl (by decide) .nil) (q_fa rfl rfl Tryd.underlying78 rfl rfl Tryd.sizeOf74 rfl) rfl) (ac (qp rfl rfl (.o (s := 1) rfl (by decide) .nil) (q_fa rfl rfl Tryd.underlying78 rfl rfl Tryd.sizeOf74 rfl) rfl) (ac (qp rfl rfl (.o (s := 1) rfl (by decide) .nil) (q_fa rfl rfl Tryd.underlying78 rfl rfl Tryd.sizeOf74 rfl) rfl) zA)))) (ac (fun γ => (ac (qp rfl rfl (.v 7 rfl rfl .nil) (q_loads (vs := [.int .i64 x0_4, str x0_5]) rfl rfl Tryd.isAgg74 Tryd.sizeOf74 rfl (cells_obj 0 rfl (cells_lit rfl))) rfl) (ac (qp rfl rfl (.v 7 rfl rfl .nil) (q_loads (vs := [.int .i64 x0_4, str x0_5]) rfl rfl Tryd.isAgg74 Tryd.sizeOf74 rfl (cells_obj 1 rfl (cells_lit rfl))) rfl) (ac (qp rfl rfl (.v 7 rfl rfl .nil) (q_loads (vs := [.int .i64 x0_4, str x0_5]) rfl rfl Tryd.isAgg74 Tryd.sizeOf74 rfl (cells_obj 1 rfl (cells_lit rfl))) rfl) zA)))) (aq rfl (fun γ => qp rfl rfl (.v 6 rfl rfl (.v 9 rfl rfl .nil)) (q_cat rfl rfl rfl hb83v) rfl) (aq rfl (fun γ => qp rfl rfl (.v 10 rfl rfl .nil) (q_asg rfl rfl) rfl) zA)))))))))
 exact (ac (fun γ => eo (Z := Nat) (fun z => z) rfl rfl (.v 1 rfl rfl (.v 3 rfl rfl .nil)) (re_litV (V := (V3 tt)) (xs := ([x0_2, x0_1] : List Int)) [[.int .i64 x0_2], [.int .i64 x0_1]] rfl rfl Tryd.underlying68 elt3 rfl (by kernel_rfl) rfl hlb71v rfl rfl) (fun _ => ⟨rfl, rfl, rfl, rfl, rfl, rfl, trivial⟩) (fun _ => .inr rfl) (fun z => Ent.refl _)) (ac (fun γ => eo (Z := Unit) (fun z => γ) rfl rfl (.v 4 rfl rfl .nil) (RE.lend 0 rfl (fun hq72v hq73v hq74v hq75v => re_call (val := fun (r : List UInt8) (y : Unit) => str r) (B := fun _ _ => []) (vs := [str ([98, 97, 99, 107] : List UInt8), .slice (some ⟨γ, 0, none⟩) (([x0_2, x0_1] : List Int).length) 2]) (cap := []) (A := []) (rst := [Row 3 1 (some ⟨γ, 0, none⟩) ([x0_2, x0_1] : List Int).length 2 [[.int .i64 x0_2], [.int .i64 x0_1]].flatten, obj b1v 78 [.int .i64 x0_0, .int .i64 x0_1, .int .i64 x0_2, .int .i64 x0_3, .int .i64 x0_4, str x0_5], F]) rfl rfl rfl rfl rfl rfl Tryd.call59 (.sel 0 rfl (.sel 0 rfl (.sel 0 rfl (.nil _)))) (text_numbers.calls _ _ k ([98, 97, 99, 107] : List UInt8) (some ⟨γ, 0, none⟩) 2 ([x0_2, x0_1] : List Int) ((Rd.asV hlb71v hq72v).up (Up.lend 0 rfl) (fun _ _ h => h)) hq73v hq74v (hgl.lend 2 rfl)) hs77v)) (fun _ => ⟨rfl, rfl, rfl, rfl, rfl, rfl, rfl, trivial⟩) (fun _ => .inr rfl) (fun z => Ent.refl _)) (ac (fun γ => eo (Z := Unit) (fun z => γ) rfl rfl (.v 8 rfl rfl .nil) (re_call (vs := [.agg #[.int .i64 x0_4, str x0_5]]) (cap := []) (A := []) (rst := [Row 3 1 (some ⟨γ, 0, none⟩) ([x0_2, x0_1] : List Int).length 2 [[.int .i64 x0_2], [.int .i64 x0_1]].flatten, obj b1v 78 [.int .i64 x0_0, .int .i64 x0_1, .int .i64 x0_2, .int .i64 x0_3, .int .i64 x0_4, str x0_5], F]) rfl rfl rfl rfl rfl rfl Tryd.call31 (.sel 0 rfl (.sel 0 rfl (.sel 0 rfl (.nil _)))) (text_Reply.calls _ _ k x0_4 x0_5 ) hs81v) (fun _ => ⟨rfl, rfl, rfl, rfl, rfl, rfl, rfl, rfl, rfl, trivial⟩) (fun _ => .inr rfl) (fun z => Ent.refl _)) zA)))
 intro g84v
 refine nrm_then (sim_rtn ?_)
 refine rtn_block ?_
 refine rtn_then ?_
 exact rtn_fn () rfl rfl rfl (.sel 2 rfl (.nil _))
 refine sim_skip ?_
 refine nrm_block (nrm_then (sr ?_))
 refine va rfl rfl (simL_nil (nrm_then (sim_rtn ?_)))
 exact rtn_fn () rfl rfl rfl (.sel 1 rfl (.nil _))

def synodref17_bare.f (x0 : Int) : Option (Bool) := some (((decide ((32 : Int) < x0)) && (decide (x0 ≤ (126 : Int)))) && (!decide (x0 = (34 : Int))))
theorem synodref17_bare.calls (W : World) (F : HA) (x0 : Int)  :
    Fn Tryd.prog W 40 [.int .u8 x0] [] F (synodref17_bare.f x0) (fun (r : Bool) (y : Unit) => .bool r) (fun r y => []) := by
 unfold synodref17_bare.f
 refine fn_intro 13 Tryd.func40 rfl Tryd.ntmps40 rfl ?_
 refine sr ?_
 refine va rfl rfl (nx ?_)
 refine vm rfl rfl ?_
 refine vq (q_gtr rfl rfl rfl) rfl ?_
 refine vm rfl rfl ?_
 refine simL_valc (b := decide ((32 : Int) < x0)) (fun hb4v => RQ.sub (E' := [(0, .int .u8 x0)]) ⟨rfl, trivial⟩ (q_move rfl rfl)) rfl rfl rfl rfl rfl ?_
 refine simL_valc (b := decide ((32 : Int) < x0)) (fun hb3v => RQ.sub (E' := [(6, .int .u8 x0)]) ⟨lk_cv rfl hb3v, trivial⟩ (q_leq rfl rfl rfl)) rfl rfl rfl rfl rfl ?_
 refine vq (q_and rfl rfl rfl) rfl ?_
 refine vm rfl rfl ?_
 refine simL_valc (b := (decide ((32 : Int) < x0)) && (decide (x0 ≤ (126 : Int)))) (fun hb2v => RQ.sub (E' := [(0, .int .u8 x0)]) ⟨rfl, trivial⟩ (q_move rfl rfl)) rfl rfl rfl rfl rfl ?_
 refine simL_valc (b := (decide ((32 : Int) < x0)) && (decide (x0 ≤ (126 : Int)))) (fun hb1v => RQ.sub (E' := [(10, .int .u8 x0)]) ⟨lk_cv rfl hb1v, trivial⟩ (q_neq rfl rfl rfl)) rfl rfl rfl rfl rfl ?_
 refine vq (q_and rfl rfl rfl) rfl ?_
 refine va rfl rfl (simL_nil (nrm_then (sim_rtn ?_)))
 exact rtn_fn () rfl rfl rfl (.sel 0 rfl (.nil _))

def synodref17_plain.f (x0 : Int) : Option (Bool) := some ((((decide ((32 : Int) ≤ x0)) && (decide (x0 ≤ (126 : Int)))) && (!decide (x0 = (34 : Int)))) && (!decide (x0 = (92 : Int))))
theorem synodref17_plain.calls (W : World) (F : HA) (x0 : Int)  :
    Fn Tryd.prog W 42 [.int .u8 x0] [] F (synodref17_plain.f x0) (fun (r : Bool) (y : Unit) => .bool r) (fun r y => []) := by
 unfold synodref17_plain.f
 refine fn_intro 17 Tryd.func42 rfl Tryd.ntmps42 rfl ?_
 refine sr ?_
 refine va rfl rfl (nx ?_)
 refine vm rfl rfl ?_
 refine vq (q_geq rfl rfl rfl) rfl ?_
 refine vm rfl rfl ?_
 refine simL_valc (b := decide ((32 : Int) ≤ x0)) (fun hb6v => RQ.sub (E' := [(0, .int .u8 x0)]) ⟨rfl, trivial⟩ (q_move rfl rfl)) rfl rfl rfl rfl rfl ?_
 refine simL_valc (b := decide ((32 : Int) ≤ x0)) (fun hb5v => RQ.sub (E' := [(6, .int .u8 x0)]) ⟨lk_cv rfl hb5v, trivial⟩ (q_leq rfl rfl rfl)) rfl rfl rfl rfl rfl ?_
 refine vq (q_and rfl rfl rfl) rfl ?_
 refine vm rfl rfl ?_
 refine simL_valc (b := (decide ((32 : Int) ≤ x0)) && (decide (x0 ≤ (126 : Int)))) (fun hb4v => RQ.sub (E' := [(0, .int .u8 x0)]) ⟨rfl, trivial⟩ (q_move rfl rfl)) rfl rfl rfl rfl rfl ?_
 refine simL_valc (b := (decide ((32 : Int) ≤ x0)) && (decide (x0 ≤ (126 : Int)))) (fun hb3v => RQ.sub (E' := [(10, .int .u8 x0)]) ⟨lk_cv rfl hb3v, trivial⟩ (q_neq rfl rfl rfl)) rfl rfl rfl rfl rfl ?_
 refine vq (q_and rfl rfl rfl) rfl ?_
 refine vm rfl rfl ?_
 refine simL_valc (b := ((decide ((32 : Int) ≤ x0)) && (decide (x0 ≤ (126 : Int)))) && (!decide (x0 = (34 : Int)))) (fun hb2v => RQ.sub (E' := [(0, .int .u8 x0)]) ⟨rfl, trivial⟩ (q_move rfl rfl)) rfl rfl rfl rfl rfl ?_
 refine simL_valc (b := ((decide ((32 : Int) ≤ x0)) && (decide (x0 ≤ (126 : Int)))) && (!decide (x0 = (34 : Int)))) (fun hb1v => RQ.sub (E' := [(14, .int .u8 x0)]) ⟨lk_cv rfl hb1v, trivial⟩ (q_neq rfl rfl rfl)) rfl rfl rfl rfl rfl ?_
 refine vq (q_and rfl rfl rfl) rfl ?_
 refine va rfl rfl (simL_nil (nrm_then (sim_rtn ?_)))
 exact rtn_fn () rfl rfl rfl (.sel 0 rfl (.nil _))

def synodref17_digit.f (x0 : Int) : Option (Int) := if 0 ≤ x0 ∧ x0 < (([48, 49, 50, 51, 52, 53, 54, 55, 56, 57, 97, 98, 99, 100, 101, 102] : List UInt8).length : Int) then (some ((([48, 49, 50, 51, 52, 53, 54, 55, 56, 57, 97, 98, 99, 100, 101, 102] : List UInt8).getD x0.toNat 0).toNat : Int)) else none
theorem synodref17_digit.calls (W : World) (F : HA) (x0 : Int)  :
    Fn Tryd.prog W 43 [.int .i64 x0] [] F (synodref17_digit.f x0) (fun (r : Int) (y : Unit) => .int .u8 r) (fun r y => []) := by
 unfold synodref17_digit.f
 refine fn_intro 5 Tryd.func43 rfl Tryd.ntmps43 rfl ?_
 refine sr ?_
 refine va rfl rfl (nx ?_)
 refine vm rfl rfl ?_
 refine simL_ask (fun hi1v => ?_)
 refine vq (q_sidx rfl rfl rfl Tryd.underlying9 hi1v.1 hi1v.2) rfl ?_
 refine va rfl rfl (simL_nil (nrm_then (sim_rtn ?_)))
 exact rtn_fn () rfl rfl rfl (.sel 0 rfl (.nil _))

def synodref17_Quote.l1 (x0 : List UInt8) : Nat → List UInt8 → Int → Option (List UInt8)
  | 0, _, _ => none
  | k + 1, z30v, z31v => if z31v < (x0.length : Int) then (if 0 ≤ z31v ∧ z31v < (x0.length : Int) then ((synodref17_plain.f ((x0.getD z31v.toNat 0).toNat : Int)).bind fun s35v => (if s35v = true then (if (z30v.length + ([(x0.getD z31v.toNat 0)] : List UInt8).length) * 1 ≤ 140737488355328 then (synodref17_Quote.l1 x0 k (z30v ++ ([(x0.getD z31v.toNat 0)] : List UInt8)) (IntKind.i64.wrap (z31v + 1))) else none) else (if ((decide (((x0.getD z31v.toNat 0).toNat : Int) = (34 : Int))) || (decide (((x0.getD z31v.toNat 0).toNat : Int) = (92 : Int)))) = true then (if (z30v.length + ([92, (x0.getD z31v.toNat 0)] : List UInt8).length) * 1 ≤ 140737488355328 then (synodref17_Quote.l1 x0 k (z30v ++ ([92, (x0.getD z31v.toNat 0)] : List UInt8)) (IntKind.i64.wrap (z31v + 1))) else none) else ((synodref17_digit.f (IntKind.i64.wrap (Int.tdiv (IntKind.i64.wrap ((x0.getD z31v.toNat 0).toNat : Int)) 16))).bind fun s51v => ((synodref17_digit.f (Int.tmod (IntKind.i64.wrap ((x0.getD z31v.toNat 0).toNat : Int)) 16)).bind fun s55v => (if 0 ≤ s51v ∧ s51v < 256 then (if 0 ≤ s55v ∧ s55v < 256 then (if (z30v.length + ([92, 120, (byte s51v), (byte s55v)] : List UInt8).length) * 1 ≤ 140737488355328 then (synodref17_Quote.l1 x0 k (z30v ++ ([92, 120, (byte s51v), (byte s55v)] : List UInt8)) (IntKind.i64.wrap (z31v + 1))) else none) else none) else none)))))) else none) else (some z30v)
def synodref17_Quote.l0 (x0 : List UInt8) : Nat → Bool → Int → Option (Bool)
  | 0, _, _ => none
  | k + 1, z10v, z11v => if z11v < (x0.length : Int) then ((if z10v = true then (if 0 ≤ z11v ∧ z11v < (x0.length : Int) then ((synodref17_bare.f ((x0.getD z11v.toNat 0).toNat : Int)).bind fun s17v => (some s17v)) else none) else (some false)).bind fun s14v => (synodref17_Quote.l0 x0 k s14v (IntKind.i64.wrap (z11v + 1)))) else (some z10v)
def synodref17_Quote.f (k : Nat) (x0 : List UInt8) : Option (List UInt8) := (if x0 = ([] : List UInt8) then (some false) else (if 0 ≤ (0 : Int) ∧ (0 : Int) < (x0.length : Int) then (some (!decide (((x0.getD (0 : Int).toNat 0).toNat : Int) = (35 : Int)))) else none)).bind fun s1v => ((synodref17_Quote.l0 x0 k s1v 0).bind fun s6v => (if s6v = true then (some x0) else ((synodref17_Quote.l1 x0 k ([34] : List UInt8) 0).bind fun s26v => (if (s26v.length + ([34] : List UInt8).length) * 1 ≤ 140737488355328 then (some (s26v ++ ([34] : List UInt8))) else none))))
theorem synodref17_Quote.calls (W : World) (F : HA) (k : Nat) (x0 : List UInt8)  :
    Fn Tryd.prog W 17 [str x0] [] F (synodref17_Quote.f k x0) (fun (r : List UInt8) (y : Unit) => str r) (fun r y => []) := by
 unfold synodref17_Quote.f
 refine fn_intro 71 Tryd.func17 rfl Tryd.ntmps17 rfl ?_
 refine sr ?_
 refine va rfl rfl (nx ?_)
 refine vm rfl rfl ?_
 refine vq (q_nes rfl rfl rfl) rfl ?_
 refine vm rfl rfl ?_
 refine simL_cut' 4 (S := Bool) (Unit) (fun s y => [(0, str x0), (14, .bool s)]) (fun s y => [F]) ?_ ?_
 refine simL_casen (fun hb4v => ?_) (fun hb5v => ?_)
 rw [hb4v]
 refine simL_valg (q_move rfl rfl) rfl rfl rfl rfl rfl rfl ?_
 refine simL_ask (fun hi3v => ?_)
 refine simL_valg (q_sidx rfl rfl rfl Tryd.underlying9 hi3v.1 hi3v.2) rfl rfl rfl rfl rfl rfl ?_
 refine simL_valg (q_neq rfl rfl rfl) rfl rfl rfl rfl rfl rfl ?_
 refine vq (q_pick rfl rfl rfl rfl rfl) rfl (simL_nil ?_)
 exact nrm_cut (s := !decide (((x0.getD (0 : Int).toNat 0).toNat : Int) = (35 : Int))) () ⟨rfl, rfl, trivial⟩ (.sel 0 rfl (.nil _))
 rw [hb5v]
 refine simL_skipd rfl rfl rfl rfl rfl rfl ?_
 refine simL_skipd rfl rfl rfl rfl rfl rfl ?_
 refine simL_skipd rfl rfl rfl rfl rfl rfl ?_
 refine vq (q_pick rfl rfl rfl rfl rfl) rfl (simL_nil ?_)
 exact nrm_cut (s := false) () ⟨rfl, rfl, trivial⟩ (.sel 0 rfl (.nil _))
 intro s1v y2v
 refine va rfl rfl (simL_nil (nrm_then ?_))
 refine sim_cut (S := Bool) (Unit) (fun s y => [(0, str x0), (3, .bool s)]) (fun s y => [F]) ?_ ?_
 refine sr ?_
 refine va rfl rfl (simL_nil (nrm_then ?_))
 refine sim_block ?_
 refine sim_loop (S := Bool × Int) (Unit) (fun k s => synodref17_Quote.l0 x0 k s.1 s.2) (fun s y => [(0, str x0), (3, .bool s.1), (4, .int .i64 s.2)]) (fun s y => [F]) (fun _ => by rw [synodref17_Quote.l0]) ?_ k (s1v, 0) () ⟨rfl, rfl, rfl, trivial⟩ (.sel 0 rfl (.nil _))
 intro k s8v y9v
 refine sim_eq (by rw [synodref17_Quote.l0]) ?_
 refine sim_seq (sr ?_)
 refine vm rfl rfl ?_
 refine vm rfl rfl ?_
 refine vq (q_lens rfl rfl rfl Tryd.underlying9) rfl ?_
 refine vq (q_lss rfl rfl rfl) rfl (simL_nil (nrm_then ?_))
 refine sim_cond rfl (fun h12v => ?_) (fun h13v => ?_)
 refine sim_skip ?_
 refine nrm_then (sim_seq ?_)
 refine sim_block ?_
 refine sim_region ?_
 refine vm rfl rfl ?_
 refine vm rfl rfl ?_
 refine simL_cut' 5 (S := Bool) (Unit) (fun s y => [(0, str x0), (4, .int .i64 s8v.2), (27, .bool s)]) (fun s y => [F]) ?_ ?_
 refine simL_caseb (fun hb20v => ?_) (fun hb21v => ?_)
 rw [hb20v]
 refine simL_valg (q_move rfl rfl) rfl rfl rfl rfl rfl rfl ?_
 refine simL_valg (q_move rfl rfl) rfl rfl rfl rfl rfl rfl ?_
 refine simL_ask (fun hi16v => ?_)
 refine simL_valg (q_sidx rfl rfl rfl Tryd.underlying9 hi16v.1 hi16v.2) rfl rfl rfl rfl rfl rfl ?_
 refine simL_bind (fun s17v hs18v => ?_)
 refine simL_effg (re_call (vs := [.int .u8 ((x0.getD s8v.2.toNat 0).toNat : Int)]) (cap := []) (A := []) (rst := [F]) rfl rfl rfl rfl rfl rfl Tryd.call40 (.sel 0 rfl (.nil _)) (synodref17_bare.calls _ _ ((x0.getD s8v.2.toNat 0).toNat : Int) ) hs18v) rfl rfl rfl rfl rfl rfl ?_
 intro y19v
 refine vq (q_pick rfl rfl rfl rfl rfl) rfl (simL_nil ?_)
 exact nrm_cut (s := s17v) () ⟨rfl, rfl, rfl, trivial⟩ (.sel 0 rfl (.nil _))
 rw [hb21v]
 refine simL_skipd rfl rfl rfl rfl rfl rfl ?_
 refine simL_skipd rfl rfl rfl rfl rfl rfl ?_
 refine simL_skipd rfl rfl rfl rfl rfl rfl ?_
 refine simL_skipd rfl rfl rfl rfl rfl rfl ?_
 refine vq (q_pick rfl rfl rfl rfl rfl) rfl (simL_nil ?_)
 exact nrm_cut (s := false) () ⟨rfl, rfl, rfl, trivial⟩ (.sel 0 rfl (.nil _))
 intro s14v y15v
 refine va rfl rfl (simL_nil (nrm_block (nrm_then (sim_region ?_))))
 refine vm rfl rfl ?_
 refine vq (q_add rfl rfl rfl) rfl ?_
 refine va rfl rfl (simL_nil ?_)
 exact nrm_again (s := (s14v, IntKind.i64.wrap (s8v.2 + 1))) () ⟨rfl, rfl, rfl, trivial⟩ (.sel 0 rfl (.nil _))
 refine sim_exi ?_
 refine exi_then ?_
 refine exi_loop ?_
 refine exi_here ?_
 exact nrm_cut (s := s8v.1) () ⟨rfl, rfl, trivial⟩ (.sel 0 rfl (.nil _))
 intro s6v y7v
 refine sim_seq (sr ?_)
 refine vm rfl rfl (simL_nil (nrm_then ?_))
 refine sim_condb rfl (fun h22v => ?_) (fun h23v => ?_)
 refine sr ?_
 refine vm rfl rfl ?_
 refine va rfl rfl (simL_nil (nrm_then (sim_rtn ?_)))
 refine rtn_then ?_
 exact rtn_fn () rfl rfl rfl (.sel 0 rfl (.nil _))
 refine sim_skip ?_
 refine nrm_then (sr ?_)
 refine simL_eff (re_litb (cs := [.int .u8 34]) ([34] : List UInt8) rfl rfl Tryd.underlying93 elt5 rfl (by kernel_rfl) rfl rfl rfl) rfl rfl rfl ?_
 intro b24v
 refine va rfl rfl (simL_nil (nrm_then ?_))
 refine sim_cut (S := List UInt8) (Option Addr × Nat) (fun s y => [(5, .slice y.1 s.length y.2)]) (fun s y => [Row 5 1 y.1 s.length y.2 (encB s), F]) ?_ ?_
 refine sr ?_
 refine va rfl rfl (simL_nil (nrm_then ?_))
 refine sim_block ?_
 refine sim_loop (S := List UInt8 × Int) (Option Addr × Nat) (fun k s => synodref17_Quote.l1 x0 k s.1 s.2) (fun s y => [(0, str x0), (5, .slice y.1 s.1.length y.2), (6, .int .i64 s.2)]) (fun s y => [Row 5 1 y.1 s.1.length y.2 (encB s.1), F]) (fun _ => by rw [synodref17_Quote.l1]) ?_ k (([34] : List UInt8), 0) ((some ⟨b24v, 0, none⟩), 1) ⟨rfl, rfl, rfl, trivial⟩ (.sel 0 rfl (.sel 0 rfl (.nil _)))
 intro k s28v y29v
 refine sim_eq (by rw [synodref17_Quote.l1]) ?_
 refine sim_seq (sr ?_)
 refine vm rfl rfl ?_
 refine vm rfl rfl ?_
 refine vq (q_lens rfl rfl rfl Tryd.underlying9) rfl ?_
 refine vq (q_lss rfl rfl rfl) rfl (simL_nil (nrm_then ?_))
 refine sim_cond rfl (fun h32v => ?_) (fun h33v => ?_)
 refine sim_skip ?_
 refine nrm_then (sim_seq ?_)
 refine sim_block ?_
 refine sr ?_
 refine vm rfl rfl ?_
 refine vm rfl rfl ?_
 refine simL_ask (fun hi34v => ?_)
 refine vq (q_sidx rfl rfl rfl Tryd.underlying9 hi34v.1 hi34v.2) rfl ?_
 refine va rfl rfl (nx ?_)
 refine vm rfl rfl ?_
 refine simL_bind (fun s35v hs36v => ?_)
 refine simL_eff (re_call (vs := [.int .u8 ((x0.getD s28v.2.toNat 0).toNat : Int)]) (cap := []) (A := []) (rst := [Row 5 1 y29v.1 s28v.1.length y29v.2 (encB s28v.1), F]) rfl rfl rfl rfl rfl rfl Tryd.call42 (.sel 0 rfl (.sel 0 rfl (.nil _))) (synodref17_plain.calls _ _ ((x0.getD s28v.2.toNat 0).toNat : Int) ) hs36v) rfl rfl rfl ?_
 intro y37v
 refine simL_nil (nrm_then ?_)
 refine sim_condb rfl (fun h38v => ?_) (fun h39v => ?_)
 refine sim_region ?_
 refine vm rfl rfl ?_
 refine vm rfl rfl ?_
 refine simL_eff (re_litb (cs := [.int .u8 ((x0.getD s28v.2.toNat 0).toNat : Int)]) ([(x0.getD s28v.2.toNat 0)] : List UInt8) rfl rfl Tryd.underlying93 elt5 rfl (by kernel_rfl) rfl rfl rfl) rfl rfl rfl ?_
 intro b40v
 refine simL_ask (fun hb43v => ?_)
 refine simL_eff (re_appendb 1 rfl rfl rfl Tryd.underlying93 elt5 rfl (Rds.row 0 rfl) hb43v) rfl rfl rfl ?_
 intro y42v
 refine va rfl rfl (simL_nil (nrm_block (nrm_then (sim_region ?_))))
 refine vm rfl rfl ?_
 refine vq (q_add rfl rfl rfl) rfl ?_
 refine va rfl rfl (simL_nil ?_)
 exact nrm_again (s := (s28v.1 ++ ([(x0.getD s28v.2.toNat 0)] : List UInt8), IntKind.i64.wrap (s28v.2 + 1))) (y42v.1, y42v.2) ⟨rfl, rfl, rfl, trivial⟩ (.sel 1 rfl (.sel 1 rfl (.nil _)))
 refine sr ?_
 refine vm rfl rfl ?_
 refine vq (q_eql rfl rfl rfl) rfl ?_
 refine vm rfl rfl ?_
 refine simL_valc (b := decide (((x0.getD s28v.2.toNat 0).toNat : Int) = (34 : Int))) (fun hb65v => RQ.sub (E' := [(7, .int .u8 ((x0.getD s28v.2.toNat 0).toNat : Int))]) ⟨rfl, trivial⟩ (q_move rfl rfl)) rfl rfl rfl rfl rfl ?_
 refine simL_valc (b := decide (((x0.getD s28v.2.toNat 0).toNat : Int) = (34 : Int))) (fun hb64v => RQ.sub (E' := [(49, .int .u8 ((x0.getD s28v.2.toNat 0).toNat : Int))]) ⟨lk_cv rfl hb64v, trivial⟩ (q_eql rfl rfl rfl)) rfl rfl rfl rfl rfl ?_
 refine vq (q_or rfl rfl rfl) rfl (simL_nil (nrm_then ?_))
 refine sim_condb rfl (fun h44v => ?_) (fun h45v => ?_)
 refine sim_region ?_
 refine vm rfl rfl ?_
 refine vm rfl rfl ?_
 refine simL_eff (re_litb (cs := [.int .u8 92, .int .u8 ((x0.getD s28v.2.toNat 0).toNat : Int)]) ([92, (x0.getD s28v.2.toNat 0)] : List UInt8) rfl rfl Tryd.underlying93 elt5 rfl (by kernel_rfl) rfl rfl rfl) rfl rfl rfl ?_
 intro b46v
 refine simL_ask (fun hb49v => ?_)
 refine simL_eff (re_appendb 1 rfl rfl rfl Tryd.underlying93 elt5 rfl (Rds.row 0 rfl) hb49v) rfl rfl rfl ?_
 intro y48v
 refine va rfl rfl (simL_nil (nrm_block (nrm_then (sim_region ?_))))
 refine vm rfl rfl ?_
 refine vq (q_add rfl rfl rfl) rfl ?_
 refine va rfl rfl (simL_nil ?_)
 exact nrm_again (s := (s28v.1 ++ ([92, (x0.getD s28v.2.toNat 0)] : List UInt8), IntKind.i64.wrap (s28v.2 + 1))) (y48v.1, y48v.2) ⟨rfl, rfl, rfl, trivial⟩ (.sel 1 rfl (.sel 1 rfl (.nil _)))
 refine sim_region ?_
 refine vm rfl rfl ?_
 refine vm rfl rfl ?_
 refine vq (q_conv rfl rfl Tryd.underlying5 Tryd.underlying3) rfl ?_
 refine vq (q_quo rfl rfl rfl (by decide)) rfl ?_
 refine simL_bind (fun s51v hs52v => ?_)
 refine simL_eff (re_call (vs := [.int .i64 (IntKind.i64.wrap (Int.tdiv (IntKind.i64.wrap ((x0.getD s28v.2.toNat 0).toNat : Int)) 16))]) (cap := []) (A := []) (rst := [Row 5 1 y29v.1 s28v.1.length y29v.2 (encB s28v.1), F]) rfl rfl rfl rfl rfl rfl Tryd.call43 (.sel 0 rfl (.sel 0 rfl (.nil _))) (synodref17_digit.calls _ _ (IntKind.i64.wrap (Int.tdiv (IntKind.i64.wrap ((x0.getD s28v.2.toNat 0).toNat : Int)) 16)) ) hs52v) rfl rfl rfl ?_
 intro y53v
 refine vm rfl rfl ?_
 refine vq (q_conv rfl rfl Tryd.underlying5 Tryd.underlying3) rfl ?_
 refine vq (q_rem rfl rfl rfl (by decide)) rfl ?_
 refine simL_bind (fun s55v hs56v => ?_)
 refine simL_eff (re_call (vs := [.int .i64 (Int.tmod (IntKind.i64.wrap ((x0.getD s28v.2.toNat 0).toNat : Int)) 16)]) (cap := []) (A := []) (rst := [Row 5 1 y29v.1 s28v.1.length y29v.2 (encB s28v.1), F]) rfl rfl rfl rfl rfl rfl Tryd.call43 (.sel 0 rfl (.sel 0 rfl (.nil _))) (synodref17_digit.calls _ _ (Int.tmod (IntKind.i64.wrap ((x0.getD s28v.2.toNat 0).toNat : Int)) 16) ) hs56v) rfl rfl rfl ?_
 intro y57v
 refine simL_ask (fun hb62v => ?_)
 refine simL_ask (fun hb63v => ?_)
 refine simL_eff (re_litb (cs := [.int .u8 92, .int .u8 120, .int .u8 s51v, .int .u8 s55v]) ([92, 120, (byte s51v), (byte s55v)] : List UInt8) rfl rfl Tryd.underlying93 elt5 rfl (by kernel_rfl) rfl rfl (lit_cons rfl (lit_cons rfl (lit_cons (byte_toNat hb62v.1 hb62v.2) (lit_cons (byte_toNat hb63v.1 hb63v.2) lit_nil))))) rfl rfl rfl ?_
 intro b58v
 refine simL_ask (fun hb61v => ?_)
 refine simL_eff (re_appendb 1 rfl rfl rfl Tryd.underlying93 elt5 rfl (Rds.row 0 rfl) hb61v) rfl rfl rfl ?_
 intro y60v
 refine va rfl rfl (simL_nil (nrm_block (nrm_then (sim_region ?_))))
 refine vm rfl rfl ?_
 refine vq (q_add rfl rfl rfl) rfl ?_
 refine va rfl rfl (simL_nil ?_)
 exact nrm_again (s := (s28v.1 ++ ([92, 120, (byte s51v), (byte s55v)] : List UInt8), IntKind.i64.wrap (s28v.2 + 1))) (y60v.1, y60v.2) ⟨rfl, rfl, rfl, trivial⟩ (.sel 1 rfl (.sel 1 rfl (.nil _)))
 refine sim_exi ?_
 refine exi_then ?_
 refine exi_loop ?_
 refine exi_here ?_
 exact nrm_cut (s := s28v.1) (y29v.1, y29v.2) ⟨rfl, trivial⟩ (.sel 0 rfl (.sel 0 rfl (.nil _)))
 intro s26v y27v
 refine sr ?_
 refine vm rfl rfl ?_
 refine simL_eff (re_litb (cs := [.int .u8 34]) ([34] : List UInt8) rfl rfl Tryd.underlying93 elt5 rfl (by kernel_rfl) rfl rfl rfl) rfl rfl rfl ?_
 intro b66v
 refine simL_ask (fun hb69v => ?_)
 refine simL_eff (re_appendb 1 rfl rfl rfl Tryd.underlying93 elt5 rfl (Rds.row 0 rfl) hb69v) rfl rfl rfl ?_
 intro y68v
 refine vq (q_tostr rfl rfl Tryd.underlying93 Tryd.underlying5 Tryd.underlying9 (Rds.row 1 rfl) rfl) rfl ?_
 refine va rfl rfl (simL_nil (nrm_then (sim_rtn ?_)))
 exact rtn_fn () rfl rfl rfl (.sel 2 rfl (.nil _))

def synodref17_Reply.f (k : Nat) (x0_0 : Int) (x0_1 : List UInt8) : Option (List UInt8) := (if ((decide ((1 : Int) ≤ x0_0)) && (decide (x0_0 ≤ (10 : Int)))) = true then (if 0 ≤ IntKind.i64.wrap (x0_0 - 1) ∧ IntKind.i64.wrap (x0_0 - 1) < (([([100, 111, 110, 101] : List UInt8), ([110, 111, 110, 101] : List UInt8), ([111, 116, 104, 101, 114] : List UInt8), ([111, 108, 100] : List UInt8), ([102, 117, 108, 108] : List UInt8), ([108, 101, 97, 100] : List UInt8), ([98, 117, 115, 121] : List UInt8), ([108, 111, 115, 116] : List UInt8), ([108, 105, 109, 105, 116] : List UInt8), ([100, 111, 119, 110] : List UInt8)] : List (List UInt8)).length : Int) then (some (([([100, 111, 110, 101] : List UInt8), ([110, 111, 110, 101] : List UInt8), ([111, 116, 104, 101, 114] : List UInt8), ([111, 108, 100] : List UInt8), ([102, 117, 108, 108] : List UInt8), ([108, 101, 97, 100] : List UInt8), ([98, 117, 115, 121] : List UInt8), ([108, 111, 115, 116] : List UInt8), ([108, 105, 109, 105, 116] : List UInt8), ([100, 111, 119, 110] : List UInt8)] : List (List UInt8)).getD (IntKind.i64.wrap (x0_0 - 1)).toNat ([] : List UInt8))) else none) else (some ([63] : List UInt8))).bind fun s4v => ((if x0_1 = ([] : List UInt8) then (some s4v) else (if s4v.length + ([32] : List UInt8).length ≤ 9223372036854775807 then ((synodref17_Quote.f k x0_1).bind fun s24v => (if (s4v ++ ([32] : List UInt8)).length + s24v.length ≤ 9223372036854775807 then (some ((s4v ++ ([32] : List UInt8)) ++ s24v)) else none)) else none)).bind fun s19v => (some s19v))
theorem synodref17_Reply.calls (W : World) (F : HA) (k : Nat) (x0_0 : Int) (x0_1 : List UInt8)  :
    Fn Tryd.prog W 32 [.agg #[.int .i64 x0_0, str x0_1]] [] F (synodref17_Reply.f k x0_0 x0_1) (fun (r : List UInt8) (y : Unit) => str r) (fun r y => []) := by
 unfold synodref17_Reply.f
 refine fn_intro 30 Tryd.func32 rfl Tryd.ntmps32 rfl ?_
 refine sr ?_
 refine simL_eff (re_box rfl rfl rfl) rfl rfl rfl ?_
 intro b1v
 refine va rfl rfl (nx ?_)
 have hlb3v : ListV 1 (V9 tt) ([([100, 111, 110, 101] : List UInt8), ([110, 111, 110, 101] : List UInt8), ([111, 116, 104, 101, 114] : List UInt8), ([111, 108, 100] : List UInt8), ([102, 117, 108, 108] : List UInt8), ([108, 101, 97, 100] : List UInt8), ([98, 117, 115, 121] : List UInt8), ([108, 111, 115, 116] : List UInt8), ([108, 105, 109, 105, 116] : List UInt8), ([100, 111, 119, 110] : List UInt8)] : List (List UInt8)) [[str ([100, 111, 110, 101] : List UInt8)], [str ([110, 111, 110, 101] : List UInt8)], [str ([111, 116, 104, 101, 114] : List UInt8)], [str ([111, 108, 100] : List UInt8)], [str ([102, 117, 108, 108] : List UInt8)], [str ([108, 101, 97, 100] : List UInt8)], [str ([98, 117, 115, 121] : List UInt8)], [str ([108, 111, 115, 116] : List UInt8)], [str ([108, 105, 109, 105, 116] : List UInt8)], [str ([100, 111, 119, 110] : List UInt8)]] := ⟨⟨rfl, one_of (by rfl), rfl⟩, ⟨rfl, one_of (by rfl), rfl⟩, ⟨rfl, one_of (by rfl), rfl⟩, ⟨rfl, one_of (by rfl), rfl⟩, ⟨rfl, one_of (by rfl), rfl⟩, ⟨rfl, one_of (by rfl), rfl⟩, ⟨rfl, one_of (by rfl), rfl⟩, ⟨rfl, one_of (by rfl), rfl⟩, ⟨rfl, one_of (by rfl), rfl⟩, ⟨rfl, one_of (by rfl), rfl⟩, trivial⟩
 refine simL_eff (re_litV (V := (V9 tt)) (xs := ([([100, 111, 110, 101] : List UInt8), ([110, 111, 110, 101] : List UInt8), ([111, 116, 104, 101, 114] : List UInt8), ([111, 108, 100] : List UInt8), ([102, 117, 108, 108] : List UInt8), ([108, 101, 97, 100] : List UInt8), ([98, 117, 115, 121] : List UInt8), ([108, 111, 115, 116] : List UInt8), ([108, 105, 109, 105, 116] : List UInt8), ([100, 111, 119, 110] : List UInt8)] : List (List UInt8))) [[str ([100, 111, 110, 101] : List UInt8)], [str ([110, 111, 110, 101] : List UInt8)], [str ([111, 116, 104, 101, 114] : List UInt8)], [str ([111, 108, 100] : List UInt8)], [str ([102, 117, 108, 108] : List UInt8)], [str ([108, 101, 97, 100] : List UInt8)], [str ([98, 117, 115, 121] : List UInt8)], [str ([108, 111, 115, 116] : List UInt8)], [str ([108, 105, 109, 105, 116] : List UInt8)], [str ([100, 111, 119, 110] : List UInt8)]] rfl rfl Tryd.underlying23 elt9 rfl (by kernel_rfl) rfl hlb3v rfl rfl) rfl rfl rfl ?_
 intro b3v
 refine va rfl rfl (nx ?_)
 refine va rfl rfl (simL_nil (nrm_then ?_))
 refine sim_cut (S := List UInt8) (Unit) (fun s y => [(1, .pointer (some ⟨b1v, 0, none⟩)), (4, str s)]) (fun s y => [obj b1v 74 [.int .i64 x0_0, str x0_1], F]) ?_ ?_
 refine sr ?_
 refine vq (q_fa rfl rfl Tryd.underlying74 rfl rfl Tryd.sizeOf3 rfl) rfl ?_
 refine vq (q_load rfl rfl Tryd.isAgg3 (.obj 1 rfl rfl)) rfl ?_
 refine vq (q_geq rfl rfl rfl) rfl ?_
 refine vm rfl rfl ?_
 refine simL_valc (b := decide ((1 : Int) ≤ x0_0)) (fun hb18v => RQ.sub (E' := [(1, .pointer (some ⟨b1v, 0, none⟩))]) ⟨rfl, trivial⟩ (q_fa rfl rfl Tryd.underlying74 rfl rfl Tryd.sizeOf3 rfl)) rfl rfl rfl rfl rfl ?_
 refine simL_valc (b := decide ((1 : Int) ≤ x0_0)) (fun hb17v => RQ.sub (E' := [(10, .pointer (some ⟨b1v, 0, none⟩))]) ⟨lk_cv rfl hb17v, trivial⟩ (q_load rfl rfl Tryd.isAgg3 (.obj 1 rfl rfl))) rfl rfl rfl rfl rfl ?_
 refine simL_valc (b := decide ((1 : Int) ≤ x0_0)) (fun hb16v => RQ.sub (E' := [(11, .int .i64 x0_0)]) ⟨lk_cv rfl hb16v, trivial⟩ (q_leq rfl rfl rfl)) rfl rfl rfl rfl rfl ?_
 refine vq (q_and rfl rfl rfl) rfl (simL_nil (nrm_then ?_))
 refine sim_condb rfl (fun h6v => ?_) (fun h7v => ?_)
 refine sim_region ?_
 refine vm rfl rfl ?_
 refine vq (q_fa rfl rfl Tryd.underlying74 rfl rfl Tryd.sizeOf3 rfl) rfl ?_
 refine vq (q_load rfl rfl Tryd.isAgg3 (.obj 1 rfl rfl)) rfl ?_
 refine vq (q_sub rfl rfl rfl) rfl ?_
 refine simL_ask (fun hi8v => ?_)
 refine simL_posV 0 rfl hlb3v rfl (i := (IntKind.i64.wrap (x0_0 - 1)).toNat) (by omega) ([] : List UInt8) (fun b9v b9vo r12v ha10v hV13v hlr14v hcell15v => ?_)
 obtain rfl := hV13v
 refine vq (q_idx rfl rfl rfl ha10v Tryd.underlying23 Tryd.sizeOf9 hi8v.1 hi8v.2) rfl ?_
 refine vq (q_load rfl rfl Tryd.isAgg9 (hcell15v 0 rfl 0 _ rfl)) rfl ?_
 refine va rfl rfl (simL_nil ?_)
 exact nrm_cut (s := (([([100, 111, 110, 101] : List UInt8), ([110, 111, 110, 101] : List UInt8), ([111, 116, 104, 101, 114] : List UInt8), ([111, 108, 100] : List UInt8), ([102, 117, 108, 108] : List UInt8), ([108, 101, 97, 100] : List UInt8), ([98, 117, 115, 121] : List UInt8), ([108, 111, 115, 116] : List UInt8), ([108, 105, 109, 105, 116] : List UInt8), ([100, 111, 119, 110] : List UInt8)] : List (List UInt8)).getD (IntKind.i64.wrap (x0_0 - 1)).toNat ([] : List UInt8))) () ⟨rfl, rfl, trivial⟩ (.sel 1 rfl (.sel 1 rfl (.nil _)))
 refine sim_skip ?_
 exact nrm_cut (s := ([63] : List UInt8)) () ⟨rfl, rfl, trivial⟩ (.sel 1 rfl (.sel 1 rfl (.nil _)))
 intro s4v y5v
 refine sim_cut (S := List UInt8) (Unit) (fun s y => [(4, str s)]) (fun s y => [F]) ?_ ?_
 refine sr ?_
 refine vq (q_fa rfl rfl Tryd.underlying74 rfl rfl Tryd.sizeOf9 rfl) rfl ?_
 refine vq (q_load rfl rfl Tryd.isAgg9 (.obj 0 rfl rfl)) rfl ?_
 refine vq (q_nes rfl rfl rfl) rfl (simL_nil (nrm_then ?_))
 refine sim_condn rfl (fun h21v => ?_) (fun h22v => ?_)
 refine sim_skip ?_
 exact nrm_cut (s := s4v) () ⟨rfl, trivial⟩ (.sel 1 rfl (.nil _))
 refine sim_region ?_
 refine vm rfl rfl ?_
 refine simL_ask (fun hb23v => ?_)
 refine vq (q_cat rfl rfl rfl hb23v) rfl ?_
 refine vq (q_fa rfl rfl Tryd.underlying74 rfl rfl Tryd.sizeOf9 rfl) rfl ?_
 refine vq (q_load rfl rfl Tryd.isAgg9 (.obj 0 rfl rfl)) rfl ?_
 refine simL_bind (fun s24v hs25v => ?_)
 refine simL_eff (re_call (vs := [str x0_1]) (cap := []) (A := []) (rst := [obj b1v 74 [.int .i64 x0_0, str x0_1], F]) rfl rfl rfl rfl rfl rfl Tryd.call17 (.sel 0 rfl (.sel 0 rfl (.nil _))) (synodref17_Quote.calls _ _ k x0_1 ) hs25v) rfl rfl rfl ?_
 intro y26v
 refine simL_ask (fun hb27v => ?_)
 refine vq (q_cat rfl rfl rfl hb27v) rfl ?_
 refine va rfl rfl (simL_nil ?_)
 exact nrm_cut (s := (s4v ++ ([32] : List UInt8)) ++ s24v) () ⟨rfl, trivial⟩ (.sel 1 rfl (.nil _))
 intro s19v y20v
 refine sr ?_
 refine vm rfl rfl ?_
 refine va rfl rfl (simL_nil (nrm_then (sim_rtn ?_)))
 exact rtn_fn () rfl rfl rfl (.sel 0 rfl (.nil _))

def synodref17_FormatEvent.f (k : Nat) (x0_0 : Int) (x0_1 : Int) (x0_2 : Int) (x0_3 : Int) (x0_4 : Int) (x0_5 : List UInt8) : Option (List UInt8) := (strconv_Itoa.f x0_1).bind fun s2v => ((strconv_Itoa.f x0_3).bind fun s5v => (if ([32] : List UInt8).length + s5v.length ≤ 9223372036854775807 then (if x0_0 = (1 : Int) then (if ([115, 101, 110, 100, 32] : List UInt8).length + s2v.length ≤ 9223372036854775807 then (if (([115, 101, 110, 100, 32] : List UInt8) ++ s2v).length + (([32] : List UInt8) ++ s5v).length ≤ 9223372036854775807 then (some ((([115, 101, 110, 100, 32] : List UInt8) ++ s2v) ++ (([32] : List UInt8) ++ s5v))) else none) else none) else (if x0_0 = (2 : Int) then (if ([115, 121, 110, 99, 32] : List UInt8).length + s2v.length ≤ 9223372036854775807 then (if (([115, 121, 110, 99, 32] : List UInt8) ++ s2v).length + (([32] : List UInt8) ++ s5v).length ≤ 9223372036854775807 then (some ((([115, 121, 110, 99, 32] : List UInt8) ++ s2v) ++ (([32] : List UInt8) ++ s5v))) else none) else none) else (if x0_0 = (3 : Int) then (if ([97, 112, 112, 108, 121, 32] : List UInt8).length + s2v.length ≤ 9223372036854775807 then (if (([97, 112, 112, 108, 121, 32] : List UInt8) ++ s2v).length + (([32] : List UInt8) ++ s5v).length ≤ 9223372036854775807 then (some ((([97, 112, 112, 108, 121, 32] : List UInt8) ++ s2v) ++ (([32] : List UInt8) ++ s5v))) else none) else none) else (if x0_0 = (5 : Int) then (if ([115, 110, 97, 112, 32] : List UInt8).length + s2v.length ≤ 9223372036854775807 then (if (([115, 110, 97, 112, 32] : List UInt8) ++ s2v).length + (([32] : List UInt8) ++ s5v).length ≤ 9223372036854775807 then (some ((([115, 110, 97, 112, 32] : List UInt8) ++ s2v) ++ (([32] : List UInt8) ++ s5v))) else none) else none) else (if x0_0 = (6 : Int) then (if ([100, 111, 119, 110, 32] : List UInt8).length + s2v.length ≤ 9223372036854775807 then (some (([100, 111, 119, 110, 32] : List UInt8) ++ s2v)) else none) else (if x0_0 = (7 : Int) then (if ([101, 110, 100, 32] : List UInt8).length + s2v.length ≤ 9223372036854775807 then (if (([101, 110, 100, 32] : List UInt8) ++ s2v).length + (([32] : List UInt8) ++ s5v).length ≤ 9223372036854775807 then (some ((([101, 110, 100, 32] : List UInt8) ++ s2v) ++ (([32] : List UInt8) ++ s5v))) else none) else none) else (if x0_0 = (8 : Int) then ((strconv_Itoa.f x0_2).bind fun s34v => (if ([98, 97, 99, 107, 32] : List UInt8).length + s34v.length ≤ 9223372036854775807 then (if (([98, 97, 99, 107, 32] : List UInt8) ++ s34v).length + ([32] : List UInt8).length ≤ 9223372036854775807 then (if ((([98, 97, 99, 107, 32] : List UInt8) ++ s34v) ++ ([32] : List UInt8)).length + s2v.length ≤ 9223372036854775807 then (if (((([98, 97, 99, 107, 32] : List UInt8) ++ s34v) ++ ([32] : List UInt8)) ++ s2v).length + ([32] : List UInt8).length ≤ 9223372036854775807 then ((synodref17_Reply.f k x0_4 x0_5).bind fun s41v => (if ((((([98, 97, 99, 107, 32] : List UInt8) ++ s34v) ++ ([32] : List UInt8)) ++ s2v) ++ ([32] : List UInt8)).length + s41v.length ≤ 9223372036854775807 then (some (((((([98, 97, 99, 107, 32] : List UInt8) ++ s34v) ++ ([32] : List UInt8)) ++ s2v) ++ ([32] : List UInt8)) ++ s41v)) else none)) else none) else none) else none) else none)) else (some ([63] : List UInt8))))))))) else none))
theorem synodref17_FormatEvent.calls (W : World) (F : HA) (k : Nat) (x0_0 : Int) (x0_1 : Int) (x0_2 : Int) (x0_3 : Int) (x0_4 : Int) (x0_5 : List UInt8) (hgl : Glb Tryd.prog F) :
    Fn Tryd.prog W 30 [.agg #[.int .i64 x0_0, .int .i64 x0_1, .int .i64 x0_2, .int .i64 x0_3, .int .i64 x0_4, str x0_5]] [] F (synodref17_FormatEvent.f k x0_0 x0_1 x0_2 x0_3 x0_4 x0_5) (fun (r : List UInt8) (y : Unit) => str r) (fun r y => []) := by
 unfold synodref17_FormatEvent.f
 refine fn_intro 62 Tryd.func30 rfl Tryd.ntmps30 rfl ?_
 refine sr ?_
 refine simL_eff (re_box rfl rfl rfl) rfl rfl rfl ?_
 intro b1v
 refine va rfl rfl (nx ?_)
 refine vq (q_fa rfl rfl Tryd.underlying82 rfl rfl Tryd.sizeOf3 rfl) rfl ?_
 refine vq (q_load rfl rfl Tryd.isAgg3 (.obj 0 rfl rfl)) rfl ?_
 refine simL_bind (fun s2v hs3v => ?_)
 refine simL_eff (re_call (vs := [.int .i64 x0_1]) (cap := []) (A := []) (rst := [obj b1v 82 [.int .i64 x0_0, .int .i64 x0_1, .int .i64 x0_2, .int .i64 x0_3, .int .i64 x0_4, str x0_5], F]) rfl rfl rfl rfl rfl rfl Tryd.call51 (.sel 0 rfl (.sel 0 rfl (.nil _))) (strconv_Itoa.calls _ _ x0_1 (hgl.lend 1 rfl)) hs3v) rfl rfl rfl ?_
 intro y4v
 refine va rfl rfl (nx ?_)
 refine vq (q_fa rfl rfl Tryd.underlying82 rfl rfl Tryd.sizeOf3 rfl) rfl ?_
 refine vq (q_load rfl rfl Tryd.isAgg3 (.obj 0 rfl rfl)) rfl ?_
 refine simL_bind (fun s5v hs6v => ?_)
 refine simL_eff (re_call (vs := [.int .i64 x0_3]) (cap := []) (A := []) (rst := [obj b1v 82 [.int .i64 x0_0, .int .i64 x0_1, .int .i64 x0_2, .int .i64 x0_3, .int .i64 x0_4, str x0_5], F]) rfl rfl rfl rfl rfl rfl Tryd.call51 (.sel 0 rfl (.sel 0 rfl (.nil _))) (strconv_Itoa.calls _ _ x0_3 (hgl.lend 1 rfl)) hs6v) rfl rfl rfl ?_
 intro y7v
 refine simL_ask (fun hb8v => ?_)
 refine vq (q_cat rfl rfl rfl hb8v) rfl ?_
 refine va rfl rfl (simL_nil (nrm_then (sim_seq (sr ?_))))
 refine vq (q_fa rfl rfl Tryd.underlying82 rfl rfl Tryd.sizeOf3 rfl) rfl ?_
 refine vq (q_load rfl rfl Tryd.isAgg3 (.obj 0 rfl rfl)) rfl (simL_nil (nrm_then ?_))
 refine sim_block ?_
 refine sr ?_
 refine vq (q_eql rfl rfl rfl) rfl ?_
 refine va rfl rfl (simL_nil (nrm_then ?_))
 refine sim_cond rfl (fun h9v => ?_) (fun h10v => ?_)
 refine sr ?_
 refine vm rfl rfl ?_
 refine simL_ask (fun hb11v => ?_)
 refine vq (q_cat rfl rfl rfl hb11v) rfl ?_
 refine vm rfl rfl ?_
 refine simL_ask (fun hb12v => ?_)
 refine vq (q_cat rfl rfl rfl hb12v) rfl ?_
 refine va rfl rfl (simL_nil (nrm_then (sim_rtn ?_)))
 refine rtn_block ?_
 refine rtn_then ?_
 exact rtn_fn () rfl rfl rfl (.sel 1 rfl (.nil _))
 refine sr ?_
 refine vq (q_eql rfl rfl rfl) rfl ?_
 refine va rfl rfl (simL_nil (nrm_then ?_))
 refine sim_cond rfl (fun h13v => ?_) (fun h14v => ?_)
 refine sr ?_
 refine vm rfl rfl ?_
 refine simL_ask (fun hb15v => ?_)
 refine vq (q_cat rfl rfl rfl hb15v) rfl ?_
 refine vm rfl rfl ?_
 refine simL_ask (fun hb16v => ?_)
 refine vq (q_cat rfl rfl rfl hb16v) rfl ?_
 refine va rfl rfl (simL_nil (nrm_then (sim_rtn ?_)))
 refine rtn_block ?_
 refine rtn_then ?_
 exact rtn_fn () rfl rfl rfl (.sel 1 rfl (.nil _))
 refine sr ?_
 refine vq (q_eql rfl rfl rfl) rfl ?_
 refine va rfl rfl (simL_nil (nrm_then ?_))
 refine sim_cond rfl (fun h17v => ?_) (fun h18v => ?_)
 refine sr ?_
 refine vm rfl rfl ?_
 refine simL_ask (fun hb19v => ?_)
 refine vq (q_cat rfl rfl rfl hb19v) rfl ?_
 refine vm rfl rfl ?_
 refine simL_ask (fun hb20v => ?_)
 refine vq (q_cat rfl rfl rfl hb20v) rfl ?_
 refine va rfl rfl (simL_nil (nrm_then (sim_rtn ?_)))
 refine rtn_block ?_
 refine rtn_then ?_
 exact rtn_fn () rfl rfl rfl (.sel 1 rfl (.nil _))
 refine sr ?_
 refine vq (q_eql rfl rfl rfl) rfl ?_
 refine va rfl rfl (simL_nil (nrm_then ?_))
 refine sim_cond rfl (fun h21v => ?_) (fun h22v => ?_)
 refine sr ?_
 refine vm rfl rfl ?_
 refine simL_ask (fun hb23v => ?_)
 refine vq (q_cat rfl rfl rfl hb23v) rfl ?_
 refine vm rfl rfl ?_
 refine simL_ask (fun hb24v => ?_)
 refine vq (q_cat rfl rfl rfl hb24v) rfl ?_
 refine va rfl rfl (simL_nil (nrm_then (sim_rtn ?_)))
 refine rtn_block ?_
 refine rtn_then ?_
 exact rtn_fn () rfl rfl rfl (.sel 1 rfl (.nil _))
 refine sr ?_
 refine vq (q_eql rfl rfl rfl) rfl ?_
 refine va rfl rfl (simL_nil (nrm_then ?_))
 refine sim_cond rfl (fun h25v => ?_) (fun h26v => ?_)
 refine sr ?_
 refine vm rfl rfl ?_
 refine simL_ask (fun hb27v => ?_)
 refine vq (q_cat rfl rfl rfl hb27v) rfl ?_
 refine va rfl rfl (simL_nil (nrm_then (sim_rtn ?_)))
 refine rtn_block ?_
 refine rtn_then ?_
 exact rtn_fn () rfl rfl rfl (.sel 1 rfl (.nil _))
 refine sr ?_
 refine vq (q_eql rfl rfl rfl) rfl ?_
 refine va rfl rfl (simL_nil (nrm_then ?_))
 refine sim_cond rfl (fun h28v => ?_) (fun h29v => ?_)
 refine sr ?_
 refine vm rfl rfl ?_
 refine simL_ask (fun hb30v => ?_)
 refine vq (q_cat rfl rfl rfl hb30v) rfl ?_
 refine vm rfl rfl ?_
 refine simL_ask (fun hb31v => ?_)
 refine vq (q_cat rfl rfl rfl hb31v) rfl ?_
 refine va rfl rfl (simL_nil (nrm_then (sim_rtn ?_)))
 refine rtn_block ?_
 refine rtn_then ?_
 exact rtn_fn () rfl rfl rfl (.sel 1 rfl (.nil _))
 refine sr ?_
 refine vq (q_eql rfl rfl rfl) rfl ?_
 refine va rfl rfl (simL_nil (nrm_then ?_))
 refine sim_cond rfl (fun h32v => ?_) (fun h33v => ?_)
 refine sim_seq ?_
 refine sim_bind (fun s34v hs35v => ?_)
 refine sim_ask (fun hb37v => ?_)
 refine sim_ask (fun hb38v => ?_)
 refine sim_ask (fun hb39v => ?_)
 refine sim_ask (fun hb40v => ?_)
 refine sim_bind (fun s41v hs42v => ?_)
 refine sim_ask (fun hb44v => ?_)
 refine sim_draw (Γ := Unit) () [[], [0], [0, 1], [0, 1, 2], rL 4, [], rL 6, rL 7, [], [8], [0, 1, 2, 8, 9], rL 11, rL 12] [2, 10] [0, 1, 3, 4, 5, 6, 7, 8, 9, 11, 12] (fun i => [[0], [0], [], [1, 2], [1, 2], [0, 1, 2], [1, 2], [1, 2], [0, 1], [0, 1], [], [2], [2]].getD i []) (fun i => [[], [], [0, 1, 5, 8, 9], [], [], [], [], [], [], [], rL 10, [], []].getD i []) (fun γ i => [.pointer (some ⟨b1v, 2, none⟩), .int .i64 x0_2, str s34v, str (([98, 97, 99, 107, 32] : List UInt8) ++ s34v), str ((([98, 97, 99, 107, 32] : List UInt8) ++ s34v) ++ ([32] : List UInt8)), str s2v, str (((([98, 97, 99, 107, 32] : List UInt8) ++ s34v) ++ ([32] : List UInt8)) ++ s2v), str ((((([98, 97, 99, 107, 32] : List UInt8) ++ s34v) ++ ([32] : List UInt8)) ++ s2v) ++ ([32] : List UInt8)), .pointer (some ⟨b1v, 4, none⟩), .agg #[.int .i64 x0_4, str x0_5], str s41v, str (((((([98, 97, 99, 107, 32] : List UInt8) ++ s34v) ++ ([32] : List UInt8)) ++ s2v) ++ ([32] : List UInt8)) ++ s41v), str (((((([98, 97, 99, 107, 32] : List UInt8) ++ s34v) ++ ([32] : List UInt8)) ++ s2v) ++ ([32] : List UInt8)) ++ s41v)].getD i undef) (fun j γ => [[obj b1v 82 [.int .i64 x0_0, .int .i64 x0_1, .int .i64 x0_2, .int .i64 x0_3, .int .i64 x0_4, str x0_5], F], [obj b1v 82 [.int .i64 x0_0, .int .i64 x0_1, .int .i64 x0_2, .int .i64 x0_3, .int .i64 x0_4, str x0_5], F], [obj b1v 82 [.int .i64 x0_0, .int .i64 x0_1, .int .i64 x0_2, .int .i64 x0_3, .int .i64 x0_4, str x0_5], F]].getD j []) (fun γ => [(2, str (((((([98, 97, 99, 107, 32] : List UInt8) ++ s34v) ++ ([32] : List UInt8)) ++ s2v) ++ ([32] : List UInt8)) ++ s41v))]) mixed (by decide) (by decide) (by decide) (by decide) (by decide) (by decide) (by decide) 62 rfl (by decide) (by decide) (by decide) (Ent.refl _) ?_ ?_ (fun _ => ⟨rfl, trivial⟩) ?_
 exact (aq rfl (fun γ => qp rfl rfl (.o (s := 1) rfl (by decide) .nil) (q_fa rfl rfl Tryd.underlying82 rfl rfl Tryd.sizeOf3 rfl) rfl) (aq rfl (fun γ => qp rfl rfl (.v 0 rfl rfl .nil) (q_load rfl rfl Tryd.isAgg3 (.obj 0 rfl rfl)) rfl) (ac (fun γ => (ac (qp rfl rfl (.v 2 rfl rfl .nil) (q_cat rfl rfl rfl hb37v) rfl) (ac (qp rfl rfl (.v 2 rfl rfl .nil) (q_cat rfl rfl rfl hb37v) rfl) zA))) (ac (fun γ => (ac (qp rfl rfl (.v 3 rfl rfl .nil) (q_cat rfl rfl rfl hb38v) rfl) (ac (qp rfl rfl (.v 3 rfl rfl .nil) (q_cat rfl rfl rfl hb38v) rfl) zA))) (ac (fun γ => (ac (qm rfl (.o (s := 3) rfl (by decide) .nil) rfl) (ac (qm rfl (.o (s := 3) rfl (by decide) .nil) rfl) (ac (qm rfl (.o (s := 3) rfl (by decide) .nil) rfl) zA)))) (ac (fun γ => (ac (qp rfl rfl (.v 4 rfl rfl (.v 5 rfl rfl .nil)) (q_cat rfl rfl rfl hb39v) rfl) (ac (qp rfl rfl (.v 4 rfl rfl (.v 5 rfl rfl .nil)) (q_cat rfl rfl rfl hb39v) rfl) zA))) (ac (fun γ => (ac (qp rfl rfl (.v 6 rfl rfl .nil) (q_cat rfl rfl rfl hb40v) rfl) (ac (qp rfl rfl (.v 6 rfl rfl .nil) (q_cat rfl rfl rfl hb40v) rfl) zA))) (ac (fun γ => (ac (qp rfl rfl (.o (s := 1) rfl (by decide) .nil) (q_fa rfl rfl Tryd.underlying82 rfl rfl Tryd.sizeOf74 rfl) rfl) (ac (qp rfl rfl (.o (s := 1) rfl (by decide) .nil) (q_fa rfl rfl Tryd.underlying82 rfl rfl Tryd.sizeOf74 rfl) rfl) zA))) (ac (fun γ => (ac (qp rfl rfl (.v 8 rfl rfl .nil) (q_loads (vs := [.int .i64 x0_4, str x0_5]) rfl rfl Tryd.isAgg74 Tryd.sizeOf74 rfl (cells_obj 0 rfl (cells_lit rfl))) rfl) (ac (qp rfl rfl (.v 8 rfl rfl .nil) (q_loads (vs := [.int .i64 x0_4, str x0_5]) rfl rfl Tryd.isAgg74 Tryd.sizeOf74 rfl (cells_obj 0 rfl (cells_lit rfl))) rfl) zA))) (aq rfl (fun γ => qp rfl rfl (.v 7 rfl rfl (.v 10 rfl rfl .nil)) (q_cat rfl rfl rfl hb44v) rfl) (aq rfl (fun γ => qp rfl rfl (.v 11 rfl rfl .nil) (q_asg rfl rfl) rfl) zA)))))))))))
 exact (ac (fun γ => eo (Z := Unit) (fun z => ()) rfl rfl (.v 1 rfl rfl .nil) (re_call (vs := [.int .i64 x0_2]) (cap := []) (A := []) (rst := [obj b1v 82 [.int .i64 x0_0, .int .i64 x0_1, .int .i64 x0_2, .int .i64 x0_3, .int .i64 x0_4, str x0_5], F]) rfl rfl rfl rfl rfl rfl Tryd.call51 (.sel 0 rfl (.sel 0 rfl (.nil _))) (strconv_Itoa.calls _ _ x0_2 (hgl.lend 1 rfl)) hs35v) (fun _ => ⟨rfl, rfl, rfl, rfl, rfl, trivial⟩) (fun _ => .inr rfl) (fun z => Ent.refl _)) (ac (fun γ => eo (Z := Unit) (fun z => ()) rfl rfl (.v 9 rfl rfl .nil) (re_call (vs := [.agg #[.int .i64 x0_4, str x0_5]]) (cap := []) (A := []) (rst := [obj b1v 82 [.int .i64 x0_0, .int .i64 x0_1, .int .i64 x0_2, .int .i64 x0_3, .int .i64 x0_4, str x0_5], F]) rfl rfl rfl rfl rfl rfl Tryd.call32 (.sel 0 rfl (.sel 0 rfl (.nil _))) (synodref17_Reply.calls _ _ k x0_4 x0_5 ) hs42v) (fun _ => ⟨rfl, rfl, rfl, rfl, rfl, rfl, rfl, rfl, rfl, rfl, trivial⟩) (fun _ => .inr rfl) (fun z => Ent.refl _)) zA))
 intro g45v
 refine nrm_then (sim_rtn ?_)
 refine rtn_block ?_
 refine rtn_then ?_
 exact rtn_fn () rfl rfl rfl (.sel 1 rfl (.nil _))
 refine sim_skip ?_
 refine nrm_block (nrm_then (sr ?_))
 refine va rfl rfl (simL_nil (nrm_then (sim_rtn ?_)))
 exact rtn_fn () rfl rfl rfl (.sel 1 rfl (.nil _))

def text_FormatTold.l0 (x0_2 : List (Ty78)) : Nat → List (List UInt8) → Int → Option (List (List UInt8))
  | 0, _, _ => none
  | k + 1, z25v, z26v => if z26v < (x0_2.length : Int) then (if 0 ≤ z26v ∧ z26v < (x0_2.length : Int) then ((text_FormatEvent.f k ((x0_2.getD z26v.toNat dz78).1) ((x0_2.getD z26v.toNat dz78).2.1) ((x0_2.getD z26v.toNat dz78).2.2.1) ((x0_2.getD z26v.toNat dz78).2.2.2.1) ((x0_2.getD z26v.toNat dz78).2.2.2.2.1) ((x0_2.getD z26v.toNat dz78).2.2.2.2.2)).bind fun s38v => (if (z25v.length + ([s38v] : List (List UInt8)).length) * 16 ≤ 140737488355328 then (text_FormatTold.l0 x0_2 k (z25v ++ ([s38v] : List (List UInt8))) (IntKind.i64.wrap (z26v + 1))) else none)) else none) else (some z25v)
def text_FormatTold.f (k : Nat) (x0_0 : Int) (x0_1 : Bool) (x0_2 : List (Ty78)) : Option (List (List UInt8)) := (if x0_1 = true then (some ([111, 107] : List UInt8)) else (some ([110, 111] : List UInt8))).bind fun s2v => ((if x0_0 = (0 : Int) then (some s2v) else ((text_numbers.f k ([101, 114, 114] : List UInt8) ([x0_0] : List Int)).bind fun s16v => (some s16v))).bind fun s6v => ((text_FormatTold.l0 x0_2 k ([s6v] : List (List UInt8)) 0).bind fun s21v => (some s21v)))
theorem text_FormatTold.calls (W : World) (F : HA) (k : Nat) (x0_0 : Int) (x0_1 : Bool) (a0_2 : Option Addr) (c0_2 : Nat) (x0_2 : List (Ty78)) (h0_2 : RdV F 6 (V78 tt) a0_2 x0_2) (hc0_2 : x0_2.length ≤ c0_2) (hm0_2 : c0_2 ≤ maxLen) (hgl : Glb Tryd.prog F) :
    Fn Tryd.prog W 33 [.agg #[.int .i64 x0_0, .bool x0_1, .slice a0_2 x0_2.length c0_2]] [] F (text_FormatTold.f k x0_0 x0_1 x0_2) (fun (r : List (List UInt8)) (y : Option Addr × Nat) => .slice y.1 r.length y.2) (fun r y => [RowV 9 1 (V9 tt) y.1 r y.2]) := by
 unfold text_FormatTold.f
 refine fn_intro 32 Tryd.func33 rfl Tryd.ntmps33 rfl ?_
 refine sr ?_
 refine simL_eff (re_box rfl rfl rfl) rfl rfl rfl ?_
 intro b1v
 refine va rfl rfl (nx ?_)
 refine va rfl rfl (simL_nil (nrm_then ?_))
 refine sim_cut (S := List UInt8) (Unit) (fun s y => [(1, .pointer (some ⟨b1v, 0, none⟩)), (3, str s)]) (fun s y => [obj b1v 72 [.int .i64 x0_0, .bool x0_1, .slice a0_2 x0_2.length c0_2], F]) ?_ ?_
 refine sr ?_
 refine vq (q_fa rfl rfl Tryd.underlying72 rfl rfl Tryd.sizeOf4 rfl) rfl ?_
 refine vq (q_load rfl rfl Tryd.isAgg4 (.obj 0 rfl rfl)) rfl (simL_nil (nrm_then ?_))
 refine sim_condb rfl (fun h4v => ?_) (fun h5v => ?_)
 refine sim_region ?_
 refine va rfl rfl (simL_nil ?_)
 exact nrm_cut (s := ([111, 107] : List UInt8)) () ⟨rfl, rfl, trivial⟩ (.sel 0 rfl (.sel 0 rfl (.nil _)))
 refine sim_skip ?_
 exact nrm_cut (s := ([110, 111] : List UInt8)) () ⟨rfl, rfl, trivial⟩ (.sel 0 rfl (.sel 0 rfl (.nil _)))
 intro s2v y3v
 refine sim_cut (S := List UInt8) (Unit) (fun s y => [(1, .pointer (some ⟨b1v, 0, none⟩)), (3, str s)]) (fun s y => [obj b1v 72 [.int .i64 x0_0, .bool x0_1, .slice a0_2 x0_2.length c0_2], F]) ?_ ?_
 refine sr ?_
 refine vq (q_fa rfl rfl Tryd.underlying72 rfl rfl Tryd.sizeOf24 rfl) rfl ?_
 refine vq (q_load rfl rfl Tryd.isAgg24 (.obj 0 rfl rfl)) rfl ?_
 refine vq (q_neq rfl rfl rfl) rfl (simL_nil (nrm_then ?_))
 refine sim_condn rfl (fun h8v => ?_) (fun h9v => ?_)
 refine sim_skip ?_
 exact nrm_cut (s := s2v) () ⟨rfl, rfl, trivial⟩ (.sel 0 rfl (.sel 0 rfl (.nil _)))
 refine sim_region ?_
 refine vq (q_fa rfl rfl Tryd.underlying72 rfl rfl Tryd.sizeOf24 rfl) rfl ?_
 refine vq (q_load rfl rfl Tryd.isAgg24 (.obj 0 rfl rfl)) rfl ?_
 have hlb11v : ListV 1 (V3 tt) ([x0_0] : List Int) [[.int .i64 x0_0]] := ⟨⟨rfl, one_of (by rfl), rfl⟩, trivial⟩
 refine simL_eff (re_litV (V := (V3 tt)) (xs := ([x0_0] : List Int)) [[.int .i64 x0_0]] rfl rfl Tryd.underlying68 elt3 rfl (by kernel_rfl) rfl hlb11v rfl rfl) rfl rfl rfl ?_
 intro b11v
 refine simL_bind (fun s16v hs17v => ?_)
 refine simL_lend 0 rfl (fun hq12v hq13v hq14v hq15v => ?_)
 refine simL_eff (re_call (vs := [str ([101, 114, 114] : List UInt8), .slice (some ⟨b11v, 0, none⟩) (([x0_0] : List Int).length) 1]) (cap := []) (A := []) (rst := [Row 3 1 (some ⟨b11v, 0, none⟩) ([x0_0] : List Int).length 1 [[.int .i64 x0_0]].flatten, obj b1v 72 [.int .i64 x0_0, .bool x0_1, .slice a0_2 x0_2.length c0_2], F]) rfl rfl rfl rfl rfl rfl Tryd.call59 (.sel 0 rfl (.sel 0 rfl (.sel 0 rfl (.nil _)))) (text_numbers.calls _ _ k ([101, 114, 114] : List UInt8) (some ⟨b11v, 0, none⟩) 1 ([x0_0] : List Int) ((Rd.asV hlb11v hq12v).up (Up.lend 0 rfl) (fun _ _ h => h)) hq13v hq14v (hgl.lend 2 rfl)) hs17v) rfl rfl rfl ?_
 intro y18v
 refine va rfl rfl (simL_nil ?_)
 exact nrm_cut (s := s16v) () ⟨rfl, rfl, trivial⟩ (.sel 1 rfl (.sel 1 rfl (.nil _)))
 intro s6v y7v
 refine sr ?_
 refine vm rfl rfl ?_
 have hlb20v : ListV 1 (V9 tt) ([s6v] : List (List UInt8)) [[str s6v]] := ⟨⟨rfl, one_of (by rfl), rfl⟩, trivial⟩
 refine simL_eff (re_litV (V := (V9 tt)) (xs := ([s6v] : List (List UInt8))) [[str s6v]] rfl rfl Tryd.underlying23 elt9 rfl (by kernel_rfl) rfl hlb20v rfl rfl) rfl rfl rfl ?_
 intro b20v
 refine va rfl rfl (simL_nil (nrm_then ?_))
 refine sim_cut (S := List (List UInt8)) (Option Addr × Nat) (fun s y => [(4, .slice y.1 s.length y.2)]) (fun s y => [RowV 9 1 (V9 tt) y.1 s y.2, F]) ?_ ?_
 refine sr ?_
 refine vq (q_fa rfl rfl Tryd.underlying72 rfl rfl Tryd.sizeOf70 rfl) rfl ?_
 refine vq (q_load rfl rfl Tryd.isAgg70 (.obj 1 rfl rfl)) rfl ?_
 refine vq (q_len rfl rfl rfl Tryd.underlying70) rfl ?_
 refine vm rfl rfl (simL_nil (nrm_then ?_))
 refine sim_block ?_
 refine sim_loop (S := List (List UInt8) × Int) (Option Addr × Nat) (fun k s => text_FormatTold.l0 x0_2 k s.1 s.2) (fun s y => [(4, .slice y.1 s.1.length y.2), (19, .slice a0_2 x0_2.length c0_2), (20, .int .i64 (x0_2.length : Int)), (21, .int .i64 s.2)]) (fun s y => [RowV 9 1 (V9 tt) y.1 s.1 y.2, F]) (fun _ => by rw [text_FormatTold.l0]) ?_ k (([s6v] : List (List UInt8)), 0) ((some ⟨b20v, 0, none⟩), 1) ⟨rfl, rfl, rfl, rfl, trivial⟩ (.sel' 0 rfl (RowV.mk hlb20v) (.sel 1 rfl (.nil _)))
 intro k s23v y24v
 refine sim_eq (by rw [text_FormatTold.l0]) ?_
 refine sr ?_
 refine vq (q_lss rfl rfl rfl) rfl (simL_nil (nrm_then (sim_seq ?_)))
 refine sim_cond rfl (fun h27v => ?_) (fun h28v => ?_)
 refine sim_skip ?_
 refine nrm_then (sim_seq ?_)
 refine sim_block ?_
 refine sr ?_
 refine simL_ask (fun hi29v => ?_)
 obtain ⟨b30v, b30vo, r33v, ha31v, hV34v, hlr35v, hcell36v⟩ := RdV.pos h0_2 (Up.refl _) rfl (i := s23v.2.toNat) (by omega) dz78
 obtain rfl := hV34v
 refine vq (q_idx rfl rfl rfl ha31v Tryd.underlying70 Tryd.sizeOf78 hi29v.1 hi29v.2) rfl ?_
 refine vq (q_loads rfl rfl Tryd.isAgg78 Tryd.sizeOf78 rfl (fun j v hj => hcell36v 1 rfl j v hj)) rfl ?_
 refine simL_eff (re_alloc rfl Tryd.zeroValue78 rfl) rfl rfl rfl ?_
 intro b37v
 refine simL_do (re_store 0 rfl rfl rfl Tryd.sizeOf78 rfl rfl (one_of (by rfl)) rfl rfl) rfl rfl ?_
 intro _
 refine simL_ent (H' := [obj b37v 78 [.int .i64 ((x0_2.getD s23v.2.toNat dz78).1), .int .i64 ((x0_2.getD s23v.2.toNat dz78).2.1), .int .i64 ((x0_2.getD s23v.2.toNat dz78).2.2.1), .int .i64 ((x0_2.getD s23v.2.toNat dz78).2.2.2.1), .int .i64 ((x0_2.getD s23v.2.toNat dz78).2.2.2.2.1), str ((x0_2.getD s23v.2.toNat dz78).2.2.2.2.2)], RowV 9 1 (V9 tt) y24v.1 s23v.1 y24v.2, F]) (Ent.refl _) ?_
 refine ny ?_
 refine vm rfl rfl ?_
 refine vq (q_loado 0 rfl rfl Tryd.isAgg78 Tryd.sizeOf78 rfl rfl) rfl ?_
 refine simL_bind (fun s38v hs39v => ?_)
 refine simL_eff (re_call (vs := [.agg #[.int .i64 ((x0_2.getD s23v.2.toNat dz78).1), .int .i64 ((x0_2.getD s23v.2.toNat dz78).2.1), .int .i64 ((x0_2.getD s23v.2.toNat dz78).2.2.1), .int .i64 ((x0_2.getD s23v.2.toNat dz78).2.2.2.1), .int .i64 ((x0_2.getD s23v.2.toNat dz78).2.2.2.2.1), str ((x0_2.getD s23v.2.toNat dz78).2.2.2.2.2)]]) (cap := []) (A := []) (rst := [obj b37v 78 [.int .i64 ((x0_2.getD s23v.2.toNat dz78).1), .int .i64 ((x0_2.getD s23v.2.toNat dz78).2.1), .int .i64 ((x0_2.getD s23v.2.toNat dz78).2.2.1), .int .i64 ((x0_2.getD s23v.2.toNat dz78).2.2.2.1), .int .i64 ((x0_2.getD s23v.2.toNat dz78).2.2.2.2.1), str ((x0_2.getD s23v.2.toNat dz78).2.2.2.2.2)], RowV 9 1 (V9 tt) y24v.1 s23v.1 y24v.2, F]) rfl rfl rfl rfl rfl rfl Tryd.call29 (.sel 0 rfl (.sel 0 rfl (.sel 0 rfl (.nil _)))) (text_FormatEvent.calls _ _ k ((x0_2.getD s23v.2.toNat dz78).1) ((x0_2.getD s23v.2.toNat dz78).2.1) ((x0_2.getD s23v.2.toNat dz78).2.2.1) ((x0_2.getD s23v.2.toNat dz78).2.2.2.1) ((x0_2.getD s23v.2.toNat dz78).2.2.2.2.1) ((x0_2.getD s23v.2.toNat dz78).2.2.2.2.2) (hgl.lend 2 rfl)) hs39v) rfl rfl rfl ?_
 intro y40v
 have hlb42v : ListV 1 (V9 tt) ([s38v] : List (List UInt8)) [[str s38v]] := ⟨⟨rfl, one_of (by rfl), rfl⟩, trivial⟩
 refine simL_eff (re_litV (V := (V9 tt)) (xs := ([s38v] : List (List UInt8))) [[str s38v]] rfl rfl Tryd.underlying23 elt9 rfl (by kernel_rfl) rfl hlb42v rfl rfl) rfl rfl rfl ?_
 intro b42v
 refine simL_openV 2 rfl (fun rs47v hl48v => ?_)
 refine simL_ask (fun hb46v => ?_)
 refine simL_eff (re_appendV 2 rfl rfl rfl Tryd.underlying23 elt9 rfl hl48v (RdsV.row hlb42v 0 rfl) hb46v) rfl rfl rfl ?_
 intro y45v
 refine va rfl rfl (simL_nil (nrm_block (nrm_then (sim_region ?_))))
 refine vq (q_add rfl rfl rfl) rfl ?_
 refine vm rfl rfl (simL_nil ?_)
 exact nrm_again (s := (s23v.1 ++ ([s38v] : List (List UInt8)), IntKind.i64.wrap (s23v.2 + 1))) (y45v.1, y45v.2) ⟨rfl, rfl, rfl, rfl, trivial⟩ (.sel 2 rfl (.sel 2 rfl (.nil _)))
 refine sim_exi ?_
 refine exi_then ?_
 refine exi_loop ?_
 refine exi_here ?_
 exact nrm_cut (s := s23v.1) (y24v.1, y24v.2) ⟨rfl, trivial⟩ (.sel 0 rfl (.sel 0 rfl (.nil _)))
 intro s21v y22v
 refine sr ?_
 refine vm rfl rfl ?_
 refine va rfl rfl (simL_nil (nrm_then (sim_rtn ?_)))
 exact rtn_fn (y22v.1, y22v.2) rfl rfl rfl (.sel 0 rfl (.sel 0 rfl (.nil _)))

def synodref17_FormatTold.l0 (x0_2 : List (Ty78)) : Nat → List (List UInt8) → Int → Option (List (List UInt8))
  | 0, _, _ => none
  | k + 1, z34v, z35v => if z35v < (x0_2.length : Int) then (if 0 ≤ z35v ∧ z35v < (x0_2.length : Int) then ((synodref17_FormatEvent.f k ((x0_2.getD z35v.toNat dz78).1) ((x0_2.getD z35v.toNat dz78).2.1) ((x0_2.getD z35v.toNat dz78).2.2.1) ((x0_2.getD z35v.toNat dz78).2.2.2.1) ((x0_2.getD z35v.toNat dz78).2.2.2.2.1) ((x0_2.getD z35v.toNat dz78).2.2.2.2.2)).bind fun s46v => (if (z34v.length + ([s46v] : List (List UInt8)).length) * 16 ≤ 140737488355328 then (synodref17_FormatTold.l0 x0_2 k (z34v ++ ([s46v] : List (List UInt8))) (IntKind.i64.wrap (z35v + 1))) else none)) else none) else (some z34v)
def synodref17_FormatTold.f (k : Nat) (x0_0 : Int) (x0_1 : Bool) (x0_2 : List (Ty78)) : Option (List (List UInt8)) := (if x0_0 = (0 : Int) then (if x0_1 = true then (if 0 ≤ (0 : Int) ∧ (0 : Int) < (([([110, 111] : List UInt8)] : List (List UInt8)).length : Int) then (some (([([110, 111] : List UInt8)] : List (List UInt8)).set (0 : Int).toNat ([111, 107] : List UInt8))) else none) else (some ([([110, 111] : List UInt8)] : List (List UInt8)))) else ((strconv_Itoa.f x0_0).bind fun s18v => (if ([101, 114, 114, 32] : List UInt8).length + s18v.length ≤ 9223372036854775807 then (if 0 ≤ (0 : Int) ∧ (0 : Int) < (([([110, 111] : List UInt8)] : List (List UInt8)).length : Int) then (some (([([110, 111] : List UInt8)] : List (List UInt8)).set (0 : Int).toNat (([101, 114, 114, 32] : List UInt8) ++ s18v))) else none) else none))).bind fun s4v => ((synodref17_FormatTold.l0 x0_2 k s4v 0).bind fun s30v => (some s30v))
theorem synodref17_FormatTold.calls (W : World) (F : HA) (k : Nat) (x0_0 : Int) (x0_1 : Bool) (a0_2 : Option Addr) (c0_2 : Nat) (x0_2 : List (Ty78)) (h0_2 : RdV F 6 (V82 tt) a0_2 x0_2) (hc0_2 : x0_2.length ≤ c0_2) (hm0_2 : c0_2 ≤ maxLen) (hgl : Glb Tryd.prog F) :
    Fn Tryd.prog W 34 [.agg #[.int .i64 x0_0, .bool x0_1, .slice a0_2 x0_2.length c0_2]] [] F (synodref17_FormatTold.f k x0_0 x0_1 x0_2) (fun (r : List (List UInt8)) (y : Option Addr × Nat) => .slice y.1 r.length y.2) (fun r y => [RowV 9 1 (V9 tt) y.1 r y.2]) := by
 unfold synodref17_FormatTold.f
 refine fn_intro 36 Tryd.func34 rfl Tryd.ntmps34 rfl ?_
 refine sr ?_
 refine simL_eff (re_box rfl rfl rfl) rfl rfl rfl ?_
 intro b1v
 refine va rfl rfl (nx ?_)
 have hlb3v : ListV 1 (V9 tt) ([([110, 111] : List UInt8)] : List (List UInt8)) [[str ([110, 111] : List UInt8)]] := ⟨⟨rfl, one_of (by rfl), rfl⟩, trivial⟩
 refine simL_eff (re_litV (V := (V9 tt)) (xs := ([([110, 111] : List UInt8)] : List (List UInt8))) [[str ([110, 111] : List UInt8)]] rfl rfl Tryd.underlying23 elt9 rfl (by kernel_rfl) rfl hlb3v rfl rfl) rfl rfl rfl ?_
 intro b3v
 refine va rfl rfl (simL_nil (nrm_then ?_))
 refine sim_cut (S := List (List UInt8)) (Unit) (fun s y => [(1, .pointer (some ⟨b1v, 0, none⟩)), (3, .slice (some ⟨b3v, 0, none⟩) s.length 1)]) (fun s y => [obj b1v 81 [.int .i64 x0_0, .bool x0_1, .slice a0_2 x0_2.length c0_2], RowV 9 1 (V9 tt) (some ⟨b3v, 0, none⟩) s 1, F]) ?_ ?_
 refine sr ?_
 refine vq (q_fa rfl rfl Tryd.underlying81 rfl rfl Tryd.sizeOf3 rfl) rfl ?_
 refine vq (q_load rfl rfl Tryd.isAgg3 (.obj 1 rfl rfl)) rfl ?_
 refine vq (q_neq rfl rfl rfl) rfl (simL_nil (nrm_then ?_))
 refine sim_condn rfl (fun h6v => ?_) (fun h7v => ?_)
 refine sr ?_
 refine vq (q_fa rfl rfl Tryd.underlying81 rfl rfl Tryd.sizeOf4 rfl) rfl ?_
 refine vq (q_load rfl rfl Tryd.isAgg4 (.obj 1 rfl rfl)) rfl (simL_nil (nrm_then ?_))
 refine sim_condb rfl (fun h8v => ?_) (fun h9v => ?_)
 refine sim_region ?_
 refine vm rfl rfl ?_
 refine simL_ask (fun hi10v => ?_)
 refine simL_posV 0 rfl hlb3v rfl (i := (0 : Int).toNat) (by omega) ([] : List UInt8) (fun b11v b11vo r14v ha12v hV15v hlr16v hcell17v => ?_)
 obtain rfl := hV15v
 refine vq (q_idx rfl rfl rfl ha12v Tryd.underlying23 Tryd.sizeOf9 hi10v.1 hi10v.2) rfl ?_
 refine simL_do (re_storeV (V := (V9 tt)) (i := (0 : Int).toNat) ([111, 107] : List UInt8) 0 ([] : List UInt8) 0 rfl rfl rfl Tryd.sizeOf9 rfl rfl (one_of (by rfl)) rfl hlb3v ha12v (by omega) rfl (fun r hr _ _ => by cases (show r = _ from hr); exact rfl)) rfl rfl ?_
 intro _
 refine simL_ren (.slice (some ⟨b3v, 0, none⟩) ((([([110, 111] : List UInt8)] : List (List UInt8)).set (0 : Int).toNat ([111, 107] : List UInt8)).length) 1) (d := 5) rfl (slc_len (by simp)) ?_
 refine simL_ren (.slice (some ⟨b3v, 0, none⟩) ((([([110, 111] : List UInt8)] : List (List UInt8)).set (0 : Int).toNat ([111, 107] : List UInt8)).length) 1) (d := 3) rfl (slc_len (by simp)) ?_
 refine simL_ren (.slice (some ⟨b3v, 0, none⟩) ((([([110, 111] : List UInt8)] : List (List UInt8)).set (0 : Int).toNat ([111, 107] : List UInt8)).length) 1) (d := 17) rfl (slc_len (by simp)) ?_
 refine simL_nil ?_
 exact nrm_cut (s := ([([110, 111] : List UInt8)] : List (List UInt8)).set (0 : Int).toNat ([111, 107] : List UInt8)) () ⟨rfl, rfl, trivial⟩ (.sel 1 rfl (.sel 0 rfl (.sel 0 rfl (.nil _))))
 refine sim_skip ?_
 exact nrm_cut (s := ([([110, 111] : List UInt8)] : List (List UInt8))) () ⟨rfl, rfl, trivial⟩ (.sel 1 rfl (.sel' 0 rfl (RowV.mk hlb3v) (.sel 0 rfl (.nil _))))
 refine sim_region ?_
 refine vm rfl rfl ?_
 refine vq (q_fa rfl rfl Tryd.underlying81 rfl rfl Tryd.sizeOf3 rfl) rfl ?_
 refine vq (q_load rfl rfl Tryd.isAgg3 (.obj 1 rfl rfl)) rfl ?_
 refine simL_bind (fun s18v hs19v => ?_)
 refine simL_eff (re_call (vs := [.int .i64 x0_0]) (cap := []) (A := []) (rst := [Row 9 1 (some ⟨b3v, 0, none⟩) ([([110, 111] : List UInt8)] : List (List UInt8)).length 1 [[str ([110, 111] : List UInt8)]].flatten, obj b1v 81 [.int .i64 x0_0, .bool x0_1, .slice a0_2 x0_2.length c0_2], F]) rfl rfl rfl rfl rfl rfl Tryd.call51 (.sel 0 rfl (.sel 0 rfl (.sel 0 rfl (.nil _)))) (strconv_Itoa.calls _ _ x0_0 (hgl.lend 2 rfl)) hs19v) rfl rfl rfl ?_
 intro y20v
 refine simL_ask (fun hb21v => ?_)
 refine vq (q_cat rfl rfl rfl hb21v) rfl ?_
 refine simL_ask (fun hi22v => ?_)
 refine simL_posV 0 rfl hlb3v rfl (i := (0 : Int).toNat) (by omega) ([] : List UInt8) (fun b23v b23vo r26v ha24v hV27v hlr28v hcell29v => ?_)
 obtain rfl := hV27v
 refine vq (q_idx rfl rfl rfl ha24v Tryd.underlying23 Tryd.sizeOf9 hi22v.1 hi22v.2) rfl ?_
 refine simL_do (re_storeV (V := (V9 tt)) (i := (0 : Int).toNat) (([101, 114, 114, 32] : List UInt8) ++ s18v) 0 ([] : List UInt8) 0 rfl rfl rfl Tryd.sizeOf9 rfl rfl (one_of (by rfl)) rfl hlb3v ha24v (by omega) rfl (fun r hr _ _ => by cases (show r = _ from hr); exact rfl)) rfl rfl ?_
 intro _
 refine simL_ren (.slice (some ⟨b3v, 0, none⟩) ((([([110, 111] : List UInt8)] : List (List UInt8)).set (0 : Int).toNat (([101, 114, 114, 32] : List UInt8) ++ s18v)).length) 1) (d := 5) rfl (slc_len (by simp)) ?_
 refine simL_ren (.slice (some ⟨b3v, 0, none⟩) ((([([110, 111] : List UInt8)] : List (List UInt8)).set (0 : Int).toNat (([101, 114, 114, 32] : List UInt8) ++ s18v)).length) 1) (d := 3) rfl (slc_len (by simp)) ?_
 refine simL_ren (.slice (some ⟨b3v, 0, none⟩) ((([([110, 111] : List UInt8)] : List (List UInt8)).set (0 : Int).toNat (([101, 114, 114, 32] : List UInt8) ++ s18v)).length) 1) (d := 9) rfl (slc_len (by simp)) ?_
 refine simL_nil ?_
 exact nrm_cut (s := ([([110, 111] : List UInt8)] : List (List UInt8)).set (0 : Int).toNat (([101, 114, 114, 32] : List UInt8) ++ s18v)) () ⟨rfl, rfl, trivial⟩ (.sel 1 rfl (.sel 0 rfl (.sel 0 rfl (.nil _))))
 intro s4v y5v
 refine sim_cut (S := List (List UInt8)) (Option Addr × Nat) (fun s y => [(3, .slice y.1 s.length y.2)]) (fun s y => [RowV 9 1 (V9 tt) y.1 s y.2, F]) ?_ ?_
 refine sr ?_
 refine va rfl rfl (simL_nil (nrm_then ?_))
 refine sim_block ?_
 refine sim_loop (S := List (List UInt8) × Int) (Option Addr × Nat) (fun k s => synodref17_FormatTold.l0 x0_2 k s.1 s.2) (fun s y => [(1, .pointer (some ⟨b1v, 0, none⟩)), (3, .slice y.1 s.1.length y.2), (4, .int .i64 s.2)]) (fun s y => [obj b1v 81 [.int .i64 x0_0, .bool x0_1, .slice a0_2 x0_2.length c0_2], RowV 9 1 (V9 tt) y.1 s.1 y.2, F]) (fun _ => by rw [synodref17_FormatTold.l0]) ?_ k (s4v, 0) ((some ⟨b3v, 0, none⟩), 1) ⟨rfl, rfl, rfl, trivial⟩ (.sel 0 rfl (.sel 0 rfl (.sel 0 rfl (.nil _))))
 intro k s32v y33v
 refine sim_eq (by rw [synodref17_FormatTold.l0]) ?_
 refine sim_seq (sr ?_)
 refine vm rfl rfl ?_
 refine vq (q_fa rfl rfl Tryd.underlying81 rfl rfl Tryd.sizeOf79 rfl) rfl ?_
 refine vq (q_load rfl rfl Tryd.isAgg79 (.obj 0 rfl rfl)) rfl ?_
 refine vq (q_len rfl rfl rfl Tryd.underlying79) rfl ?_
 refine vq (q_lss rfl rfl rfl) rfl (simL_nil (nrm_then ?_))
 refine sim_cond rfl (fun h36v => ?_) (fun h37v => ?_)
 refine sim_skip ?_
 refine nrm_then (sim_seq ?_)
 refine sim_block ?_
 refine sim_region ?_
 refine vm rfl rfl ?_
 refine vq (q_fa rfl rfl Tryd.underlying81 rfl rfl Tryd.sizeOf79 rfl) rfl ?_
 refine vq (q_load rfl rfl Tryd.isAgg79 (.obj 0 rfl rfl)) rfl ?_
 refine vm rfl rfl ?_
 refine simL_ask (fun hi38v => ?_)
 obtain ⟨b39v, b39vo, r42v, ha40v, hV43v, hlr44v, hcell45v⟩ := RdV.pos h0_2 (Up.refl _) rfl (i := s32v.2.toNat) (by omega) dz78
 obtain rfl := hV43v
 refine vq (q_idx rfl rfl rfl ha40v Tryd.underlying79 Tryd.sizeOf82 hi38v.1 hi38v.2) rfl ?_
 refine vq (q_loads rfl rfl Tryd.isAgg82 Tryd.sizeOf82 rfl (fun j v hj => hcell45v 2 rfl j v hj)) rfl ?_
 refine simL_bind (fun s46v hs47v => ?_)
 refine simL_eff (re_call (vs := [.agg #[.int .i64 ((x0_2.getD s32v.2.toNat dz78).1), .int .i64 ((x0_2.getD s32v.2.toNat dz78).2.1), .int .i64 ((x0_2.getD s32v.2.toNat dz78).2.2.1), .int .i64 ((x0_2.getD s32v.2.toNat dz78).2.2.2.1), .int .i64 ((x0_2.getD s32v.2.toNat dz78).2.2.2.2.1), str ((x0_2.getD s32v.2.toNat dz78).2.2.2.2.2)]]) (cap := []) (A := []) (rst := [obj b1v 81 [.int .i64 x0_0, .bool x0_1, .slice a0_2 x0_2.length c0_2], RowV 9 1 (V9 tt) y33v.1 s32v.1 y33v.2, F]) rfl rfl rfl rfl rfl rfl Tryd.call30 (.sel 0 rfl (.sel 0 rfl (.sel 0 rfl (.nil _)))) (synodref17_FormatEvent.calls _ _ k ((x0_2.getD s32v.2.toNat dz78).1) ((x0_2.getD s32v.2.toNat dz78).2.1) ((x0_2.getD s32v.2.toNat dz78).2.2.1) ((x0_2.getD s32v.2.toNat dz78).2.2.2.1) ((x0_2.getD s32v.2.toNat dz78).2.2.2.2.1) ((x0_2.getD s32v.2.toNat dz78).2.2.2.2.2) (hgl.lend 2 rfl)) hs47v) rfl rfl rfl ?_
 intro y48v
 have hlb50v : ListV 1 (V9 tt) ([s46v] : List (List UInt8)) [[str s46v]] := ⟨⟨rfl, one_of (by rfl), rfl⟩, trivial⟩
 refine simL_eff (re_litV (V := (V9 tt)) (xs := ([s46v] : List (List UInt8))) [[str s46v]] rfl rfl Tryd.underlying23 elt9 rfl (by kernel_rfl) rfl hlb50v rfl rfl) rfl rfl rfl ?_
 intro b50v
 refine simL_openV 2 rfl (fun rs55v hl56v => ?_)
 refine simL_ask (fun hb54v => ?_)
 refine simL_eff (re_appendV 2 rfl rfl rfl Tryd.underlying23 elt9 rfl hl56v (RdsV.row hlb50v 0 rfl) hb54v) rfl rfl rfl ?_
 intro y53v
 refine va rfl rfl (simL_nil (nrm_block (nrm_then (sim_region ?_))))
 refine vm rfl rfl ?_
 refine vq (q_add rfl rfl rfl) rfl ?_
 refine va rfl rfl (simL_nil ?_)
 exact nrm_again (s := (s32v.1 ++ ([s46v] : List (List UInt8)), IntKind.i64.wrap (s32v.2 + 1))) (y53v.1, y53v.2) ⟨rfl, rfl, rfl, trivial⟩ (.sel 1 rfl (.sel 1 rfl (.sel 1 rfl (.nil _))))
 refine sim_exi ?_
 refine exi_then ?_
 refine exi_loop ?_
 refine exi_here ?_
 exact nrm_cut (s := s32v.1) (y33v.1, y33v.2) ⟨rfl, trivial⟩ (.sel 1 rfl (.sel 1 rfl (.nil _)))
 intro s30v y31v
 refine sr ?_
 refine vm rfl rfl ?_
 refine va rfl rfl (simL_nil (nrm_then (sim_rtn ?_)))
 exact rtn_fn (y31v.1, y31v.2) rfl rfl rfl (.sel 0 rfl (.sel 0 rfl (.nil _)))

def text_FormatOp.l0 (x0_3 : List UInt8) (x0_4 : List UInt8) (x0_5 : List UInt8) : Nat → List UInt8 → Int → Option (List UInt8)
  | 0, _, _ => none
  | k + 1, z28v, z29v => if z29v < (([x0_3, x0_4, x0_5] : List (List UInt8)).length : Int) then (if 0 ≤ z29v ∧ z29v < (([x0_3, x0_4, x0_5] : List (List UInt8)).length : Int) then ((text_Quote.f k (([x0_3, x0_4, x0_5] : List (List UInt8)).getD z29v.toNat ([] : List UInt8))).bind fun s42v => (if ([32] : List UInt8).length + s42v.length ≤ 9223372036854775807 then (if z28v.length + (([32] : List UInt8) ++ s42v).length ≤ 9223372036854775807 then (text_FormatOp.l0 x0_3 x0_4 x0_5 k (z28v ++ (([32] : List UInt8) ++ s42v)) (IntKind.i64.wrap (z29v + 1))) else none) else none)) else none) else (some z28v)
def text_FormatOp.f (k : Nat) (x0_0 : Int) (x0_1 : Int) (x0_2 : Int) (x0_3 : List UInt8) (x0_4 : List UInt8) (x0_5 : List UInt8) (x0_6 : Int) (x0_7 : Int) (x0_8 : Int) (x0_9 : List UInt8) : Option (List UInt8) := (strconv_Itoa.f x0_0).bind fun s2v => (if s2v.length + ([32] : List UInt8).length ≤ 9223372036854775807 then ((strconv_Itoa.f x0_1).bind fun s6v => (if (s2v ++ ([32] : List UInt8)).length + s6v.length ≤ 9223372036854775807 then (if ((s2v ++ ([32] : List UInt8)) ++ s6v).length + ([32] : List UInt8).length ≤ 9223372036854775807 then ((text_at.f ([([103, 101, 116] : List UInt8), ([112, 117, 116] : List UInt8), ([100, 101, 108, 101, 116, 101] : List UInt8), ([115, 119, 97, 112] : List UInt8)] : List (List UInt8)) x0_2).bind fun s17v => (if (((s2v ++ ([32] : List UInt8)) ++ s6v) ++ ([32] : List UInt8)).length + s17v.length ≤ 9223372036854775807 then ((text_FormatOp.l0 x0_3 x0_4 x0_5 k ((((s2v ++ ([32] : List UInt8)) ++ s6v) ++ ([32] : List UInt8)) ++ s17v) 0).bind fun s22v => (if x0_7 = (0 : Int) then ((text_numbers.f k s22v ([x0_6] : List Int)).bind fun s55v => (if s55v.length + ([32, 111, 112, 101, 110] : List UInt8).length ≤ 9223372036854775807 then (some (s55v ++ ([32, 111, 112, 101, 110] : List UInt8))) else none)) else ((text_numbers.f k s22v ([x0_6, x0_7] : List Int)).bind fun s65v => (if s65v.length + ([32] : List UInt8).length ≤ 9223372036854775807 then ((text_Reply.f k x0_8 x0_9).bind fun s69v => (if (s65v ++ ([32] : List UInt8)).length + s69v.length ≤ 9223372036854775807 then (some ((s65v ++ ([32] : List UInt8)) ++ s69v)) else none)) else none)))) else none)) else none) else none)) else none)
theorem text_FormatOp.calls (W : World) (F : HA) (k : Nat) (x0_0 : Int) (x0_1 : Int) (x0_2 : Int) (x0_3 : List UInt8) (x0_4 : List UInt8) (x0_5 : List UInt8) (x0_6 : Int) (x0_7 : Int) (x0_8 : Int) (x0_9 : List UInt8) (hgl : Glb Tryd.prog F) :
    Fn Tryd.prog W 35 [.agg #[.int .i64 x0_0, .int .i64 x0_1, .int .i64 x0_2, str x0_3, str x0_4, str x0_5, .int .i64 x0_6, .int .i64 x0_7, .int .i64 x0_8, str x0_9]] [] F (text_FormatOp.f k x0_0 x0_1 x0_2 x0_3 x0_4 x0_5 x0_6 x0_7 x0_8 x0_9) (fun (r : List UInt8) (y : Unit) => str r) (fun r y => []) := by
 unfold text_FormatOp.f
 refine fn_intro 59 Tryd.func35 rfl Tryd.ntmps35 rfl ?_
 refine sr ?_
 refine simL_eff (re_box rfl rfl rfl) rfl rfl rfl ?_
 intro b1v
 refine va rfl rfl (simL_nil (nrm_then (sim_seq ?_)))
 refine sim_bind (fun s2v hs3v => ?_)
 refine sim_ask (fun hb5v => ?_)
 refine sim_bind (fun s6v hs7v => ?_)
 refine sim_ask (fun hb9v => ?_)
 refine sim_ask (fun hb10v => ?_)
 have hlb12v : ListV 1 (V9 tt) ([([103, 101, 116] : List UInt8), ([112, 117, 116] : List UInt8), ([100, 101, 108, 101, 116, 101] : List UInt8), ([115, 119, 97, 112] : List UInt8)] : List (List UInt8)) [[str ([103, 101, 116] : List UInt8)], [str ([112, 117, 116] : List UInt8)], [str ([100, 101, 108, 101, 116, 101] : List UInt8)], [str ([115, 119, 97, 112] : List UInt8)]] := ⟨⟨rfl, one_of (by rfl), rfl⟩, ⟨rfl, one_of (by rfl), rfl⟩, ⟨rfl, one_of (by rfl), rfl⟩, ⟨rfl, one_of (by rfl), rfl⟩, trivial⟩
 refine sim_bind (fun s17v hs18v => ?_)
 refine sim_ask (fun hb20v => ?_)
 refine sim_drawI (Γ := Nat) 0 [[], [0], [0, 1], [0, 1, 2], [], [4], [0, 1, 2, 4, 5], rL 7, rL 8, [], [], [10], [0, 1, 2, 4, 5, 6, 9, 10, 11], rL 13, rL 14] [2, 6, 9, 12] [0, 1, 3, 4, 5, 7, 8, 10, 11, 13, 14] [[], [2], [2, 6], [9], [2, 9], [2, 6, 9], [2, 6, 9, 12]] 6 (fun i => [[0, 3], [0, 3], [0, 3], [1, 2, 4, 5, 6], [0, 1, 3, 4], [0, 1, 3, 4], [1, 4], [2, 5, 6], [2, 5, 6], [0, 1, 2], rL 6, rL 6, [5], [6], [6]].getD i []) (fun i s => ([[], [], [1, 0, 0, 4, 0, 0, 0], [], [], [], [0, 2, 0, 0, 5, 0, 0], [], [], [3, 4, 5, 0, 0, 0, 0], [], [], [0, 0, 0, 0, 0, 6, 0], [], []].getD i []).getD s 0) (fun i => [[], [], [0, 1, 4, 5, 9, 10, 11], [], [], [], [0, 1, 2, 3, 4, 5, 9, 10, 11], [], [], [0, 1, 2, 3, 4, 5, 6, 7, 8, 10, 11], [], [], rL 12, [], []].getD i []) (fun γ i => [.pointer (some ⟨b1v, 0, none⟩), .int .i64 x0_0, str s2v, str (s2v ++ ([32] : List UInt8)), .pointer (some ⟨b1v, 1, none⟩), .int .i64 x0_1, str s6v, str ((s2v ++ ([32] : List UInt8)) ++ s6v), str (((s2v ++ ([32] : List UInt8)) ++ s6v) ++ ([32] : List UInt8)), .slice (some ⟨γ, 0, none⟩) (([([103, 101, 116] : List UInt8), ([112, 117, 116] : List UInt8), ([100, 101, 108, 101, 116, 101] : List UInt8), ([115, 119, 97, 112] : List UInt8)] : List (List UInt8)).length) 4, .pointer (some ⟨b1v, 2, none⟩), .int .i64 x0_2, str s17v, str ((((s2v ++ ([32] : List UInt8)) ++ s6v) ++ ([32] : List UInt8)) ++ s17v), str ((((s2v ++ ([32] : List UInt8)) ++ s6v) ++ ([32] : List UInt8)) ++ s17v)].getD i undef) (fun j γ => [[obj b1v 76 [.int .i64 x0_0, .int .i64 x0_1, .int .i64 x0_2, str x0_3, str x0_4, str x0_5, .int .i64 x0_6, .int .i64 x0_7, .int .i64 x0_8, str x0_9], F], [obj b1v 76 [.int .i64 x0_0, .int .i64 x0_1, .int .i64 x0_2, str x0_3, str x0_4, str x0_5, .int .i64 x0_6, .int .i64 x0_7, .int .i64 x0_8, str x0_9], F], [obj b1v 76 [.int .i64 x0_0, .int .i64 x0_1, .int .i64 x0_2, str x0_3, str x0_4, str x0_5, .int .i64 x0_6, .int .i64 x0_7, .int .i64 x0_8, str x0_9], F], [Row 9 1 (some ⟨γ, 0, none⟩) ([([103, 101, 116] : List UInt8), ([112, 117, 116] : List UInt8), ([100, 101, 108, 101, 116, 101] : List UInt8), ([115, 119, 97, 112] : List UInt8)] : List (List UInt8)).length 4 [[str ([103, 101, 116] : List UInt8)], [str ([112, 117, 116] : List UInt8)], [str ([100, 101, 108, 101, 116, 101] : List UInt8)], [str ([115, 119, 97, 112] : List UInt8)]].flatten, obj b1v 76 [.int .i64 x0_0, .int .i64 x0_1, .int .i64 x0_2, str x0_3, str x0_4, str x0_5, .int .i64 x0_6, .int .i64 x0_7, .int .i64 x0_8, str x0_9], F], [Row 9 1 (some ⟨γ, 0, none⟩) ([([103, 101, 116] : List UInt8), ([112, 117, 116] : List UInt8), ([100, 101, 108, 101, 116, 101] : List UInt8), ([115, 119, 97, 112] : List UInt8)] : List (List UInt8)).length 4 [[str ([103, 101, 116] : List UInt8)], [str ([112, 117, 116] : List UInt8)], [str ([100, 101, 108, 101, 116, 101] : List UInt8)], [str ([115, 119, 97, 112] : List UInt8)]].flatten, obj b1v 76 [.int .i64 x0_0, .int .i64 x0_1, .int .i64 x0_2, str x0_3, str x0_4, str x0_5, .int .i64 x0_6, .int .i64 x0_7, .int .i64 x0_8, str x0_9], F], [Row 9 1 (some ⟨γ, 0, none⟩) ([([103, 101, 116] : List UInt8), ([112, 117, 116] : List UInt8), ([100, 101, 108, 101, 116, 101] : List UInt8), ([115, 119, 97, 112] : List UInt8)] : List (List UInt8)).length 4 [[str ([103, 101, 116] : List UInt8)], [str ([112, 117, 116] : List UInt8)], [str ([100, 101, 108, 101, 116, 101] : List UInt8)], [str ([115, 119, 97, 112] : List UInt8)]].flatten, obj b1v 76 [.int .i64 x0_0, .int .i64 x0_1, .int .i64 x0_2, str x0_3, str x0_4, str x0_5, .int .i64 x0_6, .int .i64 x0_7, .int .i64 x0_8, str x0_9], F], [Row 9 1 (some ⟨γ, 0, none⟩) ([([103, 101, 116] : List UInt8), ([112, 117, 116] : List UInt8), ([100, 101, 108, 101, 116, 101] : List UInt8), ([115, 119, 97, 112] : List UInt8)] : List (List UInt8)).length 4 [[str ([103, 101, 116] : List UInt8)], [str ([112, 117, 116] : List UInt8)], [str ([100, 101, 108, 101, 116, 101] : List UInt8)], [str ([115, 119, 97, 112] : List UInt8)]].flatten, obj b1v 76 [.int .i64 x0_0, .int .i64 x0_1, .int .i64 x0_2, str x0_3, str x0_4, str x0_5, .int .i64 x0_6, .int .i64 x0_7, .int .i64 x0_8, str x0_9], F]].getD j []) (fun γ => [(1, .pointer (some ⟨b1v, 0, none⟩)), (3, str ((((s2v ++ ([32] : List UInt8)) ++ s6v) ++ ([32] : List UInt8)) ++ s17v))]) mixed (by decide) (by decide) (by decide) (by decide) (by decide) (by decide) 59 rfl (by decide) (by decide) (by decide) (by decide) (by decide) (by decide) (Ent.refl _) ?_ ?_ (fun _ => ⟨rfl, rfl, trivial⟩) ?_
 exact (ac (fun γ => (ac (qp rfl rfl (.o (s := 1) rfl (by decide) .nil) (q_fa rfl rfl Tryd.underlying76 rfl rfl Tryd.sizeOf3 rfl) rfl) (ac (qp rfl rfl (.o (s := 1) rfl (by decide) .nil) (q_fa rfl rfl Tryd.underlying76 rfl rfl Tryd.sizeOf3 rfl) rfl) zA))) (ac (fun γ => (ac (qp rfl rfl (.v 0 rfl rfl .nil) (q_load rfl rfl Tryd.isAgg3 (.obj 0 rfl rfl)) rfl) (ac (qp rfl rfl (.v 0 rfl rfl .nil) (q_load rfl rfl Tryd.isAgg3 (.obj 1 rfl rfl)) rfl) zA))) (ac (fun γ => (ac (qp rfl rfl (.v 2 rfl rfl .nil) (q_cat rfl rfl rfl hb5v) rfl) (ac (qp rfl rfl (.v 2 rfl rfl .nil) (q_cat rfl rfl rfl hb5v) rfl) (ac (qp rfl rfl (.v 2 rfl rfl .nil) (q_cat rfl rfl rfl hb5v) rfl) (ac (qp rfl rfl (.v 2 rfl rfl .nil) (q_cat rfl rfl rfl hb5v) rfl) (ac (qp rfl rfl (.v 2 rfl rfl .nil) (q_cat rfl rfl rfl hb5v) rfl) zA)))))) (ac (fun γ => (ac (qp rfl rfl (.o (s := 1) rfl (by decide) .nil) (q_fa rfl rfl Tryd.underlying76 rfl rfl Tryd.sizeOf3 rfl) rfl) (ac (qp rfl rfl (.o (s := 1) rfl (by decide) .nil) (q_fa rfl rfl Tryd.underlying76 rfl rfl Tryd.sizeOf3 rfl) rfl) (ac (qp rfl rfl (.o (s := 1) rfl (by decide) .nil) (q_fa rfl rfl Tryd.underlying76 rfl rfl Tryd.sizeOf3 rfl) rfl) (ac (qp rfl rfl (.o (s := 1) rfl (by decide) .nil) (q_fa rfl rfl Tryd.underlying76 rfl rfl Tryd.sizeOf3 rfl) rfl) zA))))) (ac (fun γ => (ac (qp rfl rfl (.v 4 rfl rfl .nil) (q_load rfl rfl Tryd.isAgg3 (.obj 0 rfl rfl)) rfl) (ac (qp rfl rfl (.v 4 rfl rfl .nil) (q_load rfl rfl Tryd.isAgg3 (.obj 0 rfl rfl)) rfl) (ac (qp rfl rfl (.v 4 rfl rfl .nil) (q_load rfl rfl Tryd.isAgg3 (.obj 1 rfl rfl)) rfl) (ac (qp rfl rfl (.v 4 rfl rfl .nil) (q_load rfl rfl Tryd.isAgg3 (.obj 1 rfl rfl)) rfl) zA))))) (ac (fun γ => (ac (qp rfl rfl (.v 3 rfl rfl (.v 6 rfl rfl .nil)) (q_cat rfl rfl rfl hb9v) rfl) (ac (qp rfl rfl (.v 3 rfl rfl (.v 6 rfl rfl .nil)) (q_cat rfl rfl rfl hb9v) rfl) (ac (qp rfl rfl (.v 3 rfl rfl (.v 6 rfl rfl .nil)) (q_cat rfl rfl rfl hb9v) rfl) zA)))) (ac (fun γ => (ac (qp rfl rfl (.v 7 rfl rfl .nil) (q_cat rfl rfl rfl hb10v) rfl) (ac (qp rfl rfl (.v 7 rfl rfl .nil) (q_cat rfl rfl rfl hb10v) rfl) (ac (qp rfl rfl (.v 7 rfl rfl .nil) (q_cat rfl rfl rfl hb10v) rfl) zA)))) (ac (fun γ => (ac (qp rfl rfl (.o (s := 1) rfl (by decide) .nil) (q_fa rfl rfl Tryd.underlying76 rfl rfl Tryd.sizeOf3 rfl) rfl) (ac (qp rfl rfl (.o (s := 1) rfl (by decide) .nil) (q_fa rfl rfl Tryd.underlying76 rfl rfl Tryd.sizeOf3 rfl) rfl) (ac (qp rfl rfl (.o (s := 1) rfl (by decide) .nil) (q_fa rfl rfl Tryd.underlying76 rfl rfl Tryd.sizeOf3 rfl) rfl) (ac (qp rfl rfl (.o (s := 1) rfl (by decide) .nil) (q_fa rfl rfl Tryd.underlying76 rfl rfl Tryd.sizeOf3 rfl) rfl) (ac (qp rfl rfl (.o (s := 1) rfl (by decide) .nil) (q_fa rfl rfl Tryd.underlying76 rfl rfl Tryd.sizeOf3 rfl) rfl) (ac (qp rfl rfl (.o (s := 1) rfl (by decide) .nil) (q_fa rfl rfl Tryd.underlying76 rfl rfl Tryd.sizeOf3 rfl) rfl) zA))))))) (ac (fun γ => (ac (qp rfl rfl (.v 10 rfl rfl .nil) (q_load rfl rfl Tryd.isAgg3 (.obj 0 rfl rfl)) rfl) (ac (qp rfl rfl (.v 10 rfl rfl .nil) (q_load rfl rfl Tryd.isAgg3 (.obj 0 rfl rfl)) rfl) (ac (qp rfl rfl (.v 10 rfl rfl .nil) (q_load rfl rfl Tryd.isAgg3 (.obj 0 rfl rfl)) rfl) (ac (qp rfl rfl (.v 10 rfl rfl .nil) (q_load rfl rfl Tryd.isAgg3 (.obj 1 rfl rfl)) rfl) (ac (qp rfl rfl (.v 10 rfl rfl .nil) (q_load rfl rfl Tryd.isAgg3 (.obj 1 rfl rfl)) rfl) (ac (qp rfl rfl (.v 10 rfl rfl .nil) (q_load rfl rfl Tryd.isAgg3 (.obj 1 rfl rfl)) rfl) zA))))))) (aq rfl (fun γ => qp rfl rfl (.v 8 rfl rfl (.v 12 rfl rfl .nil)) (q_cat rfl rfl rfl hb20v) rfl) (aq rfl (fun γ => qp rfl rfl (.v 13 rfl rfl .nil) (q_asg rfl rfl) rfl) zA)))))))))))
 exact (ac (fun γ => (ac (eoI (Z := Unit) (fun z => γ) rfl rfl (.v 1 rfl rfl .nil) (re_call (vs := [.int .i64 x0_0]) (cap := []) (A := []) (rst := [obj b1v 76 [.int .i64 x0_0, .int .i64 x0_1, .int .i64 x0_2, str x0_3, str x0_4, str x0_5, .int .i64 x0_6, .int .i64 x0_7, .int .i64 x0_8, str x0_9], F]) rfl rfl rfl rfl rfl rfl Tryd.call51 (.sel 0 rfl (.sel 0 rfl (.nil _))) (strconv_Itoa.calls _ _ x0_0 (hgl.lend 1 rfl)) hs3v) (fun _ => ⟨rfl, rfl, rfl, rfl, rfl, rfl, rfl, trivial⟩) (fun _ => .inr rfl) (fun z => (.sel 0 rfl (.sel 0 rfl (.nil _))))) (ac (eoI (Z := Unit) (fun z => γ) rfl rfl (.v 1 rfl rfl .nil) (re_call (vs := [.int .i64 x0_0]) (cap := []) (A := []) (rst := [Row 9 1 (some ⟨γ, 0, none⟩) ([([103, 101, 116] : List UInt8), ([112, 117, 116] : List UInt8), ([100, 101, 108, 101, 116, 101] : List UInt8), ([115, 119, 97, 112] : List UInt8)] : List (List UInt8)).length 4 [[str ([103, 101, 116] : List UInt8)], [str ([112, 117, 116] : List UInt8)], [str ([100, 101, 108, 101, 116, 101] : List UInt8)], [str ([115, 119, 97, 112] : List UInt8)]].flatten, obj b1v 76 [.int .i64 x0_0, .int .i64 x0_1, .int .i64 x0_2, str x0_3, str x0_4, str x0_5, .int .i64 x0_6, .int .i64 x0_7, .int .i64 x0_8, str x0_9], F]) rfl rfl rfl rfl rfl rfl Tryd.call51 (.sel 0 rfl (.sel 0 rfl (.sel 0 rfl (.nil _)))) (strconv_Itoa.calls _ _ x0_0 (hgl.lend 2 rfl)) hs3v) (fun _ => ⟨rfl, rfl, rfl, rfl, rfl, rfl, rfl, trivial⟩) (fun _ => .inr rfl) (fun z => (.sel 0 rfl (.sel 0 rfl (.sel 0 rfl (.nil _)))))) zA))) (ac (fun γ => (ac (eoI (Z := Unit) (fun z => γ) rfl rfl (.v 5 rfl rfl .nil) (re_call (vs := [.int .i64 x0_1]) (cap := []) (A := []) (rst := [obj b1v 76 [.int .i64 x0_0, .int .i64 x0_1, .int .i64 x0_2, str x0_3, str x0_4, str x0_5, .int .i64 x0_6, .int .i64 x0_7, .int .i64 x0_8, str x0_9], F]) rfl rfl rfl rfl rfl rfl Tryd.call51 (.sel 0 rfl (.sel 0 rfl (.nil _))) (strconv_Itoa.calls _ _ x0_1 (hgl.lend 1 rfl)) hs7v) (fun _ => ⟨rfl, rfl, rfl, rfl, rfl, rfl, rfl, rfl, rfl, trivial⟩) (fun _ => .inr rfl) (fun z => (.sel 0 rfl (.sel 0 rfl (.nil _))))) (ac (eoI (Z := Unit) (fun z => γ) rfl rfl (.v 5 rfl rfl .nil) (re_call (vs := [.int .i64 x0_1]) (cap := []) (A := []) (rst := [Row 9 1 (some ⟨γ, 0, none⟩) ([([103, 101, 116] : List UInt8), ([112, 117, 116] : List UInt8), ([100, 101, 108, 101, 116, 101] : List UInt8), ([115, 119, 97, 112] : List UInt8)] : List (List UInt8)).length 4 [[str ([103, 101, 116] : List UInt8)], [str ([112, 117, 116] : List UInt8)], [str ([100, 101, 108, 101, 116, 101] : List UInt8)], [str ([115, 119, 97, 112] : List UInt8)]].flatten, obj b1v 76 [.int .i64 x0_0, .int .i64 x0_1, .int .i64 x0_2, str x0_3, str x0_4, str x0_5, .int .i64 x0_6, .int .i64 x0_7, .int .i64 x0_8, str x0_9], F]) rfl rfl rfl rfl rfl rfl Tryd.call51 (.sel 0 rfl (.sel 0 rfl (.sel 0 rfl (.nil _)))) (strconv_Itoa.calls _ _ x0_1 (hgl.lend 2 rfl)) hs7v) (fun _ => ⟨rfl, rfl, rfl, rfl, rfl, rfl, rfl, rfl, rfl, trivial⟩) (fun _ => .inr rfl) (fun z => (.sel 0 rfl (.sel 0 rfl (.sel 0 rfl (.nil _)))))) zA))) (ac (fun γ => (ac (eoI (Z := Nat) (fun z => z) rfl rfl .nil (re_litV (V := (V9 tt)) (xs := ([([103, 101, 116] : List UInt8), ([112, 117, 116] : List UInt8), ([100, 101, 108, 101, 116, 101] : List UInt8), ([115, 119, 97, 112] : List UInt8)] : List (List UInt8))) [[str ([103, 101, 116] : List UInt8)], [str ([112, 117, 116] : List UInt8)], [str ([100, 101, 108, 101, 116, 101] : List UInt8)], [str ([115, 119, 97, 112] : List UInt8)]] rfl rfl Tryd.underlying23 elt9 rfl (by kernel_rfl) rfl hlb12v rfl rfl) (fun _ => ⟨rfl, rfl, rfl, rfl, rfl, rfl, rfl, rfl, rfl, rfl, rfl, trivial⟩) (fun _ => .inr rfl) (fun z => (.sel 0 rfl (.sel 0 rfl (.sel 0 rfl (.nil _)))))) (ac (eoI (Z := Nat) (fun z => z) rfl rfl .nil (re_litV (V := (V9 tt)) (xs := ([([103, 101, 116] : List UInt8), ([112, 117, 116] : List UInt8), ([100, 101, 108, 101, 116, 101] : List UInt8), ([115, 119, 97, 112] : List UInt8)] : List (List UInt8))) [[str ([103, 101, 116] : List UInt8)], [str ([112, 117, 116] : List UInt8)], [str ([100, 101, 108, 101, 116, 101] : List UInt8)], [str ([115, 119, 97, 112] : List UInt8)]] rfl rfl Tryd.underlying23 elt9 rfl (by kernel_rfl) rfl hlb12v rfl rfl) (fun _ => ⟨rfl, rfl, rfl, rfl, rfl, rfl, rfl, rfl, rfl, rfl, rfl, trivial⟩) (fun _ => .inr rfl) (fun z => (.sel 0 rfl (.sel 0 rfl (.sel 0 rfl (.nil _)))))) (ac (eoI (Z := Nat) (fun z => z) rfl rfl .nil (re_litV (V := (V9 tt)) (xs := ([([103, 101, 116] : List UInt8), ([112, 117, 116] : List UInt8), ([100, 101, 108, 101, 116, 101] : List UInt8), ([115, 119, 97, 112] : List UInt8)] : List (List UInt8))) [[str ([103, 101, 116] : List UInt8)], [str ([112, 117, 116] : List UInt8)], [str ([100, 101, 108, 101, 116, 101] : List UInt8)], [str ([115, 119, 97, 112] : List UInt8)]] rfl rfl Tryd.underlying23 elt9 rfl (by kernel_rfl) rfl hlb12v rfl rfl) (fun _ => ⟨rfl, rfl, rfl, rfl, rfl, rfl, rfl, rfl, rfl, rfl, rfl, trivial⟩) (fun _ => .inr rfl) (fun z => (.sel 0 rfl (.sel 0 rfl (.sel 0 rfl (.nil _)))))) zA)))) (aq rfl (fun γ => eoI (Z := Unit) (fun z => γ) rfl rfl (.v 9 rfl rfl (.v 11 rfl rfl .nil)) (RE.lend 0 rfl (fun hq13v hq14v hq15v hq16v => re_call (val := fun (r : List UInt8) (y : Unit) => str r) (B := fun _ _ => []) (vs := [.slice (some ⟨γ, 0, none⟩) (([([103, 101, 116] : List UInt8), ([112, 117, 116] : List UInt8), ([100, 101, 108, 101, 116, 101] : List UInt8), ([115, 119, 97, 112] : List UInt8)] : List (List UInt8)).length) 4, .int .i64 x0_2]) (cap := []) (A := []) (rst := [Row 9 1 (some ⟨γ, 0, none⟩) ([([103, 101, 116] : List UInt8), ([112, 117, 116] : List UInt8), ([100, 101, 108, 101, 116, 101] : List UInt8), ([115, 119, 97, 112] : List UInt8)] : List (List UInt8)).length 4 [[str ([103, 101, 116] : List UInt8)], [str ([112, 117, 116] : List UInt8)], [str ([100, 101, 108, 101, 116, 101] : List UInt8)], [str ([115, 119, 97, 112] : List UInt8)]].flatten, obj b1v 76 [.int .i64 x0_0, .int .i64 x0_1, .int .i64 x0_2, str x0_3, str x0_4, str x0_5, .int .i64 x0_6, .int .i64 x0_7, .int .i64 x0_8, str x0_9], F]) rfl rfl rfl rfl rfl rfl Tryd.call60 (.sel 0 rfl (.sel 0 rfl (.sel 0 rfl (.nil _)))) (text_at.calls _ _ (some ⟨γ, 0, none⟩) 4 ([([103, 101, 116] : List UInt8), ([112, 117, 116] : List UInt8), ([100, 101, 108, 101, 116, 101] : List UInt8), ([115, 119, 97, 112] : List UInt8)] : List (List UInt8)) x0_2 ((Rd.asV hlb12v hq13v).up (Up.lend 0 rfl) (fun _ _ h => h)) hq14v hq15v) hs18v)) (fun _ => ⟨rfl, rfl, rfl, rfl, rfl, rfl, rfl, rfl, rfl, rfl, rfl, rfl, trivial⟩) (fun _ => .inr rfl) (fun z => (.sel 0 rfl (.sel 0 rfl (.sel 0 rfl (.nil _)))))) zA))))
 intro g21v
 refine nrm_then ?_
 refine sim_cut (S := List UInt8) (Unit) (fun s y => [(1, .pointer (some ⟨b1v, 0, none⟩)), (3, str s)]) (fun s y => [obj b1v 76 [.int .i64 x0_0, .int .i64 x0_1, .int .i64 x0_2, str x0_3, str x0_4, str x0_5, .int .i64 x0_6, .int .i64 x0_7, .int .i64 x0_8, str x0_9], F]) ?_ ?_
 refine sr ?_
 refine vq (q_fa rfl rfl Tryd.underlying76 rfl rfl Tryd.sizeOf9 rfl) rfl ?_
 refine vq (q_load rfl rfl Tryd.isAgg9 (.obj 1 rfl rfl)) rfl ?_
 refine vq (q_fa rfl rfl Tryd.underlying76 rfl rfl Tryd.sizeOf9 rfl) rfl ?_
 refine vq (q_load rfl rfl Tryd.isAgg9 (.obj 1 rfl rfl)) rfl ?_
 refine vq (q_fa rfl rfl Tryd.underlying76 rfl rfl Tryd.sizeOf9 rfl) rfl ?_
 refine vq (q_load rfl rfl Tryd.isAgg9 (.obj 1 rfl rfl)) rfl ?_
 have hlb25v : ListV 1 (V9 tt) ([x0_3, x0_4, x0_5] : List (List UInt8)) [[str x0_3], [str x0_4], [str x0_5]] := ⟨⟨rfl, one_of (by rfl), rfl⟩, ⟨rfl, one_of (by rfl), rfl⟩, ⟨rfl, one_of (by rfl), rfl⟩, trivial⟩
 refine simL_eff (re_litV (V := (V9 tt)) (xs := ([x0_3, x0_4, x0_5] : List (List UInt8))) [[str x0_3], [str x0_4], [str x0_5]] rfl rfl Tryd.underlying23 elt9 rfl (by kernel_rfl) rfl hlb25v rfl rfl) rfl rfl rfl ?_
 intro b25v
 refine vq (q_len rfl rfl rfl Tryd.underlying23) rfl ?_
 refine vm rfl rfl (simL_nil (nrm_then ?_))
 refine sim_block ?_
 refine sim_loop (S := List UInt8 × Int) (Unit) (fun k s => text_FormatOp.l0 x0_3 x0_4 x0_5 k s.1 s.2) (fun s y => [(1, .pointer (some ⟨b1v, 0, none⟩)), (3, str s.1), (26, .slice (some ⟨b25v, 0, none⟩) (([x0_3, x0_4, x0_5] : List (List UInt8)).length) 3), (27, .int .i64 (([x0_3, x0_4, x0_5] : List (List UInt8)).length : Int)), (28, .int .i64 s.2)]) (fun s y => [obj b1v 76 [.int .i64 x0_0, .int .i64 x0_1, .int .i64 x0_2, str x0_3, str x0_4, str x0_5, .int .i64 x0_6, .int .i64 x0_7, .int .i64 x0_8, str x0_9], RowV 9 1 (V9 tt) (some ⟨b25v, 0, none⟩) ([x0_3, x0_4, x0_5] : List (List UInt8)) 3, F]) (fun _ => by rw [text_FormatOp.l0]) ?_ k ((((s2v ++ ([32] : List UInt8)) ++ s6v) ++ ([32] : List UInt8)) ++ s17v, 0) () ⟨rfl, rfl, rfl, rfl, rfl, trivial⟩ (.sel 2 rfl (.sel' 0 rfl (RowV.mk hlb25v) (.sel 1 rfl (.nil _))))
 intro k s26v y27v
 refine sim_eq (by rw [text_FormatOp.l0]) ?_
 refine sr ?_
 refine vq (q_lss rfl rfl rfl) rfl (simL_nil (nrm_then (sim_seq ?_)))
 refine sim_cond rfl (fun h30v => ?_) (fun h31v => ?_)
 refine sim_skip ?_
 refine nrm_then (sim_seq ?_)
 refine sim_block ?_
 refine sr ?_
 refine simL_openV 1 rfl (fun rs40v hl41v => ?_)
 refine simL_ask (fun hi32v => ?_)
 refine simL_posV 1 rfl hl41v rfl (i := s26v.2.toNat) (by omega) ([] : List UInt8) (fun b33v b33vo r36v ha34v hV37v hlr38v hcell39v => ?_)
 obtain rfl := hV37v
 refine vq (q_idx rfl rfl rfl ha34v Tryd.underlying23 Tryd.sizeOf9 hi32v.1 hi32v.2) rfl ?_
 refine vq (q_load rfl rfl Tryd.isAgg9 (hcell39v 1 rfl 0 _ rfl)) rfl ?_
 refine va rfl rfl (ny ?_)
 refine vm rfl rfl ?_
 refine vm rfl rfl ?_
 refine simL_bind (fun s42v hs43v => ?_)
 refine simL_eff (re_call (vs := [str (([x0_3, x0_4, x0_5] : List (List UInt8)).getD s26v.2.toNat ([] : List UInt8))]) (cap := []) (A := []) (rst := [obj b1v 76 [.int .i64 x0_0, .int .i64 x0_1, .int .i64 x0_2, str x0_3, str x0_4, str x0_5, .int .i64 x0_6, .int .i64 x0_7, .int .i64 x0_8, str x0_9], Row 9 1 (some ⟨b25v, 0, none⟩) ([x0_3, x0_4, x0_5] : List (List UInt8)).length 3 rs40v.flatten, F]) rfl rfl rfl rfl rfl rfl Tryd.call16 (.sel 0 rfl (.sel 0 rfl (.sel 0 rfl (.nil _)))) (text_Quote.calls _ _ k (([x0_3, x0_4, x0_5] : List (List UInt8)).getD s26v.2.toNat ([] : List UInt8)) ) hs43v) rfl rfl rfl ?_
 intro y44v
 refine simL_ask (fun hb45v => ?_)
 refine vq (q_cat rfl rfl rfl hb45v) rfl ?_
 refine simL_ask (fun hb46v => ?_)
 refine vq (q_cat rfl rfl rfl hb46v) rfl ?_
 refine va rfl rfl (simL_nil (nrm_block (nrm_then (sim_region ?_))))
 refine vq (q_add rfl rfl rfl) rfl ?_
 refine vm rfl rfl (simL_nil ?_)
 exact nrm_again (s := (s26v.1 ++ (([32] : List UInt8) ++ s42v), IntKind.i64.wrap (s26v.2 + 1))) () ⟨rfl, rfl, rfl, rfl, rfl, trivial⟩ (.sel 0 rfl (.sel' 0 rfl (RowV.mk hl41v) (.sel 0 rfl (.nil _))))
 refine sim_exi ?_
 refine exi_then ?_
 refine exi_loop ?_
 refine exi_here ?_
 exact nrm_cut (s := s26v.1) () ⟨rfl, rfl, trivial⟩ (.sel 0 rfl (.sel 1 rfl (.nil _)))
 intro s22v y23v
 refine sim_seq (sr ?_)
 refine vq (q_fa rfl rfl Tryd.underlying76 rfl rfl Tryd.sizeOf3 rfl) rfl ?_
 refine vq (q_load rfl rfl Tryd.isAgg3 (.obj 0 rfl rfl)) rfl ?_
 refine vq (q_eql rfl rfl rfl) rfl (simL_nil (nrm_then ?_))
 refine sim_cond rfl (fun h47v => ?_) (fun h48v => ?_)
 refine sr ?_
 refine vm rfl rfl ?_
 refine vq (q_fa rfl rfl Tryd.underlying76 rfl rfl Tryd.sizeOf3 rfl) rfl ?_
 refine vq (q_load rfl rfl Tryd.isAgg3 (.obj 0 rfl rfl)) rfl ?_
 have hlb50v : ListV 1 (V3 tt) ([x0_6] : List Int) [[.int .i64 x0_6]] := ⟨⟨rfl, one_of (by rfl), rfl⟩, trivial⟩
 refine simL_eff (re_litV (V := (V3 tt)) (xs := ([x0_6] : List Int)) [[.int .i64 x0_6]] rfl rfl Tryd.underlying68 elt3 rfl (by kernel_rfl) rfl hlb50v rfl rfl) rfl rfl rfl ?_
 intro b50v
 refine simL_bind (fun s55v hs56v => ?_)
 refine simL_lend 0 rfl (fun hq51v hq52v hq53v hq54v => ?_)
 refine simL_eff (re_call (vs := [str s22v, .slice (some ⟨b50v, 0, none⟩) (([x0_6] : List Int).length) 1]) (cap := []) (A := []) (rst := [Row 3 1 (some ⟨b50v, 0, none⟩) ([x0_6] : List Int).length 1 [[.int .i64 x0_6]].flatten, obj b1v 76 [.int .i64 x0_0, .int .i64 x0_1, .int .i64 x0_2, str x0_3, str x0_4, str x0_5, .int .i64 x0_6, .int .i64 x0_7, .int .i64 x0_8, str x0_9], F]) rfl rfl rfl rfl rfl rfl Tryd.call59 (.sel 0 rfl (.sel 0 rfl (.sel 0 rfl (.nil _)))) (text_numbers.calls _ _ k s22v (some ⟨b50v, 0, none⟩) 1 ([x0_6] : List Int) ((Rd.asV hlb50v hq51v).up (Up.lend 0 rfl) (fun _ _ h => h)) hq52v hq53v (hgl.lend 2 rfl)) hs56v) rfl rfl rfl ?_
 intro y57v
 refine simL_ask (fun hb58v => ?_)
 refine vq (q_cat rfl rfl rfl hb58v) rfl ?_
 refine va rfl rfl (simL_nil (nrm_then (sim_rtn ?_)))
 refine rtn_then ?_
 exact rtn_fn () rfl rfl rfl (.sel 2 rfl (.nil _))
 refine sim_skip ?_
 refine nrm_then (sim_seq ?_)
 have hlb60v : ListV 1 (V3 tt) ([x0_6, x0_7] : List Int) [[.int .i64 x0_6], [.int .i64 x0_7]] := ⟨⟨rfl, one_of (by rfl), rfl⟩, ⟨rfl, one_of (by rfl), rfl⟩, trivial⟩
 refine sim_bind (fun s65v hs66v => ?_)
 refine sim_ask (fun hb68v => ?_)
 refine sim_bind (fun s69v hs70v => ?_)
 refine sim_ask (fun hb72v => ?_)
 refine sim_draw (Γ := Nat) 0 [[], [], [1], [], [3], [1, 2, 3, 4], rL 6, rL 7, [], [8], [0, 1, 2, 3, 4, 5, 6, 8, 9], rL 11, rL 12] [5, 6, 10] [0, 1, 2, 3, 4, 7, 8, 9, 11, 12] (fun i => [[0, 1], [0], [0], [0], [0], [], [], [2, 3], [0, 1, 2], [0, 1, 2], [], [3], [3]].getD i []) (fun i => [[], [], [], [], [], [0, 1, 2, 3, 4, 8, 9], [0, 1, 2, 3, 4, 5, 8, 9], [], [], [], rL 10, [], []].getD i []) (fun γ i => [str s22v, .pointer (some ⟨b1v, 6, none⟩), .int .i64 x0_6, .pointer (some ⟨b1v, 7, none⟩), .int .i64 x0_7, .slice (some ⟨γ, 0, none⟩) (([x0_6, x0_7] : List Int).length) 2, str s65v, str (s65v ++ ([32] : List UInt8)), .pointer (some ⟨b1v, 8, none⟩), .agg #[.int .i64 x0_8, str x0_9], str s69v, str ((s65v ++ ([32] : List UInt8)) ++ s69v), str ((s65v ++ ([32] : List UInt8)) ++ s69v)].getD i undef) (fun j γ => [[obj b1v 76 [.int .i64 x0_0, .int .i64 x0_1, .int .i64 x0_2, str x0_3, str x0_4, str x0_5, .int .i64 x0_6, .int .i64 x0_7, .int .i64 x0_8, str x0_9], F], [Row 3 1 (some ⟨γ, 0, none⟩) ([x0_6, x0_7] : List Int).length 2 [[.int .i64 x0_6], [.int .i64 x0_7]].flatten, obj b1v 76 [.int .i64 x0_0, .int .i64 x0_1, .int .i64 x0_2, str x0_3, str x0_4, str x0_5, .int .i64 x0_6, .int .i64 x0_7, .int .i64 x0_8, str x0_9], F], [Row 3 1 (some ⟨γ, 0, none⟩) ([x0_6, x0_7] : List Int).length 2 [[.int .i64 x0_6], [.int .i64 x0_7]].flatten, obj b1v 76 [.int .i64 x0_0, .int .i64 x0_1, .int .i64 x0_2, str x0_3, str x0_4, str x0_5, .int .i64 x0_6, .int .i64 x0_7, .int .i64 x0_8, str x0_9], F], [Row 3 1 (some ⟨γ, 0, none⟩) ([x0_6, x0_7] : List Int).length 2 [[.int .i64 x0_6], [.int .i64 x0_7]].flatten, obj b1v 76 [.int .i64 x0_0, .int .i64 x0_1, .int .i64 x0_2, str x0_3, str x0_4, str x0_5, .int .i64 x0_6, .int .i64 x0_7, .int .i64 x0_8, str x0_9], F]].getD j []) (fun γ => [(2, str ((s65v ++ ([32] : List UInt8)) ++ s69v))]) mixed (by decide) (by decide) (by decide) (by decide) (by decide) (by decide) (by decide) 59 rfl (by decide) (by decide) (by decide) (Ent.refl _) ?_ ?_ (fun _ => ⟨rfl, trivial⟩) ?_
 exact (ac (fun γ => (ac (qm rfl (.o (s := 3) rfl (by decide) .nil) rfl) (ac (qm rfl (.o (s := 3) rfl (by decide) .nil) rfl) zA))) (aq rfl (fun γ => qp rfl rfl (.o (s := 1) rfl (by decide) .nil) (q_fa rfl rfl Tryd.underlying76 rfl rfl Tryd.sizeOf3 rfl) rfl) (aq rfl (fun γ => qp rfl rfl (.v 1 rfl rfl .nil) (q_load rfl rfl Tryd.isAgg3 (.obj 0 rfl rfl)) rfl) (aq rfl (fun γ => qp rfl rfl (.o (s := 1) rfl (by decide) .nil) (q_fa rfl rfl Tryd.underlying76 rfl rfl Tryd.sizeOf3 rfl) rfl) (aq rfl (fun γ => qp rfl rfl (.v 3 rfl rfl .nil) (q_load rfl rfl Tryd.isAgg3 (.obj 0 rfl rfl)) rfl) (ac (fun γ => (ac (qp rfl rfl (.v 6 rfl rfl .nil) (q_cat rfl rfl rfl hb68v) rfl) (ac (qp rfl rfl (.v 6 rfl rfl .nil) (q_cat rfl rfl rfl hb68v) rfl) zA))) (ac (fun γ => (ac (qp rfl rfl (.o (s := 1) rfl (by decide) .nil) (q_fa rfl rfl Tryd.underlying76 rfl rfl Tryd.sizeOf74 rfl) rfl) (ac (qp rfl rfl (.o (s := 1) rfl (by decide) .nil) (q_fa rfl rfl Tryd.underlying76 rfl rfl Tryd.sizeOf74 rfl) rfl) (ac (qp rfl rfl (.o (s := 1) rfl (by decide) .nil) (q_fa rfl rfl Tryd.underlying76 rfl rfl Tryd.sizeOf74 rfl) rfl) zA)))) (ac (fun γ => (ac (qp rfl rfl (.v 8 rfl rfl .nil) (q_loads (vs := [.int .i64 x0_8, str x0_9]) rfl rfl Tryd.isAgg74 Tryd.sizeOf74 rfl (cells_obj 0 rfl (cells_lit rfl))) rfl) (ac (qp rfl rfl (.v 8 rfl rfl .nil) (q_loads (vs := [.int .i64 x0_8, str x0_9]) rfl rfl Tryd.isAgg74 Tryd.sizeOf74 rfl (cells_obj 1 rfl (cells_lit rfl))) rfl) (ac (qp rfl rfl (.v 8 rfl rfl .nil) (q_loads (vs := [.int .i64 x0_8, str x0_9]) rfl rfl Tryd.isAgg74 Tryd.sizeOf74 rfl (cells_obj 1 rfl (cells_lit rfl))) rfl) zA)))) (aq rfl (fun γ => qp rfl rfl (.v 7 rfl rfl (.v 10 rfl rfl .nil)) (q_cat rfl rfl rfl hb72v) rfl) (aq rfl (fun γ => qp rfl rfl (.v 11 rfl rfl .nil) (q_asg rfl rfl) rfl) zA))))))))))
 exact (ac (fun γ => eo (Z := Nat) (fun z => z) rfl rfl (.v 2 rfl rfl (.v 4 rfl rfl .nil)) (re_litV (V := (V3 tt)) (xs := ([x0_6, x0_7] : List Int)) [[.int .i64 x0_6], [.int .i64 x0_7]] rfl rfl Tryd.underlying68 elt3 rfl (by kernel_rfl) rfl hlb60v rfl rfl) (fun _ => ⟨rfl, rfl, rfl, rfl, rfl, rfl, rfl, trivial⟩) (fun _ => .inr rfl) (fun z => Ent.refl _)) (ac (fun γ => eo (Z := Unit) (fun z => γ) rfl rfl (.v 0 rfl rfl (.v 5 rfl rfl .nil)) (RE.lend 0 rfl (fun hq61v hq62v hq63v hq64v => re_call (val := fun (r : List UInt8) (y : Unit) => str r) (B := fun _ _ => []) (vs := [str s22v, .slice (some ⟨γ, 0, none⟩) (([x0_6, x0_7] : List Int).length) 2]) (cap := []) (A := []) (rst := [Row 3 1 (some ⟨γ, 0, none⟩) ([x0_6, x0_7] : List Int).length 2 [[.int .i64 x0_6], [.int .i64 x0_7]].flatten, obj b1v 76 [.int .i64 x0_0, .int .i64 x0_1, .int .i64 x0_2, str x0_3, str x0_4, str x0_5, .int .i64 x0_6, .int .i64 x0_7, .int .i64 x0_8, str x0_9], F]) rfl rfl rfl rfl rfl rfl Tryd.call59 (.sel 0 rfl (.sel 0 rfl (.sel 0 rfl (.nil _)))) (text_numbers.calls _ _ k s22v (some ⟨γ, 0, none⟩) 2 ([x0_6, x0_7] : List Int) ((Rd.asV hlb60v hq61v).up (Up.lend 0 rfl) (fun _ _ h => h)) hq62v hq63v (hgl.lend 2 rfl)) hs66v)) (fun _ => ⟨rfl, rfl, rfl, rfl, rfl, rfl, rfl, rfl, trivial⟩) (fun _ => .inr rfl) (fun z => Ent.refl _)) (ac (fun γ => eo (Z := Unit) (fun z => γ) rfl rfl (.v 9 rfl rfl .nil) (re_call (vs := [.agg #[.int .i64 x0_8, str x0_9]]) (cap := []) (A := []) (rst := [Row 3 1 (some ⟨γ, 0, none⟩) ([x0_6, x0_7] : List Int).length 2 [[.int .i64 x0_6], [.int .i64 x0_7]].flatten, obj b1v 76 [.int .i64 x0_0, .int .i64 x0_1, .int .i64 x0_2, str x0_3, str x0_4, str x0_5, .int .i64 x0_6, .int .i64 x0_7, .int .i64 x0_8, str x0_9], F]) rfl rfl rfl rfl rfl rfl Tryd.call31 (.sel 0 rfl (.sel 0 rfl (.sel 0 rfl (.nil _)))) (text_Reply.calls _ _ k x0_8 x0_9 ) hs70v) (fun _ => ⟨rfl, rfl, rfl, rfl, rfl, rfl, rfl, rfl, rfl, rfl, trivial⟩) (fun _ => .inr rfl) (fun z => Ent.refl _)) zA)))
 intro g73v
 refine nrm_then (sim_rtn ?_)
 exact rtn_fn () rfl rfl rfl (.sel 2 rfl (.nil _))

def synodref17_FormatOp.f (k : Nat) (x0_0 : Int) (x0_1 : Int) (x0_2 : Int) (x0_3 : List UInt8) (x0_4 : List UInt8) (x0_5 : List UInt8) (x0_6 : Int) (x0_7 : Int) (x0_8 : Int) (x0_9 : List UInt8) : Option (List UInt8) := (if ((decide ((1 : Int) ≤ x0_2)) && (decide (x0_2 ≤ (4 : Int)))) = true then (if 0 ≤ IntKind.i64.wrap (x0_2 - 1) ∧ IntKind.i64.wrap (x0_2 - 1) < (([([103, 101, 116] : List UInt8), ([112, 117, 116] : List UInt8), ([100, 101, 108, 101, 116, 101] : List UInt8), ([115, 119, 97, 112] : List UInt8)] : List (List UInt8)).length : Int) then (some (([([103, 101, 116] : List UInt8), ([112, 117, 116] : List UInt8), ([100, 101, 108, 101, 116, 101] : List UInt8), ([115, 119, 97, 112] : List UInt8)] : List (List UInt8)).getD (IntKind.i64.wrap (x0_2 - 1)).toNat ([] : List UInt8))) else none) else (some ([63] : List UInt8))).bind fun s4v => ((strconv_Itoa.f x0_0).bind fun s19v => (if s19v.length + ([32] : List UInt8).length ≤ 9223372036854775807 then ((strconv_Itoa.f x0_1).bind fun s23v => (if (s19v ++ ([32] : List UInt8)).length + s23v.length ≤ 9223372036854775807 then (if ((s19v ++ ([32] : List UInt8)) ++ s23v).length + ([32] : List UInt8).length ≤ 9223372036854775807 then (if (((s19v ++ ([32] : List UInt8)) ++ s23v) ++ ([32] : List UInt8)).length + s4v.length ≤ 9223372036854775807 then (if ((((s19v ++ ([32] : List UInt8)) ++ s23v) ++ ([32] : List UInt8)) ++ s4v).length + ([32] : List UInt8).length ≤ 9223372036854775807 then ((synodref17_Quote.f k x0_3).bind fun s30v => (if (((((s19v ++ ([32] : List UInt8)) ++ s23v) ++ ([32] : List UInt8)) ++ s4v) ++ ([32] : List UInt8)).length + s30v.length ≤ 9223372036854775807 then (if ((((((s19v ++ ([32] : List UInt8)) ++ s23v) ++ ([32] : List UInt8)) ++ s4v) ++ ([32] : List UInt8)) ++ s30v).length + ([32] : List UInt8).length ≤ 9223372036854775807 then ((synodref17_Quote.f k x0_4).bind fun s35v => (if (((((((s19v ++ ([32] : List UInt8)) ++ s23v) ++ ([32] : List UInt8)) ++ s4v) ++ ([32] : List UInt8)) ++ s30v) ++ ([32] : List UInt8)).length + s35v.length ≤ 9223372036854775807 then (if ((((((((s19v ++ ([32] : List UInt8)) ++ s23v) ++ ([32] : List UInt8)) ++ s4v) ++ ([32] : List UInt8)) ++ s30v) ++ ([32] : List UInt8)) ++ s35v).length + ([32] : List UInt8).length ≤ 9223372036854775807 then ((synodref17_Quote.f k x0_5).bind fun s40v => (if (((((((((s19v ++ ([32] : List UInt8)) ++ s23v) ++ ([32] : List UInt8)) ++ s4v) ++ ([32] : List UInt8)) ++ s30v) ++ ([32] : List UInt8)) ++ s35v) ++ ([32] : List UInt8)).length + s40v.length ≤ 9223372036854775807 then (if ((((((((((s19v ++ ([32] : List UInt8)) ++ s23v) ++ ([32] : List UInt8)) ++ s4v) ++ ([32] : List UInt8)) ++ s30v) ++ ([32] : List UInt8)) ++ s35v) ++ ([32] : List UInt8)) ++ s40v).length + ([32] : List UInt8).length ≤ 9223372036854775807 then ((strconv_Itoa.f x0_6).bind fun s45v => (if (((((((((((s19v ++ ([32] : List UInt8)) ++ s23v) ++ ([32] : List UInt8)) ++ s4v) ++ ([32] : List UInt8)) ++ s30v) ++ ([32] : List UInt8)) ++ s35v) ++ ([32] : List UInt8)) ++ s40v) ++ ([32] : List UInt8)).length + s45v.length ≤ 9223372036854775807 then (if x0_7 = (0 : Int) then (if ((((((((((((s19v ++ ([32] : List UInt8)) ++ s23v) ++ ([32] : List UInt8)) ++ s4v) ++ ([32] : List UInt8)) ++ s30v) ++ ([32] : List UInt8)) ++ s35v) ++ ([32] : List UInt8)) ++ s40v) ++ ([32] : List UInt8)) ++ s45v).length + ([32, 111, 112, 101, 110] : List UInt8).length ≤ 9223372036854775807 then (some (((((((((((((s19v ++ ([32] : List UInt8)) ++ s23v) ++ ([32] : List UInt8)) ++ s4v) ++ ([32] : List UInt8)) ++ s30v) ++ ([32] : List UInt8)) ++ s35v) ++ ([32] : List UInt8)) ++ s40v) ++ ([32] : List UInt8)) ++ s45v) ++ ([32, 111, 112, 101, 110] : List UInt8))) else none) else (if ((((((((((((s19v ++ ([32] : List UInt8)) ++ s23v) ++ ([32] : List UInt8)) ++ s4v) ++ ([32] : List UInt8)) ++ s30v) ++ ([32] : List UInt8)) ++ s35v) ++ ([32] : List UInt8)) ++ s40v) ++ ([32] : List UInt8)) ++ s45v).length + ([32] : List UInt8).length ≤ 9223372036854775807 then ((strconv_Itoa.f x0_7).bind fun s54v => (if (((((((((((((s19v ++ ([32] : List UInt8)) ++ s23v) ++ ([32] : List UInt8)) ++ s4v) ++ ([32] : List UInt8)) ++ s30v) ++ ([32] : List UInt8)) ++ s35v) ++ ([32] : List UInt8)) ++ s40v) ++ ([32] : List UInt8)) ++ s45v) ++ ([32] : List UInt8)).length + s54v.length ≤ 9223372036854775807 then (if ((((((((((((((s19v ++ ([32] : List UInt8)) ++ s23v) ++ ([32] : List UInt8)) ++ s4v) ++ ([32] : List UInt8)) ++ s30v) ++ ([32] : List UInt8)) ++ s35v) ++ ([32] : List UInt8)) ++ s40v) ++ ([32] : List UInt8)) ++ s45v) ++ ([32] : List UInt8)) ++ s54v).length + ([32] : List UInt8).length ≤ 9223372036854775807 then ((synodref17_Reply.f k x0_8 x0_9).bind fun s59v => (if (((((((((((((((s19v ++ ([32] : List UInt8)) ++ s23v) ++ ([32] : List UInt8)) ++ s4v) ++ ([32] : List UInt8)) ++ s30v) ++ ([32] : List UInt8)) ++ s35v) ++ ([32] : List UInt8)) ++ s40v) ++ ([32] : List UInt8)) ++ s45v) ++ ([32] : List UInt8)) ++ s54v) ++ ([32] : List UInt8)).length + s59v.length ≤ 9223372036854775807 then (some ((((((((((((((((s19v ++ ([32] : List UInt8)) ++ s23v) ++ ([32] : List UInt8)) ++ s4v) ++ ([32] : List UInt8)) ++ s30v) ++ ([32] : List UInt8)) ++ s35v) ++ ([32] : List UInt8)) ++ s40v) ++ ([32] : List UInt8)) ++ s45v) ++ ([32] : List UInt8)) ++ s54v) ++ ([32] : List UInt8)) ++ s59v)) else none)) else none) else none)) else none)) else none)) else none) else none)) else none) else none)) else none) else none)) else none) else none) else none) else none)) else none))
theorem synodref17_FormatOp.calls (W : World) (F : HA) (k : Nat) (x0_0 : Int) (x0_1 : Int) (x0_2 : Int) (x0_3 : List UInt8) (x0_4 : List UInt8) (x0_5 : List UInt8) (x0_6 : Int) (x0_7 : Int) (x0_8 : Int) (x0_9 : List UInt8) (hgl : Glb Tryd.prog F) :
    Fn Tryd.prog W 36 [.agg #[.int .i64 x0_0, .int .i64 x0_1, .int .i64 x0_2, str x0_3, str x0_4, str x0_5, .int .i64 x0_6, .int .i64 x0_7, .int .i64 x0_8, str x0_9]] [] F (synodref17_FormatOp.f k x0_0 x0_1 x0_2 x0_3 x0_4 x0_5 x0_6 x0_7 x0_8 x0_9) (fun (r : List UInt8) (y : Unit) => str r) (fun r y => []) := by
 unfold synodref17_FormatOp.f
 refine fn_intro 68 Tryd.func36 rfl Tryd.ntmps36 rfl ?_
 refine sr ?_
 refine simL_eff (re_box rfl rfl rfl) rfl rfl rfl ?_
 intro b1v
 refine va rfl rfl (nx ?_)
 have hlb3v : ListV 1 (V9 tt) ([([103, 101, 116] : List UInt8), ([112, 117, 116] : List UInt8), ([100, 101, 108, 101, 116, 101] : List UInt8), ([115, 119, 97, 112] : List UInt8)] : List (List UInt8)) [[str ([103, 101, 116] : List UInt8)], [str ([112, 117, 116] : List UInt8)], [str ([100, 101, 108, 101, 116, 101] : List UInt8)], [str ([115, 119, 97, 112] : List UInt8)]] := ⟨⟨rfl, one_of (by rfl), rfl⟩, ⟨rfl, one_of (by rfl), rfl⟩, ⟨rfl, one_of (by rfl), rfl⟩, ⟨rfl, one_of (by rfl), rfl⟩, trivial⟩
 refine simL_eff (re_litV (V := (V9 tt)) (xs := ([([103, 101, 116] : List UInt8), ([112, 117, 116] : List UInt8), ([100, 101, 108, 101, 116, 101] : List UInt8), ([115, 119, 97, 112] : List UInt8)] : List (List UInt8))) [[str ([103, 101, 116] : List UInt8)], [str ([112, 117, 116] : List UInt8)], [str ([100, 101, 108, 101, 116, 101] : List UInt8)], [str ([115, 119, 97, 112] : List UInt8)]] rfl rfl Tryd.underlying23 elt9 rfl (by kernel_rfl) rfl hlb3v rfl rfl) rfl rfl rfl ?_
 intro b3v
 refine va rfl rfl (nx ?_)
 refine va rfl rfl (simL_nil (nrm_then ?_))
 refine sim_cut (S := List UInt8) (Unit) (fun s y => [(1, .pointer (some ⟨b1v, 0, none⟩)), (4, str s)]) (fun s y => [obj b1v 76 [.int .i64 x0_0, .int .i64 x0_1, .int .i64 x0_2, str x0_3, str x0_4, str x0_5, .int .i64 x0_6, .int .i64 x0_7, .int .i64 x0_8, str x0_9], F]) ?_ ?_
 refine sr ?_
 refine vq (q_fa rfl rfl Tryd.underlying76 rfl rfl Tryd.sizeOf3 rfl) rfl ?_
 refine vq (q_load rfl rfl Tryd.isAgg3 (.obj 1 rfl rfl)) rfl ?_
 refine vq (q_geq rfl rfl rfl) rfl ?_
 refine vm rfl rfl ?_
 refine simL_valc (b := decide ((1 : Int) ≤ x0_2)) (fun hb18v => RQ.sub (E' := [(1, .pointer (some ⟨b1v, 0, none⟩))]) ⟨rfl, trivial⟩ (q_fa rfl rfl Tryd.underlying76 rfl rfl Tryd.sizeOf3 rfl)) rfl rfl rfl rfl rfl ?_
 refine simL_valc (b := decide ((1 : Int) ≤ x0_2)) (fun hb17v => RQ.sub (E' := [(11, .pointer (some ⟨b1v, 2, none⟩))]) ⟨lk_cv rfl hb17v, trivial⟩ (q_load rfl rfl Tryd.isAgg3 (.obj 1 rfl rfl))) rfl rfl rfl rfl rfl ?_
 refine simL_valc (b := decide ((1 : Int) ≤ x0_2)) (fun hb16v => RQ.sub (E' := [(12, .int .i64 x0_2)]) ⟨lk_cv rfl hb16v, trivial⟩ (q_leq rfl rfl rfl)) rfl rfl rfl rfl rfl ?_
 refine vq (q_and rfl rfl rfl) rfl (simL_nil (nrm_then ?_))
 refine sim_condb rfl (fun h6v => ?_) (fun h7v => ?_)
 refine sim_region ?_
 refine vm rfl rfl ?_
 refine vq (q_fa rfl rfl Tryd.underlying76 rfl rfl Tryd.sizeOf3 rfl) rfl ?_
 refine vq (q_load rfl rfl Tryd.isAgg3 (.obj 1 rfl rfl)) rfl ?_
 refine vq (q_sub rfl rfl rfl) rfl ?_
 refine simL_ask (fun hi8v => ?_)
 refine simL_posV 0 rfl hlb3v rfl (i := (IntKind.i64.wrap (x0_2 - 1)).toNat) (by omega) ([] : List UInt8) (fun b9v b9vo r12v ha10v hV13v hlr14v hcell15v => ?_)
 obtain rfl := hV13v
 refine vq (q_idx rfl rfl rfl ha10v Tryd.underlying23 Tryd.sizeOf9 hi8v.1 hi8v.2) rfl ?_
 refine vq (q_load rfl rfl Tryd.isAgg9 (hcell15v 0 rfl 0 _ rfl)) rfl ?_
 refine va rfl rfl (simL_nil ?_)
 exact nrm_cut (s := (([([103, 101, 116] : List UInt8), ([112, 117, 116] : List UInt8), ([100, 101, 108, 101, 116, 101] : List UInt8), ([115, 119, 97, 112] : List UInt8)] : List (List UInt8)).getD (IntKind.i64.wrap (x0_2 - 1)).toNat ([] : List UInt8))) () ⟨rfl, rfl, trivial⟩ (.sel 1 rfl (.sel 1 rfl (.nil _)))
 refine sim_skip ?_
 exact nrm_cut (s := ([63] : List UInt8)) () ⟨rfl, rfl, trivial⟩ (.sel 1 rfl (.sel 1 rfl (.nil _)))
 intro s4v y5v
 refine sim_seq ?_
 refine sim_bind (fun s19v hs20v => ?_)
 refine sim_ask (fun hb22v => ?_)
 refine sim_bind (fun s23v hs24v => ?_)
 refine sim_ask (fun hb26v => ?_)
 refine sim_ask (fun hb27v => ?_)
 refine sim_ask (fun hb28v => ?_)
 refine sim_ask (fun hb29v => ?_)
 refine sim_bind (fun s30v hs31v => ?_)
 refine sim_ask (fun hb33v => ?_)
 refine sim_ask (fun hb34v => ?_)
 refine sim_bind (fun s35v hs36v => ?_)
 refine sim_ask (fun hb38v => ?_)
 refine sim_ask (fun hb39v => ?_)
 refine sim_bind (fun s40v hs41v => ?_)
 refine sim_ask (fun hb43v => ?_)
 refine sim_ask (fun hb44v => ?_)
 refine sim_bind (fun s45v hs46v => ?_)
 refine sim_ask (fun hb48v => ?_)
 refine sim_draw (Γ := Unit) () [[], [0], [0, 1], [0, 1, 2], [], [4], [0, 1, 2, 4, 5], rL 7, rL 8, [], rL 10, rL 11, [], [12], [0, 1, 2, 4, 5, 6, 12, 13], rL 15, rL 16, [], [17], [0, 1, 2, 4, 5, 6, 12, 13, 14, 17, 18], rL 20, rL 21, [], [22], [0, 1, 2, 4, 5, 6, 12, 13, 14, 17, 18, 19, 22, 23], rL 25, rL 26, [], [27], [0, 1, 2, 4, 5, 6, 12, 13, 14, 17, 18, 19, 22, 23, 24, 27, 28], rL 30, rL 31] [2, 6, 14, 19, 24, 29] [0, 1, 3, 4, 5, 7, 8, 9, 10, 11, 12, 13, 15, 16, 17, 18, 20, 21, 22, 23, 25, 26, 27, 28, 30, 31] (fun i => [[0], [0], [], [1, 2, 3, 4, 5, 6], [0, 1], [0, 1], [], [2, 3, 4, 5, 6], [2, 3, 4, 5, 6], [0, 1, 2, 3, 4, 5, 6], [2, 3, 4, 5, 6], [2, 3, 4, 5, 6], [0, 1, 2], [0, 1, 2], [], [3, 4, 5, 6], [3, 4, 5, 6], [0, 1, 2, 3], [0, 1, 2, 3], [], [4, 5, 6], [4, 5, 6], [0, 1, 2, 3, 4], [0, 1, 2, 3, 4], [], [5, 6], [5, 6], [0, 1, 2, 3, 4, 5], [0, 1, 2, 3, 4, 5], [], [6], [6]].getD i []) (fun i => [[], [], [0, 1, 4, 5, 9, 12, 13, 17, 18, 22, 23, 27, 28], [], [], [], [0, 1, 2, 3, 4, 5, 9, 12, 13, 17, 18, 22, 23, 27, 28], [], [], [], [], [], [], [], [0, 1, 2, 3, 4, 5, 6, 7, 8, 9, 10, 11, 12, 13, 17, 18, 22, 23, 27, 28], [], [], [], [], [0, 1, 2, 3, 4, 5, 6, 7, 8, 9, 10, 11, 12, 13, 14, 15, 16, 17, 18, 22, 23, 27, 28], [], [], [], [], [0, 1, 2, 3, 4, 5, 6, 7, 8, 9, 10, 11, 12, 13, 14, 15, 16, 17, 18, 19, 20, 21, 22, 23, 27, 28], [], [], [], [], rL 29, [], []].getD i []) (fun γ i => [.pointer (some ⟨b1v, 0, none⟩), .int .i64 x0_0, str s19v, str (s19v ++ ([32] : List UInt8)), .pointer (some ⟨b1v, 1, none⟩), .int .i64 x0_1, str s23v, str ((s19v ++ ([32] : List UInt8)) ++ s23v), str (((s19v ++ ([32] : List UInt8)) ++ s23v) ++ ([32] : List UInt8)), str s4v, str ((((s19v ++ ([32] : List UInt8)) ++ s23v) ++ ([32] : List UInt8)) ++ s4v), str (((((s19v ++ ([32] : List UInt8)) ++ s23v) ++ ([32] : List UInt8)) ++ s4v) ++ ([32] : List UInt8)), .pointer (some ⟨b1v, 3, none⟩), str x0_3, str s30v, str ((((((s19v ++ ([32] : List UInt8)) ++ s23v) ++ ([32] : List UInt8)) ++ s4v) ++ ([32] : List UInt8)) ++ s30v), str (((((((s19v ++ ([32] : List UInt8)) ++ s23v) ++ ([32] : List UInt8)) ++ s4v) ++ ([32] : List UInt8)) ++ s30v) ++ ([32] : List UInt8)), .pointer (some ⟨b1v, 4, none⟩), str x0_4, str s35v, str ((((((((s19v ++ ([32] : List UInt8)) ++ s23v) ++ ([32] : List UInt8)) ++ s4v) ++ ([32] : List UInt8)) ++ s30v) ++ ([32] : List UInt8)) ++ s35v), str (((((((((s19v ++ ([32] : List UInt8)) ++ s23v) ++ ([32] : List UInt8)) ++ s4v) ++ ([32] : List UInt8)) ++ s30v) ++ ([32] : List UInt8)) ++ s35v) ++ ([32] : List UInt8)), .pointer (some ⟨b1v, 5, none⟩), str x0_5, str s40v, str ((((((((((s19v ++ ([32] : List UInt8)) ++ s23v) ++ ([32] : List UInt8)) ++ s4v) ++ ([32] : List UInt8)) ++ s30v) ++ ([32] : List UInt8)) ++ s35v) ++ ([32] : List UInt8)) ++ s40v), str (((((((((((s19v ++ ([32] : List UInt8)) ++ s23v) ++ ([32] : List UInt8)) ++ s4v) ++ ([32] : List UInt8)) ++ s30v) ++ ([32] : List UInt8)) ++ s35v) ++ ([32] : List UInt8)) ++ s40v) ++ ([32] : List UInt8)), .pointer (some ⟨b1v, 6, none⟩), .int .i64 x0_6, str s45v, str ((((((((((((s19v ++ ([32] : List UInt8)) ++ s23v) ++ ([32] : List UInt8)) ++ s4v) ++ ([32] : List UInt8)) ++ s30v) ++ ([32] : List UInt8)) ++ s35v) ++ ([32] : List UInt8)) ++ s40v) ++ ([32] : List UInt8)) ++ s45v), str ((((((((((((s19v ++ ([32] : List UInt8)) ++ s23v) ++ ([32] : List UInt8)) ++ s4v) ++ ([32] : List UInt8)) ++ s30v) ++ ([32] : List UInt8)) ++ s35v) ++ ([32] : List UInt8)) ++ s40v) ++ ([32] : List UInt8)) ++ s45v)].getD i undef) (fun j γ => [[obj b1v 76 [.int .i64 x0_0, .int .i64 x0_1, .int .i64 x0_2, str x0_3, str x0_4, str x0_5, .int .i64 x0_6, .int .i64 x0_7, .int .i64 x0_8, str x0_9], F], [obj b1v 76 [.int .i64 x0_0, .int .i64 x0_1, .int .i64 x0_2, str x0_3, str x0_4, str x0_5, .int .i64 x0_6, .int .i64 x0_7, .int .i64 x0_8, str x0_9], F], [obj b1v 76 [.int .i64 x0_0, .int .i64 x0_1, .int .i64 x0_2, str x0_3, str x0_4, str x0_5, .int .i64 x0_6, .int .i64 x0_7, .int .i64 x0_8, str x0_9], F], [obj b1v 76 [.int .i64 x0_0, .int .i64 x0_1, .int .i64 x0_2, str x0_3, str x0_4, str x0_5, .int .i64 x0_6, .int .i64 x0_7, .int .i64 x0_8, str x0_9], F], [obj b1v 76 [.int .i64 x0_0, .int .i64 x0_1, .int .i64 x0_2, str x0_3, str x0_4, str x0_5, .int .i64 x0_6, .int .i64 x0_7, .int .i64 x0_8, str x0_9], F], [obj b1v 76 [.int .i64 x0_0, .int .i64 x0_1, .int .i64 x0_2, str x0_3, str x0_4, str x0_5, .int .i64 x0_6, .int .i64 x0_7, .int .i64 x0_8, str x0_9], F], [obj b1v 76 [.int .i64 x0_0, .int .i64 x0_1, .int .i64 x0_2, str x0_3, str x0_4, str x0_5, .int .i64 x0_6, .int .i64 x0_7, .int .i64 x0_8, str x0_9], F]].getD j []) (fun γ => [(1, .pointer (some ⟨b1v, 0, none⟩)), (5, str ((((((((((((s19v ++ ([32] : List UInt8)) ++ s23v) ++ ([32] : List UInt8)) ++ s4v) ++ ([32] : List UInt8)) ++ s30v) ++ ([32] : List UInt8)) ++ s35v) ++ ([32] : List UInt8)) ++ s40v) ++ ([32] : List UInt8)) ++ s45v))]) mixed (by decide) (by decide) (by decide) (by decide) (by decide) (by decide) (by decide) 68 rfl (by decide) (by decide) (by decide) (Ent.refl _) ?_ ?_ (fun _ => ⟨rfl, rfl, trivial⟩) ?_
 exact (aq rfl (fun γ => qp rfl rfl (.o (s := 1) rfl (by decide) .nil) (q_fa rfl rfl Tryd.underlying76 rfl rfl Tryd.sizeOf3 rfl) rfl) (aq rfl (fun γ => qp rfl rfl (.v 0 rfl rfl .nil) (q_load rfl rfl Tryd.isAgg3 (.obj 0 rfl rfl)) rfl) (ac (fun γ => (ac (qp rfl rfl (.v 2 rfl rfl .nil) (q_cat rfl rfl rfl hb22v) rfl) (ac (qp rfl rfl (.v 2 rfl rfl .nil) (q_cat rfl rfl rfl hb22v) rfl) (ac (qp rfl rfl (.v 2 rfl rfl .nil) (q_cat rfl rfl rfl hb22v) rfl) (ac (qp rfl rfl (.v 2 rfl rfl .nil) (q_cat rfl rfl rfl hb22v) rfl) (ac (qp rfl rfl (.v 2 rfl rfl .nil) (q_cat rfl rfl rfl hb22v) rfl) (ac (qp rfl rfl (.v 2 rfl rfl .nil) (q_cat rfl rfl rfl hb22v) rfl) zA))))))) (ac (fun γ => (ac (qp rfl rfl (.o (s := 1) rfl (by decide) .nil) (q_fa rfl rfl Tryd.underlying76 rfl rfl Tryd.sizeOf3 rfl) rfl) (ac (qp rfl rfl (.o (s := 1) rfl (by decide) .nil) (q_fa rfl rfl Tryd.underlying76 rfl rfl Tryd.sizeOf3 rfl) rfl) zA))) (ac (fun γ => (ac (qp rfl rfl (.v 4 rfl rfl .nil) (q_load rfl rfl Tryd.isAgg3 (.obj 0 rfl rfl)) rfl) (ac (qp rfl rfl (.v 4 rfl rfl .nil) (q_load rfl rfl Tryd.isAgg3 (.obj 0 rfl rfl)) rfl) zA))) (ac (fun γ => (ac (qp rfl rfl (.v 3 rfl rfl (.v 6 rfl rfl .nil)) (q_cat rfl rfl rfl hb26v) rfl) (ac (qp rfl rfl (.v 3 rfl rfl (.v 6 rfl rfl .nil)) (q_cat rfl rfl rfl hb26v) rfl) (ac (qp rfl rfl (.v 3 rfl rfl (.v 6 rfl rfl .nil)) (q_cat rfl rfl rfl hb26v) rfl) (ac (qp rfl rfl (.v 3 rfl rfl (.v 6 rfl rfl .nil)) (q_cat rfl rfl rfl hb26v) rfl) (ac (qp rfl rfl (.v 3 rfl rfl (.v 6 rfl rfl .nil)) (q_cat rfl rfl rfl hb26v) rfl) zA)))))) (ac (fun γ => (ac (qp rfl rfl (.v 7 rfl rfl .nil) (q_cat rfl rfl rfl hb27v) rfl) (ac (qp rfl rfl (.v 7 rfl rfl .nil) (q_cat rfl rfl rfl hb27v) rfl) (ac (qp rfl rfl (.v 7 rfl rfl .nil) (q_cat rfl rfl rfl hb27v) rfl) (ac (qp rfl rfl (.v 7 rfl rfl .nil) (q_cat rfl rfl rfl hb27v) rfl) (ac (qp rfl rfl (.v 7 rfl rfl .nil) (q_cat rfl rfl rfl hb27v) rfl) zA)))))) (ac (fun γ => (ac (qm rfl (.o (s := 4) rfl (by decide) .nil) rfl) (ac (qm rfl (.o (s := 4) rfl (by decide) .nil) rfl) (ac (qm rfl (.o (s := 4) rfl (by decide) .nil) rfl) (ac (qm rfl (.o (s := 4) rfl (by decide) .nil) rfl) (ac (qm rfl (.o (s := 4) rfl (by decide) .nil) rfl) (ac (qm rfl (.o (s := 4) rfl (by decide) .nil) rfl) (ac (qm rfl (.o (s := 4) rfl (by decide) .nil) rfl) zA)))))))) (ac (fun γ => (ac (qp rfl rfl (.v 8 rfl rfl (.v 9 rfl rfl .nil)) (q_cat rfl rfl rfl hb28v) rfl) (ac (qp rfl rfl (.v 8 rfl rfl (.v 9 rfl rfl .nil)) (q_cat rfl rfl rfl hb28v) rfl) (ac (qp rfl rfl (.v 8 rfl rfl (.v 9 rfl rfl .nil)) (q_cat rfl rfl rfl hb28v) rfl) (ac (qp rfl rfl (.v 8 rfl rfl (.v 9 rfl rfl .nil)) (q_cat rfl rfl rfl hb28v) rfl) (ac (qp rfl rfl (.v 8 rfl rfl (.v 9 rfl rfl .nil)) (q_cat rfl rfl rfl hb28v) rfl) zA)))))) (ac (fun γ => (ac (qp rfl rfl (.v 10 rfl rfl .nil) (q_cat rfl rfl rfl hb29v) rfl) (ac (qp rfl rfl (.v 10 rfl rfl .nil) (q_cat rfl rfl rfl hb29v) rfl) (ac (qp rfl rfl (.v 10 rfl rfl .nil) (q_cat rfl rfl rfl hb29v) rfl) (ac (qp rfl rfl (.v 10 rfl rfl .nil) (q_cat rfl rfl rfl hb29v) rfl) (ac (qp rfl rfl (.v 10 rfl rfl .nil) (q_cat rfl rfl rfl hb29v) rfl) zA)))))) (ac (fun γ => (ac (qp rfl rfl (.o (s := 1) rfl (by decide) .nil) (q_fa rfl rfl Tryd.underlying76 rfl rfl Tryd.sizeOf9 rfl) rfl) (ac (qp rfl rfl (.o (s := 1) rfl (by decide) .nil) (q_fa rfl rfl Tryd.underlying76 rfl rfl Tryd.sizeOf9 rfl) rfl) (ac (qp rfl rfl (.o (s := 1) rfl (by decide) .nil) (q_fa rfl rfl Tryd.underlying76 rfl rfl Tryd.sizeOf9 rfl) rfl) zA)))) (ac (fun γ => (ac (qp rfl rfl (.v 12 rfl rfl .nil) (q_load rfl rfl Tryd.isAgg9 (.obj 0 rfl rfl)) rfl) (ac (qp rfl rfl (.v 12 rfl rfl .nil) (q_load rfl rfl Tryd.isAgg9 (.obj 0 rfl rfl)) rfl) (ac (qp rfl rfl (.v 12 rfl rfl .nil) (q_load rfl rfl Tryd.isAgg9 (.obj 0 rfl rfl)) rfl) zA)))) (ac (fun γ => (ac (qp rfl rfl (.v 11 rfl rfl (.v 14 rfl rfl .nil)) (q_cat rfl rfl rfl hb33v) rfl) (ac (qp rfl rfl (.v 11 rfl rfl (.v 14 rfl rfl .nil)) (q_cat rfl rfl rfl hb33v) rfl) (ac (qp rfl rfl (.v 11 rfl rfl (.v 14 rfl rfl .nil)) (q_cat rfl rfl rfl hb33v) rfl) (ac (qp rfl rfl (.v 11 rfl rfl (.v 14 rfl rfl .nil)) (q_cat rfl rfl rfl hb33v) rfl) zA))))) (ac (fun γ => (ac (qp rfl rfl (.v 15 rfl rfl .nil) (q_cat rfl rfl rfl hb34v) rfl) (ac (qp rfl rfl (.v 15 rfl rfl .nil) (q_cat rfl rfl rfl hb34v) rfl) (ac (qp rfl rfl (.v 15 rfl rfl .nil) (q_cat rfl rfl rfl hb34v) rfl) (ac (qp rfl rfl (.v 15 rfl rfl .nil) (q_cat rfl rfl rfl hb34v) rfl) zA))))) (ac (fun γ => (ac (qp rfl rfl (.o (s := 1) rfl (by decide) .nil) (q_fa rfl rfl Tryd.underlying76 rfl rfl Tryd.sizeOf9 rfl) rfl) (ac (qp rfl rfl (.o (s := 1) rfl (by decide) .nil) (q_fa rfl rfl Tryd.underlying76 rfl rfl Tryd.sizeOf9 rfl) rfl) (ac (qp rfl rfl (.o (s := 1) rfl (by decide) .nil) (q_fa rfl rfl Tryd.underlying76 rfl rfl Tryd.sizeOf9 rfl) rfl) (ac (qp rfl rfl (.o (s := 1) rfl (by decide) .nil) (q_fa rfl rfl Tryd.underlying76 rfl rfl Tryd.sizeOf9 rfl) rfl) zA))))) (ac (fun γ => (ac (qp rfl rfl (.v 17 rfl rfl .nil) (q_load rfl rfl Tryd.isAgg9 (.obj 0 rfl rfl)) rfl) (ac (qp rfl rfl (.v 17 rfl rfl .nil) (q_load rfl rfl Tryd.isAgg9 (.obj 0 rfl rfl)) rfl) (ac (qp rfl rfl (.v 17 rfl rfl .nil) (q_load rfl rfl Tryd.isAgg9 (.obj 0 rfl rfl)) rfl) (ac (qp rfl rfl (.v 17 rfl rfl .nil) (q_load rfl rfl Tryd.isAgg9 (.obj 0 rfl rfl)) rfl) zA))))) (ac (fun γ => (ac (qp rfl rfl (.v 16 rfl rfl (.v 19 rfl rfl .nil)) (q_cat rfl rfl rfl hb38v) rfl) (ac (qp rfl rfl (.v 16 rfl rfl (.v 19 rfl rfl .nil)) (q_cat rfl rfl rfl hb38v) rfl) (ac (qp rfl rfl (.v 16 rfl rfl (.v 19 rfl rfl .nil)) (q_cat rfl rfl rfl hb38v) rfl) zA)))) (ac (fun γ => (ac (qp rfl rfl (.v 20 rfl rfl .nil) (q_cat rfl rfl rfl hb39v) rfl) (ac (qp rfl rfl (.v 20 rfl rfl .nil) (q_cat rfl rfl rfl hb39v) rfl) (ac (qp rfl rfl (.v 20 rfl rfl .nil) (q_cat rfl rfl rfl hb39v) rfl) zA)))) (ac (fun γ => (ac (qp rfl rfl (.o (s := 1) rfl (by decide) .nil) (q_fa rfl rfl Tryd.underlying76 rfl rfl Tryd.sizeOf9 rfl) rfl) (ac (qp rfl rfl (.o (s := 1) rfl (by decide) .nil) (q_fa rfl rfl Tryd.underlying76 rfl rfl Tryd.sizeOf9 rfl) rfl) (ac (qp rfl rfl (.o (s := 1) rfl (by decide) .nil) (q_fa rfl rfl Tryd.underlying76 rfl rfl Tryd.sizeOf9 rfl) rfl) (ac (qp rfl rfl (.o (s := 1) rfl (by decide) .nil) (q_fa rfl rfl Tryd.underlying76 rfl rfl Tryd.sizeOf9 rfl) rfl) (ac (qp rfl rfl (.o (s := 1) rfl (by decide) .nil) (q_fa rfl rfl Tryd.underlying76 rfl rfl Tryd.sizeOf9 rfl) rfl) zA)))))) (ac (fun γ => (ac (qp rfl rfl (.v 22 rfl rfl .nil) (q_load rfl rfl Tryd.isAgg9 (.obj 0 rfl rfl)) rfl) (ac (qp rfl rfl (.v 22 rfl rfl .nil) (q_load rfl rfl Tryd.isAgg9 (.obj 0 rfl rfl)) rfl) (ac (qp rfl rfl (.v 22 rfl rfl .nil) (q_load rfl rfl Tryd.isAgg9 (.obj 0 rfl rfl)) rfl) (ac (qp rfl rfl (.v 22 rfl rfl .nil) (q_load rfl rfl Tryd.isAgg9 (.obj 0 rfl rfl)) rfl) (ac (qp rfl rfl (.v 22 rfl rfl .nil) (q_load rfl rfl Tryd.isAgg9 (.obj 0 rfl rfl)) rfl) zA)))))) (ac (fun γ => (ac (qp rfl rfl (.v 21 rfl rfl (.v 24 rfl rfl .nil)) (q_cat rfl rfl rfl hb43v) rfl) (ac (qp rfl rfl (.v 21 rfl rfl (.v 24 rfl rfl .nil)) (q_cat rfl rfl rfl hb43v) rfl) zA))) (ac (fun γ => (ac (qp rfl rfl (.v 25 rfl rfl .nil) (q_cat rfl rfl rfl hb44v) rfl) (ac (qp rfl rfl (.v 25 rfl rfl .nil) (q_cat rfl rfl rfl hb44v) rfl) zA))) (ac (fun γ => (ac (qp rfl rfl (.o (s := 1) rfl (by decide) .nil) (q_fa rfl rfl Tryd.underlying76 rfl rfl Tryd.sizeOf3 rfl) rfl) (ac (qp rfl rfl (.o (s := 1) rfl (by decide) .nil) (q_fa rfl rfl Tryd.underlying76 rfl rfl Tryd.sizeOf3 rfl) rfl) (ac (qp rfl rfl (.o (s := 1) rfl (by decide) .nil) (q_fa rfl rfl Tryd.underlying76 rfl rfl Tryd.sizeOf3 rfl) rfl) (ac (qp rfl rfl (.o (s := 1) rfl (by decide) .nil) (q_fa rfl rfl Tryd.underlying76 rfl rfl Tryd.sizeOf3 rfl) rfl) (ac (qp rfl rfl (.o (s := 1) rfl (by decide) .nil) (q_fa rfl rfl Tryd.underlying76 rfl rfl Tryd.sizeOf3 rfl) rfl) (ac (qp rfl rfl (.o (s := 1) rfl (by decide) .nil) (q_fa rfl rfl Tryd.underlying76 rfl rfl Tryd.sizeOf3 rfl) rfl) zA))))))) (ac (fun γ => (ac (qp rfl rfl (.v 27 rfl rfl .nil) (q_load rfl rfl Tryd.isAgg3 (.obj 0 rfl rfl)) rfl) (ac (qp rfl rfl (.v 27 rfl rfl .nil) (q_load rfl rfl Tryd.isAgg3 (.obj 0 rfl rfl)) rfl) (ac (qp rfl rfl (.v 27 rfl rfl .nil) (q_load rfl rfl Tryd.isAgg3 (.obj 0 rfl rfl)) rfl) (ac (qp rfl rfl (.v 27 rfl rfl .nil) (q_load rfl rfl Tryd.isAgg3 (.obj 0 rfl rfl)) rfl) (ac (qp rfl rfl (.v 27 rfl rfl .nil) (q_load rfl rfl Tryd.isAgg3 (.obj 0 rfl rfl)) rfl) (ac (qp rfl rfl (.v 27 rfl rfl .nil) (q_load rfl rfl Tryd.isAgg3 (.obj 0 rfl rfl)) rfl) zA))))))) (aq rfl (fun γ => qp rfl rfl (.v 26 rfl rfl (.v 29 rfl rfl .nil)) (q_cat rfl rfl rfl hb48v) rfl) (aq rfl (fun γ => qp rfl rfl (.v 30 rfl rfl .nil) (q_asg rfl rfl) rfl) zA))))))))))))))))))))))))))
 exact (ac (fun γ => eo (Z := Unit) (fun z => ()) rfl rfl (.v 1 rfl rfl .nil) (re_call (vs := [.int .i64 x0_0]) (cap := []) (A := []) (rst := [obj b1v 76 [.int .i64 x0_0, .int .i64 x0_1, .int .i64 x0_2, str x0_3, str x0_4, str x0_5, .int .i64 x0_6, .int .i64 x0_7, .int .i64 x0_8, str x0_9], F]) rfl rfl rfl rfl rfl rfl Tryd.call51 (.sel 0 rfl (.sel 0 rfl (.nil _))) (strconv_Itoa.calls _ _ x0_0 (hgl.lend 1 rfl)) hs20v) (fun _ => ⟨rfl, rfl, rfl, rfl, rfl, rfl, rfl, rfl, rfl, rfl, rfl, rfl, rfl, trivial⟩) (fun _ => .inr rfl) (fun z => Ent.refl _)) (ac (fun γ => eo (Z := Unit) (fun z => ()) rfl rfl (.v 5 rfl rfl .nil) (re_call (vs := [.int .i64 x0_1]) (cap := []) (A := []) (rst := [obj b1v 76 [.int .i64 x0_0, .int .i64 x0_1, .int .i64 x0_2, str x0_3, str x0_4, str x0_5, .int .i64 x0_6, .int .i64 x0_7, .int .i64 x0_8, str x0_9], F]) rfl rfl rfl rfl rfl rfl Tryd.call51 (.sel 0 rfl (.sel 0 rfl (.nil _))) (strconv_Itoa.calls _ _ x0_1 (hgl.lend 1 rfl)) hs24v) (fun _ => ⟨rfl, rfl, rfl, rfl, rfl, rfl, rfl, rfl, rfl, rfl, rfl, rfl, rfl, rfl, rfl, trivial⟩) (fun _ => .inr rfl) (fun z => Ent.refl _)) (ac (fun γ => eo (Z := Unit) (fun z => ()) rfl rfl (.v 13 rfl rfl .nil) (re_call (vs := [str x0_3]) (cap := []) (A := []) (rst := [obj b1v 76 [.int .i64 x0_0, .int .i64 x0_1, .int .i64 x0_2, str x0_3, str x0_4, str x0_5, .int .i64 x0_6, .int .i64 x0_7, .int .i64 x0_8, str x0_9], F]) rfl rfl rfl rfl rfl rfl Tryd.call17 (.sel 0 rfl (.sel 0 rfl (.nil _))) (synodref17_Quote.calls _ _ k x0_3 ) hs31v) (fun _ => ⟨rfl, rfl, rfl, rfl, rfl, rfl, rfl, rfl, rfl, rfl, rfl, rfl, rfl, rfl, rfl, rfl, rfl, rfl, rfl, rfl, trivial⟩) (fun _ => .inr rfl) (fun z => Ent.refl _)) (ac (fun γ => eo (Z := Unit) (fun z => ()) rfl rfl (.v 18 rfl rfl .nil) (re_call (vs := [str x0_4]) (cap := []) (A := []) (rst := [obj b1v 76 [.int .i64 x0_0, .int .i64 x0_1, .int .i64 x0_2, str x0_3, str x0_4, str x0_5, .int .i64 x0_6, .int .i64 x0_7, .int .i64 x0_8, str x0_9], F]) rfl rfl rfl rfl rfl rfl Tryd.call17 (.sel 0 rfl (.sel 0 rfl (.nil _))) (synodref17_Quote.calls _ _ k x0_4 ) hs36v) (fun _ => ⟨rfl, rfl, rfl, rfl, rfl, rfl, rfl, rfl, rfl, rfl, rfl, rfl, rfl, rfl, rfl, rfl, rfl, rfl, rfl, rfl, rfl, rfl, rfl, trivial⟩) (fun _ => .inr rfl) (fun z => Ent.refl _)) (ac (fun γ => eo (Z := Unit) (fun z => ()) rfl rfl (.v 23 rfl rfl .nil) (re_call (vs := [str x0_5]) (cap := []) (A := []) (rst := [obj b1v 76 [.int .i64 x0_0, .int .i64 x0_1, .int .i64 x0_2, str x0_3, str x0_4, str x0_5, .int .i64 x0_6, .int .i64 x0_7, .int .i64 x0_8, str x0_9], F]) rfl rfl rfl rfl rfl rfl Tryd.call17 (.sel 0 rfl (.sel 0 rfl (.nil _))) (synodref17_Quote.calls _ _ k x0_5 ) hs41v) (fun _ => ⟨rfl, rfl, rfl, rfl, rfl, rfl, rfl, rfl, rfl, rfl, rfl, rfl, rfl, rfl, rfl, rfl, rfl, rfl, rfl, rfl, rfl, rfl, rfl, rfl, rfl, rfl, trivial⟩) (fun _ => .inr rfl) (fun z => Ent.refl _)) (ac (fun γ => eo (Z := Unit) (fun z => ()) rfl rfl (.v 28 rfl rfl .nil) (re_call (vs := [.int .i64 x0_6]) (cap := []) (A := []) (rst := [obj b1v 76 [.int .i64 x0_0, .int .i64 x0_1, .int .i64 x0_2, str x0_3, str x0_4, str x0_5, .int .i64 x0_6, .int .i64 x0_7, .int .i64 x0_8, str x0_9], F]) rfl rfl rfl rfl rfl rfl Tryd.call51 (.sel 0 rfl (.sel 0 rfl (.nil _))) (strconv_Itoa.calls _ _ x0_6 (hgl.lend 1 rfl)) hs46v) (fun _ => ⟨rfl, rfl, rfl, rfl, rfl, rfl, rfl, rfl, rfl, rfl, rfl, rfl, rfl, rfl, rfl, rfl, rfl, rfl, rfl, rfl, rfl, rfl, rfl, rfl, rfl, rfl, rfl, rfl, rfl, trivial⟩) (fun _ => .inr rfl) (fun z => Ent.refl _)) zA))))))
 intro g49v
 refine nrm_then (sim_seq (sr ?_))
 refine vq (q_fa rfl rfl Tryd.underlying76 rfl rfl Tryd.sizeOf3 rfl) rfl ?_
 refine vq (q_load rfl rfl Tryd.isAgg3 (.obj 0 rfl rfl)) rfl ?_
 refine vq (q_eql rfl rfl rfl) rfl (simL_nil (nrm_then ?_))
 refine sim_cond rfl (fun h50v => ?_) (fun h51v => ?_)
 refine sr ?_
 refine vm rfl rfl ?_
 refine simL_ask (fun hb52v => ?_)
 refine vq (q_cat rfl rfl rfl hb52v) rfl ?_
 refine va rfl rfl (simL_nil (nrm_then (sim_rtn ?_)))
 refine rtn_then ?_
 exact rtn_fn () rfl rfl rfl (.sel 1 rfl (.nil _))
 refine sim_skip ?_
 refine nrm_then (sim_seq ?_)
 refine sim_ask (fun hb53v => ?_)
 refine sim_bind (fun s54v hs55v => ?_)
 refine sim_ask (fun hb57v => ?_)
 refine sim_ask (fun hb58v => ?_)
 refine sim_bind (fun s59v hs60v => ?_)
 refine sim_ask (fun hb62v => ?_)
 refine sim_draw (Γ := Unit) () [[], [0], [], [2], [2, 3], rL 5, rL 6, [], [7], [2, 3, 4, 7, 8], rL 10, rL 11] [4, 9] [0, 1, 2, 3, 5, 6, 7, 8, 10, 11] (fun i => [[0, 1, 2], [0, 1, 2], [0], [0], [], [1, 2], [1, 2], [0, 1], [0, 1], [], [2], [2]].getD i []) (fun i => [[], [], [], [], [0, 1, 2, 3, 7, 8], [], [], [], [], rL 9, [], []].getD i []) (fun γ i => [str ((((((((((((s19v ++ ([32] : List UInt8)) ++ s23v) ++ ([32] : List UInt8)) ++ s4v) ++ ([32] : List UInt8)) ++ s30v) ++ ([32] : List UInt8)) ++ s35v) ++ ([32] : List UInt8)) ++ s40v) ++ ([32] : List UInt8)) ++ s45v), str (((((((((((((s19v ++ ([32] : List UInt8)) ++ s23v) ++ ([32] : List UInt8)) ++ s4v) ++ ([32] : List UInt8)) ++ s30v) ++ ([32] : List UInt8)) ++ s35v) ++ ([32] : List UInt8)) ++ s40v) ++ ([32] : List UInt8)) ++ s45v) ++ ([32] : List UInt8)), .pointer (some ⟨b1v, 7, none⟩), .int .i64 x0_7, str s54v, str ((((((((((((((s19v ++ ([32] : List UInt8)) ++ s23v) ++ ([32] : List UInt8)) ++ s4v) ++ ([32] : List UInt8)) ++ s30v) ++ ([32] : List UInt8)) ++ s35v) ++ ([32] : List UInt8)) ++ s40v) ++ ([32] : List UInt8)) ++ s45v) ++ ([32] : List UInt8)) ++ s54v), str (((((((((((((((s19v ++ ([32] : List UInt8)) ++ s23v) ++ ([32] : List UInt8)) ++ s4v) ++ ([32] : List UInt8)) ++ s30v) ++ ([32] : List UInt8)) ++ s35v) ++ ([32] : List UInt8)) ++ s40v) ++ ([32] : List UInt8)) ++ s45v) ++ ([32] : List UInt8)) ++ s54v) ++ ([32] : List UInt8)), .pointer (some ⟨b1v, 8, none⟩), .agg #[.int .i64 x0_8, str x0_9], str s59v, str ((((((((((((((((s19v ++ ([32] : List UInt8)) ++ s23v) ++ ([32] : List UInt8)) ++ s4v) ++ ([32] : List UInt8)) ++ s30v) ++ ([32] : List UInt8)) ++ s35v) ++ ([32] : List UInt8)) ++ s40v) ++ ([32] : List UInt8)) ++ s45v) ++ ([32] : List UInt8)) ++ s54v) ++ ([32] : List UInt8)) ++ s59v), str ((((((((((((((((s19v ++ ([32] : List UInt8)) ++ s23v) ++ ([32] : List UInt8)) ++ s4v) ++ ([32] : List UInt8)) ++ s30v) ++ ([32] : List UInt8)) ++ s35v) ++ ([32] : List UInt8)) ++ s40v) ++ ([32] : List UInt8)) ++ s45v) ++ ([32] : List UInt8)) ++ s54v) ++ ([32] : List UInt8)) ++ s59v)].getD i undef) (fun j γ => [[obj b1v 76 [.int .i64 x0_0, .int .i64 x0_1, .int .i64 x0_2, str x0_3, str x0_4, str x0_5, .int .i64 x0_6, .int .i64 x0_7, .int .i64 x0_8, str x0_9], F], [obj b1v 76 [.int .i64 x0_0, .int .i64 x0_1, .int .i64 x0_2, str x0_3, str x0_4, str x0_5, .int .i64 x0_6, .int .i64 x0_7, .int .i64 x0_8, str x0_9], F], [obj b1v 76 [.int .i64 x0_0, .int .i64 x0_1, .int .i64 x0_2, str x0_3, str x0_4, str x0_5, .int .i64 x0_6, .int .i64 x0_7, .int .i64 x0_8, str x0_9], F]].getD j []) (fun γ => [(2, str ((((((((((((((((s19v ++ ([32] : List UInt8)) ++ s23v) ++ ([32] : List UInt8)) ++ s4v) ++ ([32] : List UInt8)) ++ s30v) ++ ([32] : List UInt8)) ++ s35v) ++ ([32] : List UInt8)) ++ s40v) ++ ([32] : List UInt8)) ++ s45v) ++ ([32] : List UInt8)) ++ s54v) ++ ([32] : List UInt8)) ++ s59v))]) mixed (by decide) (by decide) (by decide) (by decide) (by decide) (by decide) (by decide) 68 rfl (by decide) (by decide) (by decide) (Ent.refl _) ?_ ?_ (fun _ => ⟨rfl, trivial⟩) ?_
 exact (ac (fun γ => (ac (qm rfl (.o (s := 5) rfl (by decide) .nil) rfl) (ac (qm rfl (.o (s := 5) rfl (by decide) .nil) rfl) (ac (qm rfl (.o (s := 5) rfl (by decide) .nil) rfl) zA)))) (ac (fun γ => (ac (qp rfl rfl (.v 0 rfl rfl .nil) (q_cat rfl rfl rfl hb53v) rfl) (ac (qp rfl rfl (.v 0 rfl rfl .nil) (q_cat rfl rfl rfl hb53v) rfl) (ac (qp rfl rfl (.v 0 rfl rfl .nil) (q_cat rfl rfl rfl hb53v) rfl) zA)))) (aq rfl (fun γ => qp rfl rfl (.o (s := 1) rfl (by decide) .nil) (q_fa rfl rfl Tryd.underlying76 rfl rfl Tryd.sizeOf3 rfl) rfl) (aq rfl (fun γ => qp rfl rfl (.v 2 rfl rfl .nil) (q_load rfl rfl Tryd.isAgg3 (.obj 0 rfl rfl)) rfl) (ac (fun γ => (ac (qp rfl rfl (.v 1 rfl rfl (.v 4 rfl rfl .nil)) (q_cat rfl rfl rfl hb57v) rfl) (ac (qp rfl rfl (.v 1 rfl rfl (.v 4 rfl rfl .nil)) (q_cat rfl rfl rfl hb57v) rfl) zA))) (ac (fun γ => (ac (qp rfl rfl (.v 5 rfl rfl .nil) (q_cat rfl rfl rfl hb58v) rfl) (ac (qp rfl rfl (.v 5 rfl rfl .nil) (q_cat rfl rfl rfl hb58v) rfl) zA))) (ac (fun γ => (ac (qp rfl rfl (.o (s := 1) rfl (by decide) .nil) (q_fa rfl rfl Tryd.underlying76 rfl rfl Tryd.sizeOf74 rfl) rfl) (ac (qp rfl rfl (.o (s := 1) rfl (by decide) .nil) (q_fa rfl rfl Tryd.underlying76 rfl rfl Tryd.sizeOf74 rfl) rfl) zA))) (ac (fun γ => (ac (qp rfl rfl (.v 7 rfl rfl .nil) (q_loads (vs := [.int .i64 x0_8, str x0_9]) rfl rfl Tryd.isAgg74 Tryd.sizeOf74 rfl (cells_obj 0 rfl (cells_lit rfl))) rfl) (ac (qp rfl rfl (.v 7 rfl rfl .nil) (q_loads (vs := [.int .i64 x0_8, str x0_9]) rfl rfl Tryd.isAgg74 Tryd.sizeOf74 rfl (cells_obj 0 rfl (cells_lit rfl))) rfl) zA))) (aq rfl (fun γ => qp rfl rfl (.v 6 rfl rfl (.v 9 rfl rfl .nil)) (q_cat rfl rfl rfl hb62v) rfl) (aq rfl (fun γ => qp rfl rfl (.v 10 rfl rfl .nil) (q_asg rfl rfl) rfl) zA))))))))))
 exact (ac (fun γ => eo (Z := Unit) (fun z => ()) rfl rfl (.v 3 rfl rfl .nil) (re_call (vs := [.int .i64 x0_7]) (cap := []) (A := []) (rst := [obj b1v 76 [.int .i64 x0_0, .int .i64 x0_1, .int .i64 x0_2, str x0_3, str x0_4, str x0_5, .int .i64 x0_6, .int .i64 x0_7, .int .i64 x0_8, str x0_9], F]) rfl rfl rfl rfl rfl rfl Tryd.call51 (.sel 0 rfl (.sel 0 rfl (.nil _))) (strconv_Itoa.calls _ _ x0_7 (hgl.lend 1 rfl)) hs55v) (fun _ => ⟨rfl, rfl, rfl, rfl, rfl, rfl, trivial⟩) (fun _ => .inr rfl) (fun z => Ent.refl _)) (ac (fun γ => eo (Z := Unit) (fun z => ()) rfl rfl (.v 8 rfl rfl .nil) (re_call (vs := [.agg #[.int .i64 x0_8, str x0_9]]) (cap := []) (A := []) (rst := [obj b1v 76 [.int .i64 x0_0, .int .i64 x0_1, .int .i64 x0_2, str x0_3, str x0_4, str x0_5, .int .i64 x0_6, .int .i64 x0_7, .int .i64 x0_8, str x0_9], F]) rfl rfl rfl rfl rfl rfl Tryd.call32 (.sel 0 rfl (.sel 0 rfl (.nil _))) (synodref17_Reply.calls _ _ k x0_8 x0_9 ) hs60v) (fun _ => ⟨rfl, rfl, rfl, rfl, rfl, rfl, rfl, rfl, rfl, trivial⟩) (fun _ => .inr rfl) (fun z => Ent.refl _)) zA))
 intro g63v
 refine nrm_then (sim_rtn ?_)
 exact rtn_fn () rfl rfl rfl (.sel 1 rfl (.nil _))
end Go.Proofs.YtbcnegennmpliaaDoor
