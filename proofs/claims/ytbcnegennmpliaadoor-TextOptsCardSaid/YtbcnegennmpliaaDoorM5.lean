/- Texts that lead to the law TextOpts: G4. Conditions: as each says. -/
import Derived.Test.YtbcnegennmpliaaDoorM4
namespace Go.Proofs.YtbcnegennmpliaaDoor
open Go.RowKit
set_option linter.unusedVariables false
set_option linter.unusedSimpArgs false
set_option maxRecDepth 20000
set_option maxHeartbeats 20000000
def synodlaw17_first.f (k : Nat)  : Option (Bool) := (text_Words.f k ([112, 117, 116, 32, 32, 49, 32, 50, 32, 97, 32, 34, 98, 32, 99, 34] : List UInt8)).bind fun s1v => ((text_ParseAct.f k ([116, 105, 99, 107, 32, 49, 32, 45, 53] : List UInt8)).bind fun s4v => ((text_ParseAct.f k ([116, 105, 99, 107, 32, 48, 49, 32, 50] : List UInt8)).bind fun s8v => ((text_FormatAct.f k (13 : Int) (2 : Int) (1 : Int) (0 : Int) (0 : Int) (4 : Int) ([107] : List UInt8) ([110, 101, 119] : List UInt8) ([111, 32, 100] : List UInt8)).bind fun s12v => ((synodref_SameTexts.f k s1v.1 ([([112, 117, 116] : List UInt8), ([49] : List UInt8), ([50] : List UInt8), ([97] : List UInt8), ([98, 32, 99] : List UInt8)] : List (List UInt8))).bind fun s27v => ((if s27v = true then ((synodref_Num.f s1v.2).bind fun s32v => (some (decide (s32v = (0 : Int))))) else (some false)).bind fun s30v => ((if (s30v && (decide (s4v.1 = (1 : Int)) && (decide (s4v.2.1 = (1 : Int)) && (decide (s4v.2.2.1 = (0 : Int)) && (decide (s4v.2.2.2.1 = (-5)) && (decide (s4v.2.2.2.2.1 = (0 : Int)) && (decide (s4v.2.2.2.2.2.1 = (0 : Int)) && (decide (s4v.2.2.2.2.2.2.1 = ([] : List UInt8)) && (decide (s4v.2.2.2.2.2.2.2.1 = ([] : List UInt8)) && (decide (s4v.2.2.2.2.2.2.2.2.1 = ([] : List UInt8)))))))))))) = true then ((synodref_Num.f s4v.2.2.2.2.2.2.2.2.2).bind fun s39v => (some (decide (s39v = (0 : Int))))) else (some false)).bind fun s37v => ((if s37v = true then ((synodref_Num.f s8v.2.2.2.2.2.2.2.2.2).bind fun s46v => (some (decide (s46v = (22 : Int))))) else (some false)).bind fun s44v => ((if (s44v && (decide (s12v.1 = ([115, 119, 97, 112, 32, 49, 32, 50, 32, 107, 32, 34, 111, 32, 100, 34, 32, 110, 101, 119] : List UInt8)))) = true then ((synodref_Num.f s12v.2).bind fun s53v => (some (decide (s53v = (0 : Int))))) else (some false)).bind fun s51v => (some s51v)))))))))
theorem synodlaw17_first.calls (W : World) (F : HA) (k : Nat)  (hgl : Glb Tryd.prog F) :
    Fn Tryd.prog W 11 [] [] F (synodlaw17_first.f k ) (fun (r : Bool) (y : Unit) => .bool r) (fun r y => []) := by
 unfold synodlaw17_first.f
 refine fn_intro 58 Tryd.func11 rfl Tryd.ntmps11 rfl ?_
 refine sr ?_
 refine va rfl rfl (nx ?_)
 refine simL_bind (fun s1v hs2v => ?_)
 refine simL_eff (re_call (vs := [str ([112, 117, 116, 32, 32, 49, 32, 50, 32, 97, 32, 34, 98, 32, 99, 34] : List UInt8)]) (cap := []) (A := []) (rst := [F]) rfl rfl rfl rfl rfl rfl Tryd.call12 (.sel 0 rfl (.nil _)) (text_Words.calls _ _ k ([112, 117, 116, 32, 32, 49, 32, 50, 32, 97, 32, 34, 98, 32, 99, 34] : List UInt8) ) hs2v) rfl rfl rfl ?_
 intro y3v
 refine vm rfl rfl ?_
 refine vq (q_ext rfl rfl rfl) rfl ?_
 refine vq (q_ext rfl rfl rfl) rfl ?_
 refine va rfl rfl ?_
 refine va rfl rfl (nx ?_)
 refine simL_bind (fun s4v hs5v => ?_)
 refine simL_eff (re_call (vs := [str ([116, 105, 99, 107, 32, 49, 32, 45, 53] : List UInt8)]) (cap := []) (A := []) (rst := [RowV 9 1 (V9 tt) y3v.1 s1v.1 y3v.2, F]) rfl rfl rfl rfl rfl rfl Tryd.call18 (.sel 0 rfl (.sel 0 rfl (.nil _))) (text_ParseAct.calls _ _ k ([116, 105, 99, 107, 32, 49, 32, 45, 53] : List UInt8) (hgl.lend 1 rfl)) hs5v) rfl rfl rfl ?_
 intro y6v
 refine vm rfl rfl ?_
 refine vq (q_ext rfl rfl rfl) rfl ?_
 refine vq (q_ext rfl rfl rfl) rfl ?_
 refine simL_eff (re_alloc rfl Tryd.zeroValue34 rfl) rfl rfl rfl ?_
 intro b7v
 refine simL_do (re_store 0 rfl rfl rfl Tryd.sizeOf34 rfl rfl (one_of (by rfl)) rfl rfl) rfl rfl ?_
 intro _
 refine simL_ent (H' := [obj b7v 34 [.int .i64 s4v.1, .int .i64 s4v.2.1, .int .i64 s4v.2.2.1, .int .i64 s4v.2.2.2.1, .int .i64 s4v.2.2.2.2.1, .int .i64 s4v.2.2.2.2.2.1, str s4v.2.2.2.2.2.2.1, str s4v.2.2.2.2.2.2.2.1, str s4v.2.2.2.2.2.2.2.2.1], RowV 9 1 (V9 tt) y3v.1 s1v.1 y3v.2, F]) (Ent.refl _) ?_
 refine va rfl rfl (nx ?_)
 refine simL_bind (fun s8v hs9v => ?_)
 refine simL_eff (re_call (vs := [str ([116, 105, 99, 107, 32, 48, 49, 32, 50] : List UInt8)]) (cap := []) (A := []) (rst := [obj b7v 34 [.int .i64 s4v.1, .int .i64 s4v.2.1, .int .i64 s4v.2.2.1, .int .i64 s4v.2.2.2.1, .int .i64 s4v.2.2.2.2.1, .int .i64 s4v.2.2.2.2.2.1, str s4v.2.2.2.2.2.2.1, str s4v.2.2.2.2.2.2.2.1, str s4v.2.2.2.2.2.2.2.2.1], RowV 9 1 (V9 tt) y3v.1 s1v.1 y3v.2, F]) rfl rfl rfl rfl rfl rfl Tryd.call18 (.sel 0 rfl (.sel 0 rfl (.sel 0 rfl (.nil _)))) (text_ParseAct.calls _ _ k ([116, 105, 99, 107, 32, 48, 49, 32, 50] : List UInt8) (hgl.lend 2 rfl)) hs9v) rfl rfl rfl ?_
 intro y10v
 refine vm rfl rfl ?_
 refine vq (q_ext rfl rfl rfl) rfl ?_
 refine vq (q_ext rfl rfl rfl) rfl ?_
 refine simL_eff (re_alloc rfl Tryd.zeroValue34 rfl) rfl rfl rfl ?_
 intro b11v
 refine simL_do (re_store 0 rfl rfl rfl Tryd.sizeOf34 rfl rfl (one_of (by rfl)) rfl rfl) rfl rfl ?_
 intro _
 refine simL_ent (H' := [obj b11v 34 [.int .i64 s8v.1, .int .i64 s8v.2.1, .int .i64 s8v.2.2.1, .int .i64 s8v.2.2.2.1, .int .i64 s8v.2.2.2.2.1, .int .i64 s8v.2.2.2.2.2.1, str s8v.2.2.2.2.2.2.1, str s8v.2.2.2.2.2.2.2.1, str s8v.2.2.2.2.2.2.2.2.1], obj b7v 34 [.int .i64 s4v.1, .int .i64 s4v.2.1, .int .i64 s4v.2.2.1, .int .i64 s4v.2.2.2.1, .int .i64 s4v.2.2.2.2.1, .int .i64 s4v.2.2.2.2.2.1, str s4v.2.2.2.2.2.2.1, str s4v.2.2.2.2.2.2.2.1, str s4v.2.2.2.2.2.2.2.2.1], RowV 9 1 (V9 tt) y3v.1 s1v.1 y3v.2, F]) (Ent.refl _) ?_
 refine va rfl rfl (nx ?_)
 refine vq (q_build (v := .agg #[.int .i64 13, .int .i64 2, .int .i64 1, .int .i64 0, .int .i64 0, .int .i64 4, str ([107] : List UInt8), str ([110, 101, 119] : List UInt8), str ([111, 32, 100] : List UInt8)]) rfl rfl (fun _ => by kernel_rfl)) rfl ?_
 refine simL_bind (fun s12v hs13v => ?_)
 refine simL_eff (re_call (vs := [.agg #[.int .i64 13, .int .i64 2, .int .i64 1, .int .i64 0, .int .i64 0, .int .i64 4, str ([107] : List UInt8), str ([110, 101, 119] : List UInt8), str ([111, 32, 100] : List UInt8)]]) (cap := []) (A := []) (rst := [obj b11v 34 [.int .i64 s8v.1, .int .i64 s8v.2.1, .int .i64 s8v.2.2.1, .int .i64 s8v.2.2.2.1, .int .i64 s8v.2.2.2.2.1, .int .i64 s8v.2.2.2.2.2.1, str s8v.2.2.2.2.2.2.1, str s8v.2.2.2.2.2.2.2.1, str s8v.2.2.2.2.2.2.2.2.1], obj b7v 34 [.int .i64 s4v.1, .int .i64 s4v.2.1, .int .i64 s4v.2.2.1, .int .i64 s4v.2.2.2.1, .int .i64 s4v.2.2.2.2.1, .int .i64 s4v.2.2.2.2.2.1, str s4v.2.2.2.2.2.2.1, str s4v.2.2.2.2.2.2.2.1, str s4v.2.2.2.2.2.2.2.2.1], RowV 9 1 (V9 tt) y3v.1 s1v.1 y3v.2, F]) rfl rfl rfl rfl rfl rfl Tryd.call20 (.sel 0 rfl (.sel 0 rfl (.sel 0 rfl (.sel 0 rfl (.nil _))))) (text_FormatAct.calls _ _ k (13 : Int) (2 : Int) (1 : Int) (0 : Int) (0 : Int) (4 : Int) ([107] : List UInt8) ([110, 101, 119] : List UInt8) ([111, 32, 100] : List UInt8) (hgl.lend 3 rfl)) hs13v) rfl rfl rfl ?_
 intro y14v
 refine vm rfl rfl ?_
 refine vq (q_ext rfl rfl rfl) rfl ?_
 refine vq (q_ext rfl rfl rfl) rfl ?_
 refine va rfl rfl ?_
 refine va rfl rfl (nx ?_)
 refine vm rfl rfl ?_
 have hlb16v : ListV 1 (V9 tt) ([([112, 117, 116] : List UInt8), ([49] : List UInt8), ([50] : List UInt8), ([97] : List UInt8), ([98, 32, 99] : List UInt8)] : List (List UInt8)) [[str ([112, 117, 116] : List UInt8)], [str ([49] : List UInt8)], [str ([50] : List UInt8)], [str ([97] : List UInt8)], [str ([98, 32, 99] : List UInt8)]] := ⟨⟨rfl, one_of (by rfl), rfl⟩, ⟨rfl, one_of (by rfl), rfl⟩, ⟨rfl, one_of (by rfl), rfl⟩, ⟨rfl, one_of (by rfl), rfl⟩, ⟨rfl, one_of (by rfl), rfl⟩, trivial⟩
 refine simL_eff (re_litV (V := (V9 tt)) (xs := ([([112, 117, 116] : List UInt8), ([49] : List UInt8), ([50] : List UInt8), ([97] : List UInt8), ([98, 32, 99] : List UInt8)] : List (List UInt8))) [[str ([112, 117, 116] : List UInt8)], [str ([49] : List UInt8)], [str ([50] : List UInt8)], [str ([97] : List UInt8)], [str ([98, 32, 99] : List UInt8)]] rfl rfl Tryd.underlying23 elt9 rfl (by kernel_rfl) rfl hlb16v rfl rfl) rfl rfl rfl ?_
 intro b16v
 refine simL_openV 3 rfl (fun rs17v hl18v => ?_)
 refine simL_bind (fun s27v hs28v => ?_)
 refine simL_lend 3 rfl (fun hq19v hq20v hq21v hq22v => ?_)
 refine simL_lend 0 rfl (fun hq23v hq24v hq25v hq26v => ?_)
 refine simL_eff (re_call (vs := [.slice y3v.1 s1v.1.length y3v.2, .slice (some ⟨b16v, 0, none⟩) (([([112, 117, 116] : List UInt8), ([49] : List UInt8), ([50] : List UInt8), ([97] : List UInt8), ([98, 32, 99] : List UInt8)] : List (List UInt8)).length) 5]) (cap := []) (A := []) (rst := [Row 9 1 (some ⟨b16v, 0, none⟩) ([([112, 117, 116] : List UInt8), ([49] : List UInt8), ([50] : List UInt8), ([97] : List UInt8), ([98, 32, 99] : List UInt8)] : List (List UInt8)).length 5 [[str ([112, 117, 116] : List UInt8)], [str ([49] : List UInt8)], [str ([50] : List UInt8)], [str ([97] : List UInt8)], [str ([98, 32, 99] : List UInt8)]].flatten, obj b11v 34 [.int .i64 s8v.1, .int .i64 s8v.2.1, .int .i64 s8v.2.2.1, .int .i64 s8v.2.2.2.1, .int .i64 s8v.2.2.2.2.1, .int .i64 s8v.2.2.2.2.2.1, str s8v.2.2.2.2.2.2.1, str s8v.2.2.2.2.2.2.2.1, str s8v.2.2.2.2.2.2.2.2.1], obj b7v 34 [.int .i64 s4v.1, .int .i64 s4v.2.1, .int .i64 s4v.2.2.1, .int .i64 s4v.2.2.2.1, .int .i64 s4v.2.2.2.2.1, .int .i64 s4v.2.2.2.2.2.1, str s4v.2.2.2.2.2.2.1, str s4v.2.2.2.2.2.2.2.1, str s4v.2.2.2.2.2.2.2.2.1], Row 9 1 y3v.1 s1v.1.length y3v.2 rs17v.flatten, F]) rfl rfl rfl rfl rfl rfl Tryd.call14 (.sel 0 rfl (.sel 0 rfl (.sel 0 rfl (.sel 0 rfl (.sel 0 rfl (.nil _)))))) (synodref_SameTexts.calls _ _ k y3v.1 y3v.2 s1v.1 (some ⟨b16v, 0, none⟩) 5 ([([112, 117, 116] : List UInt8), ([49] : List UInt8), ([50] : List UInt8), ([97] : List UInt8), ([98, 32, 99] : List UInt8)] : List (List UInt8)) ((Rd.asV hl18v hq19v).up (Up.lend 3 rfl) (fun _ _ h => h)) hq20v hq21v ((Rd.asV hlb16v hq23v).up (Up.lend 0 rfl) (fun _ _ h => h)) hq24v hq25v) hs28v) rfl rfl rfl ?_
 intro y29v
 refine vm rfl rfl ?_
 refine simL_cut' 4 (S := Bool) (Unit) (fun s y => [(3, .pointer (some ⟨b7v, 0, none⟩)), (4, .int .i64 s4v.2.2.2.2.2.2.2.2.2), (6, .int .i64 s8v.2.2.2.2.2.2.2.2.2), (7, str s12v.1), (8, .int .i64 s12v.2), (33, .bool s)]) (fun s y => [obj b7v 34 [.int .i64 s4v.1, .int .i64 s4v.2.1, .int .i64 s4v.2.2.1, .int .i64 s4v.2.2.2.1, .int .i64 s4v.2.2.2.2.1, .int .i64 s4v.2.2.2.2.2.1, str s4v.2.2.2.2.2.2.1, str s4v.2.2.2.2.2.2.2.1, str s4v.2.2.2.2.2.2.2.2.1], F]) ?_ ?_
 refine simL_caseb (fun hb35v => ?_) (fun hb36v => ?_)
 rw [hb35v]
 refine simL_valg (q_move rfl rfl) rfl rfl rfl rfl rfl rfl ?_
 refine simL_bind (fun s32v hs33v => ?_)
 refine simL_effg (re_call (vs := [.int .i64 s1v.2]) (cap := []) (A := []) (rst := [Row 9 1 (some ⟨b16v, 0, none⟩) ([([112, 117, 116] : List UInt8), ([49] : List UInt8), ([50] : List UInt8), ([97] : List UInt8), ([98, 32, 99] : List UInt8)] : List (List UInt8)).length 5 [[str ([112, 117, 116] : List UInt8)], [str ([49] : List UInt8)], [str ([50] : List UInt8)], [str ([97] : List UInt8)], [str ([98, 32, 99] : List UInt8)]].flatten, obj b11v 34 [.int .i64 s8v.1, .int .i64 s8v.2.1, .int .i64 s8v.2.2.1, .int .i64 s8v.2.2.2.1, .int .i64 s8v.2.2.2.2.1, .int .i64 s8v.2.2.2.2.2.1, str s8v.2.2.2.2.2.2.1, str s8v.2.2.2.2.2.2.2.1, str s8v.2.2.2.2.2.2.2.2.1], obj b7v 34 [.int .i64 s4v.1, .int .i64 s4v.2.1, .int .i64 s4v.2.2.1, .int .i64 s4v.2.2.2.1, .int .i64 s4v.2.2.2.2.1, .int .i64 s4v.2.2.2.2.2.1, str s4v.2.2.2.2.2.2.1, str s4v.2.2.2.2.2.2.2.1, str s4v.2.2.2.2.2.2.2.2.1], Row 9 1 y3v.1 s1v.1.length y3v.2 rs17v.flatten, F]) rfl rfl rfl rfl rfl rfl Tryd.call15 (.sel 0 rfl (.sel 0 rfl (.sel 0 rfl (.sel 0 rfl (.sel 0 rfl (.nil _)))))) (synodref_Num.calls _ _ s1v.2 ) hs33v) rfl rfl rfl rfl rfl rfl ?_
 intro y34v
 refine simL_valg (q_eql rfl rfl rfl) rfl rfl rfl rfl rfl rfl ?_
 refine vq (q_pick rfl rfl rfl rfl rfl) rfl (simL_nil ?_)
 exact nrm_cut (s := decide (s32v = (0 : Int))) () ⟨rfl, rfl, rfl, rfl, rfl, rfl, trivial⟩ (.sel 2 rfl (.sel 3 rfl (.nil _)))
 rw [hb36v]
 refine simL_skipd rfl rfl rfl rfl rfl rfl ?_
 refine simL_skipd rfl rfl rfl rfl rfl rfl ?_
 refine simL_skipd rfl rfl rfl rfl rfl rfl ?_
 refine vq (q_pick rfl rfl rfl rfl rfl) rfl (simL_nil ?_)
 exact nrm_cut (s := false) () ⟨rfl, rfl, rfl, rfl, rfl, rfl, trivial⟩ (.sel 2 rfl (.sel 3 rfl (.nil _)))
 intro s30v y31v
 refine vm rfl rfl ?_
 refine simL_valc (b := s30v) (fun hb62v => RQ.sub (E' := [(3, .pointer (some ⟨b7v, 0, none⟩))]) ⟨rfl, trivial⟩ (q_loado 0 rfl rfl Tryd.isAgg34 Tryd.sizeOf34 rfl rfl)) rfl rfl rfl rfl rfl ?_
 refine simL_valc (b := s30v) (fun hb61v => RQ.sub (E' := []) trivial (q_build (v := .agg #[.int .i64 1, .int .i64 1, .int .i64 0, .int .i64 (-5), .int .i64 0, .int .i64 0, str ([] : List UInt8), str ([] : List UInt8), str ([] : List UInt8)]) rfl rfl (fun _ => by kernel_rfl))) rfl rfl rfl rfl rfl ?_
 refine simL_valc (b := s30v) (fun hb60v => RQ.sub (E' := [(35, .agg #[.int .i64 s4v.1, .int .i64 s4v.2.1, .int .i64 s4v.2.2.1, .int .i64 s4v.2.2.2.1, .int .i64 s4v.2.2.2.2.1, .int .i64 s4v.2.2.2.2.2.1, str s4v.2.2.2.2.2.2.1, str s4v.2.2.2.2.2.2.2.1, str s4v.2.2.2.2.2.2.2.2.1]), (36, .agg #[.int .i64 1, .int .i64 1, .int .i64 0, .int .i64 (-5), .int .i64 0, .int .i64 0, str ([] : List UInt8), str ([] : List UInt8), str ([] : List UInt8)])]) ⟨lk_cv rfl hb60v, lk_cv rfl hb60v, trivial⟩ (q_eqagg rfl rfl rfl (by kernel_rfl) (fun d w => eqi_struct Tryd.underlying34 (by kernel_rfl) (eqf_cons (by rfl) (part_of Tryd.isAgg3 rfl) (part_of Tryd.isAgg3 rfl) (eqi_int Tryd.underlying3) (eqf_cons (by rfl) (part_of Tryd.isAgg3 rfl) (part_of Tryd.isAgg3 rfl) (eqi_int Tryd.underlying3) (eqf_cons (by rfl) (part_of Tryd.isAgg3 rfl) (part_of Tryd.isAgg3 rfl) (eqi_int Tryd.underlying3) (eqf_cons (by rfl) (part_of Tryd.isAgg3 rfl) (part_of Tryd.isAgg3 rfl) (eqi_int Tryd.underlying3) (eqf_cons (by rfl) (part_of Tryd.isAgg3 rfl) (part_of Tryd.isAgg3 rfl) (eqi_int Tryd.underlying3) (eqf_cons (by rfl) (part_of Tryd.isAgg3 rfl) (part_of Tryd.isAgg3 rfl) (eqi_int Tryd.underlying3) (eqf_cons (by rfl) (part_of Tryd.isAgg9 rfl) (part_of Tryd.isAgg9 rfl) (eqi_str Tryd.underlying9) (eqf_cons (by rfl) (part_of Tryd.isAgg9 rfl) (part_of Tryd.isAgg9 rfl) (eqi_str Tryd.underlying9) (eqf_last (by rfl) (part_of Tryd.isAgg9 rfl) (part_of Tryd.isAgg9 rfl) (eqi_str Tryd.underlying9))))))))))))) rfl rfl rfl rfl rfl ?_
 refine vq (q_and rfl rfl rfl) rfl ?_
 refine vm rfl rfl ?_
 refine simL_cut' 4 (S := Bool) (Unit) (fun s y => [(6, .int .i64 s8v.2.2.2.2.2.2.2.2.2), (7, str s12v.1), (8, .int .i64 s12v.2), (43, .bool s)]) (fun s y => [F]) ?_ ?_
 refine simL_caseb (fun hb42v => ?_) (fun hb43v => ?_)
 rw [hb42v]
 refine simL_valg (q_move rfl rfl) rfl rfl rfl rfl rfl rfl ?_
 refine simL_bind (fun s39v hs40v => ?_)
 refine simL_effg (re_call (vs := [.int .i64 s4v.2.2.2.2.2.2.2.2.2]) (cap := []) (A := []) (rst := [obj b7v 34 [.int .i64 s4v.1, .int .i64 s4v.2.1, .int .i64 s4v.2.2.1, .int .i64 s4v.2.2.2.1, .int .i64 s4v.2.2.2.2.1, .int .i64 s4v.2.2.2.2.2.1, str s4v.2.2.2.2.2.2.1, str s4v.2.2.2.2.2.2.2.1, str s4v.2.2.2.2.2.2.2.2.1], F]) rfl rfl rfl rfl rfl rfl Tryd.call15 (.sel 0 rfl (.sel 0 rfl (.nil _))) (synodref_Num.calls _ _ s4v.2.2.2.2.2.2.2.2.2 ) hs40v) rfl rfl rfl rfl rfl rfl ?_
 intro y41v
 refine simL_valg (q_eql rfl rfl rfl) rfl rfl rfl rfl rfl rfl ?_
 refine vq (q_pick rfl rfl rfl rfl rfl) rfl (simL_nil ?_)
 exact nrm_cut (s := decide (s39v = (0 : Int))) () ⟨rfl, rfl, rfl, rfl, trivial⟩ (.sel 1 rfl (.nil _))
 rw [hb43v]
 refine simL_skipd rfl rfl rfl rfl rfl rfl ?_
 refine simL_skipd rfl rfl rfl rfl rfl rfl ?_
 refine simL_skipd rfl rfl rfl rfl rfl rfl ?_
 refine vq (q_pick rfl rfl rfl rfl rfl) rfl (simL_nil ?_)
 exact nrm_cut (s := false) () ⟨rfl, rfl, rfl, rfl, trivial⟩ (.sel 1 rfl (.nil _))
 intro s37v y38v
 refine vm rfl rfl ?_
 refine simL_cut' 4 (S := Bool) (Unit) (fun s y => [(7, str s12v.1), (8, .int .i64 s12v.2), (48, .bool s)]) (fun s y => [F]) ?_ ?_
 refine simL_caseb (fun hb49v => ?_) (fun hb50v => ?_)
 rw [hb49v]
 refine simL_valg (q_move rfl rfl) rfl rfl rfl rfl rfl rfl ?_
 refine simL_bind (fun s46v hs47v => ?_)
 refine simL_effg (re_call (vs := [.int .i64 s8v.2.2.2.2.2.2.2.2.2]) (cap := []) (A := []) (rst := [F]) rfl rfl rfl rfl rfl rfl Tryd.call15 (.sel 0 rfl (.nil _)) (synodref_Num.calls _ _ s8v.2.2.2.2.2.2.2.2.2 ) hs47v) rfl rfl rfl rfl rfl rfl ?_
 intro y48v
 refine simL_valg (q_eql rfl rfl rfl) rfl rfl rfl rfl rfl rfl ?_
 refine vq (q_pick rfl rfl rfl rfl rfl) rfl (simL_nil ?_)
 exact nrm_cut (s := decide (s46v = (22 : Int))) () ⟨rfl, rfl, rfl, trivial⟩ (.sel 0 rfl (.nil _))
 rw [hb50v]
 refine simL_skipd rfl rfl rfl rfl rfl rfl ?_
 refine simL_skipd rfl rfl rfl rfl rfl rfl ?_
 refine simL_skipd rfl rfl rfl rfl rfl rfl ?_
 refine vq (q_pick rfl rfl rfl rfl rfl) rfl (simL_nil ?_)
 exact nrm_cut (s := false) () ⟨rfl, rfl, rfl, trivial⟩ (.sel 0 rfl (.nil _))
 intro s44v y45v
 refine vm rfl rfl ?_
 refine simL_valc (b := s44v) (fun hb59v => RQ.sub (E' := [(7, str s12v.1)]) ⟨rfl, trivial⟩ (q_move rfl rfl)) rfl rfl rfl rfl rfl ?_
 refine simL_valc (b := s44v) (fun hb58v => RQ.sub (E' := [(50, str s12v.1)]) ⟨lk_cv rfl hb58v, trivial⟩ (q_eqs rfl rfl rfl)) rfl rfl rfl rfl rfl ?_
 refine vq (q_and rfl rfl rfl) rfl ?_
 refine vm rfl rfl ?_
 refine simL_cut' 4 (S := Bool) (Unit) (fun s y => [(57, .bool s)]) (fun s y => [F]) ?_ ?_
 refine simL_caseb (fun hb56v => ?_) (fun hb57v => ?_)
 rw [hb56v]
 refine simL_valg (q_move rfl rfl) rfl rfl rfl rfl rfl rfl ?_
 refine simL_bind (fun s53v hs54v => ?_)
 refine simL_effg (re_call (vs := [.int .i64 s12v.2]) (cap := []) (A := []) (rst := [F]) rfl rfl rfl rfl rfl rfl Tryd.call15 (.sel 0 rfl (.nil _)) (synodref_Num.calls _ _ s12v.2 ) hs54v) rfl rfl rfl rfl rfl rfl ?_
 intro y55v
 refine simL_valg (q_eql rfl rfl rfl) rfl rfl rfl rfl rfl rfl ?_
 refine vq (q_pick rfl rfl rfl rfl rfl) rfl (simL_nil ?_)
 exact nrm_cut (s := decide (s53v = (0 : Int))) () ⟨rfl, trivial⟩ (.sel 0 rfl (.nil _))
 rw [hb57v]
 refine simL_skipd rfl rfl rfl rfl rfl rfl ?_
 refine simL_skipd rfl rfl rfl rfl rfl rfl ?_
 refine simL_skipd rfl rfl rfl rfl rfl rfl ?_
 refine vq (q_pick rfl rfl rfl rfl rfl) rfl (simL_nil ?_)
 exact nrm_cut (s := false) () ⟨rfl, trivial⟩ (.sel 0 rfl (.nil _))
 intro s51v y52v
 refine va rfl rfl (simL_nil (nrm_then (sim_rtn ?_)))
 exact rtn_fn () rfl rfl rfl (.sel 0 rfl (.nil _))

def text_options.f (x0_0 : Int) (x0_1 : Int) (x0_2 : Int) (x0_3 : Int) (x0_4 : Int) (x0_5 : Int) (x0_6 : Int) (x0_7 : Int) (x0_8 : Int) (x0_9 : Int) (x0_10 : Int) (x0_11 : Int) (x0_12 : Int) (x0_13 : Int) (x0_14 : Int) (x0_15 : Int) (x0_16 : Int) (x0_17 : Int) (x0_18 : Int) : Option (Unit) := some ()
theorem text_options.calls (W : World) (F : HA) (b0 : Nat) (x0_0 : Int) (x0_1 : Int) (x0_2 : Int) (x0_3 : Int) (x0_4 : Int) (x0_5 : Int) (x0_6 : Int) (x0_7 : Int) (x0_8 : Int) (x0_9 : Int) (x0_10 : Int) (x0_11 : Int) (x0_12 : Int) (x0_13 : Int) (x0_14 : Int) (x0_15 : Int) (x0_16 : Int) (x0_17 : Int) (x0_18 : Int)  :
    Fn Tryd.prog W 54 [.pointer (some ⟨b0, 0, none⟩)] [obj b0 54 [.int .i64 x0_0, .int .i64 x0_1, .int .i64 x0_2, .int .i64 x0_3, .int .i64 x0_4, .int .i64 x0_5, .int .i64 x0_6, .int .i64 x0_7, .int .i64 x0_8, .int .i64 x0_9, .int .i64 x0_10, .int .i64 x0_11, .int .i64 x0_12, .int .i64 x0_13, .int .i64 x0_14, .int .i64 x0_15, .int .i64 x0_16, .int .i64 x0_17, .int .i64 x0_18]] F (text_options.f x0_0 x0_1 x0_2 x0_3 x0_4 x0_5 x0_6 x0_7 x0_8 x0_9 x0_10 x0_11 x0_12 x0_13 x0_14 x0_15 x0_16 x0_17 x0_18) (fun (r : Unit) (y : Option Addr × Nat) => .slice y.1 (([(b0, 0), (b0, 1), (b0, 4), (b0, 5), (b0, 6), (b0, 7), (b0, 8), (b0, 9), (b0, 10), (b0, 11), (b0, 12), (b0, 13), (b0, 14), (b0, 15), (b0, 16), (b0, 17), (b0, 18)] : List ((Nat × Nat))).length) y.2) (fun r y => [RowV 115 1 (V115 tt) y.1 ([(b0, 0), (b0, 1), (b0, 4), (b0, 5), (b0, 6), (b0, 7), (b0, 8), (b0, 9), (b0, 10), (b0, 11), (b0, 12), (b0, 13), (b0, 14), (b0, 15), (b0, 16), (b0, 17), (b0, 18)] : List ((Nat × Nat))) y.2, obj b0 54 [.int .i64 x0_0, .int .i64 x0_1, .int .i64 x0_2, .int .i64 x0_3, .int .i64 x0_4, .int .i64 x0_5, .int .i64 x0_6, .int .i64 x0_7, .int .i64 x0_8, .int .i64 x0_9, .int .i64 x0_10, .int .i64 x0_11, .int .i64 x0_12, .int .i64 x0_13, .int .i64 x0_14, .int .i64 x0_15, .int .i64 x0_16, .int .i64 x0_17, .int .i64 x0_18]]) := by
 unfold text_options.f
 refine fn_intro 63 Tryd.func54 rfl Tryd.ntmps54 rfl ?_
 refine sr ?_
 refine va rfl rfl (nx ?_)
 refine vm rfl rfl ?_
 refine vn rfl rfl ?_
 refine vq (q_fa rfl rfl Tryd.underlying54 rfl rfl Tryd.sizeOf52 rfl) rfl ?_
 refine va rfl rfl (nx ?_)
 refine vm rfl rfl ?_
 refine vn rfl rfl ?_
 refine vq (q_fa rfl rfl Tryd.underlying52 rfl rfl Tryd.sizeOf50 rfl) rfl ?_
 refine va rfl rfl (simL_nil (nrm_then (sim_seq ?_)))
 have hlb2v : ListV 1 (V115 tt) ([(b0, 0), (b0, 1), (b0, 4), (b0, 5), (b0, 6), (b0, 7), (b0, 8), (b0, 9), (b0, 10), (b0, 11), (b0, 12), (b0, 13), (b0, 14), (b0, 15), (b0, 16), (b0, 17), (b0, 18)] : List ((Nat × Nat))) [[.pointer (some ⟨b0, 0, none⟩)], [.pointer (some ⟨b0, 1, none⟩)], [.pointer (some ⟨b0, 4, none⟩)], [.pointer (some ⟨b0, 5, none⟩)], [.pointer (some ⟨b0, 6, none⟩)], [.pointer (some ⟨b0, 7, none⟩)], [.pointer (some ⟨b0, 8, none⟩)], [.pointer (some ⟨b0, 9, none⟩)], [.pointer (some ⟨b0, 10, none⟩)], [.pointer (some ⟨b0, 11, none⟩)], [.pointer (some ⟨b0, 12, none⟩)], [.pointer (some ⟨b0, 13, none⟩)], [.pointer (some ⟨b0, 14, none⟩)], [.pointer (some ⟨b0, 15, none⟩)], [.pointer (some ⟨b0, 16, none⟩)], [.pointer (some ⟨b0, 17, none⟩)], [.pointer (some ⟨b0, 18, none⟩)]] := ⟨⟨rfl, one_of (by rfl), rfl⟩, ⟨rfl, one_of (by rfl), rfl⟩, ⟨rfl, one_of (by rfl), rfl⟩, ⟨rfl, one_of (by rfl), rfl⟩, ⟨rfl, one_of (by rfl), rfl⟩, ⟨rfl, one_of (by rfl), rfl⟩, ⟨rfl, one_of (by rfl), rfl⟩, ⟨rfl, one_of (by rfl), rfl⟩, ⟨rfl, one_of (by rfl), rfl⟩, ⟨rfl, one_of (by rfl), rfl⟩, ⟨rfl, one_of (by rfl), rfl⟩, ⟨rfl, one_of (by rfl), rfl⟩, ⟨rfl, one_of (by rfl), rfl⟩, ⟨rfl, one_of (by rfl), rfl⟩, ⟨rfl, one_of (by rfl), rfl⟩, ⟨rfl, one_of (by rfl), rfl⟩, ⟨rfl, one_of (by rfl), rfl⟩, trivial⟩
 refine sim_draw (Γ := Nat) 0 [[], [0], [0, 1], [], [3], [3, 4], [], [6], [6, 7], [], [9], [9, 10], [], [12], [12, 13], [], [15], [15, 16], [], [18], [18, 19], [], [21], [21, 22], [], [24], [24, 25], [], [27], [27, 28], [], [30], [30, 31], [], [33], [33, 34], [], [36], [36, 37], [], [39], [39, 40], [], [42], [42, 43], [], [45], [45, 46], [], [48], [48, 49], rL 51, rL 52] [51] [0, 1, 2, 3, 4, 5, 6, 7, 8, 9, 10, 11, 12, 13, 14, 15, 16, 17, 18, 19, 20, 21, 22, 23, 24, 25, 26, 27, 28, 29, 30, 31, 32, 33, 34, 35, 36, 37, 38, 39, 40, 41, 42, 43, 44, 45, 46, 47, 48, 49, 50, 52] (fun i => [[0], [0], [0], [0], [0], [0], [0], [0], [0], [0], [0], [0], [0], [0], [0], [0], [0], [0], [0], [0], [0], [0], [0], [0], [0], [0], [0], [0], [0], [0], [0], [0], [0], [0], [0], [0], [0], [0], [0], [0], [0], [0], [0], [0], [0], [0], [0], [0], [0], [0], [0], [], [1]].getD i []) (fun i => [[], [], [], [], [], [], [], [], [], [], [], [], [], [], [], [], [], [], [], [], [], [], [], [], [], [], [], [], [], [], [], [], [], [], [], [], [], [], [], [], [], [], [], [], [], [], [], [], [], [], [], rL 51, []].getD i []) (fun γ i => [.pointer (some ⟨b0, 0, none⟩), .pointer (some ⟨b0, 0, none⟩), .pointer (some ⟨b0, 0, none⟩), .pointer (some ⟨b0, 0, none⟩), .pointer (some ⟨b0, 0, none⟩), .pointer (some ⟨b0, 1, none⟩), .pointer (some ⟨b0, 2, none⟩), .pointer (some ⟨b0, 2, none⟩), .pointer (some ⟨b0, 4, none⟩), .pointer (some ⟨b0, 2, none⟩), .pointer (some ⟨b0, 2, none⟩), .pointer (some ⟨b0, 5, none⟩), .pointer (some ⟨b0, 2, none⟩), .pointer (some ⟨b0, 2, none⟩), .pointer (some ⟨b0, 6, none⟩), .pointer (some ⟨b0, 2, none⟩), .pointer (some ⟨b0, 2, none⟩), .pointer (some ⟨b0, 7, none⟩), .pointer (some ⟨b0, 2, none⟩), .pointer (some ⟨b0, 2, none⟩), .pointer (some ⟨b0, 8, none⟩), .pointer (some ⟨b0, 2, none⟩), .pointer (some ⟨b0, 2, none⟩), .pointer (some ⟨b0, 9, none⟩), .pointer (some ⟨b0, 2, none⟩), .pointer (some ⟨b0, 2, none⟩), .pointer (some ⟨b0, 10, none⟩), .pointer (some ⟨b0, 2, none⟩), .pointer (some ⟨b0, 2, none⟩), .pointer (some ⟨b0, 11, none⟩), .pointer (some ⟨b0, 2, none⟩), .pointer (some ⟨b0, 2, none⟩), .pointer (some ⟨b0, 12, none⟩), .pointer (some ⟨b0, 2, none⟩), .pointer (some ⟨b0, 2, none⟩), .pointer (some ⟨b0, 13, none⟩), .pointer (some ⟨b0, 2, none⟩), .pointer (some ⟨b0, 2, none⟩), .pointer (some ⟨b0, 14, none⟩), .pointer (some ⟨b0, 2, none⟩), .pointer (some ⟨b0, 2, none⟩), .pointer (some ⟨b0, 15, none⟩), .pointer (some ⟨b0, 2, none⟩), .pointer (some ⟨b0, 2, none⟩), .pointer (some ⟨b0, 16, none⟩), .pointer (some ⟨b0, 2, none⟩), .pointer (some ⟨b0, 2, none⟩), .pointer (some ⟨b0, 17, none⟩), .pointer (some ⟨b0, 2, none⟩), .pointer (some ⟨b0, 2, none⟩), .pointer (some ⟨b0, 18, none⟩), .slice (some ⟨γ, 0, none⟩) (([(b0, 0), (b0, 1), (b0, 4), (b0, 5), (b0, 6), (b0, 7), (b0, 8), (b0, 9), (b0, 10), (b0, 11), (b0, 12), (b0, 13), (b0, 14), (b0, 15), (b0, 16), (b0, 17), (b0, 18)] : List ((Nat × Nat))).length) 17, .slice (some ⟨γ, 0, none⟩) (([(b0, 0), (b0, 1), (b0, 4), (b0, 5), (b0, 6), (b0, 7), (b0, 8), (b0, 9), (b0, 10), (b0, 11), (b0, 12), (b0, 13), (b0, 14), (b0, 15), (b0, 16), (b0, 17), (b0, 18)] : List ((Nat × Nat))).length) 17].getD i undef) (fun j γ => [[obj b0 54 [.int .i64 x0_0, .int .i64 x0_1, .int .i64 x0_2, .int .i64 x0_3, .int .i64 x0_4, .int .i64 x0_5, .int .i64 x0_6, .int .i64 x0_7, .int .i64 x0_8, .int .i64 x0_9, .int .i64 x0_10, .int .i64 x0_11, .int .i64 x0_12, .int .i64 x0_13, .int .i64 x0_14, .int .i64 x0_15, .int .i64 x0_16, .int .i64 x0_17, .int .i64 x0_18], F], [Row 115 1 (some ⟨γ, 0, none⟩) ([(b0, 0), (b0, 1), (b0, 4), (b0, 5), (b0, 6), (b0, 7), (b0, 8), (b0, 9), (b0, 10), (b0, 11), (b0, 12), (b0, 13), (b0, 14), (b0, 15), (b0, 16), (b0, 17), (b0, 18)] : List ((Nat × Nat))).length 17 [[.pointer (some ⟨b0, 0, none⟩)], [.pointer (some ⟨b0, 1, none⟩)], [.pointer (some ⟨b0, 4, none⟩)], [.pointer (some ⟨b0, 5, none⟩)], [.pointer (some ⟨b0, 6, none⟩)], [.pointer (some ⟨b0, 7, none⟩)], [.pointer (some ⟨b0, 8, none⟩)], [.pointer (some ⟨b0, 9, none⟩)], [.pointer (some ⟨b0, 10, none⟩)], [.pointer (some ⟨b0, 11, none⟩)], [.pointer (some ⟨b0, 12, none⟩)], [.pointer (some ⟨b0, 13, none⟩)], [.pointer (some ⟨b0, 14, none⟩)], [.pointer (some ⟨b0, 15, none⟩)], [.pointer (some ⟨b0, 16, none⟩)], [.pointer (some ⟨b0, 17, none⟩)], [.pointer (some ⟨b0, 18, none⟩)]].flatten, obj b0 54 [.int .i64 x0_0, .int .i64 x0_1, .int .i64 x0_2, .int .i64 x0_3, .int .i64 x0_4, .int .i64 x0_5, .int .i64 x0_6, .int .i64 x0_7, .int .i64 x0_8, .int .i64 x0_9, .int .i64 x0_10, .int .i64 x0_11, .int .i64 x0_12, .int .i64 x0_13, .int .i64 x0_14, .int .i64 x0_15, .int .i64 x0_16, .int .i64 x0_17, .int .i64 x0_18], F]].getD j []) (fun γ => [(2, .slice (some ⟨γ, 0, none⟩) (([(b0, 0), (b0, 1), (b0, 4), (b0, 5), (b0, 6), (b0, 7), (b0, 8), (b0, 9), (b0, 10), (b0, 11), (b0, 12), (b0, 13), (b0, 14), (b0, 15), (b0, 16), (b0, 17), (b0, 18)] : List ((Nat × Nat))).length) 17)]) mixed (by decide) (by decide) (by decide) (by decide) (by decide) (by decide) (by decide) 63 rfl (by decide) (by decide) (by decide) (Ent.refl _) ?_ ?_ (fun _ => ⟨rfl, trivial⟩) ?_
 exact (aq rfl (fun γ => qm rfl (.o (s := 0) rfl (by decide) .nil) rfl) (aq rfl (fun γ => qp rfl rfl (.v 0 rfl rfl .nil) (q_nil rfl rfl) rfl) (aq rfl (fun γ => qp rfl rfl (.v 1 rfl rfl .nil) (q_fa rfl rfl Tryd.underlying54 rfl rfl Tryd.sizeOf3 rfl) rfl) (aq rfl (fun γ => qm rfl (.o (s := 0) rfl (by decide) .nil) rfl) (aq rfl (fun γ => qp rfl rfl (.v 3 rfl rfl .nil) (q_nil rfl rfl) rfl) (aq rfl (fun γ => qp rfl rfl (.v 4 rfl rfl .nil) (q_fa rfl rfl Tryd.underlying54 rfl rfl Tryd.sizeOf3 rfl) rfl) (aq rfl (fun γ => qm rfl (.o (s := 4) rfl (by decide) .nil) rfl) (aq rfl (fun γ => qp rfl rfl (.v 6 rfl rfl .nil) (q_nil rfl rfl) rfl) (aq rfl (fun γ => qp rfl rfl (.v 7 rfl rfl .nil) (q_fa rfl rfl Tryd.underlying50 rfl rfl Tryd.sizeOf3 rfl) rfl) (aq rfl (fun γ => qm rfl (.o (s := 4) rfl (by decide) .nil) rfl) (aq rfl (fun γ => qp rfl rfl (.v 9 rfl rfl .nil) (q_nil rfl rfl) rfl) (aq rfl (fun γ => qp rfl rfl (.v 10 rfl rfl .nil) (q_fa rfl rfl Tryd.underlying50 rfl rfl Tryd.sizeOf3 rfl) rfl) (aq rfl (fun γ => qm rfl (.o (s := 4) rfl (by decide) .nil) rfl) (aq rfl (fun γ => qp rfl rfl (.v 12 rfl rfl .nil) (q_nil rfl rfl) rfl) (aq rfl (fun γ => qp rfl rfl (.v 13 rfl rfl .nil) (q_fa rfl rfl Tryd.underlying50 rfl rfl Tryd.sizeOf3 rfl) rfl) (aq rfl (fun γ => qm rfl (.o (s := 4) rfl (by decide) .nil) rfl) (aq rfl (fun γ => qp rfl rfl (.v 15 rfl rfl .nil) (q_nil rfl rfl) rfl) (aq rfl (fun γ => qp rfl rfl (.v 16 rfl rfl .nil) (q_fa rfl rfl Tryd.underlying50 rfl rfl Tryd.sizeOf3 rfl) rfl) (aq rfl (fun γ => qm rfl (.o (s := 4) rfl (by decide) .nil) rfl) (aq rfl (fun γ => qp rfl rfl (.v 18 rfl rfl .nil) (q_nil rfl rfl) rfl) (aq rfl (fun γ => qp rfl rfl (.v 19 rfl rfl .nil) (q_fa rfl rfl Tryd.underlying50 rfl rfl Tryd.sizeOf3 rfl) rfl) (aq rfl (fun γ => qm rfl (.o (s := 4) rfl (by decide) .nil) rfl) (aq rfl (fun γ => qp rfl rfl (.v 21 rfl rfl .nil) (q_nil rfl rfl) rfl) (aq rfl (fun γ => qp rfl rfl (.v 22 rfl rfl .nil) (q_fa rfl rfl Tryd.underlying50 rfl rfl Tryd.sizeOf3 rfl) rfl) (aq rfl (fun γ => qm rfl (.o (s := 3) rfl (by decide) .nil) rfl) (aq rfl (fun γ => qp rfl rfl (.v 24 rfl rfl .nil) (q_nil rfl rfl) rfl) (aq rfl (fun γ => qp rfl rfl (.v 25 rfl rfl .nil) (q_fa rfl rfl Tryd.underlying52 rfl rfl Tryd.sizeOf3 rfl) rfl) (aq rfl (fun γ => qm rfl (.o (s := 3) rfl (by decide) .nil) rfl) (aq rfl (fun γ => qp rfl rfl (.v 27 rfl rfl .nil) (q_nil rfl rfl) rfl) (aq rfl (fun γ => qp rfl rfl (.v 28 rfl rfl .nil) (q_fa rfl rfl Tryd.underlying52 rfl rfl Tryd.sizeOf3 rfl) rfl) (aq rfl (fun γ => qm rfl (.o (s := 3) rfl (by decide) .nil) rfl) (aq rfl (fun γ => qp rfl rfl (.v 30 rfl rfl .nil) (q_nil rfl rfl) rfl) (aq rfl (fun γ => qp rfl rfl (.v 31 rfl rfl .nil) (q_fa rfl rfl Tryd.underlying52 rfl rfl Tryd.sizeOf3 rfl) rfl) (aq rfl (fun γ => qm rfl (.o (s := 3) rfl (by decide) .nil) rfl) (aq rfl (fun γ => qp rfl rfl (.v 33 rfl rfl .nil) (q_nil rfl rfl) rfl) (aq rfl (fun γ => qp rfl rfl (.v 34 rfl rfl .nil) (q_fa rfl rfl Tryd.underlying52 rfl rfl Tryd.sizeOf3 rfl) rfl) (aq rfl (fun γ => qm rfl (.o (s := 3) rfl (by decide) .nil) rfl) (aq rfl (fun γ => qp rfl rfl (.v 36 rfl rfl .nil) (q_nil rfl rfl) rfl) (aq rfl (fun γ => qp rfl rfl (.v 37 rfl rfl .nil) (q_fa rfl rfl Tryd.underlying52 rfl rfl Tryd.sizeOf3 rfl) rfl) (aq rfl (fun γ => qm rfl (.o (s := 3) rfl (by decide) .nil) rfl) (aq rfl (fun γ => qp rfl rfl (.v 39 rfl rfl .nil) (q_nil rfl rfl) rfl) (aq rfl (fun γ => qp rfl rfl (.v 40 rfl rfl .nil) (q_fa rfl rfl Tryd.underlying52 rfl rfl Tryd.sizeOf3 rfl) rfl) (aq rfl (fun γ => qm rfl (.o (s := 3) rfl (by decide) .nil) rfl) (aq rfl (fun γ => qp rfl rfl (.v 42 rfl rfl .nil) (q_nil rfl rfl) rfl) (aq rfl (fun γ => qp rfl rfl (.v 43 rfl rfl .nil) (q_fa rfl rfl Tryd.underlying52 rfl rfl Tryd.sizeOf3 rfl) rfl) (aq rfl (fun γ => qm rfl (.o (s := 3) rfl (by decide) .nil) rfl) (aq rfl (fun γ => qp rfl rfl (.v 45 rfl rfl .nil) (q_nil rfl rfl) rfl) (aq rfl (fun γ => qp rfl rfl (.v 46 rfl rfl .nil) (q_fa rfl rfl Tryd.underlying52 rfl rfl Tryd.sizeOf3 rfl) rfl) (aq rfl (fun γ => qm rfl (.o (s := 3) rfl (by decide) .nil) rfl) (aq rfl (fun γ => qp rfl rfl (.v 48 rfl rfl .nil) (q_nil rfl rfl) rfl) (aq rfl (fun γ => qp rfl rfl (.v 49 rfl rfl .nil) (q_fa rfl rfl Tryd.underlying52 rfl rfl Tryd.sizeOf3 rfl) rfl) (aq rfl (fun γ => qp rfl rfl (.v 51 rfl rfl .nil) (q_asg rfl rfl) rfl) zA))))))))))))))))))))))))))))))))))))))))))))))))))))
 exact (ac (fun γ => eo (Z := Nat) (fun z => z) rfl rfl (.v 2 rfl rfl (.v 5 rfl rfl (.v 8 rfl rfl (.v 11 rfl rfl (.v 14 rfl rfl (.v 17 rfl rfl (.v 20 rfl rfl (.v 23 rfl rfl (.v 26 rfl rfl (.v 29 rfl rfl (.v 32 rfl rfl (.v 35 rfl rfl (.v 38 rfl rfl (.v 41 rfl rfl (.v 44 rfl rfl (.v 47 rfl rfl (.v 50 rfl rfl .nil))))))))))))))))) (re_litV (V := (V115 tt)) (xs := ([(b0, 0), (b0, 1), (b0, 4), (b0, 5), (b0, 6), (b0, 7), (b0, 8), (b0, 9), (b0, 10), (b0, 11), (b0, 12), (b0, 13), (b0, 14), (b0, 15), (b0, 16), (b0, 17), (b0, 18)] : List ((Nat × Nat)))) [[.pointer (some ⟨b0, 0, none⟩)], [.pointer (some ⟨b0, 1, none⟩)], [.pointer (some ⟨b0, 4, none⟩)], [.pointer (some ⟨b0, 5, none⟩)], [.pointer (some ⟨b0, 6, none⟩)], [.pointer (some ⟨b0, 7, none⟩)], [.pointer (some ⟨b0, 8, none⟩)], [.pointer (some ⟨b0, 9, none⟩)], [.pointer (some ⟨b0, 10, none⟩)], [.pointer (some ⟨b0, 11, none⟩)], [.pointer (some ⟨b0, 12, none⟩)], [.pointer (some ⟨b0, 13, none⟩)], [.pointer (some ⟨b0, 14, none⟩)], [.pointer (some ⟨b0, 15, none⟩)], [.pointer (some ⟨b0, 16, none⟩)], [.pointer (some ⟨b0, 17, none⟩)], [.pointer (some ⟨b0, 18, none⟩)]] rfl rfl Tryd.underlying120 elt115 rfl (by kernel_rfl) rfl hlb2v rfl rfl) (fun _ => ⟨rfl, rfl, rfl, rfl, rfl, rfl, rfl, rfl, rfl, rfl, rfl, rfl, rfl, rfl, rfl, rfl, rfl, rfl, rfl, rfl, rfl, rfl, rfl, rfl, rfl, rfl, rfl, rfl, rfl, rfl, rfl, rfl, rfl, rfl, rfl, rfl, rfl, rfl, rfl, rfl, rfl, rfl, rfl, rfl, rfl, rfl, rfl, rfl, rfl, rfl, rfl, trivial⟩) (fun _ => .inr rfl) (fun z => Ent.refl _)) zA)
 intro g3v
 refine nrm_then (sim_rtn ?_)
 exact rtn_fn ((some ⟨g3v, 0, none⟩), 17) rfl rfl rfl (.sel' 0 rfl (RowV.mk hlb2v) (.sel 0 rfl (.sel 0 rfl (.nil _))))
end Go.Proofs.YtbcnegennmpliaaDoor
