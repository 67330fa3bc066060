/- Texts that lead to the law SnapBeside: G2. Conditions: as each says. -/
import Derived.Test.YtjkjlggbikeliaaGreatDoorM3
namespace Go.Proofs.YtjkjlggbikeliaaGreatDoor
open Go.RowKit
set_option linter.unusedVariables false
set_option linter.unusedSimpArgs false
set_option maxRecDepth 20000
set_option maxHeartbeats 20000000
def wire_Writer_Bytes.f (k : Nat) (x0_0 : List UInt8) (x0_1 : Int) (x1 : List UInt8) (x2 : Int) : Option (List UInt8 × Int) := (if ((decide (x0_1 = (0 : Int))) && (decide (max x2 (0 : Int) < (x1.length : Int)))) = true then (some 3) else (some x0_1)).bind fun s1v => (if s1v = (0 : Int) then ((wire_Writer_Int.f k x0_0 s1v (x1.length : Int)).bind fun s12v => (if (s12v.1.length + x1.length) * 1 ≤ 140737488355328 then (some (s12v.1 ++ x1, s12v.2)) else none)) else (some (x0_0, s1v)))
theorem wire_Writer_Bytes.calls (W : World) (F : HA) (k : Nat) (b0 : Nat) (a0_0 : Option Addr) (c0_0 : Nat) (x0_0 : List UInt8) (x0_1 : Int) (a1 : Option Addr) (c1 : Nat) (x1 : List UInt8) (x2 : Int) (h1 : Rd F a1 (encB x1)) (hc1 : x1.length ≤ c1) (hm1 : c1 ≤ maxLen) :
    Fn Tryz.prog W 75 [.pointer (some ⟨b0, 0, none⟩), .slice a1 x1.length c1, .int .i64 x2] [obj b0 164 [.slice a0_0 x0_0.length c0_0, .int .i64 x0_1], Row 5 1 a0_0 x0_0.length c0_0 (encB x0_0)] F (wire_Writer_Bytes.f k x0_0 x0_1 x1 x2) (fun (r : List UInt8 × Int) (y : Option Addr × Nat) => .tuple #[]) (fun r y => [obj b0 164 [.slice y.1 r.1.length y.2, .int .i64 r.2], Row 5 1 y.1 r.1.length y.2 (encB r.1)]) := by
 unfold wire_Writer_Bytes.f
 refine fn_intro 39 Tryz.func75 rfl Tryz.ntmps75 rfl ?_
 refine sim_cut (S := Int) (Unit) (fun s y => [(0, .pointer (some ⟨b0, 0, none⟩)), (1, .slice a1 x1.length c1)]) (fun s y => [obj b0 164 [.slice a0_0 x0_0.length c0_0, .int .i64 s], Row 5 1 a0_0 x0_0.length c0_0 (encB x0_0), F]) ?_ ?_
 refine sr ?_
 refine vm rfl rfl ?_
 refine vn rfl rfl ?_
 refine vq (q_fa rfl rfl Tryz.underlying164 rfl rfl Tryz.sizeOf30 rfl) rfl ?_
 refine vq (q_load rfl rfl Tryz.isAgg30 (.obj 0 rfl rfl)) rfl ?_
 refine vq (q_eql rfl rfl rfl) rfl ?_
 refine vm rfl rfl ?_
 refine simL_valc (b := decide (x0_1 = (0 : Int))) (fun hb9v => RQ.sub (E' := [(1, .slice a1 x1.length c1)]) ⟨rfl, trivial⟩ (q_move rfl rfl)) rfl rfl rfl rfl rfl ?_
 refine simL_valc (b := decide (x0_1 = (0 : Int))) (fun hb8v => RQ.sub (E' := [(12, .slice a1 x1.length c1)]) ⟨lk_cv rfl hb8v, trivial⟩ (q_len rfl rfl rfl Tryz.underlying25)) rfl rfl rfl rfl rfl ?_
 refine simL_valc (b := decide (x0_1 = (0 : Int))) (fun hb7v => RQ.sub (E' := [(2, .int .i64 x2)]) ⟨rfl, trivial⟩ (q_move rfl rfl)) rfl rfl rfl rfl rfl ?_
 refine simL_valc (b := decide (x0_1 = (0 : Int))) (fun hb6v => RQ.sub (E' := [(14, .int .i64 x2)]) ⟨lk_cv rfl hb6v, trivial⟩ (q_max rfl rfl rfl)) rfl rfl rfl rfl rfl ?_
 refine simL_valc (b := decide (x0_1 = (0 : Int))) (fun hb5v => RQ.sub (E' := [(13, .int .i64 (x1.length : Int)), (15, .int .i64 (max x2 (0 : Int)))]) ⟨lk_cv rfl hb5v, lk_cv rfl hb5v, trivial⟩ (q_gtr rfl rfl rfl)) rfl rfl rfl rfl rfl ?_
 refine vq (q_and rfl rfl rfl) rfl (simL_nil (nrm_then ?_))
 refine sim_condb rfl (fun h3v => ?_) (fun h4v => ?_)
 refine sim_region ?_
 refine vm rfl rfl ?_
 refine vn rfl rfl ?_
 refine vq (q_fa rfl rfl Tryz.underlying164 rfl rfl Tryz.sizeOf30 rfl) rfl ?_
 refine simL_do (re_store 0 rfl rfl rfl Tryz.sizeOf30 rfl rfl (one_of (by rfl)) rfl rfl) rfl rfl ?_
 intro _
 refine simL_nil ?_
 exact nrm_cut (s := 3) () ⟨rfl, rfl, trivial⟩ (.sel 0 rfl (.sel 0 rfl (.sel 0 rfl (.nil _))))
 refine sim_skip ?_
 exact nrm_cut (s := x0_1) () ⟨rfl, rfl, trivial⟩ (.sel 0 rfl (.sel 0 rfl (.sel 0 rfl (.nil _))))
 intro s1v y2v
 refine sim_seq (sr ?_)
 refine vm rfl rfl ?_
 refine vn rfl rfl ?_
 refine vq (q_fa rfl rfl Tryz.underlying164 rfl rfl Tryz.sizeOf30 rfl) rfl ?_
 refine vq (q_load rfl rfl Tryz.isAgg30 (.obj 0 rfl rfl)) rfl ?_
 refine vq (q_neq rfl rfl rfl) rfl (simL_nil (nrm_then ?_))
 refine sim_condn rfl (fun h10v => ?_) (fun h11v => ?_)
 refine sim_skip ?_
 refine nrm_then (sr ?_)
 refine vm rfl rfl ?_
 refine vm rfl rfl ?_
 refine vq (q_len rfl rfl rfl Tryz.underlying25) rfl ?_
 refine simL_bind (fun s12v hs13v => ?_)
 refine simL_eff (re_call (vs := [.pointer (some ⟨b0, 0, none⟩), .int .i64 (x1.length : Int)]) (cap := []) (A := [obj b0 164 [.slice a0_0 x0_0.length c0_0, .int .i64 s1v], Row 5 1 a0_0 x0_0.length c0_0 (encB x0_0)]) (rst := [F]) rfl rfl rfl rfl rfl rfl Tryz.call74 (.sel 0 rfl (.sel 0 rfl (.sel 0 rfl (.nil _)))) (wire_Writer_Int.calls _ _ k b0 a0_0 c0_0 x0_0 s1v (x1.length : Int) ) hs13v) rfl rfl rfl ?_
 intro y14v
 refine ny ?_
 refine vm rfl rfl ?_
 refine vm rfl rfl ?_
 refine vn rfl rfl ?_
 refine vq (q_fa rfl rfl Tryz.underlying164 rfl rfl Tryz.sizeOf25 rfl) rfl ?_
 refine vq (q_load rfl rfl Tryz.isAgg25 (.obj 0 rfl rfl)) rfl ?_
 refine vm rfl rfl ?_
 refine simL_ask (fun hb16v => ?_)
 refine simL_eff (re_appendb 1 rfl rfl rfl Tryz.underlying25 elt5 rfl (h1.rds 1 rfl) hb16v) rfl rfl rfl ?_
 intro y15v
 refine vn rfl rfl ?_
 refine vq (q_fa rfl rfl Tryz.underlying164 rfl rfl Tryz.sizeOf25 rfl) rfl ?_
 refine simL_do (re_store 0 rfl rfl rfl Tryz.sizeOf25 rfl rfl (one_of (by rfl)) rfl rfl) rfl rfl ?_
 intro _
 refine simL_nil ?_
 exact nrm_fn (y15v.1, y15v.2) rfl rfl rfl (.sel 0 rfl (.sel 0 rfl (.sel 0 rfl (.nil _))))
 refine sim_rtn ?_
 refine rtn_then ?_
 exact rtn_fn (a0_0, c0_0) rfl rfl rfl (.sel 0 rfl (.sel 0 rfl (.sel 0 rfl (.nil _))))

def codec_Snaps_Put_1.f (k : Nat) (x0_0 : List UInt8) (x0_1 : Int) (x1_0 : Int) (x1_1 : Int) (x1_2 : List UInt8) : Option (List UInt8 × Int) := (wire_Writer_Int.f k x0_0 x0_1 x1_0).bind fun s1v => ((wire_Writer_Int.f k s1v.1 s1v.2 x1_1).bind fun s4v => ((wire_Writer_Bytes.f k s4v.1 s4v.2 x1_2 (524288 : Int)).bind fun s7v => (some (s7v.1, s7v.2))))
theorem codec_Snaps_Put_1.calls (W : World) (F : HA) (k : Nat) (b0 : Nat) (a0_0 : Option Addr) (c0_0 : Nat) (x0_0 : List UInt8) (x0_1 : Int) (b1 : Nat) (x1_0 : Int) (x1_1 : Int) (a1_2 : Option Addr) (c1_2 : Nat) (x1_2 : List UInt8) (h1_2 : Rd F a1_2 (encB x1_2)) (hc1_2 : x1_2.length ≤ c1_2) (hm1_2 : c1_2 ≤ maxLen) :
    Fn Tryz.prog W 73 [.pointer (some ⟨b0, 0, none⟩), .pointer (some ⟨b1, 0, none⟩)] [obj b0 164 [.slice a0_0 x0_0.length c0_0, .int .i64 x0_1], Row 5 1 a0_0 x0_0.length c0_0 (encB x0_0), obj b1 27 [.int .i64 x1_0, .int .i64 x1_1, .slice a1_2 x1_2.length c1_2]] F (codec_Snaps_Put_1.f k x0_0 x0_1 x1_0 x1_1 x1_2) (fun (r : List UInt8 × Int) (y : Option Addr × Nat) => .tuple #[]) (fun r y => [obj b0 164 [.slice y.1 r.1.length y.2, .int .i64 r.2], Row 5 1 y.1 r.1.length y.2 (encB r.1), obj b1 27 [.int .i64 x1_0, .int .i64 x1_1, .slice a1_2 x1_2.length c1_2]]) := by
 unfold codec_Snaps_Put_1.f
 refine fn_intro 15 Tryz.func73 rfl Tryz.ntmps73 rfl ?_
 refine sr ?_
 refine vm rfl rfl ?_
 refine vq (q_fa rfl rfl Tryz.underlying27 rfl rfl Tryz.sizeOf3 rfl) rfl ?_
 refine vq (q_load rfl rfl Tryz.isAgg3 (.obj 2 rfl rfl)) rfl ?_
 refine simL_bind (fun s1v hs2v => ?_)
 refine simL_eff (re_call (vs := [.pointer (some ⟨b0, 0, none⟩), .int .i64 x1_0]) (cap := []) (A := [obj b0 164 [.slice a0_0 x0_0.length c0_0, .int .i64 x0_1], Row 5 1 a0_0 x0_0.length c0_0 (encB x0_0)]) (rst := [obj b1 27 [.int .i64 x1_0, .int .i64 x1_1, .slice a1_2 x1_2.length c1_2], F]) rfl rfl rfl rfl rfl rfl Tryz.call74 (.sel 0 rfl (.sel 0 rfl (.sel 0 rfl (.sel 0 rfl (.nil _))))) (wire_Writer_Int.calls _ _ k b0 a0_0 c0_0 x0_0 x0_1 x1_0 ) hs2v) rfl rfl rfl ?_
 intro y3v
 refine nx ?_
 refine vm rfl rfl ?_
 refine vq (q_fa rfl rfl Tryz.underlying27 rfl rfl Tryz.sizeOf3 rfl) rfl ?_
 refine vq (q_load rfl rfl Tryz.isAgg3 (.obj 2 rfl rfl)) rfl ?_
 refine simL_bind (fun s4v hs5v => ?_)
 refine simL_eff (re_call (vs := [.pointer (some ⟨b0, 0, none⟩), .int .i64 x1_1]) (cap := []) (A := [obj b0 164 [.slice y3v.1 s1v.1.length y3v.2, .int .i64 s1v.2], Row 5 1 y3v.1 s1v.1.length y3v.2 (encB s1v.1)]) (rst := [obj b1 27 [.int .i64 x1_0, .int .i64 x1_1, .slice a1_2 x1_2.length c1_2], F]) rfl rfl rfl rfl rfl rfl Tryz.call74 (.sel 0 rfl (.sel 0 rfl (.sel 0 rfl (.sel 0 rfl (.nil _))))) (wire_Writer_Int.calls _ _ k b0 y3v.1 y3v.2 s1v.1 s1v.2 x1_1 ) hs5v) rfl rfl rfl ?_
 intro y6v
 refine ny ?_
 refine vm rfl rfl ?_
 refine vq (q_fa rfl rfl Tryz.underlying27 rfl rfl Tryz.sizeOf25 rfl) rfl ?_
 refine vq (q_load rfl rfl Tryz.isAgg25 (.obj 2 rfl rfl)) rfl ?_
 refine simL_bind (fun s7v hs8v => ?_)
 refine simL_eff (re_call (vs := [.pointer (some ⟨b0, 0, none⟩), .slice a1_2 x1_2.length c1_2, .int .i64 524288]) (cap := []) (A := [obj b0 164 [.slice y6v.1 s4v.1.length y6v.2, .int .i64 s4v.2], Row 5 1 y6v.1 s4v.1.length y6v.2 (encB s4v.1)]) (rst := [obj b1 27 [.int .i64 x1_0, .int .i64 x1_1, .slice a1_2 x1_2.length c1_2], F]) rfl rfl rfl rfl rfl rfl Tryz.call75 (.sel 0 rfl (.sel 0 rfl (.sel 0 rfl (.sel 0 rfl (.nil _))))) (wire_Writer_Bytes.calls _ _ k b0 y6v.1 y6v.2 s4v.1 s4v.2 a1_2 c1_2 x1_2 (524288 : Int) (h1_2.lend 1 rfl) hc1_2 hm1_2) hs8v) rfl rfl rfl ?_
 intro y9v
 refine simL_nil ?_
 exact nrm_fn (y9v.1, y9v.2) rfl rfl rfl (.sel 0 rfl (.sel 0 rfl (.sel 0 rfl (.sel 0 rfl (.nil _)))))

def wire_NewWriter.f  : Option (List UInt8 × Int) := some (([] : List UInt8), 0)
theorem wire_NewWriter.calls (W : World) (F : HA)   :
    Fn Tryz.prog W 115 [] [] F (wire_NewWriter.f ) (fun (r : List UInt8 × Int) (y : Nat × Option Addr × Nat) => .pointer (some ⟨y.1, 0, none⟩)) (fun r y => [obj y.1 164 [.slice y.2.1 r.1.length y.2.2, .int .i64 r.2], Row 5 1 y.2.1 r.1.length y.2.2 (encB r.1)]) := by
 unfold wire_NewWriter.f
 refine fn_intro 3 Tryz.func115 rfl Tryz.ntmps115 rfl ?_
 refine sr ?_
 refine va rfl rfl (nx ?_)
 refine vq (q_build (v := .agg #[.slice none 0 0, .int .i64 0]) rfl rfl (fun _ => by kernel_rfl)) rfl ?_
 refine simL_eff (re_box rfl rfl rfl) rfl rfl rfl ?_
 intro b1v
 refine va rfl rfl (simL_nil (nrm_then (sim_rtn ?_)))
 exact rtn_fn (b1v, none, 0) rfl rfl rfl (.sel 0 rfl (.row_nil (.sel 0 rfl (.nil _))))

def wire_Writer_Done.f (x0_0 : List UInt8) (x0_1 : Int) : Option (List UInt8 × Int) := if x0_1 = (0 : Int) then ((wire_fresh.f x0_0).bind fun s3v => (some (s3v, 0))) else (some (([] : List UInt8), x0_1))
theorem wire_Writer_Done.calls (W : World) (F : HA) (b0 : Nat) (a0_0 : Option Addr) (c0_0 : Nat) (x0_0 : List UInt8) (x0_1 : Int) (h0_0 : Rd F a0_0 (encB x0_0)) (hc0_0 : x0_0.length ≤ c0_0) (hm0_0 : c0_0 ≤ maxLen) :
    Fn Tryz.prog W 116 [.pointer (some ⟨b0, 0, none⟩)] [obj b0 164 [.slice a0_0 x0_0.length c0_0, .int .i64 x0_1]] F (wire_Writer_Done.f x0_0 x0_1) (fun (r : List UInt8 × Int) (y : Option Addr × Nat) => .tuple #[.slice y.1 r.1.length y.2, .int .i64 r.2]) (fun r y => [Row 5 1 y.1 r.1.length y.2 (encB r.1), obj b0 164 [.slice a0_0 x0_0.length c0_0, .int .i64 x0_1]]) := by
 unfold wire_Writer_Done.f
 refine fn_intro 18 Tryz.func116 rfl Tryz.ntmps116 rfl ?_
 refine sr ?_
 refine va rfl rfl ?_
 refine va rfl rfl (simL_nil (nrm_then (sim_seq (sr ?_))))
 refine vm rfl rfl ?_
 refine vn rfl rfl ?_
 refine vq (q_fa rfl rfl Tryz.underlying164 rfl rfl Tryz.sizeOf30 rfl) rfl ?_
 refine vq (q_load rfl rfl Tryz.isAgg30 (.obj 0 rfl rfl)) rfl ?_
 refine vq (q_neq rfl rfl rfl) rfl (simL_nil (nrm_then ?_))
 refine sim_condn rfl (fun h1v => ?_) (fun h2v => ?_)
 refine sim_skip ?_
 refine nrm_then (sr ?_)
 refine vm rfl rfl ?_
 refine vn rfl rfl ?_
 refine vq (q_fa rfl rfl Tryz.underlying164 rfl rfl Tryz.sizeOf25 rfl) rfl ?_
 refine vq (q_load rfl rfl Tryz.isAgg25 (.obj 0 rfl rfl)) rfl ?_
 refine simL_bind (fun s3v hs4v => ?_)
 refine simL_eff (re_call (vs := [.slice a0_0 x0_0.length c0_0]) (cap := []) (A := []) (rst := [obj b0 164 [.slice a0_0 x0_0.length c0_0, .int .i64 x0_1], F]) rfl rfl rfl rfl rfl rfl Tryz.call160 (.sel 0 rfl (.sel 0 rfl (.nil _))) (wire_fresh.calls _ _ a0_0 c0_0 x0_0 (h0_0.lend 1 rfl) hc0_0 hm0_0) hs4v) rfl rfl rfl ?_
 intro y5v
 refine va rfl rfl ?_
 refine va rfl rfl (simL_nil (nrm_then (sim_rtn ?_)))
 exact rtn_fn (y5v.1, y5v.2) rfl rfl rfl (.sel 0 rfl (.sel 0 rfl (.sel 0 rfl (.nil _))))
 refine sim_seq ?_
 refine sim_draw (Γ := Unit) () [[], [0], [0, 1], [0, 1, 2], [], rL 5] [] [0, 1, 2, 3, 4, 5] (fun i => [[0], [0], [0], [0], [0], [0]].getD i []) (fun i => [[], [], [], [], [], []].getD i []) (fun γ i => [.pointer (some ⟨b0, 0, none⟩), .pointer (some ⟨b0, 0, none⟩), .pointer (some ⟨b0, 1, none⟩), .int .i64 x0_1, .slice none 0 0, .int .i64 x0_1].getD i undef) (fun j γ => [[obj b0 164 [.slice a0_0 x0_0.length c0_0, .int .i64 x0_1], F]].getD j []) (fun γ => [(2, .slice none 0 0), (3, .int .i64 x0_1)]) mixed (by decide) (by decide) (by decide) (by decide) (by decide) (by decide) (by decide) 18 rfl (by decide) (by decide) (by decide) (Ent.refl _) ?_ ?_ (fun _ => ⟨rfl, rfl, trivial⟩) ?_
 exact (aq rfl (fun γ => qm rfl (.o (s := 0) rfl (by decide) .nil) rfl) (aq rfl (fun γ => qp rfl rfl (.v 0 rfl rfl .nil) (q_nil rfl rfl) rfl) (aq rfl (fun γ => qp rfl rfl (.v 1 rfl rfl .nil) (q_fa rfl rfl Tryz.underlying164 rfl rfl Tryz.sizeOf30 rfl) rfl) (aq rfl (fun γ => qp rfl rfl (.v 2 rfl rfl .nil) (q_load rfl rfl Tryz.isAgg30 (.obj 0 rfl rfl)) rfl) (aq rfl (fun γ => qp rfl rfl .nil (q_asg rfl rfl) rfl) (aq rfl (fun γ => qp rfl rfl (.v 3 rfl rfl .nil) (q_asg rfl rfl) rfl) zA))))))
 exact zA
 intro g6v
 refine nrm_then (sim_rtn ?_)
 refine rtn_then ?_
 exact rtn_fn (none, 0) rfl rfl rfl (.row_nil (.sel 0 rfl (.sel 0 rfl (.nil _))))

def codec_text_codec_Snaps_Put_1.f (k : Nat) (x0 : Int) (xp0_0 : Int) (xp0_1 : Int) (xp0_2 : List UInt8) : Option (List UInt8 × Int) := if x0 = (0 : Int) then ((wire_NewWriter.f).bind fun s3v => ((codec_Snaps_Put_1.f k s3v.1 s3v.2 xp0_0 xp0_1 xp0_2).bind fun s6v => ((wire_Writer_Done.f s6v.1 s6v.2).bind fun s13v => (some (s13v.1, s13v.2))))) else (some (([] : List UInt8), x0))
theorem codec_text_codec_Snaps_Put_1.calls (W : World) (F : HA) (k : Nat) (x0 : Int) (bp0 : Nat) (xp0_0 : Int) (xp0_1 : Int) (ap0_2 : Option Addr) (cp0_2 : Nat) (xp0_2 : List UInt8) (hp0_2 : Rd F ap0_2 (encB xp0_2)) (hcp0_2 : xp0_2.length ≤ cp0_2) (hmp0_2 : cp0_2 ≤ maxLen) :
    Fn Tryz.prog W 71 [.int .i64 x0, .func (.func 73) #[] #[.pointer (some ⟨bp0, 0, none⟩)]] [obj bp0 27 [.int .i64 xp0_0, .int .i64 xp0_1, .slice ap0_2 xp0_2.length cp0_2]] F (codec_text_codec_Snaps_Put_1.f k x0 xp0_0 xp0_1 xp0_2) (fun (r : List UInt8 × Int) (y : Option Addr × Nat) => .tuple #[.slice y.1 r.1.length y.2, .int .i64 r.2]) (fun r y => [Row 5 1 y.1 r.1.length y.2 (encB r.1), obj bp0 27 [.int .i64 xp0_0, .int .i64 xp0_1, .slice ap0_2 xp0_2.length cp0_2]]) := by
 unfold codec_text_codec_Snaps_Put_1.f
 refine fn_intro 18 Tryz.func71 rfl Tryz.ntmps71 rfl ?_
 refine sr ?_
 refine va rfl rfl ?_
 refine va rfl rfl (simL_nil (nrm_then (sim_seq (sr ?_))))
 refine vm rfl rfl ?_
 refine vq (q_neq rfl rfl rfl) rfl (simL_nil (nrm_then ?_))
 refine sim_condn rfl (fun h1v => ?_) (fun h2v => ?_)
 refine sim_skip ?_
 refine nrm_then (sr ?_)
 refine simL_bind (fun s3v hs4v => ?_)
 refine simL_eff (re_call (vs := []) (cap := []) (A := []) (rst := [obj bp0 27 [.int .i64 xp0_0, .int .i64 xp0_1, .slice ap0_2 xp0_2.length cp0_2], F]) rfl rfl rfl rfl rfl rfl Tryz.call115 (.sel 0 rfl (.sel 0 rfl (.nil _))) (wire_NewWriter.calls _ _  ) hs4v) rfl rfl rfl ?_
 intro y5v
 refine va rfl rfl (nx ?_)
 refine vm rfl rfl ?_
 refine vm rfl rfl ?_
 refine simL_bind (fun s6v hs7v => ?_)
 refine simL_eff (re_call (vs := [.pointer (some ⟨y5v.1, 0, none⟩)]) (cap := [.pointer (some ⟨bp0, 0, none⟩)]) (A := [obj y5v.1 164 [.slice y5v.2.1 s3v.1.length y5v.2.2, .int .i64 s3v.2], Row 5 1 y5v.2.1 s3v.1.length y5v.2.2 (encB s3v.1), obj bp0 27 [.int .i64 xp0_0, .int .i64 xp0_1, .slice ap0_2 xp0_2.length cp0_2]]) (rst := [F]) rfl rfl rfl rfl rfl rfl Tryz.call73 (.sel 0 rfl (.sel 0 rfl (.sel 0 rfl (.sel 0 rfl (.nil _))))) (codec_Snaps_Put_1.calls _ _ k y5v.1 y5v.2.1 y5v.2.2 s3v.1 s3v.2 bp0 xp0_0 xp0_1 ap0_2 cp0_2 xp0_2 (hp0_2.lend 0 rfl) hcp0_2 hmp0_2) hs7v) rfl rfl rfl ?_
 intro y8v
 refine nx ?_
 refine vm rfl rfl ?_
 refine simL_bind (fun s13v hs14v => ?_)
 refine simL_lend 1 rfl (fun hq9v hq10v hq11v hq12v => ?_)
 refine simL_eff (re_call (vs := [.pointer (some ⟨y5v.1, 0, none⟩)]) (cap := []) (A := [obj y5v.1 164 [.slice y8v.1 s6v.1.length y8v.2, .int .i64 s6v.2]]) (rst := [Row 5 1 y8v.1 s6v.1.length y8v.2 (encB s6v.1), obj bp0 27 [.int .i64 xp0_0, .int .i64 xp0_1, .slice ap0_2 xp0_2.length cp0_2], F]) rfl rfl rfl rfl rfl rfl Tryz.call116 (.sel 0 rfl (.sel 0 rfl (.sel 0 rfl (.sel 0 rfl (.nil _))))) (wire_Writer_Done.calls _ _ y5v.1 y8v.1 y8v.2 s6v.1 s6v.2 (hq9v.lend 0 rfl) hq10v hq11v) hs14v) rfl rfl rfl ?_
 intro y15v
 refine vq (q_ext rfl rfl rfl) rfl ?_
 refine vq (q_ext rfl rfl rfl) rfl ?_
 refine va rfl rfl ?_
 refine va rfl rfl (simL_nil (nrm_then (sim_rtn ?_)))
 exact rtn_fn (y15v.1, y15v.2) rfl rfl rfl (.sel 0 rfl (.sel 2 rfl (.sel 2 rfl (.nil _))))
 refine sr ?_
 refine vm rfl rfl ?_
 refine va rfl rfl ?_
 refine va rfl rfl (simL_nil (nrm_then (sim_rtn ?_)))
 refine rtn_then ?_
 exact rtn_fn (none, 0) rfl rfl rfl (.row_nil (.sel 0 rfl (.sel 0 rfl (.nil _))))

def codec_Snaps_Put.f (k : Nat) (x1_0 : Int) (x1_1 : Int) (x1_2 : List UInt8) : Option (List UInt8 × Int) := (codec_Snaps_Check.f x1_0 x1_1 x1_2).bind fun s3v => ((codec_text_codec_Snaps_Put_1.f k s3v x1_0 x1_1 x1_2).bind fun s6v => (some (s6v.1, s6v.2)))
theorem codec_Snaps_Put.calls (W : World) (F : HA) (k : Nat) (x1_0 : Int) (x1_1 : Int) (a1_2 : Option Addr) (c1_2 : Nat) (x1_2 : List UInt8) (h1_2 : Rd F a1_2 (encB x1_2)) (hc1_2 : x1_2.length ≤ c1_2) (hm1_2 : c1_2 ≤ maxLen) :
    Fn Tryz.prog W 34 [.agg #[], .agg #[.int .i64 x1_0, .int .i64 x1_1, .slice a1_2 x1_2.length c1_2]] [] F (codec_Snaps_Put.f k x1_0 x1_1 x1_2) (fun (r : List UInt8 × Int) (y : Option Addr × Nat) => .tuple #[.slice y.1 r.1.length y.2, .int .i64 r.2]) (fun r y => [Row 5 1 y.1 r.1.length y.2 (encB r.1)]) := by
 unfold codec_Snaps_Put.f
 refine fn_intro 13 Tryz.func34 rfl Tryz.ntmps34 rfl ?_
 refine sr ?_
 refine simL_eff (re_box rfl rfl rfl) rfl rfl rfl ?_
 intro b1v
 refine simL_eff (re_box rfl rfl rfl) rfl rfl rfl ?_
 intro b2v
 refine va rfl rfl ?_
 refine va rfl rfl (nx ?_)
 refine vq (q_loado 1 rfl rfl Tryz.isAgg79 Tryz.sizeOf79 rfl rfl) rfl ?_
 refine vq (q_loado 0 rfl rfl Tryz.isAgg27 Tryz.sizeOf27 rfl rfl) rfl ?_
 refine simL_bind (fun s3v hs4v => ?_)
 refine simL_eff (re_call (vs := [.agg #[], .agg #[.int .i64 x1_0, .int .i64 x1_1, .slice a1_2 x1_2.length c1_2]]) (cap := []) (A := []) (rst := [obj b2v 27 [.int .i64 x1_0, .int .i64 x1_1, .slice a1_2 x1_2.length c1_2], obj b1v 79 [], F]) rfl rfl rfl rfl rfl rfl Tryz.call72 (.sel 0 rfl (.sel 0 rfl (.sel 0 rfl (.nil _)))) (codec_Snaps_Check.calls _ _ x1_0 x1_1 a1_2 c1_2 x1_2 (h1_2.lend 2 rfl) hc1_2 hm1_2) hs4v) rfl rfl rfl ?_
 intro y5v
 refine vq (q_mkfn rfl rfl rfl) rfl ?_
 refine simL_bind (fun s6v hs7v => ?_)
 refine simL_eff (re_call (vs := [.int .i64 s3v, .func (.func 73) #[] #[.pointer (some ⟨b2v, 0, none⟩)]]) (cap := []) (A := [obj b2v 27 [.int .i64 x1_0, .int .i64 x1_1, .slice a1_2 x1_2.length c1_2]]) (rst := [obj b1v 79 [], F]) rfl rfl rfl rfl rfl rfl Tryz.call71 (.sel 0 rfl (.sel 0 rfl (.sel 0 rfl (.nil _)))) (codec_text_codec_Snaps_Put_1.calls _ _ k s3v b2v x1_0 x1_1 a1_2 c1_2 x1_2 (h1_2.lend 1 rfl) hc1_2 hm1_2) hs7v) rfl rfl rfl ?_
 intro y8v
 refine vq (q_ext rfl rfl rfl) rfl ?_
 refine vq (q_ext rfl rfl rfl) rfl ?_
 refine va rfl rfl ?_
 refine va rfl rfl (simL_nil (nrm_then (sim_rtn ?_)))
 exact rtn_fn (y8v.1, y8v.2) rfl rfl rfl (.sel 0 rfl (.sel 2 rfl (.nil _)))

def frame_four.f (x0 : Int) : Option (List UInt8) := if 0 ≤ IntKind.u8.wrap x0 ∧ IntKind.u8.wrap x0 < 256 then (if 0 ≤ IntKind.u8.wrap (Int.fdiv x0 (2 ^ (min (8 : Int).toNat IntKind.u32.bits))) ∧ IntKind.u8.wrap (Int.fdiv x0 (2 ^ (min (8 : Int).toNat IntKind.u32.bits))) < 256 then (if 0 ≤ IntKind.u8.wrap (Int.fdiv x0 (2 ^ (min (16 : Int).toNat IntKind.u32.bits))) ∧ IntKind.u8.wrap (Int.fdiv x0 (2 ^ (min (16 : Int).toNat IntKind.u32.bits))) < 256 then (if 0 ≤ IntKind.u8.wrap (Int.fdiv x0 (2 ^ (min (24 : Int).toNat IntKind.u32.bits))) ∧ IntKind.u8.wrap (Int.fdiv x0 (2 ^ (min (24 : Int).toNat IntKind.u32.bits))) < 256 then (some ([(byte (IntKind.u8.wrap x0)), (byte (IntKind.u8.wrap (Int.fdiv x0 (2 ^ (min (8 : Int).toNat IntKind.u32.bits))))), (byte (IntKind.u8.wrap (Int.fdiv x0 (2 ^ (min (16 : Int).toNat IntKind.u32.bits))))), (byte (IntKind.u8.wrap (Int.fdiv x0 (2 ^ (min (24 : Int).toNat IntKind.u32.bits)))))] : List UInt8)) else none) else none) else none) else none
theorem frame_four.calls (W : World) (F : HA) (x0 : Int)  :
    Fn Tryz.prog W 121 [.int .u32 x0] [] F (frame_four.f x0) (fun (r : List UInt8) (y : Option Addr × Nat) => .slice y.1 r.length y.2) (fun r y => [Row 5 1 y.1 r.length y.2 (encB r)]) := by
 unfold frame_four.f
 refine fn_intro 15 Tryz.func121 rfl Tryz.ntmps121 rfl ?_
 refine sr ?_
 refine va rfl rfl (nx ?_)
 refine vm rfl rfl ?_
 refine vq (q_conv rfl rfl Tryz.underlying170 Tryz.underlying5) rfl ?_
 refine vm rfl rfl ?_
 refine vq (q_shr rfl rfl rfl (by decide)) rfl ?_
 refine vq (q_conv rfl rfl Tryz.underlying170 Tryz.underlying5) rfl ?_
 refine vm rfl rfl ?_
 refine vq (q_shr rfl rfl rfl (by decide)) rfl ?_
 refine vq (q_conv rfl rfl Tryz.underlying170 Tryz.underlying5) rfl ?_
 refine vm rfl rfl ?_
 refine vq (q_shr rfl rfl rfl (by decide)) rfl ?_
 refine vq (q_conv rfl rfl Tryz.underlying170 Tryz.underlying5) rfl ?_
 refine simL_ask (fun hb3v => ?_)
 refine simL_ask (fun hb4v => ?_)
 refine simL_ask (fun hb5v => ?_)
 refine simL_ask (fun hb6v => ?_)
 refine simL_eff (re_litb (cs := [.int .u8 (IntKind.u8.wrap x0), .int .u8 (IntKind.u8.wrap (Int.fdiv x0 (2 ^ (min (8 : Int).toNat IntKind.u32.bits)))), .int .u8 (IntKind.u8.wrap (Int.fdiv x0 (2 ^ (min (16 : Int).toNat IntKind.u32.bits)))), .int .u8 (IntKind.u8.wrap (Int.fdiv x0 (2 ^ (min (24 : Int).toNat IntKind.u32.bits))))]) ([(byte (IntKind.u8.wrap x0)), (byte (IntKind.u8.wrap (Int.fdiv x0 (2 ^ (min (8 : Int).toNat IntKind.u32.bits))))), (byte (IntKind.u8.wrap (Int.fdiv x0 (2 ^ (min (16 : Int).toNat IntKind.u32.bits))))), (byte (IntKind.u8.wrap (Int.fdiv x0 (2 ^ (min (24 : Int).toNat IntKind.u32.bits)))))] : List UInt8) rfl rfl Tryz.underlying25 elt5 rfl (by kernel_rfl) rfl rfl (lit_cons (byte_toNat hb3v.1 hb3v.2) (lit_cons (byte_toNat hb4v.1 hb4v.2) (lit_cons (byte_toNat hb5v.1 hb5v.2) (lit_cons (byte_toNat hb6v.1 hb6v.2) lit_nil))))) rfl rfl rfl ?_
 intro b1v
 refine va rfl rfl (simL_nil (nrm_then (sim_rtn ?_)))
 exact rtn_fn ((some ⟨b1v, 0, none⟩), 4) rfl rfl rfl (.sel 0 rfl (.sel 0 rfl (.nil _)))

def frame_lay.f (k : Nat) (x0 : List UInt8) (x1 : List UInt8) : Option (List UInt8) := (frame_four.f (IntKind.u32.wrap (x1.length : Int))).bind fun s1v => ((frame_more.f k (4294967295 : Int) s1v).bind fun s8v => ((frame_more.f k s8v x1).bind fun s11v => (if (x0.length + s1v.length) * 1 ≤ 140737488355328 then ((frame_four.f (bitsV .xor .u32 (if IntKind.u32.signed then -1 else IntKind.u32.max) s11v)).bind fun s16v => (if ((x0 ++ s1v).length + s16v.length) * 1 ≤ 140737488355328 then (if (((x0 ++ s1v) ++ s16v).length + x1.length) * 1 ≤ 140737488355328 then (some (((x0 ++ s1v) ++ s16v) ++ x1)) else none) else none)) else none)))
theorem frame_lay.calls (W : World) (F : HA) (k : Nat) (a0 : Option Addr) (c0 : Nat) (x0 : List UInt8) (a1 : Option Addr) (c1 : Nat) (x1 : List UInt8) (h1 : Rd F a1 (encB x1)) (hc1 : x1.length ≤ c1) (hm1 : c1 ≤ maxLen) :
    Fn Tryz.prog W 76 [.slice a0 x0.length c0, .slice a1 x1.length c1] [Row 5 1 a0 x0.length c0 (encB x0)] F (frame_lay.f k x0 x1) (fun (r : List UInt8) (y : Option Addr × Nat) => .slice y.1 r.length y.2) (fun r y => [Row 5 1 y.1 r.length y.2 (encB r)]) := by
 unfold frame_lay.f
 refine fn_intro 26 Tryz.func76 rfl Tryz.ntmps76 rfl ?_
 refine sr ?_
 refine va rfl rfl (nx ?_)
 refine vm rfl rfl ?_
 refine vq (q_len rfl rfl rfl Tryz.underlying25) rfl ?_
 refine vq (q_conv rfl rfl Tryz.underlying3 Tryz.underlying170) rfl ?_
 refine simL_bind (fun s1v hs2v => ?_)
 refine simL_eff (re_call (vs := [.int .u32 (IntKind.u32.wrap (x1.length : Int))]) (cap := []) (A := []) (rst := [Row 5 1 a0 x0.length c0 (encB x0), F]) rfl rfl rfl rfl rfl rfl Tryz.call121 (.sel 0 rfl (.sel 0 rfl (.nil _))) (frame_four.calls _ _ (IntKind.u32.wrap (x1.length : Int)) ) hs2v) rfl rfl rfl ?_
 intro y3v
 refine va rfl rfl (nx ?_)
 refine vm rfl rfl ?_
 refine simL_bind (fun s8v hs9v => ?_)
 refine simL_lend 0 rfl (fun hq4v hq5v hq6v hq7v => ?_)
 refine simL_eff (re_call (vs := [.int .u32 4294967295, .slice y3v.1 s1v.length y3v.2]) (cap := []) (A := []) (rst := [Row 5 1 y3v.1 s1v.length y3v.2 (encB s1v), Row 5 1 a0 x0.length c0 (encB x0), F]) rfl rfl rfl rfl rfl rfl Tryz.call122 (.sel 0 rfl (.sel 0 rfl (.sel 0 rfl (.nil _)))) (frame_more.calls _ _ k (4294967295 : Int) y3v.1 y3v.2 s1v (hq4v.lend 0 rfl) hq5v hq6v) hs9v) rfl rfl rfl ?_
 intro y10v
 refine vm rfl rfl ?_
 refine simL_bind (fun s11v hs12v => ?_)
 refine simL_eff (re_call (vs := [.int .u32 s8v, .slice a1 x1.length c1]) (cap := []) (A := []) (rst := [Row 5 1 y3v.1 s1v.length y3v.2 (encB s1v), Row 5 1 a0 x0.length c0 (encB x0), F]) rfl rfl rfl rfl rfl rfl Tryz.call122 (.sel 0 rfl (.sel 0 rfl (.sel 0 rfl (.nil _)))) (frame_more.calls _ _ k s8v a1 c1 x1 (h1.lend 2 rfl) hc1 hm1) hs12v) rfl rfl rfl ?_
 intro y13v
 refine vq (q_com rfl rfl) rfl ?_
 refine va rfl rfl (nx ?_)
 refine vm rfl rfl ?_
 refine vm rfl rfl ?_
 refine simL_ask (fun hb15v => ?_)
 refine simL_eff (re_appendb 1 rfl rfl rfl Tryz.underlying25 elt5 rfl (Rds.row 0 rfl) hb15v) rfl rfl rfl ?_
 intro y14v
 refine va rfl rfl (nx ?_)
 refine vm rfl rfl ?_
 refine vm rfl rfl ?_
 refine simL_bind (fun s16v hs17v => ?_)
 refine simL_eff (re_call (vs := [.int .u32 (bitsV .xor .u32 (if IntKind.u32.signed then -1 else IntKind.u32.max) s11v)]) (cap := []) (A := []) (rst := [Row 5 1 y3v.1 s1v.length y3v.2 (encB s1v), Row 5 1 y14v.1 (x0 ++ s1v).length y14v.2 (encB (x0 ++ s1v)), F]) rfl rfl rfl rfl rfl rfl Tryz.call121 (.sel 0 rfl (.sel 0 rfl (.sel 0 rfl (.nil _)))) (frame_four.calls _ _ (bitsV .xor .u32 (if IntKind.u32.signed then -1 else IntKind.u32.max) s11v) ) hs17v) rfl rfl rfl ?_
 intro y18v
 refine simL_ask (fun hb20v => ?_)
 refine simL_eff (re_appendb 2 rfl rfl rfl Tryz.underlying25 elt5 rfl (Rds.row 0 rfl) hb20v) rfl rfl rfl ?_
 intro y19v
 refine va rfl rfl (nx ?_)
 refine vm rfl rfl ?_
 refine vm rfl rfl ?_
 refine simL_ask (fun hb22v => ?_)
 refine simL_eff (re_appendb 2 rfl rfl rfl Tryz.underlying25 elt5 rfl (h1.rds 2 rfl) hb22v) rfl rfl rfl ?_
 intro y21v
 refine va rfl rfl (simL_nil (nrm_then (sim_rtn ?_)))
 exact rtn_fn (y21v.1, y21v.2) rfl rfl rfl (.sel 2 rfl (.sel 2 rfl (.nil _)))

def frame_Put.f (k : Nat) (x0 : List UInt8) : Option (List UInt8 × Int) := if (1048576 : Int) < (x0.length : Int) then (some (([] : List UInt8), 3)) else (if 0 ≤ (0 : Int) ∧ (0 : Int) ≤ IntKind.i64.wrap (8 + (x0.length : Int)) ∧ IntKind.i64.wrap (8 + (x0.length : Int)) * 1 ≤ 140737488355328 then ((frame_lay.f k (List.replicate (0 : Int).toNat (0 : UInt8)) x0).bind fun s5v => (some (s5v, 0))) else none)
theorem frame_Put.calls (W : World) (F : HA) (k : Nat) (a0 : Option Addr) (c0 : Nat) (x0 : List UInt8) (h0 : Rd F a0 (encB x0)) (hc0 : x0.length ≤ c0) (hm0 : c0 ≤ maxLen) :
    Fn Tryz.prog W 35 [.slice a0 x0.length c0] [] F (frame_Put.f k x0) (fun (r : List UInt8 × Int) (y : Option Addr × Nat) => .tuple #[.slice y.1 r.1.length y.2, .int .i64 r.2]) (fun r y => [Row 5 1 y.1 r.1.length y.2 (encB r.1)]) := by
 unfold frame_Put.f
 refine fn_intro 13 Tryz.func35 rfl Tryz.ntmps35 rfl ?_
 refine sr ?_
 refine va rfl rfl ?_
 refine va rfl rfl (simL_nil (nrm_then (sim_seq (sr ?_))))
 refine vm rfl rfl ?_
 refine vq (q_len rfl rfl rfl Tryz.underlying25) rfl ?_
 refine vq (q_gtr rfl rfl rfl) rfl (simL_nil (nrm_then ?_))
 refine sim_cond rfl (fun h1v => ?_) (fun h2v => ?_)
 refine sr ?_
 refine va rfl rfl ?_
 refine va rfl rfl (simL_nil (nrm_then (sim_rtn ?_)))
 refine rtn_then ?_
 exact rtn_fn (none, 0) rfl rfl rfl (.row_nil (.sel 0 rfl (.nil _)))
 refine sim_skip ?_
 refine nrm_then (sr ?_)
 refine vm rfl rfl ?_
 refine vq (q_len rfl rfl rfl Tryz.underlying25) rfl ?_
 refine vq (q_add rfl rfl rfl) rfl ?_
 refine simL_ask (fun hb4v => ?_)
 refine simL_eff (re_makeb rfl rfl rfl Tryz.underlying25 elt5 hb4v.1 hb4v.2.1 hb4v.2.2) rfl rfl rfl ?_
 intro b3v
 refine vm rfl rfl ?_
 refine simL_bind (fun s5v hs6v => ?_)
 refine simL_eff (re_call (vs := [.slice (some ⟨b3v, 0, none⟩) ((List.replicate (0 : Int).toNat (0 : UInt8)).length) ((IntKind.i64.wrap (8 + (x0.length : Int))).toNat), .slice a0 x0.length c0]) (cap := []) (A := [Row 5 1 (some ⟨b3v, 0, none⟩) (List.replicate (0 : Int).toNat (0 : UInt8)).length ((IntKind.i64.wrap (8 + (x0.length : Int))).toNat) (encB (List.replicate (0 : Int).toNat (0 : UInt8)))]) (rst := [F]) rfl rfl rfl rfl rfl rfl Tryz.call76 (.sel 0 rfl (.sel 0 rfl (.nil _))) (frame_lay.calls _ _ k (some ⟨b3v, 0, none⟩) ((IntKind.i64.wrap (8 + (x0.length : Int))).toNat) (List.replicate (0 : Int).toNat (0 : UInt8)) a0 c0 x0 (h0.lend 0 rfl) hc0 hm0) hs6v) rfl rfl rfl ?_
 intro y7v
 refine va rfl rfl ?_
 refine va rfl rfl (simL_nil (nrm_then (sim_rtn ?_)))
 exact rtn_fn (y7v.1, y7v.2) rfl rfl rfl (.sel 0 rfl (.sel 0 rfl (.nil _)))

def disk_Disk_Has.f (x0_0 : List ((List UInt8) × (List UInt8 × Int))) (x0_1 : List UInt8) (x0_2 : Int) (x0_3 : Bool) (x1 : List UInt8) : Option (Bool) := if (mget x0_0 x1).isSome = true then (some true) else (some false)
theorem disk_Disk_Has.calls (W : World) (F : HA) (b0 : Nat) (m0_0 : Nat) (q0_0 : Kps) (x0_0 : List ((List UInt8) × (List UInt8 × Int))) (x0_1 : List UInt8) (x0_2 : Int) (x0_3 : Bool) (x1 : List UInt8)  :
    Fn Tryz.prog W 69 [.pointer (some ⟨b0, 0, none⟩), str x1] [obj b0 76 [.map (some m0_0), str x0_1, .int .i64 x0_2, .bool x0_3], mapF (mapO m0_0 enc9 encP q0_0) FA89 q0_0 x0_0] F (disk_Disk_Has.f x0_0 x0_1 x0_2 x0_3 x1) (fun (r : Bool) (y : Unit) => .bool r) (fun r y => [obj b0 76 [.map (some m0_0), str x0_1, .int .i64 x0_2, .bool x0_3], mapF (mapO m0_0 enc9 encP q0_0) FA89 q0_0 x0_0]) := by
 unfold disk_Disk_Has.f
 refine fn_intro 12 Tryz.func69 rfl Tryz.ntmps69 rfl ?_
 refine sr ?_
 refine va rfl rfl (simL_nil (nrm_then (sim_seq ?_)))
 refine sim_if (fun hk1v => ?_) (fun hk1v => ?_)
 refine sim_region ?_
 refine vm rfl rfl ?_
 refine vn rfl rfl ?_
 refine vq (q_fa rfl rfl Tryz.underlying76 rfl rfl Tryz.sizeOf74 rfl) rfl ?_
 refine vq (q_load rfl rfl Tryz.isAgg74 (.obj 0 rfl rfl)) rfl ?_
 refine vm rfl rfl ?_
 refine vq ((q_mlookY (ek := enc9) x1 (tellsF 1 rfl) hk1v rfl rfl rfl Tryz.underlying74 key9 : RQ _ _ _ _ (.pointer (some ⟨(fptr q0_0 x1), 0, none⟩)))) rfl ?_
 refine vq (q_nep rfl rfl rfl Tryz.underlying87) rfl ?_
 refine va rfl rfl (simL_nil (nrm_then (sim_rtn ?_)))
 exact rtn_fn () rfl rfl rfl (.sel 0 rfl (.sel 0 rfl (.sel 0 rfl (.nil _))))
 refine sim_region ?_
 refine vm rfl rfl ?_
 refine vn rfl rfl ?_
 refine vq (q_fa rfl rfl Tryz.underlying76 rfl rfl Tryz.sizeOf74 rfl) rfl ?_
 refine vq (q_load rfl rfl Tryz.isAgg74 (.obj 0 rfl rfl)) rfl ?_
 refine vm rfl rfl ?_
 refine vq (q_mlookN (ek := enc9) x1 (tellsF 1 rfl) (isNone_of hk1v) rfl rfl rfl Tryz.underlying74 key9 Tryz.zeroValue87) rfl ?_
 refine vq (q_nenn rfl rfl rfl Tryz.underlying87) rfl ?_
 refine va rfl rfl (simL_nil (nrm_then (sim_rtn ?_)))
 exact rtn_fn () rfl rfl rfl (.sel 0 rfl (.sel 0 rfl (.sel 0 rfl (.nil _))))
def disk_Disk_Has.v (x0_0 : List ((List UInt8) × (List UInt8 × Int))) (x0_1 : List UInt8) (x0_2 : Int) (x0_3 : Bool) (x1 : List UInt8) : Bool := (disk_Disk_Has.f x0_0 x0_1 x0_2 x0_3 x1).getD false
def disk_Disk_fails.f (x0_0 : List ((List UInt8) × (List UInt8 × Int))) (x0_1 : List UInt8) (x0_2 : Int) (x0_3 : Bool) : Option (Bool × List UInt8 × Int × Bool) := if x0_2 = (0 : Int) then (some (false, x0_1, x0_2, x0_3)) else (some (decide (IntKind.i64.wrap (x0_2 - 1) = (0 : Int)), x0_1, IntKind.i64.wrap (x0_2 - 1), decide (IntKind.i64.wrap (x0_2 - 1) = (0 : Int))))
theorem disk_Disk_fails.calls (W : World) (F : HA) (b0 : Nat) (m0_0 : Nat) (q0_0 : Kps) (x0_0 : List ((List UInt8) × (List UInt8 × Int))) (x0_1 : List UInt8) (x0_2 : Int) (x0_3 : Bool)  :
    Fn Tryz.prog W 45 [.pointer (some ⟨b0, 0, none⟩)] [obj b0 76 [.map (some m0_0), str x0_1, .int .i64 x0_2, .bool x0_3], mapF (mapO m0_0 enc9 encP q0_0) FA89 q0_0 x0_0] F (disk_Disk_fails.f x0_0 x0_1 x0_2 x0_3) (fun (r : Bool × List UInt8 × Int × Bool) (y : Unit) => .bool r.1) (fun r y => [obj b0 76 [.map (some m0_0), str r.2.1, .int .i64 r.2.2.1, .bool r.2.2.2], mapF (mapO m0_0 enc9 encP q0_0) FA89 q0_0 x0_0]) := by
 unfold disk_Disk_fails.f
 refine fn_intro 27 Tryz.func45 rfl Tryz.ntmps45 rfl ?_
 refine sr ?_
 refine va rfl rfl (simL_nil (nrm_then (sim_seq (sr ?_))))
 refine vm rfl rfl ?_
 refine vn rfl rfl ?_
 refine vq (q_fa rfl rfl Tryz.underlying76 rfl rfl Tryz.sizeOf3 rfl) rfl ?_
 refine vq (q_load rfl rfl Tryz.isAgg3 (.obj 0 rfl rfl)) rfl ?_
 refine vq (q_eql rfl rfl rfl) rfl (simL_nil (nrm_then ?_))
 refine sim_cond rfl (fun h1v => ?_) (fun h2v => ?_)
 refine sr ?_
 refine va rfl rfl (simL_nil (nrm_then (sim_rtn ?_)))
 refine rtn_then ?_
 exact rtn_fn () rfl rfl rfl (.sel 0 rfl (.sel 0 rfl (.sel 0 rfl (.nil _))))
 refine sim_skip ?_
 refine nrm_then (sr ?_)
 refine vm rfl rfl ?_
 refine vn rfl rfl ?_
 refine vq (q_fa rfl rfl Tryz.underlying76 rfl rfl Tryz.sizeOf3 rfl) rfl ?_
 refine vq (q_load rfl rfl Tryz.isAgg3 (.obj 0 rfl rfl)) rfl ?_
 refine vq (q_sub rfl rfl rfl) rfl ?_
 refine vn rfl rfl ?_
 refine vq (q_fa rfl rfl Tryz.underlying76 rfl rfl Tryz.sizeOf3 rfl) rfl ?_
 refine simL_do (re_store 0 rfl rfl rfl Tryz.sizeOf3 rfl rfl (one_of (by rfl)) rfl rfl) rfl rfl ?_
 intro _
 refine nx ?_
 refine vm rfl rfl ?_
 refine vm rfl rfl ?_
 refine vn rfl rfl ?_
 refine vq (q_fa rfl rfl Tryz.underlying76 rfl rfl Tryz.sizeOf3 rfl) rfl ?_
 refine vq (q_load rfl rfl Tryz.isAgg3 (.obj 0 rfl rfl)) rfl ?_
 refine vq (q_eql rfl rfl rfl) rfl ?_
 refine vn rfl rfl ?_
 refine vq (q_fa rfl rfl Tryz.underlying76 rfl rfl Tryz.sizeOf4 rfl) rfl ?_
 refine simL_do (re_store 0 rfl rfl rfl Tryz.sizeOf4 rfl rfl (one_of (by rfl)) rfl rfl) rfl rfl ?_
 intro _
 refine nx ?_
 refine vm rfl rfl ?_
 refine vn rfl rfl ?_
 refine vq (q_fa rfl rfl Tryz.underlying76 rfl rfl Tryz.sizeOf4 rfl) rfl ?_
 refine vq (q_load rfl rfl Tryz.isAgg4 (.obj 0 rfl rfl)) rfl ?_
 refine va rfl rfl (simL_nil (nrm_then (sim_rtn ?_)))
 exact rtn_fn () rfl rfl rfl (.sel 0 rfl (.sel 0 rfl (.sel 0 rfl (.nil _))))
def disk_Disk_fails.v (x0_0 : List ((List UInt8) × (List UInt8 × Int))) (x0_1 : List UInt8) (x0_2 : Int) (x0_3 : Bool) : Bool × List UInt8 × Int × Bool := (disk_Disk_fails.f x0_0 x0_1 x0_2 x0_3).getD (false, [], 0, false)
def disk_Disk_Remove.f (x0_0 : List ((List UInt8) × (List UInt8 × Int))) (x0_1 : List UInt8) (x0_2 : Int) (x0_3 : Bool) (x1 : List UInt8) : Option (Int × (List ((List UInt8) × (List UInt8 × Int))) × List UInt8 × Int × Bool) := if x0_3 = true then (some (11, x0_0, x0_1, x0_2, x0_3)) else ((disk_Disk_Has.f x0_0 x0_1 x0_2 x0_3 x1).bind fun s3v => (if (!s3v) = true then (some (8, x0_0, x0_1, x0_2, x0_3)) else ((disk_Disk_fails.f x0_0 x0_1 x0_2 x0_3).bind fun s8v => (if s8v.1 = true then (some (11, x0_0, s8v.2.1, s8v.2.2.1, s8v.2.2.2)) else ((if s8v.2.1 = x1 then (some ([] : List UInt8)) else (some s8v.2.1)).bind fun s13v => (some (0, mdel x0_0 x1, s13v, s8v.2.2.1, s8v.2.2.2)))))))
theorem disk_Disk_Remove.calls (W : World) (F : HA) (b0 : Nat) (m0_0 : Nat) (q0_0 : Kps) (x0_0 : List ((List UInt8) × (List UInt8 × Int))) (x0_1 : List UInt8) (x0_2 : Int) (x0_3 : Bool) (x1 : List UInt8)  :
    Fn Tryz.prog W 49 [.pointer (some ⟨b0, 0, none⟩), str x1] [obj b0 76 [.map (some m0_0), str x0_1, .int .i64 x0_2, .bool x0_3], mapF (mapO m0_0 enc9 encP q0_0) FA89 q0_0 x0_0] F (disk_Disk_Remove.f x0_0 x0_1 x0_2 x0_3 x1) (fun (r : Int × (List ((List UInt8) × (List UInt8 × Int))) × List UInt8 × Int × Bool) (y : Nat × Kps) => .int .i64 r.1) (fun r y => [obj b0 76 [.map (some y.1), str r.2.2.1, .int .i64 r.2.2.2.1, .bool r.2.2.2.2], mapF (mapO y.1 enc9 encP y.2) FA89 y.2 r.2.1]) := by
 unfold disk_Disk_Remove.f
 refine fn_intro 32 Tryz.func49 rfl Tryz.ntmps49 rfl ?_
 refine sr ?_
 refine va rfl rfl (simL_nil (nrm_then (sim_seq ?_)))
 refine sim_block ?_
 refine sr ?_
 refine vm rfl rfl ?_
 refine vn rfl rfl ?_
 refine vq (q_fa rfl rfl Tryz.underlying76 rfl rfl Tryz.sizeOf4 rfl) rfl ?_
 refine vq (q_load rfl rfl Tryz.isAgg4 (.obj 0 rfl rfl)) rfl ?_
 refine va rfl rfl (simL_nil (nrm_then ?_))
 refine sim_condb rfl (fun h1v => ?_) (fun h2v => ?_)
 refine sr ?_
 refine va rfl rfl (simL_nil (nrm_then (sim_rtn ?_)))
 refine rtn_block ?_
 refine rtn_then ?_
 exact rtn_fn (m0_0, q0_0) rfl rfl rfl (.sel 0 rfl (.sel 0 rfl (.sel 0 rfl (.nil _))))
 refine sr ?_
 refine vm rfl rfl ?_
 refine vm rfl rfl ?_
 refine simL_bind (fun s3v hs4v => ?_)
 refine simL_eff (re_call (vs := [.pointer (some ⟨b0, 0, none⟩), str x1]) (cap := []) (A := [obj b0 76 [.map (some m0_0), str x0_1, .int .i64 x0_2, .bool x0_3], mapF (mapO m0_0 enc9 encP q0_0) FA89 q0_0 x0_0]) (rst := [F]) rfl rfl rfl rfl rfl rfl Tryz.call69 (.sel 0 rfl (.sel 0 rfl (.sel 0 rfl (.nil _)))) (disk_Disk_Has.calls _ _ b0 m0_0 q0_0 x0_0 x0_1 x0_2 x0_3 x1 ) hs4v) rfl rfl rfl ?_
 intro y5v
 refine vq (q_not rfl rfl) rfl ?_
 refine va rfl rfl (simL_nil (nrm_then ?_))
 refine sim_condb rfl (fun h6v => ?_) (fun h7v => ?_)
 refine sr ?_
 refine va rfl rfl (simL_nil (nrm_then (sim_rtn ?_)))
 refine rtn_block ?_
 refine rtn_then ?_
 exact rtn_fn (m0_0, q0_0) rfl rfl rfl (.sel 0 rfl (.sel 0 rfl (.sel 0 rfl (.nil _))))
 refine sr ?_
 refine vm rfl rfl ?_
 refine simL_bind (fun s8v hs9v => ?_)
 refine simL_eff (re_call (vs := [.pointer (some ⟨b0, 0, none⟩)]) (cap := []) (A := [obj b0 76 [.map (some m0_0), str x0_1, .int .i64 x0_2, .bool x0_3], mapF (mapO m0_0 enc9 encP q0_0) FA89 q0_0 x0_0]) (rst := [F]) rfl rfl rfl rfl rfl rfl Tryz.call45 (.sel 0 rfl (.sel 0 rfl (.sel 0 rfl (.nil _)))) (disk_Disk_fails.calls _ _ b0 m0_0 q0_0 x0_0 x0_1 x0_2 x0_3 ) hs9v) rfl rfl rfl ?_
 intro y10v
 refine va rfl rfl (simL_nil (nrm_then ?_))
 refine sim_condb rfl (fun h11v => ?_) (fun h12v => ?_)
 refine sr ?_
 refine va rfl rfl (simL_nil (nrm_then (sim_rtn ?_)))
 refine rtn_block ?_
 refine rtn_then ?_
 exact rtn_fn (m0_0, q0_0) rfl rfl rfl (.sel 0 rfl (.sel 0 rfl (.sel 0 rfl (.nil _))))
 refine sim_skip ?_
 refine nrm_block (nrm_then (sr ?_))
 refine vm rfl rfl ?_
 refine vn rfl rfl ?_
 refine vq (q_fa rfl rfl Tryz.underlying76 rfl rfl Tryz.sizeOf74 rfl) rfl ?_
 refine vq (q_load rfl rfl Tryz.isAgg74 (.obj 0 rfl rfl)) rfl ?_
 refine vm rfl rfl ?_
 refine simL_do (re_mdelF (ek := enc9) 1 x1 rfl rfl rfl rfl Tryz.underlying74 key9 rfl) rfl rfl ?_
 intro _
 refine simL_nil (nrm_then ?_)
 refine sim_cut (S := List UInt8) (Unit) (fun s y => []) (fun s y => [obj b0 76 [.map (some m0_0), str s, .int .i64 s8v.2.2.1, .bool s8v.2.2.2], mapF (mapO m0_0 enc9 encP (mdel q0_0 x1)) FA89 (mdel q0_0 x1) (mdel x0_0 x1), F]) ?_ ?_
 refine sr ?_
 refine vm rfl rfl ?_
 refine vn rfl rfl ?_
 refine vq (q_fa rfl rfl Tryz.underlying76 rfl rfl Tryz.sizeOf9 rfl) rfl ?_
 refine vq (q_load rfl rfl Tryz.isAgg9 (.obj 0 rfl rfl)) rfl ?_
 refine vm rfl rfl ?_
 refine vq (q_eqs rfl rfl rfl) rfl (simL_nil (nrm_then ?_))
 refine sim_cond rfl (fun h15v => ?_) (fun h16v => ?_)
 refine sim_region ?_
 refine vm rfl rfl ?_
 refine vn rfl rfl ?_
 refine vq (q_fa rfl rfl Tryz.underlying76 rfl rfl Tryz.sizeOf9 rfl) rfl ?_
 refine simL_do (re_store 0 rfl rfl rfl Tryz.sizeOf9 rfl rfl (one_of (by rfl)) rfl rfl) rfl rfl ?_
 intro _
 refine simL_nil ?_
 exact nrm_cut (s := ([] : List UInt8)) () trivial (.sel 0 rfl (.sel 0 rfl (.sel 0 rfl (.nil _))))
 refine sim_skip ?_
 exact nrm_cut (s := s8v.2.1) () trivial (.sel 0 rfl (.sel 0 rfl (.sel 0 rfl (.nil _))))
 intro s13v y14v
 refine sr ?_
 refine va rfl rfl (simL_nil (nrm_then (sim_rtn ?_)))
 exact rtn_fn (m0_0, mdel q0_0 x1) rfl rfl rfl (.sel 0 rfl (.sel 0 rfl (.sel 0 rfl (.nil _))))
def disk_Disk_Remove.v (x0_0 : List ((List UInt8) × (List UInt8 × Int))) (x0_1 : List UInt8) (x0_2 : Int) (x0_3 : Bool) (x1 : List UInt8) : Int × (List ((List UInt8) × (List UInt8 × Int))) × List UInt8 × Int × Bool := (disk_Disk_Remove.f x0_0 x0_1 x0_2 x0_3 x1).getD (0, [], [], 0, false)
def snap_clean.f (x0_0 : List ((List UInt8) × (List UInt8 × Int))) (x0_1 : List UInt8) (x0_2 : Int) (x0_3 : Bool) : Option (Int × Int × (List ((List UInt8) × (List UInt8 × Int))) × List UInt8 × Int × Bool) := (disk_Disk_Has.f x0_0 x0_1 x0_2 x0_3 ([115, 110, 97, 112, 46, 116, 109, 112] : List UInt8)).bind fun s1v => (if (!s1v) = true then (some (0, 0, x0_0, x0_1, x0_2, x0_3)) else ((disk_Disk_Remove.f x0_0 x0_1 x0_2 x0_3 ([115, 110, 97, 112, 46, 116, 109, 112] : List UInt8)).bind fun s6v => (some (1, s6v.1, s6v.2.1, s6v.2.2.1, s6v.2.2.2.1, s6v.2.2.2.2))))
theorem snap_clean.calls (W : World) (F : HA) (b0 : Nat) (m0_0 : Nat) (q0_0 : Kps) (x0_0 : List ((List UInt8) × (List UInt8 × Int))) (x0_1 : List UInt8) (x0_2 : Int) (x0_3 : Bool)  :
    Fn Tryz.prog W 37 [.pointer (some ⟨b0, 0, none⟩)] [obj b0 76 [.map (some m0_0), str x0_1, .int .i64 x0_2, .bool x0_3], mapF (mapO m0_0 enc9 encP q0_0) FA89 q0_0 x0_0] F (snap_clean.f x0_0 x0_1 x0_2 x0_3) (fun (r : Int × Int × (List ((List UInt8) × (List UInt8 × Int))) × List UInt8 × Int × Bool) (y : Nat × Kps) => .tuple #[.int .i64 r.1, .int .i64 r.2.1]) (fun r y => [obj b0 76 [.map (some y.1), str r.2.2.2.1, .int .i64 r.2.2.2.2.1, .bool r.2.2.2.2.2], mapF (mapO y.1 enc9 encP y.2) FA89 y.2 r.2.2.1]) := by
 unfold snap_clean.f
 refine fn_intro 9 Tryz.func37 rfl Tryz.ntmps37 rfl ?_
 refine sr ?_
 refine va rfl rfl ?_
 refine va rfl rfl (simL_nil (nrm_then (sim_seq (sr ?_))))
 refine vm rfl rfl ?_
 refine simL_bind (fun s1v hs2v => ?_)
 refine simL_eff (re_call (vs := [.pointer (some ⟨b0, 0, none⟩), str ([115, 110, 97, 112, 46, 116, 109, 112] : List UInt8)]) (cap := []) (A := [obj b0 76 [.map (some m0_0), str x0_1, .int .i64 x0_2, .bool x0_3], mapF (mapO m0_0 enc9 encP q0_0) FA89 q0_0 x0_0]) (rst := [F]) rfl rfl rfl rfl rfl rfl Tryz.call69 (.sel 0 rfl (.sel 0 rfl (.sel 0 rfl (.nil _)))) (disk_Disk_Has.calls _ _ b0 m0_0 q0_0 x0_0 x0_1 x0_2 x0_3 ([115, 110, 97, 112, 46, 116, 109, 112] : List UInt8) ) hs2v) rfl rfl rfl ?_
 intro y3v
 refine vq (q_not rfl rfl) rfl (simL_nil (nrm_then ?_))
 refine sim_condb rfl (fun h4v => ?_) (fun h5v => ?_)
 refine sr ?_
 refine va rfl rfl ?_
 refine va rfl rfl (simL_nil (nrm_then (sim_rtn ?_)))
 refine rtn_then ?_
 exact rtn_fn (m0_0, q0_0) rfl rfl rfl (.sel 0 rfl (.sel 0 rfl (.sel 0 rfl (.nil _))))
 refine sim_skip ?_
 refine nrm_then (sr ?_)
 refine vm rfl rfl ?_
 refine simL_bind (fun s6v hs7v => ?_)
 refine simL_eff (re_call (vs := [.pointer (some ⟨b0, 0, none⟩), str ([115, 110, 97, 112, 46, 116, 109, 112] : List UInt8)]) (cap := []) (A := [obj b0 76 [.map (some m0_0), str x0_1, .int .i64 x0_2, .bool x0_3], mapF (mapO m0_0 enc9 encP q0_0) FA89 q0_0 x0_0]) (rst := [F]) rfl rfl rfl rfl rfl rfl Tryz.call49 (.sel 0 rfl (.sel 0 rfl (.sel 0 rfl (.nil _)))) (disk_Disk_Remove.calls _ _ b0 m0_0 q0_0 x0_0 x0_1 x0_2 x0_3 ([115, 110, 97, 112, 46, 116, 109, 112] : List UInt8) ) hs7v) rfl rfl rfl ?_
 intro y8v
 refine va rfl rfl ?_
 refine va rfl rfl (simL_nil (nrm_then (sim_rtn ?_)))
 exact rtn_fn (y8v.1, y8v.2) rfl rfl rfl (.sel 0 rfl (.sel 0 rfl (.sel 0 rfl (.nil _))))
def snap_clean.v (x0_0 : List ((List UInt8) × (List UInt8 × Int))) (x0_1 : List UInt8) (x0_2 : Int) (x0_3 : Bool) : Int × Int × (List ((List UInt8) × (List UInt8 × Int))) × List UInt8 × Int × Bool := (snap_clean.f x0_0 x0_1 x0_2 x0_3).getD (0, 0, [], [], 0, false)
def disk_named.l0 (x0 : List UInt8) : Nat → Int → Option ((Unit) ⊕ (Bool))
  | 0, _ => none
  | k + 1, z5v => if z5v < (x0.length : Int) then (if 0 ≤ z5v ∧ z5v < (x0.length : Int) then ((if ((decide (((x0.getD z5v.toNat 0).toNat : Int) < (97 : Int))) || (decide ((122 : Int) < ((x0.getD z5v.toNat 0).toNat : Int)))) = true then (some ((decide (((x0.getD z5v.toNat 0).toNat : Int) < (48 : Int))) || (decide ((57 : Int) < ((x0.getD z5v.toNat 0).toNat : Int))))) else (some false)).bind fun s9v => (if ((s9v && (!decide (((x0.getD z5v.toNat 0).toNat : Int) = (45 : Int)))) && (!decide (((x0.getD z5v.toNat 0).toNat : Int) = (46 : Int)))) = true then (some (.inr false)) else (disk_named.l0 x0 k (IntKind.i64.wrap (z5v + 1))))) else none) else (some (.inl ()))
def disk_named.f (k : Nat) (x0 : List UInt8) : Option (Bool) := orR (disk_named.l0 x0 k 0) fun s1v => (some ((decide ((0 : Int) < (x0.length : Int))) && (decide ((x0.length : Int) ≤ (32 : Int)))))
theorem disk_named.calls (W : World) (F : HA) (k : Nat) (x0 : List UInt8)  :
    Fn Tryz.prog W 68 [str x0] [] F (disk_named.f k x0) (fun (r : Bool) (y : Unit) => .bool r) (fun r y => []) := by
 unfold disk_named.f
 refine fn_intro 44 Tryz.func68 rfl Tryz.ntmps68 rfl ?_
 refine sr ?_
 refine va rfl rfl (simL_nil (nrm_then ?_))
 refine sim_cutR (S := Unit) (Unit) (fun s y => [(0, str x0)]) (fun s y => [F]) ?_ ?_
 refine sr ?_
 refine va rfl rfl (simL_nil (nrm_then ?_))
 refine sim_block ?_
 refine sim_loop (S := Int) (Unit) (fun k s => disk_named.l0 x0 k s) (fun s y => [(0, str x0), (3, .int .i64 s)]) (fun s y => [F]) (fun _ => by rw [disk_named.l0]) ?_ k 0 () ⟨rfl, rfl, trivial⟩ (.sel 0 rfl (.nil _))
 intro k s3v y4v
 refine sim_eq (by rw [disk_named.l0]) ?_
 refine sim_seq (sr ?_)
 refine vm rfl rfl ?_
 refine vm rfl rfl ?_
 refine vq (q_lens rfl rfl rfl Tryz.underlying9) rfl ?_
 refine vq (q_lss rfl rfl rfl) rfl (simL_nil (nrm_then ?_))
 refine sim_cond rfl (fun h6v => ?_) (fun h7v => ?_)
 refine sim_skip ?_
 refine nrm_then (sim_seq ?_)
 refine sim_block ?_
 refine sr ?_
 refine vm rfl rfl ?_
 refine vm rfl rfl ?_
 refine simL_ask (fun hi8v => ?_)
 refine vq (q_sidx rfl rfl rfl Tryz.underlying9 hi8v.1 hi8v.2) rfl ?_
 refine va rfl rfl (nx ?_)
 refine vm rfl rfl ?_
 refine vq (q_lss rfl rfl rfl) rfl ?_
 refine vm rfl rfl ?_
 refine simL_valc (b := decide (((x0.getD s3v.toNat 0).toNat : Int) < (97 : Int))) (fun hb22v => RQ.sub (E' := [(4, .int .u8 ((x0.getD s3v.toNat 0).toNat : Int))]) ⟨rfl, trivial⟩ (q_move rfl rfl)) rfl rfl rfl rfl rfl ?_
 refine simL_valc (b := decide (((x0.getD s3v.toNat 0).toNat : Int) < (97 : Int))) (fun hb21v => RQ.sub (E' := [(17, .int .u8 ((x0.getD s3v.toNat 0).toNat : Int))]) ⟨lk_cv rfl hb21v, trivial⟩ (q_gtr rfl rfl rfl)) rfl rfl rfl rfl rfl ?_
 refine vq (q_or rfl rfl rfl) rfl ?_
 refine vm rfl rfl ?_
 refine simL_cut' 7 (S := Bool) (Unit) (fun s y => [(0, str x0), (3, .int .i64 s3v), (4, .int .u8 ((x0.getD s3v.toNat 0).toNat : Int)), (27, .bool s)]) (fun s y => [F]) ?_ ?_
 refine simL_caseb (fun hb13v => ?_) (fun hb14v => ?_)
 rw [hb13v]
 refine simL_valg (q_move rfl rfl) rfl rfl rfl rfl rfl rfl ?_
 refine simL_valg (q_lss rfl rfl rfl) rfl rfl rfl rfl rfl rfl ?_
 refine simL_valg (q_move rfl rfl) rfl rfl rfl rfl rfl rfl ?_
 refine simL_valc (b := decide (((x0.getD s3v.toNat 0).toNat : Int) < (48 : Int))) (fun hb12v => RQ.sub (E' := [(4, .int .u8 ((x0.getD s3v.toNat 0).toNat : Int))]) ⟨rfl, trivial⟩ (q_move rfl rfl)) rfl rfl rfl rfl rfl ?_
 refine simL_valc (b := decide (((x0.getD s3v.toNat 0).toNat : Int) < (48 : Int))) (fun hb11v => RQ.sub (E' := [(24, .int .u8 ((x0.getD s3v.toNat 0).toNat : Int))]) ⟨lk_cv rfl hb11v, trivial⟩ (q_gtr rfl rfl rfl)) rfl rfl rfl rfl rfl ?_
 refine simL_valg (q_or rfl rfl rfl) rfl rfl rfl rfl rfl rfl ?_
 refine vq (q_pick rfl rfl rfl rfl rfl) rfl (simL_nil ?_)
 exact nrm_cut (s := (decide (((x0.getD s3v.toNat 0).toNat : Int) < (48 : Int))) || (decide ((57 : Int) < ((x0.getD s3v.toNat 0).toNat : Int)))) () ⟨rfl, rfl, rfl, rfl, trivial⟩ (.sel 0 rfl (.nil _))
 rw [hb14v]
 refine simL_skipd rfl rfl rfl rfl rfl rfl ?_
 refine simL_skipd rfl rfl rfl rfl rfl rfl ?_
 refine simL_skipd rfl rfl rfl rfl rfl rfl ?_
 refine simL_skipu rfl rfl rfl rfl rfl ?_
 refine simL_skipu rfl rfl rfl rfl rfl ?_
 refine simL_skipd rfl rfl rfl rfl rfl rfl ?_
 refine vq (q_pick rfl rfl rfl rfl rfl) rfl (simL_nil ?_)
 exact nrm_cut (s := false) () ⟨rfl, rfl, rfl, rfl, trivial⟩ (.sel 0 rfl (.nil _))
 intro s9v y10v
 refine vm rfl rfl ?_
 refine simL_valc (b := s9v) (fun hb20v => RQ.sub (E' := [(4, .int .u8 ((x0.getD s3v.toNat 0).toNat : Int))]) ⟨rfl, trivial⟩ (q_move rfl rfl)) rfl rfl rfl rfl rfl ?_
 refine simL_valc (b := s9v) (fun hb19v => RQ.sub (E' := [(29, .int .u8 ((x0.getD s3v.toNat 0).toNat : Int))]) ⟨lk_cv rfl hb19v, trivial⟩ (q_neq rfl rfl rfl)) rfl rfl rfl rfl rfl ?_
 refine vq (q_and rfl rfl rfl) rfl ?_
 refine vm rfl rfl ?_
 refine simL_valc (b := s9v && (!decide (((x0.getD s3v.toNat 0).toNat : Int) = (45 : Int)))) (fun hb18v => RQ.sub (E' := [(4, .int .u8 ((x0.getD s3v.toNat 0).toNat : Int))]) ⟨rfl, trivial⟩ (q_move rfl rfl)) rfl rfl rfl rfl rfl ?_
 refine simL_valc (b := s9v && (!decide (((x0.getD s3v.toNat 0).toNat : Int) = (45 : Int)))) (fun hb17v => RQ.sub (E' := [(33, .int .u8 ((x0.getD s3v.toNat 0).toNat : Int))]) ⟨lk_cv rfl hb17v, trivial⟩ (q_neq rfl rfl rfl)) rfl rfl rfl rfl rfl ?_
 refine vq (q_and rfl rfl rfl) rfl (simL_nil (nrm_then ?_))
 refine sim_condb rfl (fun h15v => ?_) (fun h16v => ?_)
 refine sr ?_
 refine va rfl rfl (simL_nil (nrm_then (sim_rtn ?_)))
 refine rtn_block ?_
 refine rtn_then ?_
 refine rtn_loop ?_
 refine rtn_block ?_
 refine rtn_cutR ?_
 exact rtn_fn () rfl rfl rfl (.sel 0 rfl (.nil _))
 refine sim_skip ?_
 refine nrm_block (nrm_then (sim_region ?_))
 refine vm rfl rfl ?_
 refine vq (q_add rfl rfl rfl) rfl ?_
 refine va rfl rfl (simL_nil ?_)
 exact nrm_again (s := IntKind.i64.wrap (s3v + 1)) () ⟨rfl, rfl, trivial⟩ (.sel 0 rfl (.nil _))
 refine sim_exi ?_
 refine exi_then ?_
 refine exi_loop ?_
 refine exi_here ?_
 exact nrm_cutR (s := ()) () ⟨rfl, trivial⟩ (.sel 0 rfl (.nil _))
 intro s1v y2v
 refine sr ?_
 refine vm rfl rfl ?_
 refine vq (q_lens rfl rfl rfl Tryz.underlying9) rfl ?_
 refine vq (q_gtr rfl rfl rfl) rfl ?_
 refine vm rfl rfl ?_
 refine simL_valc (b := decide ((0 : Int) < (x0.length : Int))) (fun hb25v => RQ.sub (E' := [(0, str x0)]) ⟨rfl, trivial⟩ (q_move rfl rfl)) rfl rfl rfl rfl rfl ?_
 refine simL_valc (b := decide ((0 : Int) < (x0.length : Int))) (fun hb24v => RQ.sub (E' := [(40, str x0)]) ⟨lk_cv rfl hb24v, trivial⟩ (q_lens rfl rfl rfl Tryz.underlying9)) rfl rfl rfl rfl rfl ?_
 refine simL_valc (b := decide ((0 : Int) < (x0.length : Int))) (fun hb23v => RQ.sub (E' := [(41, .int .i64 (x0.length : Int))]) ⟨lk_cv rfl hb23v, trivial⟩ (q_leq rfl rfl rfl)) rfl rfl rfl rfl rfl ?_
 refine vq (q_and rfl rfl rfl) rfl ?_
 refine va rfl rfl (simL_nil (nrm_then (sim_rtn ?_)))
 exact rtn_fn () rfl rfl rfl (.sel 0 rfl (.nil _))

def disk_Disk_Create.f (k : Nat) (x0_0 : List ((List UInt8) × (List UInt8 × Int))) (x0_1 : List UInt8) (x0_2 : Int) (x0_3 : Bool) (x1 : List UInt8) : Option (Int × (List ((List UInt8) × (List UInt8 × Int))) × List UInt8 × Int × Bool) := if x0_3 = true then (some (11, x0_0, x0_1, x0_2, x0_3)) else ((disk_named.f k x1).bind fun s3v => (if (!s3v) = true then (some (7, x0_0, x0_1, x0_2, x0_3)) else ((disk_Disk_Has.f x0_0 x0_1 x0_2 x0_3 x1).bind fun s8v => (if s8v = true then (some (9, x0_0, x0_1, x0_2, x0_3)) else (if (256 : Int) ≤ (x0_0.length : Int) then (some (10, x0_0, x0_1, x0_2, x0_3)) else ((disk_Disk_fails.f x0_0 x0_1 x0_2 x0_3).bind fun s15v => (if s15v.1 = true then (some (11, x0_0, s15v.2.1, s15v.2.2.1, s15v.2.2.2)) else (some (0, mput x0_0 x1 (([] : List UInt8), (0 : Int)), s15v.2.1, s15v.2.2.1, s15v.2.2.2)))))))))
theorem disk_Disk_Create.calls (W : World) (F : HA) (k : Nat) (b0 : Nat) (m0_0 : Nat) (q0_0 : Kps) (x0_0 : List ((List UInt8) × (List UInt8 × Int))) (x0_1 : List UInt8) (x0_2 : Int) (x0_3 : Bool) (x1 : List UInt8)  :
    Fn Tryz.prog W 29 [.pointer (some ⟨b0, 0, none⟩), str x1] [obj b0 76 [.map (some m0_0), str x0_1, .int .i64 x0_2, .bool x0_3], mapF (mapO m0_0 enc9 encP q0_0) FA89 q0_0 x0_0] F (disk_Disk_Create.f k x0_0 x0_1 x0_2 x0_3 x1) (fun (r : Int × (List ((List UInt8) × (List UInt8 × Int))) × List UInt8 × Int × Bool) (y : Nat × Kps) => .int .i64 r.1) (fun r y => [obj b0 76 [.map (some y.1), str r.2.2.1, .int .i64 r.2.2.2.1, .bool r.2.2.2.2], mapF (mapO y.1 enc9 encP y.2) FA89 y.2 r.2.1]) := by
 unfold disk_Disk_Create.f
 refine fn_intro 35 Tryz.func29 rfl Tryz.ntmps29 rfl ?_
 refine sr ?_
 refine va rfl rfl (simL_nil (nrm_then (sim_seq ?_)))
 refine sim_block ?_
 refine sr ?_
 refine vm rfl rfl ?_
 refine vn rfl rfl ?_
 refine vq (q_fa rfl rfl Tryz.underlying76 rfl rfl Tryz.sizeOf4 rfl) rfl ?_
 refine vq (q_load rfl rfl Tryz.isAgg4 (.obj 0 rfl rfl)) rfl ?_
 refine va rfl rfl (simL_nil (nrm_then ?_))
 refine sim_condb rfl (fun h1v => ?_) (fun h2v => ?_)
 refine sr ?_
 refine va rfl rfl (simL_nil (nrm_then (sim_rtn ?_)))
 refine rtn_block ?_
 refine rtn_then ?_
 exact rtn_fn (m0_0, q0_0) rfl rfl rfl (.sel 0 rfl (.sel 0 rfl (.sel 0 rfl (.nil _))))
 refine sr ?_
 refine vm rfl rfl ?_
 refine simL_bind (fun s3v hs4v => ?_)
 refine simL_eff (re_call (vs := [str x1]) (cap := []) (A := []) (rst := [obj b0 76 [.map (some m0_0), str x0_1, .int .i64 x0_2, .bool x0_3], mapF (mapO m0_0 enc9 encP q0_0) FA89 q0_0 x0_0, F]) rfl rfl rfl rfl rfl rfl Tryz.call68 (.sel 0 rfl (.sel 0 rfl (.sel 0 rfl (.nil _)))) (disk_named.calls _ _ k x1 ) hs4v) rfl rfl rfl ?_
 intro y5v
 refine vq (q_not rfl rfl) rfl ?_
 refine va rfl rfl (simL_nil (nrm_then ?_))
 refine sim_condb rfl (fun h6v => ?_) (fun h7v => ?_)
 refine sr ?_
 refine va rfl rfl (simL_nil (nrm_then (sim_rtn ?_)))
 refine rtn_block ?_
 refine rtn_then ?_
 exact rtn_fn (m0_0, q0_0) rfl rfl rfl (.sel 0 rfl (.sel 0 rfl (.sel 0 rfl (.nil _))))
 refine sr ?_
 refine vm rfl rfl ?_
 refine vm rfl rfl ?_
 refine simL_bind (fun s8v hs9v => ?_)
 refine simL_eff (re_call (vs := [.pointer (some ⟨b0, 0, none⟩), str x1]) (cap := []) (A := [obj b0 76 [.map (some m0_0), str x0_1, .int .i64 x0_2, .bool x0_3], mapF (mapO m0_0 enc9 encP q0_0) FA89 q0_0 x0_0]) (rst := [F]) rfl rfl rfl rfl rfl rfl Tryz.call69 (.sel 0 rfl (.sel 0 rfl (.sel 0 rfl (.nil _)))) (disk_Disk_Has.calls _ _ b0 m0_0 q0_0 x0_0 x0_1 x0_2 x0_3 x1 ) hs9v) rfl rfl rfl ?_
 intro y10v
 refine va rfl rfl (simL_nil (nrm_then ?_))
 refine sim_condb rfl (fun h11v => ?_) (fun h12v => ?_)
 refine sr ?_
 refine va rfl rfl (simL_nil (nrm_then (sim_rtn ?_)))
 refine rtn_block ?_
 refine rtn_then ?_
 exact rtn_fn (m0_0, q0_0) rfl rfl rfl (.sel 0 rfl (.sel 0 rfl (.sel 0 rfl (.nil _))))
 refine sr ?_
 refine vm rfl rfl ?_
 refine vn rfl rfl ?_
 refine vq (q_fa rfl rfl Tryz.underlying76 rfl rfl Tryz.sizeOf74 rfl) rfl ?_
 refine vq (q_load rfl rfl Tryz.isAgg74 (.obj 0 rfl rfl)) rfl ?_
 refine vq (q_mlenF (tellsF 1 rfl) rfl rfl rfl Tryz.underlying74) rfl ?_
 refine vq (q_geq rfl rfl rfl) rfl ?_
 refine va rfl rfl (simL_nil (nrm_then ?_))
 refine sim_cond rfl (fun h13v => ?_) (fun h14v => ?_)
 refine sr ?_
 refine va rfl rfl (simL_nil (nrm_then (sim_rtn ?_)))
 refine rtn_block ?_
 refine rtn_then ?_
 exact rtn_fn (m0_0, q0_0) rfl rfl rfl (.sel 0 rfl (.sel 0 rfl (.sel 0 rfl (.nil _))))
 refine sr ?_
 refine vm rfl rfl ?_
 refine simL_bind (fun s15v hs16v => ?_)
 refine simL_eff (re_call (vs := [.pointer (some ⟨b0, 0, none⟩)]) (cap := []) (A := [obj b0 76 [.map (some m0_0), str x0_1, .int .i64 x0_2, .bool x0_3], mapF (mapO m0_0 enc9 encP q0_0) FA89 q0_0 x0_0]) (rst := [F]) rfl rfl rfl rfl rfl rfl Tryz.call45 (.sel 0 rfl (.sel 0 rfl (.sel 0 rfl (.nil _)))) (disk_Disk_fails.calls _ _ b0 m0_0 q0_0 x0_0 x0_1 x0_2 x0_3 ) hs16v) rfl rfl rfl ?_
 intro y17v
 refine va rfl rfl (simL_nil (nrm_then ?_))
 refine sim_condb rfl (fun h18v => ?_) (fun h19v => ?_)
 refine sr ?_
 refine va rfl rfl (simL_nil (nrm_then (sim_rtn ?_)))
 refine rtn_block ?_
 refine rtn_then ?_
 exact rtn_fn (m0_0, q0_0) rfl rfl rfl (.sel 0 rfl (.sel 0 rfl (.sel 0 rfl (.nil _))))
 refine sim_skip ?_
 refine nrm_block (nrm_then (sr ?_))
 refine vm rfl rfl ?_
 refine vn rfl rfl ?_
 refine vq (q_fa rfl rfl Tryz.underlying76 rfl rfl Tryz.sizeOf74 rfl) rfl ?_
 refine vq (q_load rfl rfl Tryz.isAgg74 (.obj 0 rfl rfl)) rfl ?_
 refine vm rfl rfl ?_
 refine vq (q_build (v := .agg #[.slice none 0 0, .int .i64 0]) rfl rfl (fun _ => by kernel_rfl)) rfl ?_
 refine simL_eff (re_box rfl rfl rfl) rfl rfl rfl ?_
 intro b20v
 refine simL_do (re_mputF (ek := enc9) 2 x1 b20v rfl rfl rfl rfl Tryz.underlying74 key9 rfl) rfl rfl ?_
 intro _
 refine simL_ent (H' := [obj b0 76 [.map (some m0_0), str s15v.2.1, .int .i64 s15v.2.2.1, .bool s15v.2.2.2], mapF (mapO m0_0 enc9 encP (mput q0_0 x1 b20v)) FA89 (mput q0_0 x1 b20v) (mput x0_0 x1 (([] : List UInt8), (0 : Int))), F]) ((.sel 1 rfl (.foldU (x := x1) (p := b20v) (v := (([] : List UInt8), (0 : Int))) (none, 0) (.sel 1 rfl (.sel 0 rfl (.row_nil (.sel 0 rfl (.nil _)))))))) ?_
 refine nx ?_
 refine va rfl rfl (simL_nil (nrm_then (sim_rtn ?_)))
 exact rtn_fn (m0_0, mput q0_0 x1 b20v) rfl rfl rfl (.sel 0 rfl (.sel 0 rfl (.sel 0 rfl (.nil _))))

def disk_Disk_Size.f (x0_0 : List ((List UInt8) × (List UInt8 × Int))) (x0_1 : List UInt8) (x0_2 : Int) (x0_3 : Bool) : Option (Int) := ((range0 (fun (s9v : Int) (x4v : List UInt8) (v5v : List UInt8 × Int) => some (IntKind.i64.wrap (s9v + (v5v.1.length : Int)))) 0 x0_0).bind fun s9v => (some s9v)).bind fun s1v => (some s1v)
theorem disk_Disk_Size.calls (W : World) (F : HA) (b0 : Nat) (m0_0 : Nat) (q0_0 : Kps) (x0_0 : List ((List UInt8) × (List UInt8 × Int))) (x0_1 : List UInt8) (x0_2 : Int) (x0_3 : Bool)  :
    Fn Tryz.prog W 62 [.pointer (some ⟨b0, 0, none⟩)] [obj b0 76 [.map (some m0_0), str x0_1, .int .i64 x0_2, .bool x0_3], mapF (mapO m0_0 enc9 encP q0_0) FA89 q0_0 x0_0] F (disk_Disk_Size.f x0_0 x0_1 x0_2 x0_3) (fun (r : Int) (y : Unit) => .int .i64 r) (fun r y => [obj b0 76 [.map (some m0_0), str x0_1, .int .i64 x0_2, .bool x0_3], mapF (mapO m0_0 enc9 encP q0_0) FA89 q0_0 x0_0]) := by
 unfold disk_Disk_Size.f
 refine fn_intro 23 Tryz.func62 rfl Tryz.ntmps62 rfl ?_
 refine sr ?_
 refine va rfl rfl (nx ?_)
 refine va rfl rfl (simL_nil (nrm_then ?_))
 refine sim_cut (S := Int) (Unit) (fun s y => [(3, .int .i64 s)]) (fun s y => [obj b0 76 [.map (some m0_0), str x0_1, .int .i64 x0_2, .bool x0_3], mapF (mapO m0_0 enc9 encP q0_0) FA89 q0_0 x0_0, F]) ?_ ?_
 refine sr ?_
 refine vm rfl rfl ?_
 refine vn rfl rfl ?_
 refine vq (q_fa rfl rfl Tryz.underlying76 rfl rfl Tryz.sizeOf74 rfl) rfl ?_
 refine vq (q_load rfl rfl Tryz.isAgg74 (.obj 0 rfl rfl)) rfl ?_
 refine simL_eff (re_rangeF 1 rfl rfl Tryz.underlying74 rfl) rfl rfl rfl ?_
 intro b3v
 refine simL_nil (nrm_then ?_)
 refine sim_block ?_
 refine sim_range0 (S := Int) (Y := Unit) (o2 := fun s9v => some s9v) (fun (s9v : Int) (x4v : List UInt8) (v5v : List UInt8 × Int) => some (IntKind.i64.wrap (s9v + (v5v.1.length : Int)))) (fun s y => [(3, .int .i64 s), (10, .pointer (some ⟨b3v, 0, none⟩))]) (fun s y => [obj b0 76 [.map (some m0_0), str x0_1, .int .i64 x0_2, .bool x0_3], F]) 0 () (fun x y e => by simpa [str] using e) (fun _ _ => rfl) rfl rfl (fun _ _ _ _ => ⟨rfl, rfl, trivial⟩) ⟨rfl, rfl, trivial⟩ ((.sel 1 rfl (.sel 0 rfl (.sel 0 rfl (.nil _))))) ?_ ?_
 intro kz6v td7v s9v y10v x4v v5v hv8v
 refine sim_eq (o' := some (IntKind.i64.wrap (s9v + (v5v.1.length : Int)))) rfl ?_
 refine sim_ent (H' := [mapF (itJ m0_0 b3v enc9 q0_0 td7v x4v) FA89 q0_0 kz6v, obj b0 76 [.map (some m0_0), str x0_1, .int .i64 x0_2, .bool x0_3], F]) (Ent.refl _) ?_
 refine sim_block ?_
 refine sr ?_
 refine vq (q_entry rfl rfl (ent_J 0 rfl)) rfl ?_
 refine vq (q_ext rfl rfl rfl) rfl ?_
 refine va rfl rfl (simL_nil (nrm_then ?_))
 refine sim_openF (v := v5v) 0 rfl hv8v (fun y12v => ?_)
 refine sim_ent (H' := [obj (fptr q0_0 x4v) 89 [.slice y12v.1 v5v.1.length y12v.2, .int .i64 v5v.2], Row 5 1 y12v.1 v5v.1.length y12v.2 (encB v5v.1), mapH (itJ m0_0 b3v enc9 q0_0 td7v x4v) FA89 q0_0 kz6v x4v, obj b0 76 [.map (some m0_0), str x0_1, .int .i64 x0_2, .bool x0_3], F]) (Ent.refl _) ?_
 refine sim_region ?_
 refine vm rfl rfl ?_
 refine vm rfl rfl ?_
 refine vn rfl rfl ?_
 refine vq (q_fa rfl rfl Tryz.underlying89 rfl rfl Tryz.sizeOf25 rfl) rfl ?_
 refine vq (q_load rfl rfl Tryz.isAgg25 (.obj 0 rfl rfl)) rfl ?_
 refine vq (q_len rfl rfl rfl Tryz.underlying25) rfl ?_
 refine vq (q_add rfl rfl rfl) rfl ?_
 refine va rfl rfl (simL_nil (nrm_block ?_))
 exact nrm_cut (s := IntKind.i64.wrap (s9v + (v5v.1.length : Int))) () ⟨rfl, rfl, trivial⟩ ((.foldF0 (x := x4v) (p := (fptr q0_0 x4v)) (v := v5v) (y12v.1, y12v.2) rfl hv8v (.sel 2 rfl (.sel 0 rfl (.sel 0 rfl (.sel 0 rfl (.sel 0 rfl (.nil _))))))))
 intro s9v y10v
 refine nrm_eq (o' := some s9v) rfl ?_
 refine nrm_ent (H' := [mapF (mapO m0_0 enc9 encP q0_0) FA89 q0_0 x0_0, obj b0 76 [.map (some m0_0), str x0_1, .int .i64 x0_2, .bool x0_3], F]) (Ent.refl _) ?_
 exact nrm_cut (s := s9v) () ⟨rfl, trivial⟩ (.sel 1 rfl (.sel 0 rfl (.sel 0 rfl (.nil _))))
 intro s1v y2v
 refine sr ?_
 refine vm rfl rfl ?_
 refine va rfl rfl (simL_nil (nrm_then (sim_rtn ?_)))
 exact rtn_fn () rfl rfl rfl (.sel 0 rfl (.sel 0 rfl (.sel 0 rfl (.nil _))))

def disk_Disk_Append.f (x0_0 : List ((List UInt8) × (List UInt8 × Int))) (x0_1 : List UInt8) (x0_2 : Int) (x0_3 : Bool) (x1 : List UInt8) (x2 : List UInt8) : Option (Int × (List ((List UInt8) × (List UInt8 × Int))) × List UInt8 × Int × Bool) := if (mget x0_0 x1).isSome = true then (if x0_3 = true then (some (11, x0_0, x0_1, x0_2, x0_3)) else ((disk_Disk_Size.f x0_0 x0_1 x0_2 x0_3).bind fun s4v => (if IntKind.i64.wrap (16777216 - s4v) < (x2.length : Int) then (some (10, x0_0, x0_1, x0_2, x0_3)) else (((disk_Disk_fails.f x0_0 x0_1 x0_2 x0_3).bind fun s11v => (if s11v.1 = true then (if 0 ≤ (0 : Int) ∧ (0 : Int) ≤ IntKind.i64.wrap (Int.tdiv (x2.length : Int) 2) ∧ IntKind.i64.wrap (Int.tdiv (x2.length : Int) 2) ≤ (x2.length : Int) then (some (cut x2 (0 : Int) (IntKind.i64.wrap (Int.tdiv (x2.length : Int) 2)), 11, s11v.2.1, s11v.2.2.1, s11v.2.2.2)) else none) else (some (x2, 0, s11v.2.1, s11v.2.2.1, s11v.2.2.2)))).bind fun s9v => (if ((((mget x0_0 x1).getD (([] : List UInt8), (0 : Int))).1).length + s9v.1.length) * 1 ≤ 140737488355328 then (some (s9v.2.1, mput x0_0 x1 ((((mget x0_0 x1).getD (([] : List UInt8), (0 : Int))).1) ++ s9v.1, ((mget x0_0 x1).getD (([] : List UInt8), (0 : Int))).2), x1, s9v.2.2.2.1, s9v.2.2.2.2)) else none))))) else (if x0_3 = true then (some (11, x0_0, x0_1, x0_2, x0_3)) else (some (8, x0_0, x0_1, x0_2, x0_3)))
theorem disk_Disk_Append.calls (W : World) (F : HA) (b0 : Nat) (m0_0 : Nat) (q0_0 : Kps) (x0_0 : List ((List UInt8) × (List UInt8 × Int))) (x0_1 : List UInt8) (x0_2 : Int) (x0_3 : Bool) (x1 : List UInt8) (a2 : Option Addr) (c2 : Nat) (x2 : List UInt8) (h2 : Rd F a2 (encB x2)) (hc2 : x2.length ≤ c2) (hm2 : c2 ≤ maxLen) :
    Fn Tryz.prog W 30 [.pointer (some ⟨b0, 0, none⟩), str x1, .slice a2 x2.length c2] [obj b0 76 [.map (some m0_0), str x0_1, .int .i64 x0_2, .bool x0_3], mapF (mapO m0_0 enc9 encP q0_0) FA89 q0_0 x0_0] F (disk_Disk_Append.f x0_0 x0_1 x0_2 x0_3 x1 x2) (fun (r : Int × (List ((List UInt8) × (List UInt8 × Int))) × List UInt8 × Int × Bool) (y : Nat × Kps) => .int .i64 r.1) (fun r y => [obj b0 76 [.map (some y.1), str r.2.2.1, .int .i64 r.2.2.2.1, .bool r.2.2.2.2], mapF (mapO y.1 enc9 encP y.2) FA89 y.2 r.2.1]) := by
 unfold disk_Disk_Append.f
 refine fn_intro 51 Tryz.func30 rfl Tryz.ntmps30 rfl ?_
 refine sr ?_
 refine va rfl rfl (simL_nil (nrm_then (sim_seq ?_)))
 refine sim_if (fun hk1v => ?_) (fun hk1v => ?_)
 refine sim_region ?_
 refine vm rfl rfl ?_
 refine vn rfl rfl ?_
 refine vq (q_fa rfl rfl Tryz.underlying76 rfl rfl Tryz.sizeOf74 rfl) rfl ?_
 refine vq (q_load rfl rfl Tryz.isAgg74 (.obj 0 rfl rfl)) rfl ?_
 refine vm rfl rfl ?_
 refine vq ((q_mlookY (ek := enc9) x1 (tellsF 1 rfl) hk1v rfl rfl rfl Tryz.underlying74 key9 : RQ _ _ _ _ (.pointer (some ⟨(fptr q0_0 x1), 0, none⟩)))) rfl ?_
 refine va rfl rfl (simL_nil (nrm_then (sim_seq ?_)))
 refine sim_block ?_
 refine sr ?_
 refine vm rfl rfl ?_
 refine vn rfl rfl ?_
 refine vq (q_fa rfl rfl Tryz.underlying76 rfl rfl Tryz.sizeOf4 rfl) rfl ?_
 refine vq (q_load rfl rfl Tryz.isAgg4 (.obj 0 rfl rfl)) rfl ?_
 refine va rfl rfl (simL_nil (nrm_then ?_))
 refine sim_condb rfl (fun h2v => ?_) (fun h3v => ?_)
 refine sr ?_
 refine va rfl rfl (simL_nil (nrm_then (sim_rtn ?_)))
 refine rtn_block ?_
 refine rtn_then ?_
 exact rtn_fn (m0_0, q0_0) rfl rfl rfl (.sel 0 rfl (.sel 0 rfl (.sel 0 rfl (.nil _))))
 refine sr ?_
 refine vm rfl rfl ?_
 refine vq (q_eqp rfl rfl rfl Tryz.underlying87) rfl ?_
 refine va rfl rfl (simL_nil (nrm_then ?_))
 refine sim_false rfl ?_
 refine sr ?_
 refine vm rfl rfl ?_
 refine vq (q_len rfl rfl rfl Tryz.underlying25) rfl ?_
 refine vm rfl rfl ?_
 refine simL_bind (fun s4v hs5v => ?_)
 refine simL_eff (re_call (vs := [.pointer (some ⟨b0, 0, none⟩)]) (cap := []) (A := [obj b0 76 [.map (some m0_0), str x0_1, .int .i64 x0_2, .bool x0_3], mapF (mapO m0_0 enc9 encP q0_0) FA89 q0_0 x0_0]) (rst := [F]) rfl rfl rfl rfl rfl rfl Tryz.call62 (.sel 0 rfl (.sel 0 rfl (.sel 0 rfl (.nil _)))) (disk_Disk_Size.calls _ _ b0 m0_0 q0_0 x0_0 x0_1 x0_2 x0_3 ) hs5v) rfl rfl rfl ?_
 intro y6v
 refine vq (q_sub rfl rfl rfl) rfl ?_
 refine vq (q_gtr rfl rfl rfl) rfl ?_
 refine va rfl rfl (simL_nil (nrm_then ?_))
 refine sim_cond rfl (fun h7v => ?_) (fun h8v => ?_)
 refine sr ?_
 refine va rfl rfl (simL_nil (nrm_then (sim_rtn ?_)))
 refine rtn_block ?_
 refine rtn_then ?_
 exact rtn_fn (m0_0, q0_0) rfl rfl rfl (.sel 0 rfl (.sel 0 rfl (.sel 0 rfl (.nil _))))
 refine sim_skip ?_
 refine nrm_block (nrm_then (sr ?_))
 refine va rfl rfl (simL_nil (nrm_then ?_))
 refine sim_cut (S := List UInt8 × Int × List UInt8 × Int × Bool) (Option Addr × Nat) (fun s y => [(0, .pointer (some ⟨b0, 0, none⟩)), (1, str x1), (2, .slice y.1 s.1.length y.2), (7, .pointer (some ⟨(fptr q0_0 x1), 0, none⟩)), (8, .int .i64 s.2.1)]) (fun s y => [pr (Rd F y.1 (encB s.1) ∧ s.1.length ≤ y.2 ∧ y.2 ≤ maxLen), obj b0 76 [.map (some m0_0), str s.2.2.1, .int .i64 s.2.2.2.1, .bool s.2.2.2.2], mapF (mapO m0_0 enc9 encP q0_0) FA89 q0_0 x0_0, F]) ?_ ?_
 refine sr ?_
 refine vm rfl rfl ?_
 refine simL_bind (fun s11v hs12v => ?_)
 refine simL_eff (re_call (vs := [.pointer (some ⟨b0, 0, none⟩)]) (cap := []) (A := [obj b0 76 [.map (some m0_0), str x0_1, .int .i64 x0_2, .bool x0_3], mapF (mapO m0_0 enc9 encP q0_0) FA89 q0_0 x0_0]) (rst := [F]) rfl rfl rfl rfl rfl rfl Tryz.call45 (.sel 0 rfl (.sel 0 rfl (.sel 0 rfl (.nil _)))) (disk_Disk_fails.calls _ _ b0 m0_0 q0_0 x0_0 x0_1 x0_2 x0_3 ) hs12v) rfl rfl rfl ?_
 intro y13v
 refine simL_nil (nrm_then ?_)
 refine sim_condb rfl (fun h14v => ?_) (fun h15v => ?_)
 refine sim_region ?_
 refine vm rfl rfl ?_
 refine vm rfl rfl ?_
 refine vq (q_len rfl rfl rfl Tryz.underlying25) rfl ?_
 refine vq (q_quo rfl rfl rfl (by decide)) rfl ?_
 refine simL_ask (fun hb17v => ?_)
 obtain ⟨a18v, c19v, hS20v, hr21v, hc22v, hm23v⟩ := slice_pre (lo := (0 : Int)) (hi := IntKind.i64.wrap (Int.tdiv (x2.length : Int) 2)) h2 hc2 hb17v
 refine vq (q_sub_ro (l := x2) (lo' := (0 : Int)) (hi' := IntKind.i64.wrap (Int.tdiv (x2.length : Int) 2)) rfl rfl rfl rfl Tryz.underlying25 Tryz.sizeOf5 (.inr ⟨_, rfl⟩) (.inl ⟨rfl, rfl⟩) hb17v hc2 hS20v) rfl ?_
 refine va rfl rfl ?_
 refine va rfl rfl (simL_nil ?_)
 exact nrm_cut (s := (cut x2 (0 : Int) (IntKind.i64.wrap (Int.tdiv (x2.length : Int) 2)), 11, s11v.2.1, s11v.2.2.1, s11v.2.2.2)) (a18v, c19v) ⟨rfl, rfl, rfl, rfl, rfl, trivial⟩ (.pr_in ⟨hr21v, hc22v, (Nat.le_trans hm23v hm2)⟩ (.sel 0 rfl (.sel 0 rfl (.sel 0 rfl (.nil _)))))
 refine sim_skip ?_
 exact nrm_cut (s := (x2, 0, s11v.2.1, s11v.2.2.1, s11v.2.2.2)) (a2, c2) ⟨rfl, rfl, rfl, rfl, rfl, trivial⟩ (.pr_in ⟨h2, hc2, hm2⟩ (.sel 0 rfl (.sel 0 rfl (.sel 0 rfl (.nil _)))))
 intro s9v y10v
 refine sim_pr (fun hj24v => ?_)
 refine sim_seq ?_
 refine sim_openF (v := ((mget x0_0 x1).getD (([] : List UInt8), (0 : Int)))) 1 rfl (getD_some hk1v) (fun y25v => ?_)
 refine sim_ent (H' := [obj (fptr q0_0 x1) 89 [.slice y25v.1 ((((mget x0_0 x1).getD (([] : List UInt8), (0 : Int))).1).length) y25v.2, .int .i64 (((mget x0_0 x1).getD (([] : List UInt8), (0 : Int))).2)], Row 5 1 y25v.1 (((mget x0_0 x1).getD (([] : List UInt8), (0 : Int))).1).length y25v.2 (encB (((mget x0_0 x1).getD (([] : List UInt8), (0 : Int))).1)), mapH (mapO m0_0 enc9 encP q0_0) FA89 q0_0 x0_0 x1, obj b0 76 [.map (some m0_0), str s9v.2.2.1, .int .i64 s9v.2.2.2.1, .bool s9v.2.2.2.2], F]) (Ent.refl _) ?_
 refine sim_region ?_
 refine vm rfl rfl ?_
 refine vm rfl rfl ?_
 refine vn rfl rfl ?_
 refine vq (q_fa rfl rfl Tryz.underlying89 rfl rfl Tryz.sizeOf25 rfl) rfl ?_
 refine vq (q_load rfl rfl Tryz.isAgg25 (.obj 0 rfl rfl)) rfl ?_
 refine vm rfl rfl ?_
 refine simL_ask (fun hb27v => ?_)
 refine simL_eff (re_appendb 1 rfl rfl rfl Tryz.underlying25 elt5 rfl (hj24v.1.rds 3 rfl) hb27v) rfl rfl rfl ?_
 intro y26v
 refine vn rfl rfl ?_
 refine vq (q_fa rfl rfl Tryz.underlying89 rfl rfl Tryz.sizeOf25 rfl) rfl ?_
 refine simL_do (re_store 0 rfl rfl rfl Tryz.sizeOf25 rfl rfl (one_of (by rfl)) rfl rfl) rfl rfl ?_
 intro _
 refine nx ?_
 refine vm rfl rfl ?_
 refine vm rfl rfl ?_
 refine vn rfl rfl ?_
 refine vq (q_fa rfl rfl Tryz.underlying76 rfl rfl Tryz.sizeOf9 rfl) rfl ?_
 refine simL_do (re_store 3 rfl rfl rfl Tryz.sizeOf9 rfl rfl (one_of (by rfl)) rfl rfl) rfl rfl ?_
 intro _
 refine nx ?_
 refine vm rfl rfl ?_
 refine va rfl rfl (simL_nil (nrm_then (sim_rtn ?_)))
 exact rtn_fn (m0_0, q0_0) rfl rfl rfl (.sel 3 rfl (.foldF (x := x1) (p := (fptr q0_0 x1)) (v := ((((mget x0_0 x1).getD (([] : List UInt8), (0 : Int))).1) ++ s9v.1, ((mget x0_0 x1).getD (([] : List UInt8), (0 : Int))).2)) (y26v.1, y26v.2) rfl (.sel 2 rfl (.sel 0 rfl (.sel 0 rfl (.sel 0 rfl (.nil _)))))))
 refine sim_region ?_
 refine vm rfl rfl ?_
 refine vn rfl rfl ?_
 refine vq (q_fa rfl rfl Tryz.underlying76 rfl rfl Tryz.sizeOf74 rfl) rfl ?_
 refine vq (q_load rfl rfl Tryz.isAgg74 (.obj 0 rfl rfl)) rfl ?_
 refine vm rfl rfl ?_
 refine vq (q_mlookN (ek := enc9) x1 (tellsF 1 rfl) (isNone_of hk1v) rfl rfl rfl Tryz.underlying74 key9 Tryz.zeroValue87) rfl ?_
 refine va rfl rfl (simL_nil (nrm_then (sim_seq ?_)))
 refine sim_block ?_
 refine sr ?_
 refine vm rfl rfl ?_
 refine vn rfl rfl ?_
 refine vq (q_fa rfl rfl Tryz.underlying76 rfl rfl Tryz.sizeOf4 rfl) rfl ?_
 refine vq (q_load rfl rfl Tryz.isAgg4 (.obj 0 rfl rfl)) rfl ?_
 refine va rfl rfl (simL_nil (nrm_then ?_))
 refine sim_condb rfl (fun h28v => ?_) (fun h29v => ?_)
 refine sr ?_
 refine va rfl rfl (simL_nil (nrm_then (sim_rtn ?_)))
 refine rtn_block ?_
 refine rtn_then ?_
 exact rtn_fn (m0_0, q0_0) rfl rfl rfl (.sel 0 rfl (.sel 0 rfl (.sel 0 rfl (.nil _))))
 refine sr ?_
 refine vm rfl rfl ?_
 refine vq (q_eqnn rfl rfl rfl Tryz.underlying87) rfl ?_
 refine va rfl rfl (simL_nil (nrm_then ?_))
 refine sim_true rfl ?_
 refine sr ?_
 refine va rfl rfl (simL_nil (nrm_then (sim_rtn ?_)))
 refine rtn_block ?_
 refine rtn_then ?_
 exact rtn_fn (m0_0, q0_0) rfl rfl rfl (.sel 0 rfl (.sel 0 rfl (.sel 0 rfl (.nil _))))

def disk_Disk_Sync.f (x0_0 : List ((List UInt8) × (List UInt8 × Int))) (x0_1 : List UInt8) (x0_2 : Int) (x0_3 : Bool) (x1 : List UInt8) : Option (Int × (List ((List UInt8) × (List UInt8 × Int))) × List UInt8 × Int × Bool) := if (mget x0_0 x1).isSome = true then (if x0_3 = true then (some (11, x0_0, x0_1, x0_2, x0_3)) else ((disk_Disk_fails.f x0_0 x0_1 x0_2 x0_3).bind fun s4v => (if s4v.1 = true then (some (11, x0_0, s4v.2.1, s4v.2.2.1, s4v.2.2.2)) else (some (0, mput x0_0 x1 (((mget x0_0 x1).getD (([] : List UInt8), (0 : Int))).1, ((((mget x0_0 x1).getD (([] : List UInt8), (0 : Int))).1).length : Int)), s4v.2.1, s4v.2.2.1, s4v.2.2.2))))) else (if x0_3 = true then (some (11, x0_0, x0_1, x0_2, x0_3)) else (some (8, x0_0, x0_1, x0_2, x0_3)))
theorem disk_Disk_Sync.calls (W : World) (F : HA) (b0 : Nat) (m0_0 : Nat) (q0_0 : Kps) (x0_0 : List ((List UInt8) × (List UInt8 × Int))) (x0_1 : List UInt8) (x0_2 : Int) (x0_3 : Bool) (x1 : List UInt8)  :
    Fn Tryz.prog W 31 [.pointer (some ⟨b0, 0, none⟩), str x1] [obj b0 76 [.map (some m0_0), str x0_1, .int .i64 x0_2, .bool x0_3], mapF (mapO m0_0 enc9 encP q0_0) FA89 q0_0 x0_0] F (disk_Disk_Sync.f x0_0 x0_1 x0_2 x0_3 x1) (fun (r : Int × (List ((List UInt8) × (List UInt8 × Int))) × List UInt8 × Int × Bool) (y : Nat × Kps) => .int .i64 r.1) (fun r y => [obj b0 76 [.map (some y.1), str r.2.2.1, .int .i64 r.2.2.2.1, .bool r.2.2.2.2], mapF (mapO y.1 enc9 encP y.2) FA89 y.2 r.2.1]) := by
 unfold disk_Disk_Sync.f
 refine fn_intro 31 Tryz.func31 rfl Tryz.ntmps31 rfl ?_
 refine sr ?_
 refine va rfl rfl (simL_nil (nrm_then (sim_seq ?_)))
 refine sim_if (fun hk1v => ?_) (fun hk1v => ?_)
 refine sim_region ?_
 refine vm rfl rfl ?_
 refine vn rfl rfl ?_
 refine vq (q_fa rfl rfl Tryz.underlying76 rfl rfl Tryz.sizeOf74 rfl) rfl ?_
 refine vq (q_load rfl rfl Tryz.isAgg74 (.obj 0 rfl rfl)) rfl ?_
 refine vm rfl rfl ?_
 refine vq ((q_mlookY (ek := enc9) x1 (tellsF 1 rfl) hk1v rfl rfl rfl Tryz.underlying74 key9 : RQ _ _ _ _ (.pointer (some ⟨(fptr q0_0 x1), 0, none⟩)))) rfl ?_
 refine va rfl rfl (simL_nil (nrm_then (sim_seq ?_)))
 refine sim_block ?_
 refine sr ?_
 refine vm rfl rfl ?_
 refine vn rfl rfl ?_
 refine vq (q_fa rfl rfl Tryz.underlying76 rfl rfl Tryz.sizeOf4 rfl) rfl ?_
 refine vq (q_load rfl rfl Tryz.isAgg4 (.obj 0 rfl rfl)) rfl ?_
 refine va rfl rfl (simL_nil (nrm_then ?_))
 refine sim_condb rfl (fun h2v => ?_) (fun h3v => ?_)
 refine sr ?_
 refine va rfl rfl (simL_nil (nrm_then (sim_rtn ?_)))
 refine rtn_block ?_
 refine rtn_then ?_
 exact rtn_fn (m0_0, q0_0) rfl rfl rfl (.sel 0 rfl (.sel 0 rfl (.sel 0 rfl (.nil _))))
 refine sr ?_
 refine vm rfl rfl ?_
 refine vq (q_eqp rfl rfl rfl Tryz.underlying87) rfl ?_
 refine va rfl rfl (simL_nil (nrm_then ?_))
 refine sim_false rfl ?_
 refine sr ?_
 refine vm rfl rfl ?_
 refine simL_bind (fun s4v hs5v => ?_)
 refine simL_eff (re_call (vs := [.pointer (some ⟨b0, 0, none⟩)]) (cap := []) (A := [obj b0 76 [.map (some m0_0), str x0_1, .int .i64 x0_2, .bool x0_3], mapF (mapO m0_0 enc9 encP q0_0) FA89 q0_0 x0_0]) (rst := [F]) rfl rfl rfl rfl rfl rfl Tryz.call45 (.sel 0 rfl (.sel 0 rfl (.sel 0 rfl (.nil _)))) (disk_Disk_fails.calls _ _ b0 m0_0 q0_0 x0_0 x0_1 x0_2 x0_3 ) hs5v) rfl rfl rfl ?_
 intro y6v
 refine va rfl rfl (simL_nil (nrm_then ?_))
 refine sim_condb rfl (fun h7v => ?_) (fun h8v => ?_)
 refine sr ?_
 refine va rfl rfl (simL_nil (nrm_then (sim_rtn ?_)))
 refine rtn_block ?_
 refine rtn_then ?_
 exact rtn_fn (m0_0, q0_0) rfl rfl rfl (.sel 0 rfl (.sel 0 rfl (.sel 0 rfl (.nil _))))
 refine sim_skip ?_
 refine nrm_block (nrm_then (sim_seq ?_))
 refine sim_openF (v := ((mget x0_0 x1).getD (([] : List UInt8), (0 : Int)))) 1 rfl (getD_some hk1v) (fun y9v => ?_)
 refine sim_ent (H' := [obj (fptr q0_0 x1) 89 [.slice y9v.1 ((((mget x0_0 x1).getD (([] : List UInt8), (0 : Int))).1).length) y9v.2, .int .i64 (((mget x0_0 x1).getD (([] : List UInt8), (0 : Int))).2)], Row 5 1 y9v.1 (((mget x0_0 x1).getD (([] : List UInt8), (0 : Int))).1).length y9v.2 (encB (((mget x0_0 x1).getD (([] : List UInt8), (0 : Int))).1)), mapH (mapO m0_0 enc9 encP q0_0) FA89 q0_0 x0_0 x1, obj b0 76 [.map (some m0_0), str s4v.2.1, .int .i64 s4v.2.2.1, .bool s4v.2.2.2], F]) (Ent.refl _) ?_
 refine sim_region ?_
 refine vm rfl rfl ?_
 refine vm rfl rfl ?_
 refine vn rfl rfl ?_
 refine vq (q_fa rfl rfl Tryz.underlying89 rfl rfl Tryz.sizeOf25 rfl) rfl ?_
 refine vq (q_load rfl rfl Tryz.isAgg25 (.obj 0 rfl rfl)) rfl ?_
 refine vq (q_len rfl rfl rfl Tryz.underlying25) rfl ?_
 refine vn rfl rfl ?_
 refine vq (q_fa rfl rfl Tryz.underlying89 rfl rfl Tryz.sizeOf3 rfl) rfl ?_
 refine simL_do (re_store 0 rfl rfl rfl Tryz.sizeOf3 rfl rfl (one_of (by rfl)) rfl rfl) rfl rfl ?_
 intro _
 refine nx ?_
 refine va rfl rfl (simL_nil (nrm_then (sim_rtn ?_)))
 exact rtn_fn (m0_0, q0_0) rfl rfl rfl (.sel 3 rfl (.foldF (x := x1) (p := (fptr q0_0 x1)) (v := (((mget x0_0 x1).getD (([] : List UInt8), (0 : Int))).1, ((((mget x0_0 x1).getD (([] : List UInt8), (0 : Int))).1).length : Int))) (y9v.1, y9v.2) rfl (.sel 2 rfl (.sel 0 rfl (.sel 0 rfl (.sel 0 rfl (.nil _)))))))
 refine sim_region ?_
 refine vm rfl rfl ?_
 refine vn rfl rfl ?_
 refine vq (q_fa rfl rfl Tryz.underlying76 rfl rfl Tryz.sizeOf74 rfl) rfl ?_
 refine vq (q_load rfl rfl Tryz.isAgg74 (.obj 0 rfl rfl)) rfl ?_
 refine vm rfl rfl ?_
 refine vq (q_mlookN (ek := enc9) x1 (tellsF 1 rfl) (isNone_of hk1v) rfl rfl rfl Tryz.underlying74 key9 Tryz.zeroValue87) rfl ?_
 refine va rfl rfl (simL_nil (nrm_then (sim_seq ?_)))
 refine sim_block ?_
 refine sr ?_
 refine vm rfl rfl ?_
 refine vn rfl rfl ?_
 refine vq (q_fa rfl rfl Tryz.underlying76 rfl rfl Tryz.sizeOf4 rfl) rfl ?_
 refine vq (q_load rfl rfl Tryz.isAgg4 (.obj 0 rfl rfl)) rfl ?_
 refine va rfl rfl (simL_nil (nrm_then ?_))
 refine sim_condb rfl (fun h10v => ?_) (fun h11v => ?_)
 refine sr ?_
 refine va rfl rfl (simL_nil (nrm_then (sim_rtn ?_)))
 refine rtn_block ?_
 refine rtn_then ?_
 exact rtn_fn (m0_0, q0_0) rfl rfl rfl (.sel 0 rfl (.sel 0 rfl (.sel 0 rfl (.nil _))))
 refine sr ?_
 refine vm rfl rfl ?_
 refine vq (q_eqnn rfl rfl rfl Tryz.underlying87) rfl ?_
 refine va rfl rfl (simL_nil (nrm_then ?_))
 refine sim_true rfl ?_
 refine sr ?_
 refine va rfl rfl (simL_nil (nrm_then (sim_rtn ?_)))
 refine rtn_block ?_
 refine rtn_then ?_
 exact rtn_fn (m0_0, q0_0) rfl rfl rfl (.sel 0 rfl (.sel 0 rfl (.sel 0 rfl (.nil _))))
def disk_Disk_Sync.v (x0_0 : List ((List UInt8) × (List UInt8 × Int))) (x0_1 : List UInt8) (x0_2 : Int) (x0_3 : Bool) (x1 : List UInt8) : Int × (List ((List UInt8) × (List UInt8 × Int))) × List UInt8 × Int × Bool := (disk_Disk_Sync.f x0_0 x0_1 x0_2 x0_3 x1).getD (0, [], [], 0, false)
def disk_Disk_Rename.f (k : Nat) (x0_0 : List ((List UInt8) × (List UInt8 × Int))) (x0_1 : List UInt8) (x0_2 : Int) (x0_3 : Bool) (x1 : List UInt8) (x2 : List UInt8) : Option (Int × (List ((List UInt8) × (List UInt8 × Int))) × List UInt8 × Int × Bool) := if (mget x0_0 x1).isSome = true then (if x0_3 = true then (some (11, x0_0, x0_1, x0_2, x0_3)) else ((disk_named.f k x2).bind fun s4v => (if (!s4v) = true then (some (7, x0_0, x0_1, x0_2, x0_3)) else ((disk_Disk_fails.f x0_0 x0_1 x0_2 x0_3).bind fun s9v => (if s9v.1 = true then (some (11, x0_0, s9v.2.1, s9v.2.2.1, s9v.2.2.2)) else (if x1 = x2 then (some (0, x0_0, s9v.2.1, s9v.2.2.1, s9v.2.2.2)) else ((if s9v.2.1 = x1 then (some x2) else (if s9v.2.1 = x2 then (some ([] : List UInt8)) else (some s9v.2.1))).bind fun s16v => (some (0, mput (mdel x0_0 x1) x2 (((mget x0_0 x1).getD (([] : List UInt8), (0 : Int))).1, ((mget x0_0 x1).getD (([] : List UInt8), (0 : Int))).2), s16v, s9v.2.2.1, s9v.2.2.2))))))))) else (if x0_3 = true then (some (11, x0_0, x0_1, x0_2, x0_3)) else (some (8, x0_0, x0_1, x0_2, x0_3)))
theorem disk_Disk_Rename.calls (W : World) (F : HA) (k : Nat) (b0 : Nat) (m0_0 : Nat) (q0_0 : Kps) (x0_0 : List ((List UInt8) × (List UInt8 × Int))) (x0_1 : List UInt8) (x0_2 : Int) (x0_3 : Bool) (x1 : List UInt8) (x2 : List UInt8)  :
    Fn Tryz.prog W 42 [.pointer (some ⟨b0, 0, none⟩), str x1, str x2] [obj b0 76 [.map (some m0_0), str x0_1, .int .i64 x0_2, .bool x0_3], mapF (mapO m0_0 enc9 encP q0_0) FA89 q0_0 x0_0] F (disk_Disk_Rename.f k x0_0 x0_1 x0_2 x0_3 x1 x2) (fun (r : Int × (List ((List UInt8) × (List UInt8 × Int))) × List UInt8 × Int × Bool) (y : Nat × Kps) => .int .i64 r.1) (fun r y => [obj b0 76 [.map (some y.1), str r.2.2.1, .int .i64 r.2.2.2.1, .bool r.2.2.2.2], mapF (mapO y.1 enc9 encP y.2) FA89 y.2 r.2.1]) := by
 unfold disk_Disk_Rename.f
 refine fn_intro 61 Tryz.func42 rfl Tryz.ntmps42 rfl ?_
 refine sr ?_
 refine va rfl rfl (simL_nil (nrm_then (sim_seq ?_)))
 refine sim_if (fun hk1v => ?_) (fun hk1v => ?_)
 refine sim_region ?_
 refine vm rfl rfl ?_
 refine vn rfl rfl ?_
 refine vq (q_fa rfl rfl Tryz.underlying76 rfl rfl Tryz.sizeOf74 rfl) rfl ?_
 refine vq (q_load rfl rfl Tryz.isAgg74 (.obj 0 rfl rfl)) rfl ?_
 refine vm rfl rfl ?_
 refine vq ((q_mlookY (ek := enc9) x1 (tellsF 1 rfl) hk1v rfl rfl rfl Tryz.underlying74 key9 : RQ _ _ _ _ (.pointer (some ⟨(fptr q0_0 x1), 0, none⟩)))) rfl ?_
 refine va rfl rfl (simL_nil (nrm_then (sim_seq ?_)))
 refine sim_block ?_
 refine sr ?_
 refine vm rfl rfl ?_
 refine vn rfl rfl ?_
 refine vq (q_fa rfl rfl Tryz.underlying76 rfl rfl Tryz.sizeOf4 rfl) rfl ?_
 refine vq (q_load rfl rfl Tryz.isAgg4 (.obj 0 rfl rfl)) rfl ?_
 refine va rfl rfl (simL_nil (nrm_then ?_))
 refine sim_condb rfl (fun h2v => ?_) (fun h3v => ?_)
 refine sr ?_
 refine va rfl rfl (simL_nil (nrm_then (sim_rtn ?_)))
 refine rtn_block ?_
 refine rtn_then ?_
 exact rtn_fn (m0_0, q0_0) rfl rfl rfl (.sel 0 rfl (.sel 0 rfl (.sel 0 rfl (.nil _))))
 refine sr ?_
 refine vm rfl rfl ?_
 refine vq (q_eqp rfl rfl rfl Tryz.underlying87) rfl ?_
 refine va rfl rfl (simL_nil (nrm_then ?_))
 refine sim_false rfl ?_
 refine sr ?_
 refine vm rfl rfl ?_
 refine simL_bind (fun s4v hs5v => ?_)
 refine simL_eff (re_call (vs := [str x2]) (cap := []) (A := []) (rst := [obj b0 76 [.map (some m0_0), str x0_1, .int .i64 x0_2, .bool x0_3], mapF (mapO m0_0 enc9 encP q0_0) FA89 q0_0 x0_0, F]) rfl rfl rfl rfl rfl rfl Tryz.call68 (.sel 0 rfl (.sel 0 rfl (.sel 0 rfl (.nil _)))) (disk_named.calls _ _ k x2 ) hs5v) rfl rfl rfl ?_
 intro y6v
 refine vq (q_not rfl rfl) rfl ?_
 refine va rfl rfl (simL_nil (nrm_then ?_))
 refine sim_condb rfl (fun h7v => ?_) (fun h8v => ?_)
 refine sr ?_
 refine va rfl rfl (simL_nil (nrm_then (sim_rtn ?_)))
 refine rtn_block ?_
 refine rtn_then ?_
 exact rtn_fn (m0_0, q0_0) rfl rfl rfl (.sel 0 rfl (.sel 0 rfl (.sel 0 rfl (.nil _))))
 refine sr ?_
 refine vm rfl rfl ?_
 refine simL_bind (fun s9v hs10v => ?_)
 refine simL_eff (re_call (vs := [.pointer (some ⟨b0, 0, none⟩)]) (cap := []) (A := [obj b0 76 [.map (some m0_0), str x0_1, .int .i64 x0_2, .bool x0_3], mapF (mapO m0_0 enc9 encP q0_0) FA89 q0_0 x0_0]) (rst := [F]) rfl rfl rfl rfl rfl rfl Tryz.call45 (.sel 0 rfl (.sel 0 rfl (.sel 0 rfl (.nil _)))) (disk_Disk_fails.calls _ _ b0 m0_0 q0_0 x0_0 x0_1 x0_2 x0_3 ) hs10v) rfl rfl rfl ?_
 intro y11v
 refine va rfl rfl (simL_nil (nrm_then ?_))
 refine sim_condb rfl (fun h12v => ?_) (fun h13v => ?_)
 refine sr ?_
 refine va rfl rfl (simL_nil (nrm_then (sim_rtn ?_)))
 refine rtn_block ?_
 refine rtn_then ?_
 exact rtn_fn (m0_0, q0_0) rfl rfl rfl (.sel 0 rfl (.sel 0 rfl (.sel 0 rfl (.nil _))))
 refine sr ?_
 refine vm rfl rfl ?_
 refine vm rfl rfl ?_
 refine vq (q_eqs rfl rfl rfl) rfl ?_
 refine va rfl rfl (simL_nil (nrm_then ?_))
 refine sim_cond rfl (fun h14v => ?_) (fun h15v => ?_)
 refine sr ?_
 refine va rfl rfl (simL_nil (nrm_then (sim_rtn ?_)))
 refine rtn_block ?_
 refine rtn_then ?_
 exact rtn_fn (m0_0, q0_0) rfl rfl rfl (.sel 0 rfl (.sel 0 rfl (.sel 0 rfl (.nil _))))
 refine sim_skip ?_
 refine nrm_block (nrm_then ?_)
 refine sim_cut (S := List UInt8) (Unit) (fun s y => [(0, .pointer (some ⟨b0, 0, none⟩)), (1, str x1), (2, str x2), (7, .pointer (some ⟨(fptr q0_0 x1), 0, none⟩))]) (fun s y => [obj b0 76 [.map (some m0_0), str s, .int .i64 s9v.2.2.1, .bool s9v.2.2.2], mapF (mapO m0_0 enc9 encP q0_0) FA89 q0_0 x0_0, F]) ?_ ?_
 refine sr ?_
 refine vm rfl rfl ?_
 refine vn rfl rfl ?_
 refine vq (q_fa rfl rfl Tryz.underlying76 rfl rfl Tryz.sizeOf9 rfl) rfl ?_
 refine vq (q_load rfl rfl Tryz.isAgg9 (.obj 0 rfl rfl)) rfl (simL_nil (nrm_then ?_))
 refine sim_block ?_
 refine sr ?_
 refine vm rfl rfl ?_
 refine vq (q_eqs rfl rfl rfl) rfl ?_
 refine va rfl rfl (simL_nil (nrm_then ?_))
 refine sim_cond rfl (fun h18v => ?_) (fun h19v => ?_)
 refine sim_region ?_
 refine vm rfl rfl ?_
 refine vm rfl rfl ?_
 refine vn rfl rfl ?_
 refine vq (q_fa rfl rfl Tryz.underlying76 rfl rfl Tryz.sizeOf9 rfl) rfl ?_
 refine simL_do (re_store 0 rfl rfl rfl Tryz.sizeOf9 rfl rfl (one_of (by rfl)) rfl rfl) rfl rfl ?_
 intro _
 refine simL_nil (nrm_block ?_)
 exact nrm_cut (s := x2) () ⟨rfl, rfl, rfl, rfl, trivial⟩ (.sel 0 rfl (.sel 0 rfl (.sel 0 rfl (.nil _))))
 refine sr ?_
 refine vm rfl rfl ?_
 refine vq (q_eqs rfl rfl rfl) rfl ?_
 refine va rfl rfl (simL_nil (nrm_then ?_))
 refine sim_cond rfl (fun h20v => ?_) (fun h21v => ?_)
 refine sim_region ?_
 refine vm rfl rfl ?_
 refine vn rfl rfl ?_
 refine vq (q_fa rfl rfl Tryz.underlying76 rfl rfl Tryz.sizeOf9 rfl) rfl ?_
 refine simL_do (re_store 0 rfl rfl rfl Tryz.sizeOf9 rfl rfl (one_of (by rfl)) rfl rfl) rfl rfl ?_
 intro _
 refine simL_nil (nrm_block ?_)
 exact nrm_cut (s := ([] : List UInt8)) () ⟨rfl, rfl, rfl, rfl, trivial⟩ (.sel 0 rfl (.sel 0 rfl (.sel 0 rfl (.nil _))))
 refine sim_skip ?_
 refine nrm_block ?_
 exact nrm_cut (s := s9v.2.1) () ⟨rfl, rfl, rfl, rfl, trivial⟩ (.sel 0 rfl (.sel 0 rfl (.sel 0 rfl (.nil _))))
 intro s16v y17v
 refine sr ?_
 refine vm rfl rfl ?_
 refine vn rfl rfl ?_
 refine vq (q_fa rfl rfl Tryz.underlying76 rfl rfl Tryz.sizeOf74 rfl) rfl ?_
 refine vq (q_load rfl rfl Tryz.isAgg74 (.obj 0 rfl rfl)) rfl ?_
 refine vm rfl rfl ?_
 refine simL_openF (v := ((mget x0_0 x1).getD (([] : List UInt8), (0 : Int)))) 1 rfl (getD_some hk1v) (fun y22v => ?_)
 refine simL_ent (H' := [obj (fptr q0_0 x1) 89 [.slice y22v.1 ((((mget x0_0 x1).getD (([] : List UInt8), (0 : Int))).1).length) y22v.2, .int .i64 (((mget x0_0 x1).getD (([] : List UInt8), (0 : Int))).2)], Row 5 1 y22v.1 (((mget x0_0 x1).getD (([] : List UInt8), (0 : Int))).1).length y22v.2 (encB (((mget x0_0 x1).getD (([] : List UInt8), (0 : Int))).1)), mapH (mapO m0_0 enc9 encP q0_0) FA89 q0_0 x0_0 x1, obj b0 76 [.map (some m0_0), str s16v, .int .i64 s9v.2.2.1, .bool s9v.2.2.2], F]) (Ent.refl _) ?_
 refine simL_do (re_mdelH (ek := enc9) 2 x1 rfl rfl rfl rfl Tryz.underlying74 key9 rfl) rfl rfl ?_
 intro _
 refine nx ?_
 refine vm rfl rfl ?_
 refine vn rfl rfl ?_
 refine vq (q_fa rfl rfl Tryz.underlying76 rfl rfl Tryz.sizeOf74 rfl) rfl ?_
 refine vq (q_load rfl rfl Tryz.isAgg74 (.obj 3 rfl rfl)) rfl ?_
 refine vm rfl rfl ?_
 refine vm rfl rfl ?_
 refine simL_do (re_mputF (ek := enc9) 2 x2 (fptr q0_0 x1) rfl rfl rfl rfl Tryz.underlying74 key9 rfl) rfl rfl ?_
 intro _
 refine simL_ent (H' := [mapF (mapO m0_0 enc9 encP (mput (mdel q0_0 x1) x2 (fptr q0_0 x1))) FA89 (mput (mdel q0_0 x1) x2 (fptr q0_0 x1)) (mput (mdel x0_0 x1) x2 (((mget x0_0 x1).getD (([] : List UInt8), (0 : Int))).1, ((mget x0_0 x1).getD (([] : List UInt8), (0 : Int))).2)), obj b0 76 [.map (some m0_0), str s16v, .int .i64 s9v.2.2.1, .bool s9v.2.2.2], F]) ((.foldU (x := x2) (p := (fptr q0_0 x1)) (v := (((mget x0_0 x1).getD (([] : List UInt8), (0 : Int))).1, ((mget x0_0 x1).getD (([] : List UInt8), (0 : Int))).2)) (y22v.1, y22v.2) (.sel 2 rfl (.sel 0 rfl (.sel 0 rfl (.sel 0 rfl (.sel 0 rfl (.nil _)))))))) ?_
 refine nx ?_
 refine va rfl rfl (simL_nil (nrm_then (sim_rtn ?_)))
 exact rtn_fn (m0_0, mput (mdel q0_0 x1) x2 (fptr q0_0 x1)) rfl rfl rfl (.sel 1 rfl (.sel 0 rfl (.sel 0 rfl (.nil _))))
 refine sim_region ?_
 refine vm rfl rfl ?_
 refine vn rfl rfl ?_
 refine vq (q_fa rfl rfl Tryz.underlying76 rfl rfl Tryz.sizeOf74 rfl) rfl ?_
 refine vq (q_load rfl rfl Tryz.isAgg74 (.obj 0 rfl rfl)) rfl ?_
 refine vm rfl rfl ?_
 refine vq (q_mlookN (ek := enc9) x1 (tellsF 1 rfl) (isNone_of hk1v) rfl rfl rfl Tryz.underlying74 key9 Tryz.zeroValue87) rfl ?_
 refine va rfl rfl (simL_nil (nrm_then (sim_seq ?_)))
 refine sim_block ?_
 refine sr ?_
 refine vm rfl rfl ?_
 refine vn rfl rfl ?_
 refine vq (q_fa rfl rfl Tryz.underlying76 rfl rfl Tryz.sizeOf4 rfl) rfl ?_
 refine vq (q_load rfl rfl Tryz.isAgg4 (.obj 0 rfl rfl)) rfl ?_
 refine va rfl rfl (simL_nil (nrm_then ?_))
 refine sim_condb rfl (fun h23v => ?_) (fun h24v => ?_)
 refine sr ?_
 refine va rfl rfl (simL_nil (nrm_then (sim_rtn ?_)))
 refine rtn_block ?_
 refine rtn_then ?_
 exact rtn_fn (m0_0, q0_0) rfl rfl rfl (.sel 0 rfl (.sel 0 rfl (.sel 0 rfl (.nil _))))
 refine sr ?_
 refine vm rfl rfl ?_
 refine vq (q_eqnn rfl rfl rfl Tryz.underlying87) rfl ?_
 refine va rfl rfl (simL_nil (nrm_then ?_))
 refine sim_true rfl ?_
 refine sr ?_
 refine va rfl rfl (simL_nil (nrm_then (sim_rtn ?_)))
 refine rtn_block ?_
 refine rtn_then ?_
 exact rtn_fn (m0_0, q0_0) rfl rfl rfl (.sel 0 rfl (.sel 0 rfl (.sel 0 rfl (.nil _))))

def snap_Save_1_s.f (xp1_0 : List ((List UInt8) × (List UInt8 × Int))) (xp1_1 : List UInt8) (xp1_2 : Int) (xp1_3 : Bool) : Option (Int × (List ((List UInt8) × (List UInt8 × Int))) × List UInt8 × Int × Bool) := (snap_clean.f xp1_0 xp1_1 xp1_2 xp1_3).bind fun s1v => (some (s1v.2.1, s1v.2.2.1, s1v.2.2.2.1, s1v.2.2.2.2.1, s1v.2.2.2.2.2))
theorem snap_Save_1_s.calls (W : World) (F : HA) (bp0 : Nat) (bp1 : Nat) (mp1_0 : Nat) (qp1_0 : Kps) (xp1_0 : List ((List UInt8) × (List UInt8 × Int))) (xp1_1 : List UInt8) (xp1_2 : Int) (xp1_3 : Bool)  :
    Fn Tryz.prog W 36 [.pointer (some ⟨bp0, 0, none⟩)] [obj bp1 76 [.map (some mp1_0), str xp1_1, .int .i64 xp1_2, .bool xp1_3], mapF (mapO mp1_0 enc9 encP qp1_0) FA89 qp1_0 xp1_0, obj bp0 28 [.pointer (some ⟨bp1, 0, none⟩)]] F (snap_Save_1_s.f xp1_0 xp1_1 xp1_2 xp1_3) (fun (r : Int × (List ((List UInt8) × (List UInt8 × Int))) × List UInt8 × Int × Bool) (y : Nat × Kps) => .int .i64 r.1) (fun r y => [obj bp1 76 [.map (some y.1), str r.2.2.1, .int .i64 r.2.2.2.1, .bool r.2.2.2.2], mapF (mapO y.1 enc9 encP y.2) FA89 y.2 r.2.1, obj bp0 28 [.pointer (some ⟨bp1, 0, none⟩)]]) := by
 unfold snap_Save_1_s.f
 refine fn_intro 10 Tryz.func36 rfl Tryz.ntmps36 rfl ?_
 refine sr ?_
 refine va rfl rfl (nx ?_)
 refine vq (q_load rfl rfl Tryz.isAgg28 (.obj 2 rfl rfl)) rfl ?_
 refine simL_bind (fun s1v hs2v => ?_)
 refine simL_eff (re_call (vs := [.pointer (some ⟨bp1, 0, none⟩)]) (cap := []) (A := [obj bp1 76 [.map (some mp1_0), str xp1_1, .int .i64 xp1_2, .bool xp1_3], mapF (mapO mp1_0 enc9 encP qp1_0) FA89 qp1_0 xp1_0]) (rst := [obj bp0 28 [.pointer (some ⟨bp1, 0, none⟩)], F]) rfl rfl rfl rfl rfl rfl Tryz.call37 (.sel 0 rfl (.sel 0 rfl (.sel 0 rfl (.sel 0 rfl (.nil _))))) (snap_clean.calls _ _ bp1 mp1_0 qp1_0 xp1_0 xp1_1 xp1_2 xp1_3 ) hs2v) rfl rfl rfl ?_
 intro y3v
 refine vm rfl rfl ?_
 refine vq (q_ext rfl rfl rfl) rfl ?_
 refine vq (q_ext rfl rfl rfl) rfl ?_
 refine va rfl rfl ?_
 refine va rfl rfl (nx ?_)
 refine vm rfl rfl ?_
 refine va rfl rfl (simL_nil (nrm_then (sim_rtn ?_)))
 exact rtn_fn (y3v.1, y3v.2) rfl rfl rfl (.sel 0 rfl (.sel 0 rfl (.sel 0 rfl (.sel 0 rfl (.nil _)))))

def snap_Save_2_s.f (k : Nat) (xp1_0 : List ((List UInt8) × (List UInt8 × Int))) (xp1_1 : List UInt8) (xp1_2 : Int) (xp1_3 : Bool) : Option (Int × (List ((List UInt8) × (List UInt8 × Int))) × List UInt8 × Int × Bool) := (disk_Disk_Create.f k xp1_0 xp1_1 xp1_2 xp1_3 ([115, 110, 97, 112, 46, 116, 109, 112] : List UInt8)).bind fun s1v => (some (s1v.1, s1v.2.1, s1v.2.2.1, s1v.2.2.2.1, s1v.2.2.2.2))
theorem snap_Save_2_s.calls (W : World) (F : HA) (k : Nat) (bp0 : Nat) (bp1 : Nat) (mp1_0 : Nat) (qp1_0 : Kps) (xp1_0 : List ((List UInt8) × (List UInt8 × Int))) (xp1_1 : List UInt8) (xp1_2 : Int) (xp1_3 : Bool)  :
    Fn Tryz.prog W 38 [.pointer (some ⟨bp0, 0, none⟩)] [obj bp1 76 [.map (some mp1_0), str xp1_1, .int .i64 xp1_2, .bool xp1_3], mapF (mapO mp1_0 enc9 encP qp1_0) FA89 qp1_0 xp1_0, obj bp0 28 [.pointer (some ⟨bp1, 0, none⟩)]] F (snap_Save_2_s.f k xp1_0 xp1_1 xp1_2 xp1_3) (fun (r : Int × (List ((List UInt8) × (List UInt8 × Int))) × List UInt8 × Int × Bool) (y : Nat × Kps) => .int .i64 r.1) (fun r y => [obj bp1 76 [.map (some y.1), str r.2.2.1, .int .i64 r.2.2.2.1, .bool r.2.2.2.2], mapF (mapO y.1 enc9 encP y.2) FA89 y.2 r.2.1, obj bp0 28 [.pointer (some ⟨bp1, 0, none⟩)]]) := by
 unfold snap_Save_2_s.f
 refine fn_intro 4 Tryz.func38 rfl Tryz.ntmps38 rfl ?_
 refine sr ?_
 refine va rfl rfl (nx ?_)
 refine vq (q_load rfl rfl Tryz.isAgg28 (.obj 2 rfl rfl)) rfl ?_
 refine simL_bind (fun s1v hs2v => ?_)
 refine simL_eff (re_call (vs := [.pointer (some ⟨bp1, 0, none⟩), str ([115, 110, 97, 112, 46, 116, 109, 112] : List UInt8)]) (cap := []) (A := [obj bp1 76 [.map (some mp1_0), str xp1_1, .int .i64 xp1_2, .bool xp1_3], mapF (mapO mp1_0 enc9 encP qp1_0) FA89 qp1_0 xp1_0]) (rst := [obj bp0 28 [.pointer (some ⟨bp1, 0, none⟩)], F]) rfl rfl rfl rfl rfl rfl Tryz.call29 (.sel 0 rfl (.sel 0 rfl (.sel 0 rfl (.sel 0 rfl (.nil _))))) (disk_Disk_Create.calls _ _ k bp1 mp1_0 qp1_0 xp1_0 xp1_1 xp1_2 xp1_3 ([115, 110, 97, 112, 46, 116, 109, 112] : List UInt8) ) hs2v) rfl rfl rfl ?_
 intro y3v
 refine va rfl rfl (simL_nil (nrm_then (sim_rtn ?_)))
 exact rtn_fn (y3v.1, y3v.2) rfl rfl rfl (.sel 0 rfl (.sel 0 rfl (.sel 0 rfl (.sel 0 rfl (.nil _)))))

def snap_Save_3_s.f (xp1_0 : List ((List UInt8) × (List UInt8 × Int))) (xp1_1 : List UInt8) (xp1_2 : Int) (xp1_3 : Bool) (xp2_0 : List UInt8) : Option (Int × (List ((List UInt8) × (List UInt8 × Int))) × List UInt8 × Int × Bool) := (disk_Disk_Append.f xp1_0 xp1_1 xp1_2 xp1_3 ([115, 110, 97, 112, 46, 116, 109, 112] : List UInt8) xp2_0).bind fun s1v => (some (s1v.1, s1v.2.1, s1v.2.2.1, s1v.2.2.2.1, s1v.2.2.2.2))
theorem snap_Save_3_s.calls (W : World) (F : HA) (bp0 : Nat) (bp1 : Nat) (mp1_0 : Nat) (qp1_0 : Kps) (xp1_0 : List ((List UInt8) × (List UInt8 × Int))) (xp1_1 : List UInt8) (xp1_2 : Int) (xp1_3 : Bool) (bp2 : Nat) (ap2_0 : Option Addr) (cp2_0 : Nat) (xp2_0 : List UInt8) (hp2_0 : Rd F ap2_0 (encB xp2_0)) (hcp2_0 : xp2_0.length ≤ cp2_0) (hmp2_0 : cp2_0 ≤ maxLen) :
    Fn Tryz.prog W 39 [.pointer (some ⟨bp0, 0, none⟩), .pointer (some ⟨bp2, 0, none⟩)] [obj bp1 76 [.map (some mp1_0), str xp1_1, .int .i64 xp1_2, .bool xp1_3], mapF (mapO mp1_0 enc9 encP qp1_0) FA89 qp1_0 xp1_0, obj bp0 28 [.pointer (some ⟨bp1, 0, none⟩)], obj bp2 25 [.slice ap2_0 xp2_0.length cp2_0]] F (snap_Save_3_s.f xp1_0 xp1_1 xp1_2 xp1_3 xp2_0) (fun (r : Int × (List ((List UInt8) × (List UInt8 × Int))) × List UInt8 × Int × Bool) (y : Nat × Kps) => .int .i64 r.1) (fun r y => [obj bp1 76 [.map (some y.1), str r.2.2.1, .int .i64 r.2.2.2.1, .bool r.2.2.2.2], mapF (mapO y.1 enc9 encP y.2) FA89 y.2 r.2.1, obj bp0 28 [.pointer (some ⟨bp1, 0, none⟩)], obj bp2 25 [.slice ap2_0 xp2_0.length cp2_0]]) := by
 unfold snap_Save_3_s.f
 refine fn_intro 6 Tryz.func39 rfl Tryz.ntmps39 rfl ?_
 refine sr ?_
 refine va rfl rfl (nx ?_)
 refine vq (q_load rfl rfl Tryz.isAgg28 (.obj 2 rfl rfl)) rfl ?_
 refine vq (q_load rfl rfl Tryz.isAgg25 (.obj 3 rfl rfl)) rfl ?_
 refine simL_bind (fun s1v hs2v => ?_)
 refine simL_eff (re_call (vs := [.pointer (some ⟨bp1, 0, none⟩), str ([115, 110, 97, 112, 46, 116, 109, 112] : List UInt8), .slice ap2_0 xp2_0.length cp2_0]) (cap := []) (A := [obj bp1 76 [.map (some mp1_0), str xp1_1, .int .i64 xp1_2, .bool xp1_3], mapF (mapO mp1_0 enc9 encP qp1_0) FA89 qp1_0 xp1_0]) (rst := [obj bp0 28 [.pointer (some ⟨bp1, 0, none⟩)], obj bp2 25 [.slice ap2_0 xp2_0.length cp2_0], F]) rfl rfl rfl rfl rfl rfl Tryz.call30 (.sel 0 rfl (.sel 0 rfl (.sel 0 rfl (.sel 0 rfl (.sel 0 rfl (.nil _)))))) (disk_Disk_Append.calls _ _ bp1 mp1_0 qp1_0 xp1_0 xp1_1 xp1_2 xp1_3 ([115, 110, 97, 112, 46, 116, 109, 112] : List UInt8) ap2_0 cp2_0 xp2_0 (hp2_0.lend 2 rfl) hcp2_0 hmp2_0) hs2v) rfl rfl rfl ?_
 intro y3v
 refine va rfl rfl (simL_nil (nrm_then (sim_rtn ?_)))
 exact rtn_fn (y3v.1, y3v.2) rfl rfl rfl (.sel 0 rfl (.sel 0 rfl (.sel 0 rfl (.sel 0 rfl (.sel 0 rfl (.nil _))))))

def snap_Save_4_s.f (xp1_0 : List ((List UInt8) × (List UInt8 × Int))) (xp1_1 : List UInt8) (xp1_2 : Int) (xp1_3 : Bool) : Option (Int × (List ((List UInt8) × (List UInt8 × Int))) × List UInt8 × Int × Bool) := (disk_Disk_Sync.f xp1_0 xp1_1 xp1_2 xp1_3 ([115, 110, 97, 112, 46, 116, 109, 112] : List UInt8)).bind fun s1v => (some (s1v.1, s1v.2.1, s1v.2.2.1, s1v.2.2.2.1, s1v.2.2.2.2))
theorem snap_Save_4_s.calls (W : World) (F : HA) (bp0 : Nat) (bp1 : Nat) (mp1_0 : Nat) (qp1_0 : Kps) (xp1_0 : List ((List UInt8) × (List UInt8 × Int))) (xp1_1 : List UInt8) (xp1_2 : Int) (xp1_3 : Bool)  :
    Fn Tryz.prog W 40 [.pointer (some ⟨bp0, 0, none⟩)] [obj bp1 76 [.map (some mp1_0), str xp1_1, .int .i64 xp1_2, .bool xp1_3], mapF (mapO mp1_0 enc9 encP qp1_0) FA89 qp1_0 xp1_0, obj bp0 28 [.pointer (some ⟨bp1, 0, none⟩)]] F (snap_Save_4_s.f xp1_0 xp1_1 xp1_2 xp1_3) (fun (r : Int × (List ((List UInt8) × (List UInt8 × Int))) × List UInt8 × Int × Bool) (y : Nat × Kps) => .int .i64 r.1) (fun r y => [obj bp1 76 [.map (some y.1), str r.2.2.1, .int .i64 r.2.2.2.1, .bool r.2.2.2.2], mapF (mapO y.1 enc9 encP y.2) FA89 y.2 r.2.1, obj bp0 28 [.pointer (some ⟨bp1, 0, none⟩)]]) := by
 unfold snap_Save_4_s.f
 refine fn_intro 4 Tryz.func40 rfl Tryz.ntmps40 rfl ?_
 refine sr ?_
 refine va rfl rfl (nx ?_)
 refine vq (q_load rfl rfl Tryz.isAgg28 (.obj 2 rfl rfl)) rfl ?_
 refine simL_bind (fun s1v hs2v => ?_)
 refine simL_eff (re_call (vs := [.pointer (some ⟨bp1, 0, none⟩), str ([115, 110, 97, 112, 46, 116, 109, 112] : List UInt8)]) (cap := []) (A := [obj bp1 76 [.map (some mp1_0), str xp1_1, .int .i64 xp1_2, .bool xp1_3], mapF (mapO mp1_0 enc9 encP qp1_0) FA89 qp1_0 xp1_0]) (rst := [obj bp0 28 [.pointer (some ⟨bp1, 0, none⟩)], F]) rfl rfl rfl rfl rfl rfl Tryz.call31 (.sel 0 rfl (.sel 0 rfl (.sel 0 rfl (.sel 0 rfl (.nil _))))) (disk_Disk_Sync.calls _ _ bp1 mp1_0 qp1_0 xp1_0 xp1_1 xp1_2 xp1_3 ([115, 110, 97, 112, 46, 116, 109, 112] : List UInt8) ) hs2v) rfl rfl rfl ?_
 intro y3v
 refine va rfl rfl (simL_nil (nrm_then (sim_rtn ?_)))
 exact rtn_fn (y3v.1, y3v.2) rfl rfl rfl (.sel 0 rfl (.sel 0 rfl (.sel 0 rfl (.sel 0 rfl (.nil _)))))

def snap_Save_5_s.f (k : Nat) (xp1_0 : List ((List UInt8) × (List UInt8 × Int))) (xp1_1 : List UInt8) (xp1_2 : Int) (xp1_3 : Bool) (xp2_0 : List UInt8) : Option (Int × (List ((List UInt8) × (List UInt8 × Int))) × List UInt8 × Int × Bool) := (disk_Disk_Rename.f k xp1_0 xp1_1 xp1_2 xp1_3 ([115, 110, 97, 112, 46, 116, 109, 112] : List UInt8) xp2_0).bind fun s1v => (some (s1v.1, s1v.2.1, s1v.2.2.1, s1v.2.2.2.1, s1v.2.2.2.2))
theorem snap_Save_5_s.calls (W : World) (F : HA) (k : Nat) (bp0 : Nat) (bp1 : Nat) (mp1_0 : Nat) (qp1_0 : Kps) (xp1_0 : List ((List UInt8) × (List UInt8 × Int))) (xp1_1 : List UInt8) (xp1_2 : Int) (xp1_3 : Bool) (bp2 : Nat) (xp2_0 : List UInt8)  :
    Fn Tryz.prog W 41 [.pointer (some ⟨bp0, 0, none⟩), .pointer (some ⟨bp2, 0, none⟩)] [obj bp1 76 [.map (some mp1_0), str xp1_1, .int .i64 xp1_2, .bool xp1_3], mapF (mapO mp1_0 enc9 encP qp1_0) FA89 qp1_0 xp1_0, obj bp0 28 [.pointer (some ⟨bp1, 0, none⟩)], obj bp2 9 [str xp2_0]] F (snap_Save_5_s.f k xp1_0 xp1_1 xp1_2 xp1_3 xp2_0) (fun (r : Int × (List ((List UInt8) × (List UInt8 × Int))) × List UInt8 × Int × Bool) (y : Nat × Kps) => .int .i64 r.1) (fun r y => [obj bp1 76 [.map (some y.1), str r.2.2.1, .int .i64 r.2.2.2.1, .bool r.2.2.2.2], mapF (mapO y.1 enc9 encP y.2) FA89 y.2 r.2.1, obj bp0 28 [.pointer (some ⟨bp1, 0, none⟩)], obj bp2 9 [str xp2_0]]) := by
 unfold snap_Save_5_s.f
 refine fn_intro 6 Tryz.func41 rfl Tryz.ntmps41 rfl ?_
 refine sr ?_
 refine va rfl rfl (nx ?_)
 refine vq (q_load rfl rfl Tryz.isAgg28 (.obj 2 rfl rfl)) rfl ?_
 refine vq (q_load rfl rfl Tryz.isAgg9 (.obj 3 rfl rfl)) rfl ?_
 refine simL_bind (fun s1v hs2v => ?_)
 refine simL_eff (re_call (vs := [.pointer (some ⟨bp1, 0, none⟩), str ([115, 110, 97, 112, 46, 116, 109, 112] : List UInt8), str xp2_0]) (cap := []) (A := [obj bp1 76 [.map (some mp1_0), str xp1_1, .int .i64 xp1_2, .bool xp1_3], mapF (mapO mp1_0 enc9 encP qp1_0) FA89 qp1_0 xp1_0]) (rst := [obj bp0 28 [.pointer (some ⟨bp1, 0, none⟩)], obj bp2 9 [str xp2_0], F]) rfl rfl rfl rfl rfl rfl Tryz.call42 (.sel 0 rfl (.sel 0 rfl (.sel 0 rfl (.sel 0 rfl (.sel 0 rfl (.nil _)))))) (disk_Disk_Rename.calls _ _ k bp1 mp1_0 qp1_0 xp1_0 xp1_1 xp1_2 xp1_3 ([115, 110, 97, 112, 46, 116, 109, 112] : List UInt8) xp2_0 ) hs2v) rfl rfl rfl ?_
 intro y3v
 refine va rfl rfl (simL_nil (nrm_then (sim_rtn ?_)))
 exact rtn_fn (y3v.1, y3v.2) rfl rfl rfl (.sel 0 rfl (.sel 0 rfl (.sel 0 rfl (.sel 0 rfl (.sel 0 rfl (.nil _))))))

def snap_Save.f (k : Nat) (x0_0 : List ((List UInt8) × (List UInt8 × Int))) (x0_1 : List UInt8) (x0_2 : Int) (x0_3 : Bool) (x1_0 : Int) (x1_1 : Int) (x1_2 : List UInt8) : Option (Int × (List ((List UInt8) × (List UInt8 × Int))) × List UInt8 × Int × Bool) := (codec_Snaps_Put.f k x1_0 x1_1 x1_2).bind fun s3v => (if s3v.2 = (0 : Int) then (if x1_0 = (0 : Int) then (some (4, x0_0, x0_1, x0_2, x0_3)) else ((frame_Put.f k s3v.1).bind fun s14v => (if s14v.2 = (0 : Int) then ((snap_Name.f x1_0).bind fun s20v => (if s20v.2 = (0 : Int) then ((snap_Save_1_s.f x0_0 x0_1 x0_2 x0_3).bind fun s27v => (if s27v.1 = (0 : Int) then ((snap_Save_2_s.f k s27v.2.1 s27v.2.2.1 s27v.2.2.2.1 s27v.2.2.2.2).bind fun s32v => (if s32v.1 = (0 : Int) then ((snap_Save_3_s.f s32v.2.1 s32v.2.2.1 s32v.2.2.2.1 s32v.2.2.2.2 s14v.1).bind fun s41v => (if s41v.1 = (0 : Int) then ((snap_Save_4_s.f s41v.2.1 s41v.2.2.1 s41v.2.2.2.1 s41v.2.2.2.2).bind fun s46v => (if s46v.1 = (0 : Int) then ((snap_Save_5_s.f k s46v.2.1 s46v.2.2.1 s46v.2.2.2.1 s46v.2.2.2.2 s20v.1).bind fun s51v => (if s51v.1 = (0 : Int) then (some (0, s51v.2.1, s51v.2.2.1, s51v.2.2.2.1, s51v.2.2.2.2)) else (some (s51v.1, s51v.2.1, s51v.2.2.1, s51v.2.2.2.1, s51v.2.2.2.2)))) else (some (s46v.1, s46v.2.1, s46v.2.2.1, s46v.2.2.2.1, s46v.2.2.2.2)))) else (some (s41v.1, s41v.2.1, s41v.2.2.1, s41v.2.2.2.1, s41v.2.2.2.2)))) else (some (s32v.1, s32v.2.1, s32v.2.2.1, s32v.2.2.2.1, s32v.2.2.2.2)))) else (some (s27v.1, s27v.2.1, s27v.2.2.1, s27v.2.2.2.1, s27v.2.2.2.2)))) else (some (s20v.2, x0_0, x0_1, x0_2, x0_3)))) else (some (s14v.2, x0_0, x0_1, x0_2, x0_3))))) else (some (s3v.2, x0_0, x0_1, x0_2, x0_3)))
theorem snap_Save.calls (W : World) (F : HA) (k : Nat) (b0 : Nat) (m0_0 : Nat) (q0_0 : Kps) (x0_0 : List ((List UInt8) × (List UInt8 × Int))) (x0_1 : List UInt8) (x0_2 : Int) (x0_3 : Bool) (x1_0 : Int) (x1_1 : Int) (a1_2 : Option Addr) (c1_2 : Nat) (x1_2 : List UInt8) (h1_2 : Rd F a1_2 (encB x1_2)) (hc1_2 : x1_2.length ≤ c1_2) (hm1_2 : c1_2 ≤ maxLen) (hgl : Glb Tryz.prog F) :
    Fn Tryz.prog W 10 [.pointer (some ⟨b0, 0, none⟩), .agg #[.int .i64 x1_0, .int .i64 x1_1, .slice a1_2 x1_2.length c1_2]] [obj b0 76 [.map (some m0_0), str x0_1, .int .i64 x0_2, .bool x0_3], mapF (mapO m0_0 enc9 encP q0_0) FA89 q0_0 x0_0] F (snap_Save.f k x0_0 x0_1 x0_2 x0_3 x1_0 x1_1 x1_2) (fun (r : Int × (List ((List UInt8) × (List UInt8 × Int))) × List UInt8 × Int × Bool) (y : Nat × Kps) => .int .i64 r.1) (fun r y => [obj b0 76 [.map (some y.1), str r.2.2.1, .int .i64 r.2.2.2.1, .bool r.2.2.2.2], mapF (mapO y.1 enc9 encP y.2) FA89 y.2 r.2.1]) := by
 unfold snap_Save.f
 refine fn_intro 60 Tryz.func10 rfl Tryz.ntmps10 rfl ?_
 refine sr ?_
 refine simL_eff (re_box rfl rfl rfl) rfl rfl rfl ?_
 intro b1v
 refine simL_eff (re_box rfl rfl rfl) rfl rfl rfl ?_
 intro b2v
 refine va rfl rfl (nx ?_)
 refine vq (q_build (v := .agg #[]) rfl rfl (fun _ => by kernel_rfl)) rfl ?_
 refine vq (q_loado 0 rfl rfl Tryz.isAgg27 Tryz.sizeOf27 rfl rfl) rfl ?_
 refine simL_bind (fun s3v hs4v => ?_)
 refine simL_eff (re_call (vs := [.agg #[], .agg #[.int .i64 x1_0, .int .i64 x1_1, .slice a1_2 x1_2.length c1_2]]) (cap := []) (A := []) (rst := [obj b2v 27 [.int .i64 x1_0, .int .i64 x1_1, .slice a1_2 x1_2.length c1_2], obj b1v 28 [.pointer (some ⟨b0, 0, none⟩)], obj b0 76 [.map (some m0_0), str x0_1, .int .i64 x0_2, .bool x0_3], mapF (mapO m0_0 enc9 encP q0_0) FA89 q0_0 x0_0, F]) rfl rfl rfl rfl rfl rfl Tryz.call34 (.sel 0 rfl (.sel 0 rfl (.sel 0 rfl (.sel 0 rfl (.sel 0 rfl (.nil _)))))) (codec_Snaps_Put.calls _ _ k x1_0 x1_1 a1_2 c1_2 x1_2 (h1_2.lend 4 rfl) hc1_2 hm1_2) hs4v) rfl rfl rfl ?_
 intro y5v
 refine vm rfl rfl ?_
 refine vq (q_ext rfl rfl rfl) rfl ?_
 refine vq (q_ext rfl rfl rfl) rfl ?_
 refine va rfl rfl ?_
 refine va rfl rfl (simL_nil (nrm_then (sim_seq (sr ?_))))
 refine vm rfl rfl ?_
 refine vq (q_neq rfl rfl rfl) rfl (simL_nil (nrm_then ?_))
 refine sim_condn rfl (fun h6v => ?_) (fun h7v => ?_)
 refine sim_skip ?_
 refine nrm_then (sim_seq (sr ?_))
 refine vq (q_fa rfl rfl Tryz.underlying27 rfl rfl Tryz.sizeOf3 rfl) rfl ?_
 refine vq (q_load rfl rfl Tryz.isAgg3 (.obj 1 rfl rfl)) rfl ?_
 refine vq (q_eql rfl rfl rfl) rfl (simL_nil (nrm_then ?_))
 refine sim_cond rfl (fun h8v => ?_) (fun h9v => ?_)
 refine sr ?_
 refine va rfl rfl (simL_nil (nrm_then (sim_rtn ?_)))
 refine rtn_then ?_
 exact rtn_fn (m0_0, q0_0) rfl rfl rfl (.sel 3 rfl (.sel 3 rfl (.sel 3 rfl (.nil _))))
 refine sim_skip ?_
 refine nrm_then (sr ?_)
 refine vm rfl rfl ?_
 refine simL_bind (fun s14v hs15v => ?_)
 refine simL_lend 0 rfl (fun hq10v hq11v hq12v hq13v => ?_)
 refine simL_eff (re_call (vs := [.slice y5v.1 s3v.1.length y5v.2]) (cap := []) (A := []) (rst := [Row 5 1 y5v.1 s3v.1.length y5v.2 (encB s3v.1), obj b2v 27 [.int .i64 x1_0, .int .i64 x1_1, .slice a1_2 x1_2.length c1_2], obj b1v 28 [.pointer (some ⟨b0, 0, none⟩)], obj b0 76 [.map (some m0_0), str x0_1, .int .i64 x0_2, .bool x0_3], mapF (mapO m0_0 enc9 encP q0_0) FA89 q0_0 x0_0, F]) rfl rfl rfl rfl rfl rfl Tryz.call35 (.sel 0 rfl (.sel 0 rfl (.sel 0 rfl (.sel 0 rfl (.sel 0 rfl (.sel 0 rfl (.nil _))))))) (frame_Put.calls _ _ k y5v.1 y5v.2 s3v.1 (hq10v.lend 0 rfl) hq11v hq12v) hs15v) rfl rfl rfl ?_
 intro y16v
 refine vm rfl rfl ?_
 refine vq (q_ext rfl rfl rfl) rfl ?_
 refine vq (q_ext rfl rfl rfl) rfl ?_
 refine simL_eff (re_alloc rfl Tryz.zeroValue25 rfl) rfl rfl rfl ?_
 intro b17v
 refine simL_do (re_store 0 rfl rfl rfl Tryz.sizeOf25 rfl rfl (one_of (by rfl)) rfl rfl) rfl rfl ?_
 intro _
 refine va rfl rfl (simL_nil (nrm_then (sim_seq (sr ?_))))
 refine vm rfl rfl ?_
 refine vq (q_neq rfl rfl rfl) rfl (simL_nil (nrm_then ?_))
 refine sim_condn rfl (fun h18v => ?_) (fun h19v => ?_)
 refine sim_skip ?_
 refine nrm_then (sr ?_)
 refine vq (q_fa rfl rfl Tryz.underlying27 rfl rfl Tryz.sizeOf3 rfl) rfl ?_
 refine vq (q_load rfl rfl Tryz.isAgg3 (.obj 3 rfl rfl)) rfl ?_
 refine simL_bind (fun s20v hs21v => ?_)
 refine simL_eff (re_call (vs := [.int .i64 x1_0]) (cap := []) (A := []) (rst := [obj b17v 25 [.slice y16v.1 s14v.1.length y16v.2], Row 5 1 y16v.1 s14v.1.length y16v.2 (encB s14v.1), Row 5 1 y5v.1 s3v.1.length y5v.2 (encB s3v.1), obj b2v 27 [.int .i64 x1_0, .int .i64 x1_1, .slice a1_2 x1_2.length c1_2], obj b1v 28 [.pointer (some ⟨b0, 0, none⟩)], obj b0 76 [.map (some m0_0), str x0_1, .int .i64 x0_2, .bool x0_3], mapF (mapO m0_0 enc9 encP q0_0) FA89 q0_0 x0_0, F]) rfl rfl rfl rfl rfl rfl Tryz.call11 (.sel 0 rfl (.sel 0 rfl (.sel 0 rfl (.sel 0 rfl (.sel 0 rfl (.sel 0 rfl (.sel 0 rfl (.sel 0 rfl (.nil _))))))))) (snap_Name.calls _ _ x1_0 (hgl.lend 7 rfl)) hs21v) rfl rfl rfl ?_
 intro y22v
 refine vm rfl rfl ?_
 refine vq (q_ext rfl rfl rfl) rfl ?_
 refine vq (q_ext rfl rfl rfl) rfl ?_
 refine simL_eff (re_alloc rfl Tryz.zeroValue9 rfl) rfl rfl rfl ?_
 intro b23v
 refine simL_do (re_store 0 rfl rfl rfl Tryz.sizeOf9 rfl rfl (one_of (by rfl)) rfl rfl) rfl rfl ?_
 intro _
 refine va rfl rfl (simL_nil (nrm_then (sim_seq (sr ?_))))
 refine vm rfl rfl ?_
 refine vq (q_neq rfl rfl rfl) rfl (simL_nil (nrm_then ?_))
 refine sim_condn rfl (fun h24v => ?_) (fun h25v => ?_)
 refine sim_skip ?_
 refine nrm_then (sr ?_)
 refine vq (q_mkfn rfl rfl rfl) rfl ?_
 refine vq (q_mkfn rfl rfl rfl) rfl ?_
 refine vq (q_mkfn rfl rfl rfl) rfl ?_
 refine vq (q_mkfn rfl rfl rfl) rfl ?_
 refine vq (q_mkfn rfl rfl rfl) rfl ?_
 refine simL_eff (re_litO (cs := [.func (.func 36) #[] #[.pointer (some ⟨b1v, 0, none⟩)], .func (.func 38) #[] #[.pointer (some ⟨b1v, 0, none⟩)], .func (.func 39) #[] #[.pointer (some ⟨b1v, 0, none⟩), .pointer (some ⟨b17v, 0, none⟩)], .func (.func 40) #[] #[.pointer (some ⟨b1v, 0, none⟩)], .func (.func 41) #[] #[.pointer (some ⟨b1v, 0, none⟩), .pointer (some ⟨b23v, 0, none⟩)]]) rfl rfl Tryz.underlying85 elt83 rfl (by kernel_rfl) rfl) rfl rfl rfl ?_
 intro b26v
 refine va rfl rfl (simL_nil (nrm_then (sim_seq (sr ?_))))
 refine vm rfl rfl ?_
 refine vq (rq_cast (v' := .int .i64 5) rfl (q_len rfl rfl rfl Tryz.underlying85)) rfl ?_
 refine vm rfl rfl (simL_nil (nrm_then ?_))
 refine sim_block ?_
 refine sim_rounds 7 (rnd_succ ?_)
 refine sr ?_
 refine vq (q_lss rfl rfl rfl) rfl (simL_nil (nrm_then (sim_seq ?_)))
 refine sim_true rfl ?_
 refine sim_skip ?_
 refine nrm_then (sim_seq ?_)
 refine sim_block ?_
 refine sr ?_
 refine vq (rq_cast (v' := .pointer (some ⟨b26v, 0 + (0 : Int).toNat, none⟩)) rfl (q_idx1 rfl rfl rfl rfl Tryz.underlying85 Tryz.sizeOf83 (by decide) (by decide))) rfl ?_
 refine vq (q_load rfl rfl Tryz.isAgg83 (.obj 0 rfl rfl)) rfl ?_
 refine va rfl rfl (nx ?_)
 refine vm rfl rfl ?_
 refine simL_bind (fun s27v hs28v => ?_)
 refine simL_eff (re_call (vs := []) (cap := [.pointer (some ⟨b1v, 0, none⟩)]) (A := [obj b0 76 [.map (some m0_0), str x0_1, .int .i64 x0_2, .bool x0_3], mapF (mapO m0_0 enc9 encP q0_0) FA89 q0_0 x0_0, obj b1v 28 [.pointer (some ⟨b0, 0, none⟩)]]) (rst := [obj b26v 83 [.func (.func 36) #[] #[.pointer (some ⟨b1v, 0, none⟩)], .func (.func 38) #[] #[.pointer (some ⟨b1v, 0, none⟩)], .func (.func 39) #[] #[.pointer (some ⟨b1v, 0, none⟩), .pointer (some ⟨b17v, 0, none⟩)], .func (.func 40) #[] #[.pointer (some ⟨b1v, 0, none⟩)], .func (.func 41) #[] #[.pointer (some ⟨b1v, 0, none⟩), .pointer (some ⟨b23v, 0, none⟩)]], obj b23v 9 [str s20v.1], obj b17v 25 [.slice y16v.1 s14v.1.length y16v.2], Row 5 1 y16v.1 s14v.1.length y16v.2 (encB s14v.1), Row 5 1 y5v.1 s3v.1.length y5v.2 (encB s3v.1), obj b2v 27 [.int .i64 x1_0, .int .i64 x1_1, .slice a1_2 x1_2.length c1_2], F]) rfl rfl rfl rfl rfl rfl Tryz.call36 (.sel 7 rfl (.sel 7 rfl (.sel 6 rfl (.sel 0 rfl (.sel 0 rfl (.sel 0 rfl (.sel 0 rfl (.sel 0 rfl (.sel 0 rfl (.sel 0 rfl (.nil _))))))))))) (snap_Save_1_s.calls _ _ b1v b0 m0_0 q0_0 x0_0 x0_1 x0_2 x0_3 ) hs28v) rfl rfl rfl ?_
 intro y29v
 refine va rfl rfl (nx ?_)
 refine vm rfl rfl ?_
 refine vq (q_neq rfl rfl rfl) rfl (simL_nil (nrm_then ?_))
 refine sim_condn rfl (fun h30v => ?_) (fun h31v => ?_)
 refine sim_skip ?_
 refine nrm_block (nrm_then (sim_region ?_))
 refine vq (q_add rfl rfl rfl) rfl ?_
 refine vm rfl rfl (simL_nil ?_)
 refine nrm_rnd (rnd_succ ?_)
 refine sr ?_
 refine vq (q_lss rfl rfl rfl) rfl (simL_nil (nrm_then (sim_seq ?_)))
 refine sim_true rfl ?_
 refine sim_skip ?_
 refine nrm_then (sim_seq ?_)
 refine sim_block ?_
 refine sr ?_
 refine vq (rq_cast (v' := .pointer (some ⟨b26v, 0 + (1 : Int).toNat, none⟩)) rfl (q_idx1 rfl rfl rfl rfl Tryz.underlying85 Tryz.sizeOf83 (by decide) (by decide))) rfl ?_
 refine vq (q_load rfl rfl Tryz.isAgg83 (.obj 3 rfl rfl)) rfl ?_
 refine va rfl rfl (nx ?_)
 refine vm rfl rfl ?_
 refine simL_bind (fun s32v hs33v => ?_)
 refine simL_eff (re_call (vs := []) (cap := [.pointer (some ⟨b1v, 0, none⟩)]) (A := [obj b0 76 [.map (some y29v.1), str s27v.2.2.1, .int .i64 s27v.2.2.2.1, .bool s27v.2.2.2.2], mapF (mapO y29v.1 enc9 encP y29v.2) FA89 y29v.2 s27v.2.1, obj b1v 28 [.pointer (some ⟨b0, 0, none⟩)]]) (rst := [obj b26v 83 [.func (.func 36) #[] #[.pointer (some ⟨b1v, 0, none⟩)], .func (.func 38) #[] #[.pointer (some ⟨b1v, 0, none⟩)], .func (.func 39) #[] #[.pointer (some ⟨b1v, 0, none⟩), .pointer (some ⟨b17v, 0, none⟩)], .func (.func 40) #[] #[.pointer (some ⟨b1v, 0, none⟩)], .func (.func 41) #[] #[.pointer (some ⟨b1v, 0, none⟩), .pointer (some ⟨b23v, 0, none⟩)]], obj b23v 9 [str s20v.1], obj b17v 25 [.slice y16v.1 s14v.1.length y16v.2], Row 5 1 y16v.1 s14v.1.length y16v.2 (encB s14v.1), Row 5 1 y5v.1 s3v.1.length y5v.2 (encB s3v.1), obj b2v 27 [.int .i64 x1_0, .int .i64 x1_1, .slice a1_2 x1_2.length c1_2], F]) rfl rfl rfl rfl rfl rfl Tryz.call38 (.sel 0 rfl (.sel 0 rfl (.sel 0 rfl (.sel 0 rfl (.sel 0 rfl (.sel 0 rfl (.sel 0 rfl (.sel 0 rfl (.sel 0 rfl (.sel 0 rfl (.nil _))))))))))) (snap_Save_2_s.calls _ _ k b1v b0 y29v.1 y29v.2 s27v.2.1 s27v.2.2.1 s27v.2.2.2.1 s27v.2.2.2.2 ) hs33v) rfl rfl rfl ?_
 intro y34v
 refine va rfl rfl (nx ?_)
 refine vm rfl rfl ?_
 refine vq (q_neq rfl rfl rfl) rfl (simL_nil (nrm_then ?_))
 refine sim_condn rfl (fun h35v => ?_) (fun h36v => ?_)
 refine sim_skip ?_
 refine nrm_block (nrm_then (sim_region ?_))
 refine vq (q_add rfl rfl rfl) rfl ?_
 refine vm rfl rfl (simL_nil ?_)
 refine nrm_rnd (rnd_succ ?_)
 refine sr ?_
 refine vq (q_lss rfl rfl rfl) rfl (simL_nil (nrm_then (sim_seq ?_)))
 refine sim_true rfl ?_
 refine sim_skip ?_
 refine nrm_then (sim_seq ?_)
 refine sim_block ?_
 refine sr ?_
 refine vq (rq_cast (v' := .pointer (some ⟨b26v, 0 + (2 : Int).toNat, none⟩)) rfl (q_idx1 rfl rfl rfl rfl Tryz.underlying85 Tryz.sizeOf83 (by decide) (by decide))) rfl ?_
 refine vq (q_load rfl rfl Tryz.isAgg83 (.obj 3 rfl rfl)) rfl ?_
 refine va rfl rfl (nx ?_)
 refine vm rfl rfl ?_
 refine simL_bind (fun s41v hs42v => ?_)
 refine simL_lend 6 rfl (fun hq37v hq38v hq39v hq40v => ?_)
 refine simL_eff (re_call (vs := []) (cap := [.pointer (some ⟨b1v, 0, none⟩), .pointer (some ⟨b17v, 0, none⟩)]) (A := [obj b0 76 [.map (some y34v.1), str s32v.2.2.1, .int .i64 s32v.2.2.2.1, .bool s32v.2.2.2.2], mapF (mapO y34v.1 enc9 encP y34v.2) FA89 y34v.2 s32v.2.1, obj b1v 28 [.pointer (some ⟨b0, 0, none⟩)], obj b17v 25 [.slice y16v.1 s14v.1.length y16v.2]]) (rst := [obj b26v 83 [.func (.func 36) #[] #[.pointer (some ⟨b1v, 0, none⟩)], .func (.func 38) #[] #[.pointer (some ⟨b1v, 0, none⟩)], .func (.func 39) #[] #[.pointer (some ⟨b1v, 0, none⟩), .pointer (some ⟨b17v, 0, none⟩)], .func (.func 40) #[] #[.pointer (some ⟨b1v, 0, none⟩)], .func (.func 41) #[] #[.pointer (some ⟨b1v, 0, none⟩), .pointer (some ⟨b23v, 0, none⟩)]], obj b23v 9 [str s20v.1], Row 5 1 y16v.1 s14v.1.length y16v.2 (encB s14v.1), Row 5 1 y5v.1 s3v.1.length y5v.2 (encB s3v.1), obj b2v 27 [.int .i64 x1_0, .int .i64 x1_1, .slice a1_2 x1_2.length c1_2], F]) rfl rfl rfl rfl rfl rfl Tryz.call39 (.sel 0 rfl (.sel 0 rfl (.sel 0 rfl (.sel 2 rfl (.sel 0 rfl (.sel 0 rfl (.sel 0 rfl (.sel 0 rfl (.sel 0 rfl (.sel 0 rfl (.nil _))))))))))) (snap_Save_3_s.calls _ _ b1v b0 y34v.1 y34v.2 s32v.2.1 s32v.2.2.1 s32v.2.2.2.1 s32v.2.2.2.2 b17v y16v.1 y16v.2 s14v.1 (hq37v.lend 2 rfl) hq38v hq39v) hs42v) rfl rfl rfl ?_
 intro y43v
 refine va rfl rfl (nx ?_)
 refine vm rfl rfl ?_
 refine vq (q_neq rfl rfl rfl) rfl (simL_nil (nrm_then ?_))
 refine sim_condn rfl (fun h44v => ?_) (fun h45v => ?_)
 refine sim_skip ?_
 refine nrm_block (nrm_then (sim_region ?_))
 refine vq (q_add rfl rfl rfl) rfl ?_
 refine vm rfl rfl (simL_nil ?_)
 refine nrm_rnd (rnd_succ ?_)
 refine sr ?_
 refine vq (q_lss rfl rfl rfl) rfl (simL_nil (nrm_then (sim_seq ?_)))
 refine sim_true rfl ?_
 refine sim_skip ?_
 refine nrm_then (sim_seq ?_)
 refine sim_block ?_
 refine sr ?_
 refine vq (rq_cast (v' := .pointer (some ⟨b26v, 0 + (3 : Int).toNat, none⟩)) rfl (q_idx1 rfl rfl rfl rfl Tryz.underlying85 Tryz.sizeOf83 (by decide) (by decide))) rfl ?_
 refine vq (q_load rfl rfl Tryz.isAgg83 (.obj 4 rfl rfl)) rfl ?_
 refine va rfl rfl (nx ?_)
 refine vm rfl rfl ?_
 refine simL_bind (fun s46v hs47v => ?_)
 refine simL_eff (re_call (vs := []) (cap := [.pointer (some ⟨b1v, 0, none⟩)]) (A := [obj b0 76 [.map (some y43v.1), str s41v.2.2.1, .int .i64 s41v.2.2.2.1, .bool s41v.2.2.2.2], mapF (mapO y43v.1 enc9 encP y43v.2) FA89 y43v.2 s41v.2.1, obj b1v 28 [.pointer (some ⟨b0, 0, none⟩)]]) (rst := [obj b17v 25 [.slice y16v.1 s14v.1.length y16v.2], obj b26v 83 [.func (.func 36) #[] #[.pointer (some ⟨b1v, 0, none⟩)], .func (.func 38) #[] #[.pointer (some ⟨b1v, 0, none⟩)], .func (.func 39) #[] #[.pointer (some ⟨b1v, 0, none⟩), .pointer (some ⟨b17v, 0, none⟩)], .func (.func 40) #[] #[.pointer (some ⟨b1v, 0, none⟩)], .func (.func 41) #[] #[.pointer (some ⟨b1v, 0, none⟩), .pointer (some ⟨b23v, 0, none⟩)]], obj b23v 9 [str s20v.1], Row 5 1 y16v.1 s14v.1.length y16v.2 (encB s14v.1), Row 5 1 y5v.1 s3v.1.length y5v.2 (encB s3v.1), obj b2v 27 [.int .i64 x1_0, .int .i64 x1_1, .slice a1_2 x1_2.length c1_2], F]) rfl rfl rfl rfl rfl rfl Tryz.call40 (.sel 0 rfl (.sel 0 rfl (.sel 0 rfl (.sel 0 rfl (.sel 0 rfl (.sel 0 rfl (.sel 0 rfl (.sel 0 rfl (.sel 0 rfl (.sel 0 rfl (.nil _))))))))))) (snap_Save_4_s.calls _ _ b1v b0 y43v.1 y43v.2 s41v.2.1 s41v.2.2.1 s41v.2.2.2.1 s41v.2.2.2.2 ) hs47v) rfl rfl rfl ?_
 intro y48v
 refine va rfl rfl (nx ?_)
 refine vm rfl rfl ?_
 refine vq (q_neq rfl rfl rfl) rfl (simL_nil (nrm_then ?_))
 refine sim_condn rfl (fun h49v => ?_) (fun h50v => ?_)
 refine sim_skip ?_
 refine nrm_block (nrm_then (sim_region ?_))
 refine vq (q_add rfl rfl rfl) rfl ?_
 refine vm rfl rfl (simL_nil ?_)
 refine nrm_rnd (rnd_succ ?_)
 refine sr ?_
 refine vq (q_lss rfl rfl rfl) rfl (simL_nil (nrm_then (sim_seq ?_)))
 refine sim_true rfl ?_
 refine sim_skip ?_
 refine nrm_then (sim_seq ?_)
 refine sim_block ?_
 refine sr ?_
 refine vq (rq_cast (v' := .pointer (some ⟨b26v, 0 + (4 : Int).toNat, none⟩)) rfl (q_idx1 rfl rfl rfl rfl Tryz.underlying85 Tryz.sizeOf83 (by decide) (by decide))) rfl ?_
 refine vq (q_load rfl rfl Tryz.isAgg83 (.obj 4 rfl rfl)) rfl ?_
 refine va rfl rfl (nx ?_)
 refine vm rfl rfl ?_
 refine simL_bind (fun s51v hs52v => ?_)
 refine simL_eff (re_call (vs := []) (cap := [.pointer (some ⟨b1v, 0, none⟩), .pointer (some ⟨b23v, 0, none⟩)]) (A := [obj b0 76 [.map (some y48v.1), str s46v.2.2.1, .int .i64 s46v.2.2.2.1, .bool s46v.2.2.2.2], mapF (mapO y48v.1 enc9 encP y48v.2) FA89 y48v.2 s46v.2.1, obj b1v 28 [.pointer (some ⟨b0, 0, none⟩)], obj b23v 9 [str s20v.1]]) (rst := [obj b17v 25 [.slice y16v.1 s14v.1.length y16v.2], obj b26v 83 [.func (.func 36) #[] #[.pointer (some ⟨b1v, 0, none⟩)], .func (.func 38) #[] #[.pointer (some ⟨b1v, 0, none⟩)], .func (.func 39) #[] #[.pointer (some ⟨b1v, 0, none⟩), .pointer (some ⟨b17v, 0, none⟩)], .func (.func 40) #[] #[.pointer (some ⟨b1v, 0, none⟩)], .func (.func 41) #[] #[.pointer (some ⟨b1v, 0, none⟩), .pointer (some ⟨b23v, 0, none⟩)]], Row 5 1 y16v.1 s14v.1.length y16v.2 (encB s14v.1), Row 5 1 y5v.1 s3v.1.length y5v.2 (encB s3v.1), obj b2v 27 [.int .i64 x1_0, .int .i64 x1_1, .slice a1_2 x1_2.length c1_2], F]) rfl rfl rfl rfl rfl rfl Tryz.call41 (.sel 0 rfl (.sel 0 rfl (.sel 0 rfl (.sel 2 rfl (.sel 0 rfl (.sel 0 rfl (.sel 0 rfl (.sel 0 rfl (.sel 0 rfl (.sel 0 rfl (.nil _))))))))))) (snap_Save_5_s.calls _ _ k b1v b0 y48v.1 y48v.2 s46v.2.1 s46v.2.2.1 s46v.2.2.2.1 s46v.2.2.2.2 b23v s20v.1 ) hs52v) rfl rfl rfl ?_
 intro y53v
 refine va rfl rfl (nx ?_)
 refine vm rfl rfl ?_
 refine vq (q_neq rfl rfl rfl) rfl (simL_nil (nrm_then ?_))
 refine sim_condn rfl (fun h54v => ?_) (fun h55v => ?_)
 refine sim_skip ?_
 refine nrm_block (nrm_then (sim_region ?_))
 refine vq (q_add rfl rfl rfl) rfl ?_
 refine vm rfl rfl (simL_nil ?_)
 refine nrm_rnd (rnd_succ ?_)
 refine sr ?_
 refine vq (q_lss rfl rfl rfl) rfl (simL_nil (nrm_then (sim_seq ?_)))
 refine sim_false rfl ?_
 refine sim_exi ?_
 refine exi_then ?_
 refine exi_rnd ?_
 refine exi_here ?_
 refine nrm_then (sr ?_)
 refine va rfl rfl (simL_nil (nrm_then (sim_rtn ?_)))
 exact rtn_fn (y53v.1, y53v.2) rfl rfl rfl (.sel 0 rfl (.sel 0 rfl (.sel 7 rfl (.nil _))))
 refine sr ?_
 refine vm rfl rfl ?_
 refine va rfl rfl (simL_nil (nrm_then (sim_rtn ?_)))
 refine rtn_block ?_
 refine rtn_then ?_
 refine rtn_rnd ?_
 refine rtn_block ?_
 refine rtn_then ?_
 exact rtn_fn (y53v.1, y53v.2) rfl rfl rfl (.sel 0 rfl (.sel 0 rfl (.sel 7 rfl (.nil _))))
 refine sr ?_
 refine vm rfl rfl ?_
 refine va rfl rfl (simL_nil (nrm_then (sim_rtn ?_)))
 refine rtn_block ?_
 refine rtn_then ?_
 refine rtn_rnd ?_
 refine rtn_block ?_
 refine rtn_then ?_
 exact rtn_fn (y48v.1, y48v.2) rfl rfl rfl (.sel 0 rfl (.sel 0 rfl (.sel 7 rfl (.nil _))))
 refine sr ?_
 refine vm rfl rfl ?_
 refine va rfl rfl (simL_nil (nrm_then (sim_rtn ?_)))
 refine rtn_block ?_
 refine rtn_then ?_
 refine rtn_rnd ?_
 refine rtn_block ?_
 refine rtn_then ?_
 exact rtn_fn (y43v.1, y43v.2) rfl rfl rfl (.sel 0 rfl (.sel 0 rfl (.sel 7 rfl (.nil _))))
 refine sr ?_
 refine vm rfl rfl ?_
 refine va rfl rfl (simL_nil (nrm_then (sim_rtn ?_)))
 refine rtn_block ?_
 refine rtn_then ?_
 refine rtn_rnd ?_
 refine rtn_block ?_
 refine rtn_then ?_
 exact rtn_fn (y34v.1, y34v.2) rfl rfl rfl (.sel 0 rfl (.sel 0 rfl (.sel 7 rfl (.nil _))))
 refine sr ?_
 refine vm rfl rfl ?_
 refine va rfl rfl (simL_nil (nrm_then (sim_rtn ?_)))
 refine rtn_block ?_
 refine rtn_then ?_
 refine rtn_rnd ?_
 refine rtn_block ?_
 refine rtn_then ?_
 exact rtn_fn (y29v.1, y29v.2) rfl rfl rfl (.sel 0 rfl (.sel 0 rfl (.sel 7 rfl (.nil _))))
 refine sr ?_
 refine vm rfl rfl ?_
 refine va rfl rfl (simL_nil (nrm_then (sim_rtn ?_)))
 refine rtn_then ?_
 exact rtn_fn (m0_0, q0_0) rfl rfl rfl (.sel 6 rfl (.sel 6 rfl (.sel 6 rfl (.nil _))))
 refine sr ?_
 refine vm rfl rfl ?_
 refine va rfl rfl (simL_nil (nrm_then (sim_rtn ?_)))
 refine rtn_then ?_
 exact rtn_fn (m0_0, q0_0) rfl rfl rfl (.sel 5 rfl (.sel 5 rfl (.sel 5 rfl (.nil _))))
 refine sr ?_
 refine vm rfl rfl ?_
 refine va rfl rfl (simL_nil (nrm_then (sim_rtn ?_)))
 refine rtn_then ?_
 exact rtn_fn (m0_0, q0_0) rfl rfl rfl (.sel 3 rfl (.sel 3 rfl (.sel 3 rfl (.nil _))))

def synodref_Num.f (x0 : Int) : Option (Int) := some x0
theorem synodref_Num.calls (W : World) (F : HA) (x0 : Int)  :
    Fn Tryz.prog W 12 [.int .i64 x0] [] F (synodref_Num.f x0) (fun (r : Int) (y : Unit) => .int .i64 r) (fun r y => []) := by
 unfold synodref_Num.f
 refine fn_intro 4 Tryz.func12 rfl Tryz.ntmps12 rfl ?_
 refine sr ?_
 refine va rfl rfl (nx ?_)
 refine vm rfl rfl ?_
 refine va rfl rfl (simL_nil (nrm_then (sim_rtn ?_)))
 exact rtn_fn () rfl rfl rfl (.sel 0 rfl (.nil _))

def synodlaw6_first.f (k : Nat)  : Option (Bool) := (disk_New.f).bind fun s1v => ((snap_Load.f k s1v.1 s1v.2.1 s1v.2.2.1 s1v.2.2.2).bind fun s4v => ((snap_Save.f k s1v.1 s1v.2.1 s1v.2.2.1 s1v.2.2.2 (5 : Int) (2 : Int) ([97, 98] : List UInt8)).bind fun s14v => ((snap_Load.f k s14v.2.1 s14v.2.2.1 s14v.2.2.2.1 s14v.2.2.2.2).bind fun s17v => ((snap_Save.f k s14v.2.1 s14v.2.2.1 s14v.2.2.2.1 s14v.2.2.2.2 (0 : Int) (0 : Int) ([] : List UInt8)).bind fun s21v => ((snap_List.f k s21v.2.1 s21v.2.2.1 s21v.2.2.2.1 s21v.2.2.2.2).bind fun s24v => ((if s4v.2.2.2.1 = (0 : Int) then ((synodref_Num.f s4v.2.2.2.2).bind fun s29v => (some (decide (s29v = (8 : Int))))) else (some false)).bind fun s27v => ((if s27v = true then ((synodref_Num.f s14v.1).bind fun s36v => (some (decide (s36v = (0 : Int))))) else (some false)).bind fun s34v => ((if ((((s34v && (decide (s17v.1 = (5 : Int)))) && (decide (s17v.2.1 = (2 : Int)))) && (decide (s17v.2.2.1 = ([97, 98] : List UInt8)))) && (decide (s17v.2.2.2.1 = (0 : Int)))) = true then ((synodref_Num.f s17v.2.2.2.2).bind fun s43v => (some (decide (s43v = (0 : Int))))) else (some false)).bind fun s41v => ((if s41v = true then ((synodref_Num.f s21v.1).bind fun s50v => (some (decide (s50v = (4 : Int))))) else (some false)).bind fun s48v => (some (s48v && (decide ((s24v.length : Int) = (1 : Int))))))))))))))
theorem synodlaw6_first.calls (W : World) (F : HA) (k : Nat)  (hgl : Glb Tryz.prog F) :
    Fn Tryz.prog W 8 [] [] F (synodlaw6_first.f k ) (fun (r : Bool) (y : Unit) => .bool r) (fun r y => []) := by
 unfold synodlaw6_first.f
 refine fn_intro 81 Tryz.func8 rfl Tryz.ntmps8 rfl ?_
 refine sr ?_
 refine va rfl rfl (nx ?_)
 refine simL_bind (fun s1v hs2v => ?_)
 refine simL_eff (re_call (vs := []) (cap := []) (A := []) (rst := [F]) rfl rfl rfl rfl rfl rfl Tryz.call9 (.sel 0 rfl (.nil _)) (disk_New.calls _ _  ) hs2v) rfl rfl rfl ?_
 intro y3v
 refine va rfl rfl (nx ?_)
 refine vm rfl rfl ?_
 refine simL_bind (fun s4v hs5v => ?_)
 refine simL_eff (re_call (vs := [.pointer (some ⟨y3v.1, 0, none⟩)]) (cap := []) (A := [obj y3v.1 76 [.map (some y3v.2.1), str s1v.2.1, .int .i64 s1v.2.2.1, .bool s1v.2.2.2], mapF (mapO y3v.2.1 enc9 encP y3v.2.2) FA89 y3v.2.2 s1v.1]) (rst := [F]) rfl rfl rfl rfl rfl rfl Tryz.call15 (.sel 0 rfl (.sel 0 rfl (.sel 0 rfl (.nil _)))) (snap_Load.calls _ _ k y3v.1 y3v.2.1 y3v.2.2 s1v.1 s1v.2.1 s1v.2.2.1 s1v.2.2.2 (hgl.lend 0 rfl)) hs5v) rfl rfl rfl ?_
 intro y6v
 refine vm rfl rfl ?_
 refine vq (q_ext rfl rfl rfl) rfl ?_
 refine vq (q_ext rfl rfl rfl) rfl ?_
 refine vq (q_ext rfl rfl rfl) rfl ?_
 refine simL_eff (re_alloc rfl Tryz.zeroValue27 rfl) rfl rfl rfl ?_
 intro b7v
 refine simL_do (re_store 0 rfl rfl rfl Tryz.sizeOf27 rfl rfl (one_of (by rfl)) rfl rfl) rfl rfl ?_
 intro _
 refine va rfl rfl ?_
 refine va rfl rfl (nx ?_)
 refine vm rfl rfl ?_
 refine simL_eff (re_litb (cs := [.int .u8 97, .int .u8 98]) ([97, 98] : List UInt8) rfl rfl Tryz.underlying25 elt5 rfl (by kernel_rfl) rfl rfl rfl) rfl rfl rfl ?_
 intro b8v
 refine simL_eff (re_mark 0 rfl rfl Tryz.underlying25 Tryz.underlying5 rfl rfl) rfl rfl rfl ?_
 intro _
 refine vq (q_build (v := .agg #[.int .i64 5, .int .i64 2, .slice (some ⟨b8v, 0, none⟩) (([97, 98] : List UInt8).length) 2]) rfl rfl (fun _ => by kernel_rfl)) rfl ?_
 refine simL_bind (fun s14v hs15v => ?_)
 refine simL_lend 0 rfl (fun hq10v hq11v hq12v hq13v => ?_)
 refine simL_eff (re_call (vs := [.pointer (some ⟨y3v.1, 0, none⟩), .agg #[.int .i64 5, .int .i64 2, .slice (some ⟨b8v, 0, none⟩) (([97, 98] : List UInt8).length) 2]]) (cap := []) (A := [obj y3v.1 76 [.map (some y3v.2.1), str s1v.2.1, .int .i64 s1v.2.2.1, .bool s1v.2.2.2], mapF (mapO y3v.2.1 enc9 encP y3v.2.2) FA89 y3v.2.2 s1v.1]) (rst := [Row 5 1 (some ⟨b8v, 0, none⟩) ([97, 98] : List UInt8).length 2 (encB ([97, 98] : List UInt8)), obj b7v 27 [.int .i64 s4v.1, .int .i64 s4v.2.1, .slice y6v.1 s4v.2.2.1.length y6v.2], Row 5 1 y6v.1 s4v.2.2.1.length y6v.2 (encB s4v.2.2.1), F]) rfl rfl rfl rfl rfl rfl Tryz.call10 (.sel 3 rfl (.sel 3 rfl (.sel 0 rfl (.sel 0 rfl (.sel 0 rfl (.sel 0 rfl (.nil _))))))) (snap_Save.calls _ _ k y3v.1 y3v.2.1 y3v.2.2 s1v.1 s1v.2.1 s1v.2.2.1 s1v.2.2.2 (5 : Int) (2 : Int) (some ⟨b8v, 0, none⟩) 2 ([97, 98] : List UInt8) (hq10v.lend 0 rfl) hq11v hq12v (hgl.lend 3 rfl)) hs15v) rfl rfl rfl ?_
 intro y16v
 refine va rfl rfl (nx ?_)
 refine vm rfl rfl ?_
 refine simL_bind (fun s17v hs18v => ?_)
 refine simL_eff (re_call (vs := [.pointer (some ⟨y3v.1, 0, none⟩)]) (cap := []) (A := [obj y3v.1 76 [.map (some y16v.1), str s14v.2.2.1, .int .i64 s14v.2.2.2.1, .bool s14v.2.2.2.2], mapF (mapO y16v.1 enc9 encP y16v.2) FA89 y16v.2 s14v.2.1]) (rst := [Row 5 1 (some ⟨b8v, 0, none⟩) ([97, 98] : List UInt8).length 2 (encB ([97, 98] : List UInt8)), obj b7v 27 [.int .i64 s4v.1, .int .i64 s4v.2.1, .slice y6v.1 s4v.2.2.1.length y6v.2], Row 5 1 y6v.1 s4v.2.2.1.length y6v.2 (encB s4v.2.2.1), F]) rfl rfl rfl rfl rfl rfl Tryz.call15 (.sel 0 rfl (.sel 0 rfl (.sel 0 rfl (.sel 0 rfl (.sel 0 rfl (.sel 0 rfl (.nil _))))))) (snap_Load.calls _ _ k y3v.1 y16v.1 y16v.2 s14v.2.1 s14v.2.2.1 s14v.2.2.2.1 s14v.2.2.2.2 (hgl.lend 3 rfl)) hs18v) rfl rfl rfl ?_
 intro y19v
 refine vm rfl rfl ?_
 refine vq (q_ext rfl rfl rfl) rfl ?_
 refine vq (q_ext rfl rfl rfl) rfl ?_
 refine vq (q_ext rfl rfl rfl) rfl ?_
 refine simL_eff (re_alloc rfl Tryz.zeroValue27 rfl) rfl rfl rfl ?_
 intro b20v
 refine simL_do (re_store 0 rfl rfl rfl Tryz.sizeOf27 rfl rfl (one_of (by rfl)) rfl rfl) rfl rfl ?_
 intro _
 refine va rfl rfl ?_
 refine va rfl rfl (nx ?_)
 refine vm rfl rfl ?_
 refine vq (q_build (v := .agg #[.int .i64 0, .int .i64 0, .slice none 0 0]) rfl rfl (fun _ => by kernel_rfl)) rfl ?_
 refine simL_bind (fun s21v hs22v => ?_)
 refine simL_eff (re_call (vs := [.pointer (some ⟨y3v.1, 0, none⟩), .agg #[.int .i64 0, .int .i64 0, .slice none 0 0]]) (cap := []) (A := [obj y3v.1 76 [.map (some y16v.1), str s14v.2.2.1, .int .i64 s14v.2.2.2.1, .bool s14v.2.2.2.2], mapF (mapO y16v.1 enc9 encP y16v.2) FA89 y16v.2 s14v.2.1]) (rst := [obj b20v 27 [.int .i64 s17v.1, .int .i64 s17v.2.1, .slice y19v.1 s17v.2.2.1.length y19v.2], Row 5 1 y19v.1 s17v.2.2.1.length y19v.2 (encB s17v.2.2.1), Row 5 1 (some ⟨b8v, 0, none⟩) ([97, 98] : List UInt8).length 2 (encB ([97, 98] : List UInt8)), obj b7v 27 [.int .i64 s4v.1, .int .i64 s4v.2.1, .slice y6v.1 s4v.2.2.1.length y6v.2], Row 5 1 y6v.1 s4v.2.2.1.length y6v.2 (encB s4v.2.2.1), F]) rfl rfl rfl rfl rfl rfl Tryz.call10 (.sel 2 rfl (.sel 2 rfl (.sel 0 rfl (.sel 0 rfl (.sel 0 rfl (.sel 0 rfl (.sel 0 rfl (.sel 0 rfl (.nil _))))))))) (snap_Save.calls _ _ k y3v.1 y16v.1 y16v.2 s14v.2.1 s14v.2.2.1 s14v.2.2.2.1 s14v.2.2.2.2 (0 : Int) (0 : Int) none 0 ([] : List UInt8) (Rd.nil _ _) (Nat.le_refl _) (Nat.zero_le _) (hgl.lend 5 rfl)) hs22v) rfl rfl rfl ?_
 intro y23v
 refine va rfl rfl (nx ?_)
 refine vm rfl rfl ?_
 refine simL_bind (fun s24v hs25v => ?_)
 refine simL_eff (re_call (vs := [.pointer (some ⟨y3v.1, 0, none⟩)]) (cap := []) (A := [obj y3v.1 76 [.map (some y23v.1), str s21v.2.2.1, .int .i64 s21v.2.2.2.1, .bool s21v.2.2.2.2], mapF (mapO y23v.1 enc9 encP y23v.2) FA89 y23v.2 s21v.2.1]) (rst := [obj b20v 27 [.int .i64 s17v.1, .int .i64 s17v.2.1, .slice y19v.1 s17v.2.2.1.length y19v.2], Row 5 1 y19v.1 s17v.2.2.1.length y19v.2 (encB s17v.2.2.1), Row 5 1 (some ⟨b8v, 0, none⟩) ([97, 98] : List UInt8).length 2 (encB ([97, 98] : List UInt8)), obj b7v 27 [.int .i64 s4v.1, .int .i64 s4v.2.1, .slice y6v.1 s4v.2.2.1.length y6v.2], Row 5 1 y6v.1 s4v.2.2.1.length y6v.2 (encB s4v.2.2.1), F]) rfl rfl rfl rfl rfl rfl Tryz.call14 (.sel 0 rfl (.sel 0 rfl (.sel 0 rfl (.sel 0 rfl (.sel 0 rfl (.sel 0 rfl (.sel 0 rfl (.sel 0 rfl (.nil _))))))))) (snap_List.calls _ _ k y3v.1 y23v.1 y23v.2 s21v.2.1 s21v.2.2.1 s21v.2.2.2.1 s21v.2.2.2.2 (hgl.lend 5 rfl)) hs25v) rfl rfl rfl ?_
 intro y26v
 refine va rfl rfl (nx ?_)
 refine vm rfl rfl ?_
 refine vq (q_eql rfl rfl rfl) rfl ?_
 refine vm rfl rfl ?_
 refine simL_cut' 4 (S := Bool) (Unit) (fun s y => [(5, .int .i64 s14v.1), (6, .pointer (some ⟨b20v, 0, none⟩)), (7, .int .i64 s17v.2.2.2.1), (8, .int .i64 s17v.2.2.2.2), (9, .int .i64 s21v.1), (10, .slice y26v.1 s24v.length y26v.2), (40, .bool s)]) (fun s y => [obj b20v 27 [.int .i64 s17v.1, .int .i64 s17v.2.1, .slice y19v.1 s17v.2.2.1.length y19v.2], RowV 3 1 (V3 tt) y26v.1 s24v y26v.2, Row 5 1 y19v.1 s17v.2.2.1.length y19v.2 (encB s17v.2.2.1), F]) ?_ ?_
 refine simL_casep (fun hb32v => ?_) (fun hb33v => ?_)
 rw [hb32v]
 refine simL_valg (q_move rfl rfl) rfl rfl rfl rfl rfl rfl ?_
 refine simL_bind (fun s29v hs30v => ?_)
 refine simL_effg (re_call (vs := [.int .i64 s4v.2.2.2.2]) (cap := []) (A := []) (rst := [RowV 3 1 (V3 tt) y26v.1 s24v y26v.2, obj y3v.1 76 [.map (some y23v.1), str s21v.2.2.1, .int .i64 s21v.2.2.2.1, .bool s21v.2.2.2.2], mapF (mapO y23v.1 enc9 encP y23v.2) FA89 y23v.2 s21v.2.1, obj b20v 27 [.int .i64 s17v.1, .int .i64 s17v.2.1, .slice y19v.1 s17v.2.2.1.length y19v.2], Row 5 1 y19v.1 s17v.2.2.1.length y19v.2 (encB s17v.2.2.1), Row 5 1 (some ⟨b8v, 0, none⟩) ([97, 98] : List UInt8).length 2 (encB ([97, 98] : List UInt8)), obj b7v 27 [.int .i64 s4v.1, .int .i64 s4v.2.1, .slice y6v.1 s4v.2.2.1.length y6v.2], Row 5 1 y6v.1 s4v.2.2.1.length y6v.2 (encB s4v.2.2.1), F]) rfl rfl rfl rfl rfl rfl Tryz.call12 (.sel 0 rfl (.sel 0 rfl (.sel 0 rfl (.sel 0 rfl (.sel 0 rfl (.sel 0 rfl (.sel 0 rfl (.sel 0 rfl (.sel 0 rfl (.nil _)))))))))) (synodref_Num.calls _ _ s4v.2.2.2.2 ) hs30v) rfl rfl rfl rfl rfl rfl ?_
 intro y31v
 refine simL_valg (q_eql rfl rfl rfl) rfl rfl rfl rfl rfl rfl ?_
 refine vq (q_pick rfl rfl rfl rfl rfl) rfl (simL_nil ?_)
 exact nrm_cut (s := decide (s29v = (8 : Int))) () ⟨rfl, rfl, rfl, rfl, rfl, rfl, rfl, trivial⟩ (.sel 3 rfl (.sel 0 rfl (.sel 2 rfl (.sel 5 rfl (.nil _)))))
 rw [hb33v]
 refine simL_skipd rfl rfl rfl rfl rfl rfl ?_
 refine simL_skipd rfl rfl rfl rfl rfl rfl ?_
 refine simL_skipd rfl rfl rfl rfl rfl rfl ?_
 refine vq (q_pick rfl rfl rfl rfl rfl) rfl (simL_nil ?_)
 exact nrm_cut (s := false) () ⟨rfl, rfl, rfl, rfl, rfl, rfl, rfl, trivial⟩ (.sel 3 rfl (.sel 0 rfl (.sel 2 rfl (.sel 5 rfl (.nil _)))))
 intro s27v y28v
 refine vm rfl rfl ?_
 refine simL_cut' 4 (S := Bool) (Unit) (fun s y => [(6, .pointer (some ⟨b20v, 0, none⟩)), (7, .int .i64 s17v.2.2.2.1), (8, .int .i64 s17v.2.2.2.2), (9, .int .i64 s21v.1), (10, .slice y26v.1 s24v.length y26v.2), (45, .bool s)]) (fun s y => [obj b20v 27 [.int .i64 s17v.1, .int .i64 s17v.2.1, .slice y19v.1 s17v.2.2.1.length y19v.2], RowV 3 1 (V3 tt) y26v.1 s24v y26v.2, Row 5 1 y19v.1 s17v.2.2.1.length y19v.2 (encB s17v.2.2.1), F]) ?_ ?_
 refine simL_caseb (fun hb39v => ?_) (fun hb40v => ?_)
 rw [hb39v]
 refine simL_valg (q_move rfl rfl) rfl rfl rfl rfl rfl rfl ?_
 refine simL_bind (fun s36v hs37v => ?_)
 refine simL_effg (re_call (vs := [.int .i64 s14v.1]) (cap := []) (A := []) (rst := [obj b20v 27 [.int .i64 s17v.1, .int .i64 s17v.2.1, .slice y19v.1 s17v.2.2.1.length y19v.2], RowV 3 1 (V3 tt) y26v.1 s24v y26v.2, Row 5 1 y19v.1 s17v.2.2.1.length y19v.2 (encB s17v.2.2.1), F]) rfl rfl rfl rfl rfl rfl Tryz.call12 (.sel 0 rfl (.sel 0 rfl (.sel 0 rfl (.sel 0 rfl (.nil _))))) (synodref_Num.calls _ _ s14v.1 ) hs37v) rfl rfl rfl rfl rfl rfl ?_
 intro y38v
 refine simL_valg (q_eql rfl rfl rfl) rfl rfl rfl rfl rfl rfl ?_
 refine vq (q_pick rfl rfl rfl rfl rfl) rfl (simL_nil ?_)
 exact nrm_cut (s := decide (s36v = (0 : Int))) () ⟨rfl, rfl, rfl, rfl, rfl, rfl, trivial⟩ (.sel 0 rfl (.sel 0 rfl (.sel 0 rfl (.sel 0 rfl (.nil _)))))
 rw [hb40v]
 refine simL_skipd rfl rfl rfl rfl rfl rfl ?_
 refine simL_skipd rfl rfl rfl rfl rfl rfl ?_
 refine simL_skipd rfl rfl rfl rfl rfl rfl ?_
 refine vq (q_pick rfl rfl rfl rfl rfl) rfl (simL_nil ?_)
 exact nrm_cut (s := false) () ⟨rfl, rfl, rfl, rfl, rfl, rfl, trivial⟩ (.sel 0 rfl (.sel 0 rfl (.sel 0 rfl (.sel 0 rfl (.nil _)))))
 intro s34v y35v
 refine vm rfl rfl ?_
 refine simL_valc (b := s34v) (fun hb69v => RQ.sub (E' := [(6, .pointer (some ⟨b20v, 0, none⟩))]) ⟨rfl, trivial⟩ (q_fa rfl rfl Tryz.underlying27 rfl rfl Tryz.sizeOf3 rfl)) rfl rfl rfl rfl rfl ?_
 refine simL_valc (b := s34v) (fun hb68v => RQ.sub (E' := [(47, .pointer (some ⟨b20v, 0, none⟩))]) ⟨lk_cv rfl hb68v, trivial⟩ (q_load rfl rfl Tryz.isAgg3 (.obj 0 rfl rfl))) rfl rfl rfl rfl rfl ?_
 refine simL_valc (b := s34v) (fun hb67v => RQ.sub (E' := [(48, .int .i64 s17v.1)]) ⟨lk_cv rfl hb67v, trivial⟩ (q_eql rfl rfl rfl)) rfl rfl rfl rfl rfl ?_
 refine vq (q_and rfl rfl rfl) rfl ?_
 refine vm rfl rfl ?_
 refine simL_valc (b := s34v && (decide (s17v.1 = (5 : Int)))) (fun hb66v => RQ.sub (E' := [(6, .pointer (some ⟨b20v, 0, none⟩))]) ⟨rfl, trivial⟩ (q_fa rfl rfl Tryz.underlying27 rfl rfl Tryz.sizeOf3 rfl)) rfl rfl rfl rfl rfl ?_
 refine simL_valc (b := s34v && (decide (s17v.1 = (5 : Int)))) (fun hb65v => RQ.sub (E' := [(52, .pointer (some ⟨b20v, 1, none⟩))]) ⟨lk_cv rfl hb65v, trivial⟩ (q_load rfl rfl Tryz.isAgg3 (.obj 0 rfl rfl))) rfl rfl rfl rfl rfl ?_
 refine simL_valc (b := s34v && (decide (s17v.1 = (5 : Int)))) (fun hb64v => RQ.sub (E' := [(53, .int .i64 s17v.2.1)]) ⟨lk_cv rfl hb64v, trivial⟩ (q_eql rfl rfl rfl)) rfl rfl rfl rfl rfl ?_
 refine vq (q_and rfl rfl rfl) rfl ?_
 refine vm rfl rfl ?_
 refine simL_valc (b := (s34v && (decide (s17v.1 = (5 : Int)))) && (decide (s17v.2.1 = (2 : Int)))) (fun hb63v => RQ.sub (E' := [(6, .pointer (some ⟨b20v, 0, none⟩))]) ⟨rfl, trivial⟩ (q_fa rfl rfl Tryz.underlying27 rfl rfl Tryz.sizeOf25 rfl)) rfl rfl rfl rfl rfl ?_
 refine simL_valc (b := (s34v && (decide (s17v.1 = (5 : Int)))) && (decide (s17v.2.1 = (2 : Int)))) (fun hb62v => RQ.sub (E' := [(57, .pointer (some ⟨b20v, 2, none⟩))]) ⟨lk_cv rfl hb62v, trivial⟩ (q_load rfl rfl Tryz.isAgg25 (.obj 0 rfl rfl))) rfl rfl rfl rfl rfl ?_
 refine simL_valc (b := (s34v && (decide (s17v.1 = (5 : Int)))) && (decide (s17v.2.1 = (2 : Int)))) (fun hb61v => RQ.sub (E' := [(58, .slice y19v.1 s17v.2.2.1.length y19v.2)]) ⟨lk_cv rfl hb61v, trivial⟩ (q_tostr rfl rfl Tryz.underlying25 Tryz.underlying5 Tryz.underlying9 (Rds.row 2 rfl) rfl)) rfl rfl rfl rfl rfl ?_
 refine simL_valc (b := (s34v && (decide (s17v.1 = (5 : Int)))) && (decide (s17v.2.1 = (2 : Int)))) (fun hb60v => RQ.sub (E' := [(59, str s17v.2.2.1)]) ⟨lk_cv rfl hb60v, trivial⟩ (q_eqs rfl rfl rfl)) rfl rfl rfl rfl rfl ?_
 refine vq (q_and rfl rfl rfl) rfl ?_
 refine vm rfl rfl ?_
 refine simL_valc (b := ((s34v && (decide (s17v.1 = (5 : Int)))) && (decide (s17v.2.1 = (2 : Int)))) && (decide (s17v.2.2.1 = ([97, 98] : List UInt8)))) (fun hb59v => RQ.sub (E' := [(7, .int .i64 s17v.2.2.2.1)]) ⟨rfl, trivial⟩ (q_move rfl rfl)) rfl rfl rfl rfl rfl ?_
 refine simL_valc (b := ((s34v && (decide (s17v.1 = (5 : Int)))) && (decide (s17v.2.1 = (2 : Int)))) && (decide (s17v.2.2.1 = ([97, 98] : List UInt8)))) (fun hb58v => RQ.sub (E' := [(63, .int .i64 s17v.2.2.2.1)]) ⟨lk_cv rfl hb58v, trivial⟩ (q_eql rfl rfl rfl)) rfl rfl rfl rfl rfl ?_
 refine vq (q_and rfl rfl rfl) rfl ?_
 refine vm rfl rfl ?_
 refine simL_cut' 4 (S := Bool) (Unit) (fun s y => [(9, .int .i64 s21v.1), (10, .slice y26v.1 s24v.length y26v.2), (70, .bool s)]) (fun s y => [RowV 3 1 (V3 tt) y26v.1 s24v y26v.2, F]) ?_ ?_
 refine simL_caseb (fun hb46v => ?_) (fun hb47v => ?_)
 rw [hb46v]
 refine simL_valg (q_move rfl rfl) rfl rfl rfl rfl rfl rfl ?_
 refine simL_bind (fun s43v hs44v => ?_)
 refine simL_effg (re_call (vs := [.int .i64 s17v.2.2.2.2]) (cap := []) (A := []) (rst := [obj b20v 27 [.int .i64 s17v.1, .int .i64 s17v.2.1, .slice y19v.1 s17v.2.2.1.length y19v.2], RowV 3 1 (V3 tt) y26v.1 s24v y26v.2, Row 5 1 y19v.1 s17v.2.2.1.length y19v.2 (encB s17v.2.2.1), F]) rfl rfl rfl rfl rfl rfl Tryz.call12 (.sel 0 rfl (.sel 0 rfl (.sel 0 rfl (.sel 0 rfl (.nil _))))) (synodref_Num.calls _ _ s17v.2.2.2.2 ) hs44v) rfl rfl rfl rfl rfl rfl ?_
 intro y45v
 refine simL_valg (q_eql rfl rfl rfl) rfl rfl rfl rfl rfl rfl ?_
 refine vq (q_pick rfl rfl rfl rfl rfl) rfl (simL_nil ?_)
 exact nrm_cut (s := decide (s43v = (0 : Int))) () ⟨rfl, rfl, rfl, trivial⟩ (.sel 1 rfl (.sel 2 rfl (.nil _)))
 rw [hb47v]
 refine simL_skipd rfl rfl rfl rfl rfl rfl ?_
 refine simL_skipd rfl rfl rfl rfl rfl rfl ?_
 refine simL_skipd rfl rfl rfl rfl rfl rfl ?_
 refine vq (q_pick rfl rfl rfl rfl rfl) rfl (simL_nil ?_)
 exact nrm_cut (s := false) () ⟨rfl, rfl, rfl, trivial⟩ (.sel 1 rfl (.sel 2 rfl (.nil _)))
 intro s41v y42v
 refine vm rfl rfl ?_
 refine simL_cut' 4 (S := Bool) (Unit) (fun s y => [(10, .slice y26v.1 s24v.length y26v.2), (75, .bool s)]) (fun s y => [RowV 3 1 (V3 tt) y26v.1 s24v y26v.2, F]) ?_ ?_
 refine simL_caseb (fun hb53v => ?_) (fun hb54v => ?_)
 rw [hb53v]
 refine simL_valg (q_move rfl rfl) rfl rfl rfl rfl rfl rfl ?_
 refine simL_bind (fun s50v hs51v => ?_)
 refine simL_effg (re_call (vs := [.int .i64 s21v.1]) (cap := []) (A := []) (rst := [RowV 3 1 (V3 tt) y26v.1 s24v y26v.2, F]) rfl rfl rfl rfl rfl rfl Tryz.call12 (.sel 0 rfl (.sel 0 rfl (.nil _))) (synodref_Num.calls _ _ s21v.1 ) hs51v) rfl rfl rfl rfl rfl rfl ?_
 intro y52v
 refine simL_valg (q_eql rfl rfl rfl) rfl rfl rfl rfl rfl rfl ?_
 refine vq (q_pick rfl rfl rfl rfl rfl) rfl (simL_nil ?_)
 exact nrm_cut (s := decide (s50v = (4 : Int))) () ⟨rfl, rfl, trivial⟩ (.sel 0 rfl (.sel 0 rfl (.nil _)))
 rw [hb54v]
 refine simL_skipd rfl rfl rfl rfl rfl rfl ?_
 refine simL_skipd rfl rfl rfl rfl rfl rfl ?_
 refine simL_skipd rfl rfl rfl rfl rfl rfl ?_
 refine vq (q_pick rfl rfl rfl rfl rfl) rfl (simL_nil ?_)
 exact nrm_cut (s := false) () ⟨rfl, rfl, trivial⟩ (.sel 0 rfl (.sel 0 rfl (.nil _)))
 intro s48v y49v
 refine vm rfl rfl ?_
 refine simL_valc (b := s48v) (fun hb57v => RQ.sub (E' := [(10, .slice y26v.1 s24v.length y26v.2)]) ⟨rfl, trivial⟩ (q_move rfl rfl)) rfl rfl rfl rfl rfl ?_
 refine simL_valc (b := s48v) (fun hb56v => RQ.sub (E' := [(77, .slice y26v.1 s24v.length y26v.2)]) ⟨lk_cv rfl hb56v, trivial⟩ (q_len rfl rfl rfl Tryz.underlying23)) rfl rfl rfl rfl rfl ?_
 refine simL_valc (b := s48v) (fun hb55v => RQ.sub (E' := [(78, .int .i64 (s24v.length : Int))]) ⟨lk_cv rfl hb55v, trivial⟩ (q_eql rfl rfl rfl)) rfl rfl rfl rfl rfl ?_
 refine vq (q_and rfl rfl rfl) rfl ?_
 refine va rfl rfl (simL_nil (nrm_then (sim_rtn ?_)))
 exact rtn_fn () rfl rfl rfl (.sel 1 rfl (.nil _))

def synodlaw6_few.l0 (x0 : List (Ty54)) : Nat → Int → Int → Option (Int)
  | 0, _, _ => none
  | k + 1, z5v, z6v => if ((decide (z6v < (x0.length : Int))) && (decide (z6v < (100 : Int)))) = true then (if 0 ≤ z6v ∧ z6v < (x0.length : Int) then (if 0 ≤ z6v ∧ z6v < (x0.length : Int) then (if 0 ≤ z6v ∧ z6v < (x0.length : Int) then (if 0 ≤ z6v ∧ z6v < (x0.length : Int) then (synodlaw6_few.l0 x0 k (IntKind.i64.wrap ((IntKind.i64.wrap ((IntKind.i64.wrap ((IntKind.i64.wrap (z5v + (min (((x0.getD z6v.toNat dz54).2.2.2.2.1).length : Int) (20000 : Int)))) + (min (((x0.getD z6v.toNat dz54).2.2.2.2.2.2.2.2.2).length : Int) (20000 : Int)))) + (min (((x0.getD z6v.toNat dz54).2.2.2.2.2.2.2.1).length : Int) (20000 : Int)))) + (min (((x0.getD z6v.toNat dz54).2.2.2.2.2.2.2.2.1).length : Int) (20000 : Int)))) (IntKind.i64.wrap (z6v + 1))) else none) else none) else none) else none) else (some z5v)
def synodlaw6_few.f (k : Nat) (x0 : List (Ty54)) : Option (Bool) := (synodlaw6_few.l0 x0 k 0 0).bind fun s1v => (some ((decide ((x0.length : Int) ≤ (100 : Int))) && (decide (s1v ≤ (20000 : Int)))))
theorem synodlaw6_few.calls (W : World) (F : HA) (k : Nat) (a0 : Option Addr) (c0 : Nat) (x0 : List (Ty54)) (h0 : RdV F 10 (V54 F) a0 x0) (hc0 : x0.length ≤ c0) (hm0 : c0 ≤ maxLen) :
    Fn Tryz.prog W 19 [.slice a0 x0.length c0] [] F (synodlaw6_few.f k x0) (fun (r : Bool) (y : Unit) => .bool r) (fun r y => []) := by
 unfold synodlaw6_few.f
 refine fn_intro 59 Tryz.func19 rfl Tryz.ntmps19 rfl ?_
 refine sr ?_
 refine va rfl rfl (nx ?_)
 refine va rfl rfl (simL_nil (nrm_then ?_))
 refine sim_cut (S := Int) (Unit) (fun s y => [(0, .slice a0 x0.length c0), (3, .int .i64 s)]) (fun s y => [F]) ?_ ?_
 refine sr ?_
 refine va rfl rfl (simL_nil (nrm_then ?_))
 refine sim_block ?_
 refine sim_loop (S := Int × Int) (Unit) (fun k s => synodlaw6_few.l0 x0 k s.1 s.2) (fun s y => [(0, .slice a0 x0.length c0), (3, .int .i64 s.1), (4, .int .i64 s.2)]) (fun s y => [F]) (fun _ => by rw [synodlaw6_few.l0]) ?_ k (0, 0) () ⟨rfl, rfl, rfl, trivial⟩ (.sel 0 rfl (.nil _))
 intro k s3v y4v
 refine sim_eq (by rw [synodlaw6_few.l0]) ?_
 refine sim_seq (sr ?_)
 refine vm rfl rfl ?_
 refine vm rfl rfl ?_
 refine vq (q_len rfl rfl rfl Tryz.underlying44) rfl ?_
 refine vq (q_lss rfl rfl rfl) rfl ?_
 refine vm rfl rfl ?_
 refine simL_valc (b := decide (s3v.2 < (x0.length : Int))) (fun hb83v => RQ.sub (E' := [(4, .int .i64 s3v.2)]) ⟨rfl, trivial⟩ (q_move rfl rfl)) rfl rfl rfl rfl rfl ?_
 refine simL_valc (b := decide (s3v.2 < (x0.length : Int))) (fun hb82v => RQ.sub (E' := [(10, .int .i64 s3v.2)]) ⟨lk_cv rfl hb82v, trivial⟩ (q_lss rfl rfl rfl)) rfl rfl rfl rfl rfl ?_
 refine vq (q_and rfl rfl rfl) rfl (simL_nil (nrm_then ?_))
 refine sim_condb rfl (fun h7v => ?_) (fun h8v => ?_)
 refine sim_skip ?_
 refine nrm_then (sim_seq ?_)
 refine sim_block ?_
 refine sim_ask (fun hi9v => ?_)
 obtain ⟨b10v, b10vo, r13v, ha11v, hV14v, hlr15v, hcell16v⟩ := RdV.pos h0 (Up.refl _) rfl (i := s3v.2.toNat) (by omega) dz54
 obtain ⟨a17v, c18v, a22v, c23v, rfl, ⟨he19v, hc20v, hm21v⟩, ⟨he24v, hc25v, hm26v⟩⟩ := hV14v
 refine sim_ask (fun hi27v => ?_)
 obtain ⟨b28v, b28vo, r31v, ha29v, hV32v, hlr33v, hcell34v⟩ := RdV.pos h0 (Up.refl _) rfl (i := s3v.2.toNat) (by omega) dz54
 obtain ⟨a35v, c36v, a40v, c41v, rfl, ⟨he37v, hc38v, hm39v⟩, ⟨he42v, hc43v, hm44v⟩⟩ := hV32v
 refine sim_ask (fun hi45v => ?_)
 obtain ⟨b46v, b46vo, r49v, ha47v, hV50v, hlr51v, hcell52v⟩ := RdV.pos h0 (Up.refl _) rfl (i := s3v.2.toNat) (by omega) dz54
 obtain ⟨a53v, c54v, a58v, c59v, rfl, ⟨he55v, hc56v, hm57v⟩, ⟨he60v, hc61v, hm62v⟩⟩ := hV50v
 refine sim_ask (fun hi63v => ?_)
 obtain ⟨b64v, b64vo, r67v, ha65v, hV68v, hlr69v, hcell70v⟩ := RdV.pos h0 (Up.refl _) rfl (i := s3v.2.toNat) (by omega) dz54
 obtain ⟨a71v, c72v, a76v, c77v, rfl, ⟨he73v, hc74v, hm75v⟩, ⟨he78v, hc79v, hm80v⟩⟩ := hV68v
 refine sim_draw (Γ := Unit) () [[], [], [], [1, 2], [1, 2, 3], [1, 2, 3, 4], [1, 2, 3, 4, 5], [1, 2, 3, 4, 5, 6], [1, 2, 3, 4, 5, 6, 7], rL 9, [], [], [10, 11], [10, 11, 12], [10, 11, 12, 13], [10, 11, 12, 13, 14], [10, 11, 12, 13, 14, 15], [10, 11, 12, 13, 14, 15, 16], rL 18, [], [], [19, 20], [19, 20, 21], [19, 20, 21, 22], [19, 20, 21, 22, 23], [19, 20, 21, 22, 23, 24], [19, 20, 21, 22, 23, 24, 25], rL 27, [], [], [28, 29], [28, 29, 30], [28, 29, 30, 31], [28, 29, 30, 31, 32], [28, 29, 30, 31, 32, 33], [28, 29, 30, 31, 32, 33, 34], rL 36, rL 37] [] [0, 1, 2, 3, 4, 5, 6, 7, 8, 9, 10, 11, 12, 13, 14, 15, 16, 17, 18, 19, 20, 21, 22, 23, 24, 25, 26, 27, 28, 29, 30, 31, 32, 33, 34, 35, 36, 37] (fun i => [[0], [0], [0], [0], [0], [0], [0], [0], [0], [0], [0], [0], [0], [0], [0], [0], [0], [0], [0], [0], [0], [0], [0], [0], [0], [0], [0], [0], [0], [0], [0], [0], [0], [0], [0], [0], [0], [0]].getD i []) (fun i => [[], [], [], [], [], [], [], [], [], [], [], [], [], [], [], [], [], [], [], [], [], [], [], [], [], [], [], [], [], [], [], [], [], [], [], [], [], []].getD i []) (fun γ i => [.int .i64 s3v.1, .slice a0 x0.length c0, .int .i64 s3v.2, .pointer (some ⟨b10v, b10vo + s3v.2.toNat * 10, none⟩), .pointer (some ⟨b10v, b10vo + s3v.2.toNat * 10 + 2, none⟩), .pointer (some ⟨b10v, b10vo + s3v.2.toNat * 10 + 2 + 2, none⟩), .slice a17v (((x0.getD s3v.2.toNat dz54).2.2.2.2.1).length) c18v, .int .i64 (((x0.getD s3v.2.toNat dz54).2.2.2.2.1).length : Int), .int .i64 (min (((x0.getD s3v.2.toNat dz54).2.2.2.2.1).length : Int) (20000 : Int)), .int .i64 (IntKind.i64.wrap (s3v.1 + (min (((x0.getD s3v.2.toNat dz54).2.2.2.2.1).length : Int) (20000 : Int)))), .slice a0 x0.length c0, .int .i64 s3v.2, .pointer (some ⟨b28v, b28vo + s3v.2.toNat * 10, none⟩), .pointer (some ⟨b28v, b28vo + s3v.2.toNat * 10 + 5, none⟩), .pointer (some ⟨b28v, b28vo + s3v.2.toNat * 10 + 5 + 4, none⟩), .slice a40v (((x0.getD s3v.2.toNat dz54).2.2.2.2.2.2.2.2.2).length) c41v, .int .i64 (((x0.getD s3v.2.toNat dz54).2.2.2.2.2.2.2.2.2).length : Int), .int .i64 (min (((x0.getD s3v.2.toNat dz54).2.2.2.2.2.2.2.2.2).length : Int) (20000 : Int)), .int .i64 (IntKind.i64.wrap ((IntKind.i64.wrap (s3v.1 + (min (((x0.getD s3v.2.toNat dz54).2.2.2.2.1).length : Int) (20000 : Int)))) + (min (((x0.getD s3v.2.toNat dz54).2.2.2.2.2.2.2.2.2).length : Int) (20000 : Int)))), .slice a0 x0.length c0, .int .i64 s3v.2, .pointer (some ⟨b46v, b46vo + s3v.2.toNat * 10, none⟩), .pointer (some ⟨b46v, b46vo + s3v.2.toNat * 10 + 5, none⟩), .pointer (some ⟨b46v, b46vo + s3v.2.toNat * 10 + 5 + 2, none⟩), str ((x0.getD s3v.2.toNat dz54).2.2.2.2.2.2.2.1), .int .i64 (((x0.getD s3v.2.toNat dz54).2.2.2.2.2.2.2.1).length : Int), .int .i64 (min (((x0.getD s3v.2.toNat dz54).2.2.2.2.2.2.2.1).length : Int) (20000 : Int)), .int .i64 (IntKind.i64.wrap ((IntKind.i64.wrap ((IntKind.i64.wrap (s3v.1 + (min (((x0.getD s3v.2.toNat dz54).2.2.2.2.1).length : Int) (20000 : Int)))) + (min (((x0.getD s3v.2.toNat dz54).2.2.2.2.2.2.2.2.2).length : Int) (20000 : Int)))) + (min (((x0.getD s3v.2.toNat dz54).2.2.2.2.2.2.2.1).length : Int) (20000 : Int)))), .slice a0 x0.length c0, .int .i64 s3v.2, .pointer (some ⟨b64v, b64vo + s3v.2.toNat * 10, none⟩), .pointer (some ⟨b64v, b64vo + s3v.2.toNat * 10 + 5, none⟩), .pointer (some ⟨b64v, b64vo + s3v.2.toNat * 10 + 5 + 3, none⟩), str ((x0.getD s3v.2.toNat dz54).2.2.2.2.2.2.2.2.1), .int .i64 (((x0.getD s3v.2.toNat dz54).2.2.2.2.2.2.2.2.1).length : Int), .int .i64 (min (((x0.getD s3v.2.toNat dz54).2.2.2.2.2.2.2.2.1).length : Int) (20000 : Int)), .int .i64 (IntKind.i64.wrap ((IntKind.i64.wrap ((IntKind.i64.wrap ((IntKind.i64.wrap (s3v.1 + (min (((x0.getD s3v.2.toNat dz54).2.2.2.2.1).length : Int) (20000 : Int)))) + (min (((x0.getD s3v.2.toNat dz54).2.2.2.2.2.2.2.2.2).length : Int) (20000 : Int)))) + (min (((x0.getD s3v.2.toNat dz54).2.2.2.2.2.2.2.1).length : Int) (20000 : Int)))) + (min (((x0.getD s3v.2.toNat dz54).2.2.2.2.2.2.2.2.1).length : Int) (20000 : Int)))), .int .i64 (IntKind.i64.wrap ((IntKind.i64.wrap ((IntKind.i64.wrap ((IntKind.i64.wrap (s3v.1 + (min (((x0.getD s3v.2.toNat dz54).2.2.2.2.1).length : Int) (20000 : Int)))) + (min (((x0.getD s3v.2.toNat dz54).2.2.2.2.2.2.2.2.2).length : Int) (20000 : Int)))) + (min (((x0.getD s3v.2.toNat dz54).2.2.2.2.2.2.2.1).length : Int) (20000 : Int)))) + (min (((x0.getD s3v.2.toNat dz54).2.2.2.2.2.2.2.2.1).length : Int) (20000 : Int))))].getD i undef) (fun j γ => [[F]].getD j []) (fun γ => [(0, .slice a0 x0.length c0), (3, .int .i64 (IntKind.i64.wrap ((IntKind.i64.wrap ((IntKind.i64.wrap ((IntKind.i64.wrap (s3v.1 + (min (((x0.getD s3v.2.toNat dz54).2.2.2.2.1).length : Int) (20000 : Int)))) + (min (((x0.getD s3v.2.toNat dz54).2.2.2.2.2.2.2.2.2).length : Int) (20000 : Int)))) + (min (((x0.getD s3v.2.toNat dz54).2.2.2.2.2.2.2.1).length : Int) (20000 : Int)))) + (min (((x0.getD s3v.2.toNat dz54).2.2.2.2.2.2.2.2.1).length : Int) (20000 : Int))))), (4, .int .i64 s3v.2), (10, cv ((decide (s3v.2 < (x0.length : Int))) == true) (.int .i64 s3v.2)), (11, cv ((decide (s3v.2 < (x0.length : Int))) == true) (.bool (decide (s3v.2 < (100 : Int)))))]) mixed (by decide) (by decide) (by decide) (by decide) (by decide) (by decide) (by decide) 59 rfl (by decide) (by decide) (by decide) (Ent.refl _) ?_ ?_ (fun _ => ⟨rfl, rfl, rfl, rfl, rfl, trivial⟩) ?_
 exact (aq rfl (fun γ => qm rfl (.o (s := 3) rfl (by decide) .nil) rfl) (aq rfl (fun γ => qm rfl (.o (s := 0) rfl (by decide) .nil) rfl) (aq rfl (fun γ => qm rfl (.o (s := 4) rfl (by decide) .nil) rfl) (aq rfl (fun γ => qp rfl rfl (.v 1 rfl rfl (.v 2 rfl rfl .nil)) (q_idx rfl rfl rfl ha11v Tryz.underlying44 Tryz.sizeOf54 hi9v.1 hi9v.2) rfl) (aq rfl (fun γ => qp rfl rfl (.v 3 rfl rfl .nil) (q_fa rfl rfl Tryz.underlying54 rfl rfl Tryz.sizeOf27 rfl) rfl) (aq rfl (fun γ => qp rfl rfl (.v 4 rfl rfl .nil) (q_fa rfl rfl Tryz.underlying27 rfl rfl Tryz.sizeOf25 rfl) rfl) (aq rfl (fun γ => qp rfl rfl (.v 5 rfl rfl .nil) (q_load rfl rfl Tryz.isAgg25 (hcell16v 0 rfl 4 _ rfl)) rfl) (aq rfl (fun γ => qp rfl rfl (.v 6 rfl rfl .nil) (q_len rfl rfl rfl Tryz.underlying25) rfl) (aq rfl (fun γ => qp rfl rfl (.v 7 rfl rfl .nil) (q_min rfl rfl rfl) rfl) (aq rfl (fun γ => qp rfl rfl (.v 0 rfl rfl (.v 8 rfl rfl .nil)) (q_add rfl rfl rfl) rfl) (aq rfl (fun γ => qm rfl (.o (s := 0) rfl (by decide) .nil) rfl) (aq rfl (fun γ => qm rfl (.o (s := 4) rfl (by decide) .nil) rfl) (aq rfl (fun γ => qp rfl rfl (.v 10 rfl rfl (.v 11 rfl rfl .nil)) (q_idx rfl rfl rfl ha29v Tryz.underlying44 Tryz.sizeOf54 hi27v.1 hi27v.2) rfl) (aq rfl (fun γ => qp rfl rfl (.v 12 rfl rfl .nil) (q_fa rfl rfl Tryz.underlying54 rfl rfl Tryz.sizeOf52 rfl) rfl) (aq rfl (fun γ => qp rfl rfl (.v 13 rfl rfl .nil) (q_fa rfl rfl Tryz.underlying52 rfl rfl Tryz.sizeOf25 rfl) rfl) (aq rfl (fun γ => qp rfl rfl (.v 14 rfl rfl .nil) (q_load rfl rfl Tryz.isAgg25 (hcell34v 0 rfl 9 _ rfl)) rfl) (aq rfl (fun γ => qp rfl rfl (.v 15 rfl rfl .nil) (q_len rfl rfl rfl Tryz.underlying25) rfl) (aq rfl (fun γ => qp rfl rfl (.v 16 rfl rfl .nil) (q_min rfl rfl rfl) rfl) (aq rfl (fun γ => qp rfl rfl (.v 9 rfl rfl (.v 17 rfl rfl .nil)) (q_add rfl rfl rfl) rfl) (aq rfl (fun γ => qm rfl (.o (s := 0) rfl (by decide) .nil) rfl) (aq rfl (fun γ => qm rfl (.o (s := 4) rfl (by decide) .nil) rfl) (aq rfl (fun γ => qp rfl rfl (.v 19 rfl rfl (.v 20 rfl rfl .nil)) (q_idx rfl rfl rfl ha47v Tryz.underlying44 Tryz.sizeOf54 hi45v.1 hi45v.2) rfl) (aq rfl (fun γ => qp rfl rfl (.v 21 rfl rfl .nil) (q_fa rfl rfl Tryz.underlying54 rfl rfl Tryz.sizeOf52 rfl) rfl) (aq rfl (fun γ => qp rfl rfl (.v 22 rfl rfl .nil) (q_fa rfl rfl Tryz.underlying52 rfl rfl Tryz.sizeOf9 rfl) rfl) (aq rfl (fun γ => qp rfl rfl (.v 23 rfl rfl .nil) (q_load rfl rfl Tryz.isAgg9 (hcell52v 0 rfl 7 _ rfl)) rfl) (aq rfl (fun γ => qp rfl rfl (.v 24 rfl rfl .nil) (q_lens rfl rfl rfl Tryz.underlying9) rfl) (aq rfl (fun γ => qp rfl rfl (.v 25 rfl rfl .nil) (q_min rfl rfl rfl) rfl) (aq rfl (fun γ => qp rfl rfl (.v 18 rfl rfl (.v 26 rfl rfl .nil)) (q_add rfl rfl rfl) rfl) (aq rfl (fun γ => qm rfl (.o (s := 0) rfl (by decide) .nil) rfl) (aq rfl (fun γ => qm rfl (.o (s := 4) rfl (by decide) .nil) rfl) (aq rfl (fun γ => qp rfl rfl (.v 28 rfl rfl (.v 29 rfl rfl .nil)) (q_idx rfl rfl rfl ha65v Tryz.underlying44 Tryz.sizeOf54 hi63v.1 hi63v.2) rfl) (aq rfl (fun γ => qp rfl rfl (.v 30 rfl rfl .nil) (q_fa rfl rfl Tryz.underlying54 rfl rfl Tryz.sizeOf52 rfl) rfl) (aq rfl (fun γ => qp rfl rfl (.v 31 rfl rfl .nil) (q_fa rfl rfl Tryz.underlying52 rfl rfl Tryz.sizeOf9 rfl) rfl) (aq rfl (fun γ => qp rfl rfl (.v 32 rfl rfl .nil) (q_load rfl rfl Tryz.isAgg9 (hcell70v 0 rfl 8 _ rfl)) rfl) (aq rfl (fun γ => qp rfl rfl (.v 33 rfl rfl .nil) (q_lens rfl rfl rfl Tryz.underlying9) rfl) (aq rfl (fun γ => qp rfl rfl (.v 34 rfl rfl .nil) (q_min rfl rfl rfl) rfl) (aq rfl (fun γ => qp rfl rfl (.v 27 rfl rfl (.v 35 rfl rfl .nil)) (q_add rfl rfl rfl) rfl) (aq rfl (fun γ => qp rfl rfl (.v 36 rfl rfl .nil) (q_asg rfl rfl) rfl) zA))))))))))))))))))))))))))))))))))))))
 exact zA
 intro g81v
 refine nrm_block (nrm_then (sim_region ?_))
 refine vm rfl rfl ?_
 refine vq (q_add rfl rfl rfl) rfl ?_
 refine va rfl rfl (simL_nil ?_)
 exact nrm_again (s := (IntKind.i64.wrap ((IntKind.i64.wrap ((IntKind.i64.wrap ((IntKind.i64.wrap (s3v.1 + (min (((x0.getD s3v.2.toNat dz54).2.2.2.2.1).length : Int) (20000 : Int)))) + (min (((x0.getD s3v.2.toNat dz54).2.2.2.2.2.2.2.2.2).length : Int) (20000 : Int)))) + (min (((x0.getD s3v.2.toNat dz54).2.2.2.2.2.2.2.1).length : Int) (20000 : Int)))) + (min (((x0.getD s3v.2.toNat dz54).2.2.2.2.2.2.2.2.1).length : Int) (20000 : Int))), IntKind.i64.wrap (s3v.2 + 1))) () ⟨rfl, rfl, rfl, trivial⟩ (.sel 0 rfl (.nil _))
 refine sim_exi ?_
 refine exi_then ?_
 refine exi_loop ?_
 refine exi_here ?_
 exact nrm_cut (s := s3v.1) () ⟨rfl, rfl, trivial⟩ (.sel 0 rfl (.nil _))
 intro s1v y2v
 refine sr ?_
 refine vm rfl rfl ?_
 refine vq (q_len rfl rfl rfl Tryz.underlying44) rfl ?_
 refine vq (q_leq rfl rfl rfl) rfl ?_
 refine vm rfl rfl ?_
 refine simL_valc (b := decide ((x0.length : Int) ≤ (100 : Int))) (fun hb85v => RQ.sub (E' := [(3, .int .i64 s1v)]) ⟨rfl, trivial⟩ (q_move rfl rfl)) rfl rfl rfl rfl rfl ?_
 refine simL_valc (b := decide ((x0.length : Int) ≤ (100 : Int))) (fun hb84v => RQ.sub (E' := [(56, .int .i64 s1v)]) ⟨lk_cv rfl hb84v, trivial⟩ (q_leq rfl rfl rfl)) rfl rfl rfl rfl rfl ?_
 refine vq (q_and rfl rfl rfl) rfl ?_
 refine va rfl rfl (simL_nil (nrm_then (sim_rtn ?_)))
 exact rtn_fn () rfl rfl rfl (.sel 0 rfl (.nil _))
end Go.Proofs.YtjkjlggbikeliaaGreatDoor
