/- Printed by gen.py: pure functions and the proofs that the Go functions simulate them. Conditions: as each theorem says. -/
import Derived.Test.YtdolffamgbcokaaG1
namespace Go.Proofs.Ytdolffamgbcokaa
open Go.RowKit
set_option linter.unusedVariables false
set_option maxRecDepth 20000
def synodlaw1_WireFronts.f (k : Nat) (x0 : List UInt8) (x1 : Int) : Option (Bool) := (synodlaw1_first.f k).bind fun s1v => (if ((!s1v) || (decide ((20000 : Int) < (x0.length : Int)))) = true then (some s1v) else ((wire_Int.f k x0 x1).bind fun s6v => ((synodref_Num.f s6v.2.2).bind fun s9v => (if s9v = (0 : Int) then (if ((((decide (s6v.2.1 < (1 : Int))) || (decide ((9 : Int) < s6v.2.1))) || (decide (x1 < (0 : Int)))) || (decide (IntKind.i64.wrap ((x0.length : Int) - s6v.2.1) < x1))) = true then (some false) else ((wire_PutInt.f k s6v.1).bind fun s16v => (if 0 ≤ x1 ∧ x1 ≤ IntKind.i64.wrap (x1 + s6v.2.1) ∧ IntKind.i64.wrap (x1 + s6v.2.1) ≤ (x0.length : Int) then ((synodref_SameBytes.f k s16v.1 (cut x0 x1 (IntKind.i64.wrap (x1 + s6v.2.1)))).bind fun s30v => (if 0 ≤ (0 : Int) ∧ (0 : Int) ≤ IntKind.i64.wrap ((IntKind.i64.wrap (x1 + s6v.2.1)) - 1) ∧ IntKind.i64.wrap ((IntKind.i64.wrap (x1 + s6v.2.1)) - 1) ≤ (x0.length : Int) then ((wire_Int.f k (cut x0 (0 : Int) (IntKind.i64.wrap ((IntKind.i64.wrap (x1 + s6v.2.1)) - 1))) x1).bind fun s40v => ((if s30v = true then ((synodref_Num.f s16v.2).bind fun s45v => (some (decide (s45v = (0 : Int))))) else (some false)).bind fun s43v => ((if s43v = true then ((synodref_Num.f s40v.2.2).bind fun s52v => (some (decide (s52v = (2 : Int))))) else (some false)).bind fun s50v => (some s50v)))) else none)) else none))) else (some ((decide (s6v.1 = (0 : Int))) && (decide (s6v.2.1 = (0 : Int)))))))))
theorem synodlaw1_WireFronts.calls (W : World) (F : HA) (k : Nat) (a0 : Option Addr) (c0 : Nat) (x0 : List UInt8) (x1 : Int) (h0 : Rd F a0 (encB x0)) (hc0 : x0.length ≤ c0) (hm0 : c0 ≤ maxLen) :
    Fn Try.prog W 6 [.slice a0 x0.length c0, .int .i64 x1] [] F (synodlaw1_WireFronts.f k x0 x1) (fun (r : Bool) (y : Unit) => .bool r) (fun r y => []) := by
  unfold synodlaw1_WireFronts.f
  refine fn_intro 94 Try.func6 rfl Try.ntmps6 rfl ?_
  refine sim_seq ?_
  refine sim_region ?_
  refine simL_val (q_asg rfl rfl) rfl rfl rfl ?_
  refine simL_nil ?_
  refine nrm_then ?_
  refine sim_seq ?_
  refine sim_region ?_
  refine simL_bind (fun s1v hs3v => ?_)
  refine simL_eff (re_call (vs := []) (cap := []) (A := []) (rst := [F]) rfl rfl rfl rfl rfl rfl Try.call10 (.sel 0 rfl (.nil _)) (synodlaw1_first.calls _ _ k  ) hs3v) rfl rfl rfl ?_
  intro y2v
  refine simL_val (q_asg rfl rfl) rfl rfl rfl ?_
  refine simL_nil ?_
  refine nrm_then ?_
  refine sim_seq ?_
  refine sim_seq ?_
  refine sim_region ?_
  refine simL_val (q_move rfl rfl) rfl rfl rfl ?_
  refine simL_val (q_not rfl rfl) rfl rfl rfl ?_
  refine simL_val (q_move rfl rfl) rfl rfl rfl ?_
  refine simL_valc (b := !s1v) (fun hb71v => RQ.sub (E' := [(0, .slice a0 x0.length c0)]) ⟨rfl, trivial⟩ (q_move rfl rfl)) rfl rfl rfl rfl rfl ?_
  refine simL_valc (b := !s1v) (fun hb70v => RQ.sub (E' := [(19, .slice a0 x0.length c0)]) ⟨lk_cv rfl hb70v, trivial⟩ (q_len rfl rfl rfl Try.underlying23)) rfl rfl rfl rfl rfl ?_
  refine simL_valc (b := !s1v) (fun hb69v => RQ.sub (E' := [(20, .int .i64 (x0.length : Int))]) ⟨lk_cv rfl hb69v, trivial⟩ (q_gtr rfl rfl rfl)) rfl rfl rfl rfl rfl ?_
  refine simL_val (q_or rfl rfl rfl) rfl rfl rfl ?_
  refine simL_nil ?_
  refine nrm_then ?_
  refine sim_condb rfl (fun h4v => ?_) (fun h5v => ?_)
  · refine sim_seq ?_
    refine sim_region ?_
    refine simL_val (q_move rfl rfl) rfl rfl rfl ?_
    refine simL_val (q_asg rfl rfl) rfl rfl rfl ?_
    refine simL_nil ?_
    refine nrm_then ?_
    refine sim_rtn ?_
    refine rtn_then ?_
    exact rtn_fn () rfl rfl rfl (.sel 0 rfl (.nil _))
  · refine sim_skip ?_
    refine nrm_then ?_
    refine sim_seq ?_
    refine sim_region ?_
    refine simL_val (q_move rfl rfl) rfl rfl rfl ?_
    refine simL_val (q_move rfl rfl) rfl rfl rfl ?_
    refine simL_bind (fun s6v hs8v => ?_)
    refine simL_eff (re_call (vs := [.slice a0 x0.length c0, .int .i64 x1]) (cap := []) (A := []) (rst := [F]) rfl rfl rfl rfl rfl rfl Try.call18 (.sel 0 rfl (.nil _)) (wire_Int.calls _ _ k a0 c0 x0 x1 (h0.lend 0 rfl) hc0 hm0) hs8v) rfl rfl rfl ?_
    intro y7v
    refine simL_val (q_move rfl rfl) rfl rfl rfl ?_
    refine simL_val (q_ext rfl rfl rfl) rfl rfl rfl ?_
    refine simL_val (q_ext rfl rfl rfl) rfl rfl rfl ?_
    refine simL_val (q_ext rfl rfl rfl) rfl rfl rfl ?_
    refine simL_val (q_asg rfl rfl) rfl rfl rfl ?_
    refine simL_val (q_asg rfl rfl) rfl rfl rfl ?_
    refine simL_val (q_asg rfl rfl) rfl rfl rfl ?_
    refine simL_nil ?_
    refine nrm_then ?_
    refine sim_seq ?_
    refine sim_seq ?_
    refine sim_region ?_
    refine simL_val (q_move rfl rfl) rfl rfl rfl ?_
    refine simL_bind (fun s9v hs11v => ?_)
    refine simL_eff (re_call (vs := [.int .i64 s6v.2.2]) (cap := []) (A := []) (rst := [F]) rfl rfl rfl rfl rfl rfl Try.call14 (.sel 0 rfl (.nil _)) (synodref_Num.calls _ _ s6v.2.2 ) hs11v) rfl rfl rfl ?_
    intro y10v
    refine simL_val (q_neq rfl rfl rfl) rfl rfl rfl ?_
    refine simL_nil ?_
    refine nrm_then ?_
    refine sim_condn rfl (fun h12v => ?_) (fun h13v => ?_)
    · refine sim_skip ?_
      refine nrm_then ?_
      refine sim_seq ?_
      refine sim_seq ?_
      refine sim_region ?_
      refine simL_val (q_move rfl rfl) rfl rfl rfl ?_
      refine simL_val (q_lss rfl rfl rfl) rfl rfl rfl ?_
      refine simL_val (q_move rfl rfl) rfl rfl rfl ?_
      refine simL_valc (b := decide (s6v.2.1 < (1 : Int))) (fun hb66v => RQ.sub (E' := [(7, .int .i64 s6v.2.1)]) ⟨rfl, trivial⟩ (q_move rfl rfl)) rfl rfl rfl rfl rfl ?_
      refine simL_valc (b := decide (s6v.2.1 < (1 : Int))) (fun hb65v => RQ.sub (E' := [(43, .int .i64 s6v.2.1)]) ⟨lk_cv rfl hb65v, trivial⟩ (q_gtr rfl rfl rfl)) rfl rfl rfl rfl rfl ?_
      refine simL_val (q_or rfl rfl rfl) rfl rfl rfl ?_
      refine simL_val (q_move rfl rfl) rfl rfl rfl ?_
      refine simL_valc (b := (decide (s6v.2.1 < (1 : Int))) || (decide ((9 : Int) < s6v.2.1))) (fun hb64v => RQ.sub (E' := [(1, .int .i64 x1)]) ⟨rfl, trivial⟩ (q_move rfl rfl)) rfl rfl rfl rfl rfl ?_
      refine simL_valc (b := (decide (s6v.2.1 < (1 : Int))) || (decide ((9 : Int) < s6v.2.1))) (fun hb63v => RQ.sub (E' := [(47, .int .i64 x1)]) ⟨lk_cv rfl hb63v, trivial⟩ (q_lss rfl rfl rfl)) rfl rfl rfl rfl rfl ?_
      refine simL_val (q_or rfl rfl rfl) rfl rfl rfl ?_
      refine simL_val (q_move rfl rfl) rfl rfl rfl ?_
      refine simL_valc (b := ((decide (s6v.2.1 < (1 : Int))) || (decide ((9 : Int) < s6v.2.1))) || (decide (x1 < (0 : Int)))) (fun hb62v => RQ.sub (E' := [(1, .int .i64 x1)]) ⟨rfl, trivial⟩ (q_move rfl rfl)) rfl rfl rfl rfl rfl ?_
      refine simL_valc (b := ((decide (s6v.2.1 < (1 : Int))) || (decide ((9 : Int) < s6v.2.1))) || (decide (x1 < (0 : Int)))) (fun hb61v => RQ.sub (E' := [(0, .slice a0 x0.length c0)]) ⟨rfl, trivial⟩ (q_move rfl rfl)) rfl rfl rfl rfl rfl ?_
      refine simL_valc (b := ((decide (s6v.2.1 < (1 : Int))) || (decide ((9 : Int) < s6v.2.1))) || (decide (x1 < (0 : Int)))) (fun hb60v => RQ.sub (E' := [(52, .slice a0 x0.length c0)]) ⟨lk_cv rfl hb60v, trivial⟩ (q_len rfl rfl rfl Try.underlying23)) rfl rfl rfl rfl rfl ?_
      refine simL_valc (b := ((decide (s6v.2.1 < (1 : Int))) || (decide ((9 : Int) < s6v.2.1))) || (decide (x1 < (0 : Int)))) (fun hb59v => RQ.sub (E' := [(7, .int .i64 s6v.2.1)]) ⟨rfl, trivial⟩ (q_move rfl rfl)) rfl rfl rfl rfl rfl ?_
      refine simL_valc (b := ((decide (s6v.2.1 < (1 : Int))) || (decide ((9 : Int) < s6v.2.1))) || (decide (x1 < (0 : Int)))) (fun hb58v => RQ.sub (E' := [(53, .int .i64 (x0.length : Int)), (54, .int .i64 s6v.2.1)]) ⟨lk_cv rfl hb58v, lk_cv rfl hb58v, trivial⟩ (q_sub rfl rfl rfl)) rfl rfl rfl rfl rfl ?_
      refine simL_valc (b := ((decide (s6v.2.1 < (1 : Int))) || (decide ((9 : Int) < s6v.2.1))) || (decide (x1 < (0 : Int)))) (fun hb57v => RQ.sub (E' := [(51, .int .i64 x1), (55, .int .i64 (IntKind.i64.wrap ((x0.length : Int) - s6v.2.1)))]) ⟨lk_cv rfl hb57v, lk_cv rfl hb57v, trivial⟩ (q_gtr rfl rfl rfl)) rfl rfl rfl rfl rfl ?_
      refine simL_val (q_or rfl rfl rfl) rfl rfl rfl ?_
      refine simL_nil ?_
      refine nrm_then ?_
      refine sim_condb rfl (fun h14v => ?_) (fun h15v => ?_)
      · refine sim_seq ?_
        refine sim_region ?_
        refine simL_val (q_asg rfl rfl) rfl rfl rfl ?_
        refine simL_nil ?_
        refine nrm_then ?_
        refine sim_rtn ?_
        refine rtn_then ?_
        exact rtn_fn () rfl rfl rfl (.sel 0 rfl (.nil _))
      · refine sim_skip ?_
        refine nrm_then ?_
        refine sim_seq ?_
        refine sim_region ?_
        refine simL_val (q_move rfl rfl) rfl rfl rfl ?_
        refine simL_bind (fun s16v hs18v => ?_)
        refine simL_eff (re_call (vs := [.int .i64 s6v.1]) (cap := []) (A := []) (rst := [F]) rfl rfl rfl rfl rfl rfl Try.call11 (.sel 0 rfl (.nil _)) (wire_PutInt.calls _ _ k s6v.1 ) hs18v) rfl rfl rfl ?_
        intro y17v
        refine simL_val (q_move rfl rfl) rfl rfl rfl ?_
        refine simL_val (q_ext rfl rfl rfl) rfl rfl rfl ?_
        refine simL_val (q_ext rfl rfl rfl) rfl rfl rfl ?_
        refine simL_val (q_asg rfl rfl) rfl rfl rfl ?_
        refine simL_val (q_asg rfl rfl) rfl rfl rfl ?_
        refine simL_nil ?_
        refine nrm_then ?_
        refine sim_seq ?_
        refine sim_region ?_
        refine simL_val (q_move rfl rfl) rfl rfl rfl ?_
        refine simL_val (q_move rfl rfl) rfl rfl rfl ?_
        refine simL_val (q_move rfl rfl) rfl rfl rfl ?_
        refine simL_val (q_move rfl rfl) rfl rfl rfl ?_
        refine simL_val (q_move rfl rfl) rfl rfl rfl ?_
        refine simL_val (q_add rfl rfl rfl) rfl rfl rfl ?_
        refine simL_ask (fun hb19v => ?_)
        obtain ⟨a20v, c21v, hS22v, hr23v, hc24v, hm25v⟩ := slice_pre (lo := x1) (hi := IntKind.i64.wrap (x1 + s6v.2.1)) h0 hc0 hb19v
        refine simL_val (q_sub_ro (l := x0) (lo' := x1) (hi' := IntKind.i64.wrap (x1 + s6v.2.1)) rfl rfl rfl rfl Try.underlying23 Try.sizeOf5 (.inr ⟨_, rfl⟩) (.inr ⟨_, rfl⟩) hb19v hc0 hS22v) rfl rfl rfl ?_
        refine simL_bind (fun s30v hs32v => ?_)
        refine simL_lend 0 rfl (fun hq26v hq27v hq28v hq29v => ?_)
        refine simL_eff (re_call (vs := [.slice y17v.1 s16v.1.length y17v.2, .slice a20v ((cut x0 x1 (IntKind.i64.wrap (x1 + s6v.2.1))).length) c21v]) (cap := []) (A := []) (rst := [Row 5 1 y17v.1 s16v.1.length y17v.2 (encB s16v.1), F]) rfl rfl rfl rfl rfl rfl Try.call13 (.sel 0 rfl (.sel 0 rfl (.nil _))) (synodref_SameBytes.calls _ _ k y17v.1 y17v.2 s16v.1 a20v c21v (cut x0 x1 (IntKind.i64.wrap (x1 + s6v.2.1))) (hq26v.lend 0 rfl) hq27v hq28v (hr23v.lend 1 rfl) hc24v (Nat.le_trans hm25v hm0)) hs32v) rfl rfl rfl ?_
        intro y31v
        refine simL_val (q_asg rfl rfl) rfl rfl rfl ?_
        refine simL_nil ?_
        refine nrm_then ?_
        refine sim_seq ?_
        refine sim_region ?_
        refine simL_val (q_move rfl rfl) rfl rfl rfl ?_
        refine simL_val (q_move rfl rfl) rfl rfl rfl ?_
        refine simL_val (q_move rfl rfl) rfl rfl rfl ?_
        refine simL_val (q_add rfl rfl rfl) rfl rfl rfl ?_
        refine simL_val (q_sub rfl rfl rfl) rfl rfl rfl ?_
        refine simL_ask (fun hb33v => ?_)
        obtain ⟨a34v, c35v, hS36v, hr37v, hc38v, hm39v⟩ := slice_pre (lo := (0 : Int)) (hi := IntKind.i64.wrap ((IntKind.i64.wrap (x1 + s6v.2.1)) - 1)) h0 hc0 hb33v
        refine simL_val (q_sub_ro (l := x0) (lo' := (0 : Int)) (hi' := IntKind.i64.wrap ((IntKind.i64.wrap (x1 + s6v.2.1)) - 1)) rfl rfl rfl rfl Try.underlying23 Try.sizeOf5 (.inr ⟨_, rfl⟩) (.inl ⟨rfl, rfl⟩) hb33v hc0 hS36v) rfl rfl rfl ?_
        refine simL_val (q_move rfl rfl) rfl rfl rfl ?_
        refine simL_bind (fun s40v hs42v => ?_)
        refine simL_eff (re_call (vs := [.slice a34v ((cut x0 (0 : Int) (IntKind.i64.wrap ((IntKind.i64.wrap (x1 + s6v.2.1)) - 1))).length) c35v, .int .i64 x1]) (cap := []) (A := []) (rst := [Row 5 1 y17v.1 s16v.1.length y17v.2 (encB s16v.1), F]) rfl rfl rfl rfl rfl rfl Try.call18 (.sel 0 rfl (.sel 0 rfl (.nil _))) (wire_Int.calls _ _ k a34v c35v (cut x0 (0 : Int) (IntKind.i64.wrap ((IntKind.i64.wrap (x1 + s6v.2.1)) - 1))) x1 (hr37v.lend 1 rfl) hc38v (Nat.le_trans hm39v hm0)) hs42v) rfl rfl rfl ?_
        intro y41v
        refine simL_val (q_move rfl rfl) rfl rfl rfl ?_
        refine simL_val (q_ext rfl rfl rfl) rfl rfl rfl ?_
        refine simL_val (q_ext rfl rfl rfl) rfl rfl rfl ?_
        refine simL_val (q_ext rfl rfl rfl) rfl rfl rfl ?_
        refine simL_val (q_asg rfl rfl) rfl rfl rfl ?_
        refine simL_val (q_asg rfl rfl) rfl rfl rfl ?_
        refine simL_val (q_asg rfl rfl) rfl rfl rfl ?_
        refine simL_nil ?_
        refine nrm_then ?_
        refine sim_seq ?_
        refine sim_region ?_
        refine simL_val (q_move rfl rfl) rfl rfl rfl ?_
        refine simL_val (q_move rfl rfl) rfl rfl rfl ?_
        refine simL_cut' 4 (S := Bool) (Unit) (fun s y => [(14, .int .i64 s40v.2.2), (88, .bool s)]) (fun s y => [F]) ?_ ?_
        · refine simL_caseb (fun hb48v => ?_) (fun hb49v => ?_)
          · rw [hb48v]
            refine simL_valg (q_move rfl rfl) rfl rfl rfl rfl rfl rfl ?_
            refine simL_bind (fun s45v hs47v => ?_)
            refine simL_effg (re_call (vs := [.int .i64 s16v.2]) (cap := []) (A := []) (rst := [Row 5 1 y17v.1 s16v.1.length y17v.2 (encB s16v.1), F]) rfl rfl rfl rfl rfl rfl Try.call14 (.sel 0 rfl (.sel 0 rfl (.nil _))) (synodref_Num.calls _ _ s16v.2 ) hs47v) rfl rfl rfl rfl rfl rfl ?_
            intro y46v
            refine simL_valg (q_eql rfl rfl rfl) rfl rfl rfl rfl rfl rfl ?_
            refine simL_val (q_pick rfl rfl rfl rfl rfl) rfl rfl rfl ?_
            refine simL_nil ?_
            exact nrm_cut (s := decide (s45v = (0 : Int))) () ⟨rfl, rfl, trivial⟩ (.sel 1 rfl (.nil _))
          · rw [hb49v]
            refine simL_skipd rfl rfl rfl rfl rfl rfl ?_
            refine simL_skipd rfl rfl rfl rfl rfl rfl ?_
            refine simL_skipd rfl rfl rfl rfl rfl rfl ?_
            refine simL_val (q_pick rfl rfl rfl rfl rfl) rfl rfl rfl ?_
            refine simL_nil ?_
            exact nrm_cut (s := false) () ⟨rfl, rfl, trivial⟩ (.sel 1 rfl (.nil _))
        · intro s43v y44v
          refine simL_val (q_move rfl rfl) rfl rfl rfl ?_
          refine simL_cut' 4 (S := Bool) (Unit) (fun s y => [(93, .bool s)]) (fun s y => [F]) ?_ ?_
          · refine simL_caseb (fun hb55v => ?_) (fun hb56v => ?_)
            · rw [hb55v]
              refine simL_valg (q_move rfl rfl) rfl rfl rfl rfl rfl rfl ?_
              refine simL_bind (fun s52v hs54v => ?_)
              refine simL_effg (re_call (vs := [.int .i64 s40v.2.2]) (cap := []) (A := []) (rst := [F]) rfl rfl rfl rfl rfl rfl Try.call14 (.sel 0 rfl (.nil _)) (synodref_Num.calls _ _ s40v.2.2 ) hs54v) rfl rfl rfl rfl rfl rfl ?_
              intro y53v
              refine simL_valg (q_eql rfl rfl rfl) rfl rfl rfl rfl rfl rfl ?_
              refine simL_val (q_pick rfl rfl rfl rfl rfl) rfl rfl rfl ?_
              refine simL_nil ?_
              exact nrm_cut (s := decide (s52v = (2 : Int))) () ⟨rfl, trivial⟩ (.sel 0 rfl (.nil _))
            · rw [hb56v]
              refine simL_skipd rfl rfl rfl rfl rfl rfl ?_
              refine simL_skipd rfl rfl rfl rfl rfl rfl ?_
              refine simL_skipd rfl rfl rfl rfl rfl rfl ?_
              refine simL_val (q_pick rfl rfl rfl rfl rfl) rfl rfl rfl ?_
              refine simL_nil ?_
              exact nrm_cut (s := false) () ⟨rfl, trivial⟩ (.sel 0 rfl (.nil _))
          · intro s50v y51v
            refine simL_val (q_asg rfl rfl) rfl rfl rfl ?_
            refine simL_nil ?_
            refine nrm_then ?_
            refine sim_rtn ?_
            exact rtn_fn () rfl rfl rfl (.sel 0 rfl (.nil _))
    · refine sim_seq ?_
      refine sim_region ?_
      refine simL_val (q_move rfl rfl) rfl rfl rfl ?_
      refine simL_val (q_eql rfl rfl rfl) rfl rfl rfl ?_
      refine simL_val (q_move rfl rfl) rfl rfl rfl ?_
      refine simL_valc (b := decide (s6v.1 = (0 : Int))) (fun hb68v => RQ.sub (E' := [(7, .int .i64 s6v.2.1)]) ⟨rfl, trivial⟩ (q_move rfl rfl)) rfl rfl rfl rfl rfl ?_
      refine simL_valc (b := decide (s6v.1 = (0 : Int))) (fun hb67v => RQ.sub (E' := [(37, .int .i64 s6v.2.1)]) ⟨lk_cv rfl hb67v, trivial⟩ (q_eql rfl rfl rfl)) rfl rfl rfl rfl rfl ?_
      refine simL_val (q_and rfl rfl rfl) rfl rfl rfl ?_
      refine simL_val (q_asg rfl rfl) rfl rfl rfl ?_
      refine simL_nil ?_
      refine nrm_then ?_
      refine sim_rtn ?_
      refine rtn_then ?_
      exact rtn_fn () rfl rfl rfl (.sel 0 rfl (.nil _))

def synodref1_Reader_Int.f (k : Nat) (x0_0 : List UInt8) (x0_1 : Int) (x0_2 : Int) : Option (Int × Int × Int) := if x0_2 = (0 : Int) then ((synodref1_Int.f k x0_0 x0_1).bind fun s3v => (some (s3v.1, IntKind.i64.wrap (x0_1 + s3v.2.1), s3v.2.2))) else (some (0, x0_1, x0_2))
theorem synodref1_Reader_Int.calls (W : World) (F : HA) (k : Nat) (b0 : Nat) (a0_0 : Option Addr) (c0_0 : Nat) (x0_0 : List UInt8) (x0_1 : Int) (x0_2 : Int) (h0_0 : Rd F a0_0 (encB x0_0)) (hc0_0 : x0_0.length ≤ c0_0) (hm0_0 : c0_0 ≤ maxLen) :
    Fn Try.prog W 49 [.pointer (some ⟨b0, 0, none⟩)] [obj b0 45 [.slice a0_0 x0_0.length c0_0, .int .i64 x0_1, .int .i64 x0_2]] F (synodref1_Reader_Int.f k x0_0 x0_1 x0_2) (fun (r : Int × Int × Int) (y : Unit) => .int .i64 r.1) (fun r y => [obj b0 45 [.slice a0_0 x0_0.length c0_0, .int .i64 r.2.1, .int .i64 r.2.2]]) := by
  unfold synodref1_Reader_Int.f
  refine fn_intro 38 Try.func49 rfl Try.ntmps49 rfl ?_
  refine sim_seq ?_
  refine sim_region ?_
  refine simL_val (q_asg rfl rfl) rfl rfl rfl ?_
  refine simL_nil ?_
  refine nrm_then ?_
  refine sim_seq ?_
  refine sim_seq ?_
  refine sim_region ?_
  refine simL_val (q_move rfl rfl) rfl rfl rfl ?_
  refine simL_val (q_nil rfl rfl) rfl rfl rfl ?_
  refine simL_val (q_fa rfl rfl Try.underlying45 rfl rfl Try.sizeOf3 rfl) rfl rfl rfl ?_
  refine simL_val (q_load rfl rfl Try.isAgg3 (.obj 0 rfl rfl)) rfl rfl rfl ?_
  refine simL_val (q_neq rfl rfl rfl) rfl rfl rfl ?_
  refine simL_nil ?_
  refine nrm_then ?_
  refine sim_condn rfl (fun h1v => ?_) (fun h2v => ?_)
  · refine sim_skip ?_
    refine nrm_then ?_
    refine sim_seq ?_
    refine sim_bind (fun s3v hs5v => ?_)
    refine sim_draw (Γ := Unit) () [[], [0], [0, 1], [0, 1, 2], [], [4], [4, 5], [4, 5, 6], [0, 1, 2, 3, 4, 5, 6, 7], [0, 1, 2, 3, 4, 5, 6, 7, 8], [0, 1, 2, 3, 4, 5, 6, 7, 8, 9], [0, 1, 2, 3, 4, 5, 6, 7, 8, 9], [0, 1, 2, 3, 4, 5, 6, 7, 8, 9], [0, 1, 2, 3, 4, 5, 6, 7, 8, 9, 10], [0, 1, 2, 3, 4, 5, 6, 7, 8, 9, 10, 11, 13], [0, 1, 2, 3, 4, 5, 6, 7, 8, 9, 10, 11, 12, 13, 14]] [8] [0, 1, 2, 3, 4, 5, 6, 7, 9, 10, 11, 12, 13, 14, 15] (fun i => [[0], [0], [0], [0], [0], [0], [0], [0], [], [1], [1], [1], [1], [1], [1], [1]].getD i []) (fun i => [[], [], [], [], [], [], [], [], [0, 1, 2, 3, 4, 5, 6, 7], [], [], [], [], [], [], []].getD i []) (fun γ i => [.pointer (some ⟨b0, 0, none⟩), .pointer (some ⟨b0, 0, none⟩), .pointer (some ⟨b0, 0, none⟩), .slice a0_0 x0_0.length c0_0, .pointer (some ⟨b0, 0, none⟩), .pointer (some ⟨b0, 0, none⟩), .pointer (some ⟨b0, 1, none⟩), .int .i64 x0_1, .tuple #[.int .i64 s3v.1, .int .i64 s3v.2.1, .int .i64 s3v.2.2], .tuple #[.int .i64 s3v.1, .int .i64 s3v.2.1, .int .i64 s3v.2.2], .int .i64 s3v.1, .int .i64 s3v.2.1, .int .i64 s3v.2.2, .int .i64 s3v.1, .int .i64 s3v.2.1, .int .i64 s3v.2.2].getD i undef) (fun j γ => [[obj b0 45 [.slice a0_0 x0_0.length c0_0, .int .i64 x0_1, .int .i64 x0_2], F], [obj b0 45 [.slice a0_0 x0_0.length c0_0, .int .i64 x0_1, .int .i64 x0_2], F]].getD j []) (fun γ => [(0, .pointer (some ⟨b0, 0, none⟩)), (3, .int .i64 s3v.1), (4, .int .i64 s3v.2.1), (5, .int .i64 s3v.2.2)]) mixed (by decide) (by decide) (by decide) (by decide) (by decide) (by decide) (by decide) 38 rfl (by decide) (by decide) (by decide) (Ent.refl _) ?_ ?_ (fun _ => ⟨rfl, rfl, rfl, rfl, trivial⟩) ?_
    · exact (All.cons (fun γ => (All.cons (QOb.plain [(0, .pointer (some ⟨b0, 0, none⟩))] rfl rfl (.o rfl (by decide) .nil) (q_move rfl rfl) rfl) All.nil)) (All.cons (fun γ => (All.cons (QOb.plain [(12, .pointer (some ⟨b0, 0, none⟩))] rfl rfl (.w 0 rfl rfl rfl .nil) (q_nil rfl rfl) rfl) All.nil)) (All.cons (fun γ => (All.cons (QOb.plain [(13, .pointer (some ⟨b0, 0, none⟩))] rfl rfl (.w 1 rfl rfl rfl .nil) (q_fa rfl rfl Try.underlying45 rfl rfl Try.sizeOf23 rfl) rfl) All.nil)) (All.cons (fun γ => (All.cons (QOb.plain [(14, .pointer (some ⟨b0, 0, none⟩))] rfl rfl (.w 2 rfl rfl rfl .nil) (q_load rfl rfl Try.isAgg23 (.obj 0 rfl rfl)) rfl) All.nil)) (All.cons (fun γ => (All.cons (QOb.plain [(0, .pointer (some ⟨b0, 0, none⟩))] rfl rfl (.o rfl (by decide) .nil) (q_move rfl rfl) rfl) All.nil)) (All.cons (fun γ => (All.cons (QOb.plain [(16, .pointer (some ⟨b0, 0, none⟩))] rfl rfl (.w 4 rfl rfl rfl .nil) (q_nil rfl rfl) rfl) All.nil)) (All.cons (fun γ => (All.cons (QOb.plain [(17, .pointer (some ⟨b0, 0, none⟩))] rfl rfl (.w 5 rfl rfl rfl .nil) (q_fa rfl rfl Try.underlying45 rfl rfl Try.sizeOf3 rfl) rfl) All.nil)) (All.cons (fun γ => (All.cons (QOb.plain [(18, .pointer (some ⟨b0, 1, none⟩))] rfl rfl (.w 6 rfl rfl rfl .nil) (q_load rfl rfl Try.isAgg3 (.obj 0 rfl rfl)) rfl) All.nil)) (All.cons (fun γ => (All.cons (QOb.plain [(20, .tuple #[.int .i64 s3v.1, .int .i64 s3v.2.1, .int .i64 s3v.2.2])] rfl rfl (.w 8 rfl rfl rfl .nil) (q_move rfl rfl) rfl) All.nil)) (All.cons (fun γ => (All.cons (QOb.plain [(11, .tuple #[.int .i64 s3v.1, .int .i64 s3v.2.1, .int .i64 s3v.2.2])] rfl rfl (.w 9 rfl rfl rfl .nil) (q_ext rfl rfl rfl) rfl) All.nil)) (All.cons (fun γ => (All.cons (QOb.plain [(11, .tuple #[.int .i64 s3v.1, .int .i64 s3v.2.1, .int .i64 s3v.2.2])] rfl rfl (.w 9 rfl rfl rfl .nil) (q_ext rfl rfl rfl) rfl) All.nil)) (All.cons (fun γ => (All.cons (QOb.plain [(11, .tuple #[.int .i64 s3v.1, .int .i64 s3v.2.1, .int .i64 s3v.2.2])] rfl rfl (.w 9 rfl rfl rfl .nil) (q_ext rfl rfl rfl) rfl) All.nil)) (All.cons (fun γ => (All.cons (QOb.plain [(21, .int .i64 s3v.1)] rfl rfl (.w 10 rfl rfl rfl .nil) (q_asg rfl rfl) rfl) All.nil)) (All.cons (fun γ => (All.cons (QOb.plain [(22, .int .i64 s3v.2.1)] rfl rfl (.w 11 rfl rfl rfl .nil) (q_asg rfl rfl) rfl) All.nil)) (All.cons (fun γ => (All.cons (QOb.plain [(23, .int .i64 s3v.2.2)] rfl rfl (.w 12 rfl rfl rfl .nil) (q_asg rfl rfl) rfl) All.nil)) All.nil)))))))))))))))
    · exact (All.cons (fun γ => EOb.mk (Z := Unit) [(15, .slice a0_0 x0_0.length c0_0), (19, .int .i64 x0_1)] (fun z => ()) rfl rfl (.w 3 rfl rfl rfl (.w 7 rfl rfl rfl .nil)) (re_call (vs := [.slice a0_0 x0_0.length c0_0, .int .i64 x0_1]) (cap := []) (A := []) (rst := [obj b0 45 [.slice a0_0 x0_0.length c0_0, .int .i64 x0_1, .int .i64 x0_2], F]) rfl rfl rfl rfl rfl rfl Try.call19 (.sel 0 rfl (.sel 0 rfl (.nil _))) (synodref1_Int.calls _ _ k a0_0 c0_0 x0_0 x0_1 (h0_0.lend 1 rfl) hc0_0 hm0_0) hs5v) (fun _ => ⟨rfl, rfl, rfl, rfl, rfl, rfl, rfl, rfl, trivial⟩) (fun _ => .inr rfl) (fun z => Ent.refl _)) All.nil)
    · intro g6v
      refine nrm_then ?_
      refine sim_seq ?_
      refine sim_region ?_
      refine simL_val (q_move rfl rfl) rfl rfl rfl ?_
      refine simL_val (q_move rfl rfl) rfl rfl rfl ?_
      refine simL_val (q_nil rfl rfl) rfl rfl rfl ?_
      refine simL_val (q_fa rfl rfl Try.underlying45 rfl rfl Try.sizeOf3 rfl) rfl rfl rfl ?_
      refine simL_do (re_store 0 rfl rfl rfl Try.sizeOf3 rfl rfl (one_of (by rfl)) rfl rfl) rfl rfl ?_
      intro _
      refine simL_nil ?_
      refine nrm_then ?_
      refine sim_seq ?_
      refine sim_region ?_
      refine simL_val (q_move rfl rfl) rfl rfl rfl ?_
      refine simL_val (q_move rfl rfl) rfl rfl rfl ?_
      refine simL_val (q_nil rfl rfl) rfl rfl rfl ?_
      refine simL_val (q_fa rfl rfl Try.underlying45 rfl rfl Try.sizeOf3 rfl) rfl rfl rfl ?_
      refine simL_val (q_load rfl rfl Try.isAgg3 (.obj 0 rfl rfl)) rfl rfl rfl ?_
      refine simL_val (q_move rfl rfl) rfl rfl rfl ?_
      refine simL_val (q_add rfl rfl rfl) rfl rfl rfl ?_
      refine simL_val (q_nil rfl rfl) rfl rfl rfl ?_
      refine simL_val (q_fa rfl rfl Try.underlying45 rfl rfl Try.sizeOf3 rfl) rfl rfl rfl ?_
      refine simL_do (re_store 0 rfl rfl rfl Try.sizeOf3 rfl rfl (one_of (by rfl)) rfl rfl) rfl rfl ?_
      intro _
      refine simL_nil ?_
      refine nrm_then ?_
      refine sim_seq ?_
      refine sim_region ?_
      refine simL_val (q_move rfl rfl) rfl rfl rfl ?_
      refine simL_val (q_asg rfl rfl) rfl rfl rfl ?_
      refine simL_nil ?_
      refine nrm_then ?_
      refine sim_rtn ?_
      exact rtn_fn () rfl rfl rfl (.sel 0 rfl (.sel 0 rfl (.nil _)))
  · refine sim_seq ?_
    refine sim_region ?_
    refine simL_val (q_asg rfl rfl) rfl rfl rfl ?_
    refine simL_nil ?_
    refine nrm_then ?_
    refine sim_rtn ?_
    refine rtn_then ?_
    exact rtn_fn () rfl rfl rfl (.sel 0 rfl (.sel 0 rfl (.nil _)))

def synodref1_Reader_Bool.f (k : Nat) (x0_0 : List UInt8) (x0_1 : Int) (x0_2 : Int) : Option (Bool × Int × Int) := (synodref1_Reader_Int.f k x0_0 x0_1 x0_2).bind fun s1v => ((if ((decide (s1v.2.2 = (0 : Int))) && (decide ((1 : Int) < s1v.1))) = true then (some (x0_1, 4)) else (some (s1v.2.1, s1v.2.2))).bind fun s4v => (some ((decide (s4v.2 = (0 : Int))) && (decide (s1v.1 = (1 : Int))), s4v.1, s4v.2)))
theorem synodref1_Reader_Bool.calls (W : World) (F : HA) (k : Nat) (b0 : Nat) (a0_0 : Option Addr) (c0_0 : Nat) (x0_0 : List UInt8) (x0_1 : Int) (x0_2 : Int) (h0_0 : Rd F a0_0 (encB x0_0)) (hc0_0 : x0_0.length ≤ c0_0) (hm0_0 : c0_0 ≤ maxLen) :
    Fn Try.prog W 50 [.pointer (some ⟨b0, 0, none⟩)] [obj b0 45 [.slice a0_0 x0_0.length c0_0, .int .i64 x0_1, .int .i64 x0_2]] F (synodref1_Reader_Bool.f k x0_0 x0_1 x0_2) (fun (r : Bool × Int × Int) (y : Unit) => .bool r.1) (fun r y => [obj b0 45 [.slice a0_0 x0_0.length c0_0, .int .i64 r.2.1, .int .i64 r.2.2]]) := by
  unfold synodref1_Reader_Bool.f
  refine fn_intro 36 Try.func50 rfl Try.ntmps50 rfl ?_
  refine sim_seq ?_
  refine sim_region ?_
  refine simL_val (q_asg rfl rfl) rfl rfl rfl ?_
  refine simL_nil ?_
  refine nrm_then ?_
  refine sim_seq ?_
  refine sim_region ?_
  refine simL_val (q_move rfl rfl) rfl rfl rfl ?_
  refine simL_val (q_nil rfl rfl) rfl rfl rfl ?_
  refine simL_val (q_fa rfl rfl Try.underlying45 rfl rfl Try.sizeOf3 rfl) rfl rfl rfl ?_
  refine simL_val (q_load rfl rfl Try.isAgg3 (.obj 0 rfl rfl)) rfl rfl rfl ?_
  refine simL_val (q_asg rfl rfl) rfl rfl rfl ?_
  refine simL_nil ?_
  refine nrm_then ?_
  refine sim_seq ?_
  refine sim_region ?_
  refine simL_val (q_move rfl rfl) rfl rfl rfl ?_
  refine simL_bind (fun s1v hs3v => ?_)
  refine simL_eff (re_call (vs := [.pointer (some ⟨b0, 0, none⟩)]) (cap := []) (A := [obj b0 45 [.slice a0_0 x0_0.length c0_0, .int .i64 x0_1, .int .i64 x0_2]]) (rst := [F]) rfl rfl rfl rfl rfl rfl Try.call49 (.sel 0 rfl (.sel 0 rfl (.nil _))) (synodref1_Reader_Int.calls _ _ k b0 a0_0 c0_0 x0_0 x0_1 x0_2 (h0_0.lend 0 rfl) hc0_0 hm0_0) hs3v) rfl rfl rfl ?_
  intro y2v
  refine simL_val (q_asg rfl rfl) rfl rfl rfl ?_
  refine simL_nil ?_
  refine nrm_then ?_
  refine sim_cut (S := Int × Int) (Unit) (fun s y => [(0, .pointer (some ⟨b0, 0, none⟩)), (4, .int .i64 s1v.1)]) (fun s y => [obj b0 45 [.slice a0_0 x0_0.length c0_0, .int .i64 s.1, .int .i64 s.2], F]) ?_ ?_
  · refine sim_seq ?_
    refine sim_region ?_
    refine simL_val (q_move rfl rfl) rfl rfl rfl ?_
    refine simL_val (q_nil rfl rfl) rfl rfl rfl ?_
    refine simL_val (q_fa rfl rfl Try.underlying45 rfl rfl Try.sizeOf3 rfl) rfl rfl rfl ?_
    refine simL_val (q_load rfl rfl Try.isAgg3 (.obj 0 rfl rfl)) rfl rfl rfl ?_
    refine simL_val (q_eql rfl rfl rfl) rfl rfl rfl ?_
    refine simL_val (q_move rfl rfl) rfl rfl rfl ?_
    refine simL_valc (b := decide (s1v.2.2 = (0 : Int))) (fun hb9v => RQ.sub (E' := [(4, .int .i64 s1v.1)]) ⟨rfl, trivial⟩ (q_move rfl rfl)) rfl rfl rfl rfl rfl ?_
    refine simL_valc (b := decide (s1v.2.2 = (0 : Int))) (fun hb8v => RQ.sub (E' := [(17, .int .i64 s1v.1)]) ⟨lk_cv rfl hb8v, trivial⟩ (q_gtr rfl rfl rfl)) rfl rfl rfl rfl rfl ?_
    refine simL_val (q_and rfl rfl rfl) rfl rfl rfl ?_
    refine simL_nil ?_
    refine nrm_then ?_
    refine sim_condb rfl (fun h6v => ?_) (fun h7v => ?_)
    · refine sim_seq ?_
      refine sim_region ?_
      refine simL_val (q_move rfl rfl) rfl rfl rfl ?_
      refine simL_val (q_nil rfl rfl) rfl rfl rfl ?_
      refine simL_val (q_fa rfl rfl Try.underlying45 rfl rfl Try.sizeOf3 rfl) rfl rfl rfl ?_
      refine simL_do (re_store 0 rfl rfl rfl Try.sizeOf3 rfl rfl (one_of (by rfl)) rfl rfl) rfl rfl ?_
      intro _
      refine simL_nil ?_
      refine nrm_then ?_
      refine sim_region ?_
      refine simL_val (q_move rfl rfl) rfl rfl rfl ?_
      refine simL_val (q_move rfl rfl) rfl rfl rfl ?_
      refine simL_val (q_nil rfl rfl) rfl rfl rfl ?_
      refine simL_val (q_fa rfl rfl Try.underlying45 rfl rfl Try.sizeOf3 rfl) rfl rfl rfl ?_
      refine simL_do (re_store 0 rfl rfl rfl Try.sizeOf3 rfl rfl (one_of (by rfl)) rfl rfl) rfl rfl ?_
      intro _
      refine simL_nil ?_
      exact nrm_cut (s := (x0_1, 4)) () ⟨rfl, rfl, trivial⟩ (.sel 0 rfl (.sel 0 rfl (.nil _)))
    · refine sim_skip ?_
      exact nrm_cut (s := (s1v.2.1, s1v.2.2)) () ⟨rfl, rfl, trivial⟩ (.sel 0 rfl (.sel 0 rfl (.nil _)))
  · intro s4v y5v
    refine sim_seq ?_
    refine sim_region ?_
    refine simL_val (q_move rfl rfl) rfl rfl rfl ?_
    refine simL_val (q_nil rfl rfl) rfl rfl rfl ?_
    refine simL_val (q_fa rfl rfl Try.underlying45 rfl rfl Try.sizeOf3 rfl) rfl rfl rfl ?_
    refine simL_val (q_load rfl rfl Try.isAgg3 (.obj 0 rfl rfl)) rfl rfl rfl ?_
    refine simL_val (q_eql rfl rfl rfl) rfl rfl rfl ?_
    refine simL_val (q_move rfl rfl) rfl rfl rfl ?_
    refine simL_valc (b := decide (s4v.2 = (0 : Int))) (fun hb11v => RQ.sub (E' := [(4, .int .i64 s1v.1)]) ⟨rfl, trivial⟩ (q_move rfl rfl)) rfl rfl rfl rfl rfl ?_
    refine simL_valc (b := decide (s4v.2 = (0 : Int))) (fun hb10v => RQ.sub (E' := [(33, .int .i64 s1v.1)]) ⟨lk_cv rfl hb10v, trivial⟩ (q_eql rfl rfl rfl)) rfl rfl rfl rfl rfl ?_
    refine simL_val (q_and rfl rfl rfl) rfl rfl rfl ?_
    refine simL_val (q_asg rfl rfl) rfl rfl rfl ?_
    refine simL_nil ?_
    refine nrm_then ?_
    refine sim_rtn ?_
    exact rtn_fn () rfl rfl rfl (.sel 0 rfl (.sel 0 rfl (.nil _)))

def synodref1_Reader_Bytes.f (k : Nat) (x0_0 : List UInt8) (x0_1 : Int) (x0_2 : Int) (x1 : Int) : Option (List UInt8 × Int × Int) := (synodref1_Reader_Int.f k x0_0 x0_1 x0_2).bind fun s1v => (if s1v.2.2 = (0 : Int) then ((if max x1 (0 : Int) < s1v.1 then (some 3) else (if IntKind.i64.wrap ((x0_0.length : Int) - s1v.2.1) < s1v.1 then (some 2) else (some s1v.2.2))).bind fun s6v => (if s6v = (0 : Int) then (if 0 ≤ IntKind.i64.wrap ((IntKind.i64.wrap (s1v.2.1 + s1v.1)) - s1v.1) ∧ IntKind.i64.wrap ((IntKind.i64.wrap (s1v.2.1 + s1v.1)) - s1v.1) ≤ IntKind.i64.wrap (s1v.2.1 + s1v.1) ∧ IntKind.i64.wrap (s1v.2.1 + s1v.1) ≤ (x0_0.length : Int) then ((synodref_Bytes.f (cut x0_0 (IntKind.i64.wrap ((IntKind.i64.wrap (s1v.2.1 + s1v.1)) - s1v.1)) (IntKind.i64.wrap (s1v.2.1 + s1v.1)))).bind fun s22v => (some (s22v, IntKind.i64.wrap (s1v.2.1 + s1v.1), s6v))) else none) else (some (([] : List UInt8), x0_1, s6v)))) else (some (([] : List UInt8), s1v.2.1, s1v.2.2)))
theorem synodref1_Reader_Bytes.calls (W : World) (F : HA) (k : Nat) (b0 : Nat) (a0_0 : Option Addr) (c0_0 : Nat) (x0_0 : List UInt8) (x0_1 : Int) (x0_2 : Int) (x1 : Int) (h0_0 : Rd F a0_0 (encB x0_0)) (hc0_0 : x0_0.length ≤ c0_0) (hm0_0 : c0_0 ≤ maxLen) :
    Fn Try.prog W 51 [.pointer (some ⟨b0, 0, none⟩), .int .i64 x1] [obj b0 45 [.slice a0_0 x0_0.length c0_0, .int .i64 x0_1, .int .i64 x0_2]] F (synodref1_Reader_Bytes.f k x0_0 x0_1 x0_2 x1) (fun (r : List UInt8 × Int × Int) (y : Option Addr × Nat) => .slice y.1 r.1.length y.2) (fun r y => [Row 5 1 y.1 r.1.length y.2 (encB r.1), obj b0 45 [.slice a0_0 x0_0.length c0_0, .int .i64 r.2.1, .int .i64 r.2.2]]) := by
  unfold synodref1_Reader_Bytes.f
  refine fn_intro 74 Try.func51 rfl Try.ntmps51 rfl ?_
  refine sim_seq ?_
  refine sim_region ?_
  refine simL_val (q_asg rfl rfl) rfl rfl rfl ?_
  refine simL_nil ?_
  refine nrm_then ?_
  refine sim_seq ?_
  refine sim_region ?_
  refine simL_val (q_move rfl rfl) rfl rfl rfl ?_
  refine simL_val (q_nil rfl rfl) rfl rfl rfl ?_
  refine simL_val (q_fa rfl rfl Try.underlying45 rfl rfl Try.sizeOf3 rfl) rfl rfl rfl ?_
  refine simL_val (q_load rfl rfl Try.isAgg3 (.obj 0 rfl rfl)) rfl rfl rfl ?_
  refine simL_val (q_asg rfl rfl) rfl rfl rfl ?_
  refine simL_nil ?_
  refine nrm_then ?_
  refine sim_seq ?_
  refine sim_region ?_
  refine simL_val (q_move rfl rfl) rfl rfl rfl ?_
  refine simL_bind (fun s1v hs3v => ?_)
  refine simL_eff (re_call (vs := [.pointer (some ⟨b0, 0, none⟩)]) (cap := []) (A := [obj b0 45 [.slice a0_0 x0_0.length c0_0, .int .i64 x0_1, .int .i64 x0_2]]) (rst := [F]) rfl rfl rfl rfl rfl rfl Try.call49 (.sel 0 rfl (.sel 0 rfl (.nil _))) (synodref1_Reader_Int.calls _ _ k b0 a0_0 c0_0 x0_0 x0_1 x0_2 (h0_0.lend 0 rfl) hc0_0 hm0_0) hs3v) rfl rfl rfl ?_
  intro y2v
  refine simL_val (q_asg rfl rfl) rfl rfl rfl ?_
  refine simL_nil ?_
  refine nrm_then ?_
  refine sim_seq ?_
  refine sim_seq ?_
  refine sim_region ?_
  refine simL_val (q_move rfl rfl) rfl rfl rfl ?_
  refine simL_val (q_nil rfl rfl) rfl rfl rfl ?_
  refine simL_val (q_fa rfl rfl Try.underlying45 rfl rfl Try.sizeOf3 rfl) rfl rfl rfl ?_
  refine simL_val (q_load rfl rfl Try.isAgg3 (.obj 0 rfl rfl)) rfl rfl rfl ?_
  refine simL_val (q_neq rfl rfl rfl) rfl rfl rfl ?_
  refine simL_nil ?_
  refine nrm_then ?_
  refine sim_condn rfl (fun h4v => ?_) (fun h5v => ?_)
  · refine sim_skip ?_
    refine nrm_then ?_
    refine sim_cut (S := Int) (Unit) (fun s y => [(0, .pointer (some ⟨b0, 0, none⟩)), (5, .int .i64 x0_1), (6, .int .i64 s1v.1)]) (fun s y => [obj b0 45 [.slice a0_0 x0_0.length c0_0, .int .i64 s1v.2.1, .int .i64 s], F]) ?_ ?_
    · refine sim_seq ?_
      refine sim_region ?_
      refine simL_val (q_move rfl rfl) rfl rfl rfl ?_
      refine simL_val (q_move rfl rfl) rfl rfl rfl ?_
      refine simL_val (q_max rfl rfl rfl) rfl rfl rfl ?_
      refine simL_val (q_gtr rfl rfl rfl) rfl rfl rfl ?_
      refine simL_nil ?_
      refine nrm_then ?_
      refine sim_cond rfl (fun h8v => ?_) (fun h9v => ?_)
      · refine sim_region ?_
        refine simL_val (q_move rfl rfl) rfl rfl rfl ?_
        refine simL_val (q_nil rfl rfl) rfl rfl rfl ?_
        refine simL_val (q_fa rfl rfl Try.underlying45 rfl rfl Try.sizeOf3 rfl) rfl rfl rfl ?_
        refine simL_do (re_store 0 rfl rfl rfl Try.sizeOf3 rfl rfl (one_of (by rfl)) rfl rfl) rfl rfl ?_
        intro _
        refine simL_nil ?_
        exact nrm_cut (s := 3) () ⟨rfl, rfl, rfl, trivial⟩ (.sel 0 rfl (.sel 0 rfl (.nil _)))
      · refine sim_seq ?_
        refine sim_draw (Γ := Unit) () [[], [], [1], [1, 2], [1, 2, 3], [1, 2, 3, 4], [], [6], [6, 7], [6, 7, 8], [1, 2, 3, 4, 5, 6, 7, 8, 9], [0, 1, 2, 3, 4, 5, 6, 7, 8, 9, 10]] [] [0, 1, 2, 3, 4, 5, 6, 7, 8, 9, 10, 11] (fun i => [[0], [0], [0], [0], [0], [0], [0], [0], [0], [0], [0], [0]].getD i []) (fun i => [[], [], [], [], [], [], [], [], [], [], [], []].getD i []) (fun γ i => [.int .i64 s1v.1, .pointer (some ⟨b0, 0, none⟩), .pointer (some ⟨b0, 0, none⟩), .pointer (some ⟨b0, 0, none⟩), .slice a0_0 x0_0.length c0_0, .int .i64 (x0_0.length : Int), .pointer (some ⟨b0, 0, none⟩), .pointer (some ⟨b0, 0, none⟩), .pointer (some ⟨b0, 1, none⟩), .int .i64 s1v.2.1, .int .i64 (IntKind.i64.wrap ((x0_0.length : Int) - s1v.2.1)), .bool (decide (IntKind.i64.wrap ((x0_0.length : Int) - s1v.2.1) < s1v.1))].getD i undef) (fun j γ => [[obj b0 45 [.slice a0_0 x0_0.length c0_0, .int .i64 s1v.2.1, .int .i64 s1v.2.2], F]].getD j []) (fun γ => [(0, .pointer (some ⟨b0, 0, none⟩)), (5, .int .i64 x0_1), (6, .int .i64 s1v.1), (36, .bool (decide (IntKind.i64.wrap ((x0_0.length : Int) - s1v.2.1) < s1v.1)))]) mixed (by decide) (by decide) (by decide) (by decide) (by decide) (by decide) (by decide) 74 rfl (by decide) (by decide) (by decide) (Ent.refl _) ?_ ?_ (fun _ => ⟨rfl, rfl, rfl, rfl, trivial⟩) ?_
        · exact (All.cons (fun γ => (All.cons (QOb.plain [(6, .int .i64 s1v.1)] rfl rfl (.o rfl (by decide) .nil) (q_move rfl rfl) rfl) All.nil)) (All.cons (fun γ => (All.cons (QOb.plain [(0, .pointer (some ⟨b0, 0, none⟩))] rfl rfl (.o rfl (by decide) .nil) (q_move rfl rfl) rfl) All.nil)) (All.cons (fun γ => (All.cons (QOb.plain [(26, .pointer (some ⟨b0, 0, none⟩))] rfl rfl (.w 1 rfl rfl rfl .nil) (q_nil rfl rfl) rfl) All.nil)) (All.cons (fun γ => (All.cons (QOb.plain [(27, .pointer (some ⟨b0, 0, none⟩))] rfl rfl (.w 2 rfl rfl rfl .nil) (q_fa rfl rfl Try.underlying45 rfl rfl Try.sizeOf23 rfl) rfl) All.nil)) (All.cons (fun γ => (All.cons (QOb.plain [(28, .pointer (some ⟨b0, 0, none⟩))] rfl rfl (.w 3 rfl rfl rfl .nil) (q_load rfl rfl Try.isAgg23 (.obj 0 rfl rfl)) rfl) All.nil)) (All.cons (fun γ => (All.cons (QOb.plain [(29, .slice a0_0 x0_0.length c0_0)] rfl rfl (.w 4 rfl rfl rfl .nil) (q_len rfl rfl rfl Try.underlying23) rfl) All.nil)) (All.cons (fun γ => (All.cons (QOb.plain [(0, .pointer (some ⟨b0, 0, none⟩))] rfl rfl (.o rfl (by decide) .nil) (q_move rfl rfl) rfl) All.nil)) (All.cons (fun γ => (All.cons (QOb.plain [(31, .pointer (some ⟨b0, 0, none⟩))] rfl rfl (.w 6 rfl rfl rfl .nil) (q_nil rfl rfl) rfl) All.nil)) (All.cons (fun γ => (All.cons (QOb.plain [(32, .pointer (some ⟨b0, 0, none⟩))] rfl rfl (.w 7 rfl rfl rfl .nil) (q_fa rfl rfl Try.underlying45 rfl rfl Try.sizeOf3 rfl) rfl) All.nil)) (All.cons (fun γ => (All.cons (QOb.plain [(33, .pointer (some ⟨b0, 1, none⟩))] rfl rfl (.w 8 rfl rfl rfl .nil) (q_load rfl rfl Try.isAgg3 (.obj 0 rfl rfl)) rfl) All.nil)) (All.cons (fun γ => (All.cons (QOb.plain [(30, .int .i64 (x0_0.length : Int)), (34, .int .i64 s1v.2.1)] rfl rfl (.w 5 rfl rfl rfl (.w 9 rfl rfl rfl .nil)) (q_sub rfl rfl rfl) rfl) All.nil)) (All.cons (fun γ => (All.cons (QOb.plain [(25, .int .i64 s1v.1), (35, .int .i64 (IntKind.i64.wrap ((x0_0.length : Int) - s1v.2.1)))] rfl rfl (.w 0 rfl rfl rfl (.w 10 rfl rfl rfl .nil)) (q_gtr rfl rfl rfl) rfl) All.nil)) All.nil))))))))))))
        · exact All.nil
        · intro g10v
          refine nrm_then ?_
          refine sim_cond rfl (fun h11v => ?_) (fun h12v => ?_)
          · refine sim_region ?_
            refine simL_val (q_move rfl rfl) rfl rfl rfl ?_
            refine simL_val (q_nil rfl rfl) rfl rfl rfl ?_
            refine simL_val (q_fa rfl rfl Try.underlying45 rfl rfl Try.sizeOf3 rfl) rfl rfl rfl ?_
            refine simL_do (re_store 0 rfl rfl rfl Try.sizeOf3 rfl rfl (one_of (by rfl)) rfl rfl) rfl rfl ?_
            intro _
            refine simL_nil ?_
            exact nrm_cut (s := 2) () ⟨rfl, rfl, rfl, trivial⟩ (.sel 0 rfl (.sel 0 rfl (.nil _)))
          · refine sim_skip ?_
            exact nrm_cut (s := s1v.2.2) () ⟨rfl, rfl, rfl, trivial⟩ (.sel 0 rfl (.sel 0 rfl (.nil _)))
    · intro s6v y7v
      refine sim_seq ?_
      refine sim_seq ?_
      refine sim_region ?_
      refine simL_val (q_move rfl rfl) rfl rfl rfl ?_
      refine simL_val (q_nil rfl rfl) rfl rfl rfl ?_
      refine simL_val (q_fa rfl rfl Try.underlying45 rfl rfl Try.sizeOf3 rfl) rfl rfl rfl ?_
      refine simL_val (q_load rfl rfl Try.isAgg3 (.obj 0 rfl rfl)) rfl rfl rfl ?_
      refine simL_val (q_neq rfl rfl rfl) rfl rfl rfl ?_
      refine simL_nil ?_
      refine nrm_then ?_
      refine sim_condn rfl (fun h13v => ?_) (fun h14v => ?_)
      · refine sim_skip ?_
        refine nrm_then ?_
        refine sim_seq ?_
        refine sim_region ?_
        refine simL_val (q_move rfl rfl) rfl rfl rfl ?_
        refine simL_val (q_move rfl rfl) rfl rfl rfl ?_
        refine simL_val (q_nil rfl rfl) rfl rfl rfl ?_
        refine simL_val (q_fa rfl rfl Try.underlying45 rfl rfl Try.sizeOf3 rfl) rfl rfl rfl ?_
        refine simL_val (q_load rfl rfl Try.isAgg3 (.obj 0 rfl rfl)) rfl rfl rfl ?_
        refine simL_val (q_move rfl rfl) rfl rfl rfl ?_
        refine simL_val (q_add rfl rfl rfl) rfl rfl rfl ?_
        refine simL_val (q_nil rfl rfl) rfl rfl rfl ?_
        refine simL_val (q_fa rfl rfl Try.underlying45 rfl rfl Try.sizeOf3 rfl) rfl rfl rfl ?_
        refine simL_do (re_store 0 rfl rfl rfl Try.sizeOf3 rfl rfl (one_of (by rfl)) rfl rfl) rfl rfl ?_
        intro _
        refine simL_nil ?_
        refine nrm_then ?_
        refine sim_seq ?_
        refine sim_ask (fun hb15v => ?_)
        obtain ⟨a16v, c17v, hS18v, hr19v, hc20v, hm21v⟩ := slice_pre (lo := IntKind.i64.wrap ((IntKind.i64.wrap (s1v.2.1 + s1v.1)) - s1v.1)) (hi := IntKind.i64.wrap (s1v.2.1 + s1v.1)) h0_0 hc0_0 hb15v
        refine sim_bind (fun s22v hs24v => ?_)
        refine sim_draw (Γ := (Option Addr × Nat)) (none, 0) [[], [0], [0, 1], [0, 1, 2], [], [4], [4, 5], [4, 5, 6], [], [4, 5, 6, 7, 8], [], [10], [10, 11], [10, 11, 12], [0, 1, 2, 3, 4, 5, 6, 7, 8, 9, 10, 11, 12, 13], [0, 1, 2, 3, 4, 5, 6, 7, 8, 9, 10, 11, 12, 13, 14], [0, 1, 2, 3, 4, 5, 6, 7, 8, 9, 10, 11, 12, 13, 14, 15]] [15] [0, 1, 2, 3, 4, 5, 6, 7, 8, 9, 10, 11, 12, 13, 14, 16] (fun i => [[0], [0], [0], [0], [0], [0], [0], [0], [0], [0], [0], [0], [0], [0], [0], [], [1]].getD i []) (fun i => [[], [], [], [], [], [], [], [], [], [], [], [], [], [], [], [0, 1, 2, 3, 4, 5, 6, 7, 8, 9, 10, 11, 12, 13, 14], []].getD i []) (fun γ i => [.pointer (some ⟨b0, 0, none⟩), .pointer (some ⟨b0, 0, none⟩), .pointer (some ⟨b0, 0, none⟩), .slice a0_0 x0_0.length c0_0, .pointer (some ⟨b0, 0, none⟩), .pointer (some ⟨b0, 0, none⟩), .pointer (some ⟨b0, 1, none⟩), .int .i64 (IntKind.i64.wrap (s1v.2.1 + s1v.1)), .int .i64 s1v.1, .int .i64 (IntKind.i64.wrap ((IntKind.i64.wrap (s1v.2.1 + s1v.1)) - s1v.1)), .pointer (some ⟨b0, 0, none⟩), .pointer (some ⟨b0, 0, none⟩), .pointer (some ⟨b0, 1, none⟩), .int .i64 (IntKind.i64.wrap (s1v.2.1 + s1v.1)), .slice a16v ((cut x0_0 (IntKind.i64.wrap ((IntKind.i64.wrap (s1v.2.1 + s1v.1)) - s1v.1)) (IntKind.i64.wrap (s1v.2.1 + s1v.1))).length) c17v, .slice γ.1 s22v.length γ.2, .slice γ.1 s22v.length γ.2].getD i undef) (fun j γ => [[obj b0 45 [.slice a0_0 x0_0.length c0_0, .int .i64 (IntKind.i64.wrap (s1v.2.1 + s1v.1)), .int .i64 s6v], F], [Row 5 1 γ.1 s22v.length γ.2 (encB s22v), obj b0 45 [.slice a0_0 x0_0.length c0_0, .int .i64 (IntKind.i64.wrap (s1v.2.1 + s1v.1)), .int .i64 s6v], F]].getD j []) (fun γ => [(4, .slice γ.1 s22v.length γ.2)]) mixed (by decide) (by decide) (by decide) (by decide) (by decide) (by decide) (by decide) 74 rfl (by decide) (by decide) (by decide) (Ent.refl _) ?_ ?_ (fun _ => ⟨rfl, trivial⟩) ?_
        · exact (All.cons (fun γ => (All.cons (QOb.plain [(0, .pointer (some ⟨b0, 0, none⟩))] rfl rfl (.o rfl (by decide) .nil) (q_move rfl rfl) rfl) All.nil)) (All.cons (fun γ => (All.cons (QOb.plain [(58, .pointer (some ⟨b0, 0, none⟩))] rfl rfl (.w 0 rfl rfl rfl .nil) (q_nil rfl rfl) rfl) All.nil)) (All.cons (fun γ => (All.cons (QOb.plain [(59, .pointer (some ⟨b0, 0, none⟩))] rfl rfl (.w 1 rfl rfl rfl .nil) (q_fa rfl rfl Try.underlying45 rfl rfl Try.sizeOf23 rfl) rfl) All.nil)) (All.cons (fun γ => (All.cons (QOb.plain [(60, .pointer (some ⟨b0, 0, none⟩))] rfl rfl (.w 2 rfl rfl rfl .nil) (q_load rfl rfl Try.isAgg23 (.obj 0 rfl rfl)) rfl) All.nil)) (All.cons (fun γ => (All.cons (QOb.plain [(0, .pointer (some ⟨b0, 0, none⟩))] rfl rfl (.o rfl (by decide) .nil) (q_move rfl rfl) rfl) All.nil)) (All.cons (fun γ => (All.cons (QOb.plain [(62, .pointer (some ⟨b0, 0, none⟩))] rfl rfl (.w 4 rfl rfl rfl .nil) (q_nil rfl rfl) rfl) All.nil)) (All.cons (fun γ => (All.cons (QOb.plain [(63, .pointer (some ⟨b0, 0, none⟩))] rfl rfl (.w 5 rfl rfl rfl .nil) (q_fa rfl rfl Try.underlying45 rfl rfl Try.sizeOf3 rfl) rfl) All.nil)) (All.cons (fun γ => (All.cons (QOb.plain [(64, .pointer (some ⟨b0, 1, none⟩))] rfl rfl (.w 6 rfl rfl rfl .nil) (q_load rfl rfl Try.isAgg3 (.obj 0 rfl rfl)) rfl) All.nil)) (All.cons (fun γ => (All.cons (QOb.plain [(6, .int .i64 s1v.1)] rfl rfl (.o rfl (by decide) .nil) (q_move rfl rfl) rfl) All.nil)) (All.cons (fun γ => (All.cons (QOb.plain [(65, .int .i64 (IntKind.i64.wrap (s1v.2.1 + s1v.1))), (66, .int .i64 s1v.1)] rfl rfl (.w 7 rfl rfl rfl (.w 8 rfl rfl rfl .nil)) (q_sub rfl rfl rfl) rfl) All.nil)) (All.cons (fun γ => (All.cons (QOb.plain [(0, .pointer (some ⟨b0, 0, none⟩))] rfl rfl (.o rfl (by decide) .nil) (q_move rfl rfl) rfl) All.nil)) (All.cons (fun γ => (All.cons (QOb.plain [(68, .pointer (some ⟨b0, 0, none⟩))] rfl rfl (.w 10 rfl rfl rfl .nil) (q_nil rfl rfl) rfl) All.nil)) (All.cons (fun γ => (All.cons (QOb.plain [(69, .pointer (some ⟨b0, 0, none⟩))] rfl rfl (.w 11 rfl rfl rfl .nil) (q_fa rfl rfl Try.underlying45 rfl rfl Try.sizeOf3 rfl) rfl) All.nil)) (All.cons (fun γ => (All.cons (QOb.plain [(70, .pointer (some ⟨b0, 1, none⟩))] rfl rfl (.w 12 rfl rfl rfl .nil) (q_load rfl rfl Try.isAgg3 (.obj 0 rfl rfl)) rfl) All.nil)) (All.cons (fun γ => (All.cons (QOb.plain [(61, .slice a0_0 x0_0.length c0_0), (67, .int .i64 (IntKind.i64.wrap ((IntKind.i64.wrap (s1v.2.1 + s1v.1)) - s1v.1))), (71, .int .i64 (IntKind.i64.wrap (s1v.2.1 + s1v.1)))] rfl rfl (.w 3 rfl rfl rfl (.w 9 rfl rfl rfl (.w 13 rfl rfl rfl .nil))) (q_sub_ro (l := x0_0) (lo' := IntKind.i64.wrap ((IntKind.i64.wrap (s1v.2.1 + s1v.1)) - s1v.1)) (hi' := IntKind.i64.wrap (s1v.2.1 + s1v.1)) rfl rfl rfl rfl Try.underlying23 Try.sizeOf5 (.inr ⟨_, rfl⟩) (.inr ⟨_, rfl⟩) hb15v hc0_0 hS18v) rfl) All.nil)) (All.cons (fun γ => (All.cons (QOb.plain [(73, .slice γ.1 s22v.length γ.2)] rfl rfl (.w 15 rfl rfl rfl .nil) (q_asg rfl rfl) rfl) All.nil)) All.nil))))))))))))))))
        · exact (All.cons (fun γ => EOb.mk (Z := Option Addr × Nat) [(72, .slice a16v ((cut x0_0 (IntKind.i64.wrap ((IntKind.i64.wrap (s1v.2.1 + s1v.1)) - s1v.1)) (IntKind.i64.wrap (s1v.2.1 + s1v.1))).length) c17v)] (fun z => z) rfl rfl (.w 14 rfl rfl rfl .nil) (re_call (vs := [.slice a16v ((cut x0_0 (IntKind.i64.wrap ((IntKind.i64.wrap (s1v.2.1 + s1v.1)) - s1v.1)) (IntKind.i64.wrap (s1v.2.1 + s1v.1))).length) c17v]) (cap := []) (A := []) (rst := [obj b0 45 [.slice a0_0 x0_0.length c0_0, .int .i64 (IntKind.i64.wrap (s1v.2.1 + s1v.1)), .int .i64 s6v], F]) rfl rfl rfl rfl rfl rfl Try.call21 (.sel 0 rfl (.sel 0 rfl (.nil _))) (synodref_Bytes.calls _ _ a16v c17v (cut x0_0 (IntKind.i64.wrap ((IntKind.i64.wrap (s1v.2.1 + s1v.1)) - s1v.1)) (IntKind.i64.wrap (s1v.2.1 + s1v.1))) (hr19v.lend 1 rfl) hc20v (Nat.le_trans hm21v hm0_0)) hs24v) (fun _ => ⟨rfl, rfl, rfl, rfl, rfl, rfl, rfl, rfl, rfl, rfl, rfl, rfl, rfl, rfl, rfl, trivial⟩) (fun _ => .inr rfl) (fun z => Ent.refl _)) All.nil)
        · intro g25v
          refine nrm_then ?_
          refine sim_rtn ?_
          exact rtn_fn (g25v.1, g25v.2) rfl rfl rfl (.sel 0 rfl (.sel 0 rfl (.sel 0 rfl (.nil _))))
      · refine sim_seq ?_
        refine sim_region ?_
        refine simL_val (q_move rfl rfl) rfl rfl rfl ?_
        refine simL_val (q_move rfl rfl) rfl rfl rfl ?_
        refine simL_val (q_nil rfl rfl) rfl rfl rfl ?_
        refine simL_val (q_fa rfl rfl Try.underlying45 rfl rfl Try.sizeOf3 rfl) rfl rfl rfl ?_
        refine simL_do (re_store 0 rfl rfl rfl Try.sizeOf3 rfl rfl (one_of (by rfl)) rfl rfl) rfl rfl ?_
        intro _
        refine simL_nil ?_
        refine nrm_then ?_
        refine sim_seq ?_
        refine sim_region ?_
        refine simL_val (q_asg rfl rfl) rfl rfl rfl ?_
        refine simL_nil ?_
        refine nrm_then ?_
        refine sim_rtn ?_
        refine rtn_then ?_
        exact rtn_fn (none, 0) rfl rfl rfl (.row_nil (.sel 0 rfl (.sel 0 rfl (.nil _))))
  · refine sim_seq ?_
    refine sim_region ?_
    refine simL_val (q_asg rfl rfl) rfl rfl rfl ?_
    refine simL_nil ?_
    refine nrm_then ?_
    refine sim_rtn ?_
    refine rtn_then ?_
    exact rtn_fn (none, 0) rfl rfl rfl (.row_nil (.sel 0 rfl (.sel 0 rfl (.nil _))))

def synodref1_Reader_Text.f (k : Nat) (x0_0 : List UInt8) (x0_1 : Int) (x0_2 : Int) (x1 : Int) : Option (List UInt8 × Int × Int) := (synodref1_Reader_Bytes.f k x0_0 x0_1 x0_2 x1).bind fun s1v => (some (s1v.1, s1v.2.1, s1v.2.2))
theorem synodref1_Reader_Text.calls (W : World) (F : HA) (k : Nat) (b0 : Nat) (a0_0 : Option Addr) (c0_0 : Nat) (x0_0 : List UInt8) (x0_1 : Int) (x0_2 : Int) (x1 : Int) (h0_0 : Rd F a0_0 (encB x0_0)) (hc0_0 : x0_0.length ≤ c0_0) (hm0_0 : c0_0 ≤ maxLen) :
    Fn Try.prog W 52 [.pointer (some ⟨b0, 0, none⟩), .int .i64 x1] [obj b0 45 [.slice a0_0 x0_0.length c0_0, .int .i64 x0_1, .int .i64 x0_2]] F (synodref1_Reader_Text.f k x0_0 x0_1 x0_2 x1) (fun (r : List UInt8 × Int × Int) (y : Unit) => str r.1) (fun r y => [obj b0 45 [.slice a0_0 x0_0.length c0_0, .int .i64 r.2.1, .int .i64 r.2.2]]) := by
  unfold synodref1_Reader_Text.f
  refine fn_intro 9 Try.func52 rfl Try.ntmps52 rfl ?_
  refine sim_seq ?_
  refine sim_region ?_
  refine simL_val (q_asg rfl rfl) rfl rfl rfl ?_
  refine simL_nil ?_
  refine nrm_then ?_
  refine sim_seq ?_
  refine sim_region ?_
  refine simL_val (q_move rfl rfl) rfl rfl rfl ?_
  refine simL_val (q_move rfl rfl) rfl rfl rfl ?_
  refine simL_bind (fun s1v hs3v => ?_)
  refine simL_eff (re_call (vs := [.pointer (some ⟨b0, 0, none⟩), .int .i64 x1]) (cap := []) (A := [obj b0 45 [.slice a0_0 x0_0.length c0_0, .int .i64 x0_1, .int .i64 x0_2]]) (rst := [F]) rfl rfl rfl rfl rfl rfl Try.call51 (.sel 0 rfl (.sel 0 rfl (.nil _))) (synodref1_Reader_Bytes.calls _ _ k b0 a0_0 c0_0 x0_0 x0_1 x0_2 x1 (h0_0.lend 0 rfl) hc0_0 hm0_0) hs3v) rfl rfl rfl ?_
  intro y2v
  refine simL_val (q_tostr rfl rfl Try.underlying23 Try.underlying5 Try.underlying9 (Rds.row 0 rfl) rfl) rfl rfl rfl ?_
  refine simL_val (q_asg rfl rfl) rfl rfl rfl ?_
  refine simL_nil ?_
  refine nrm_then ?_
  refine sim_rtn ?_
  exact rtn_fn () rfl rfl rfl (.sel 1 rfl (.sel 1 rfl (.nil _)))

def synodlaw1_asked.l0 : Nat → List UInt8 → Int → Option (Unit)
  | 0, _, _ => none
  | k + 1, z41v, z42v => if z42v < (z41v.length : Int) then (if 0 ≤ z42v ∧ z42v < (z41v.length : Int) then (synodlaw1_asked.l0 k (z41v.set z42v.toNat 9) (IntKind.i64.wrap (z42v + 1))) else none) else (some ())
def synodlaw1_asked.f (k : Nat) (x0_0 : List UInt8) (x0_1 : Int) (x0_2 : Int) (x1_0 : List UInt8) (x1_1 : Int) (x1_2 : Int) (x2_0 : Int) (x2_1 : Int) : Option (Bool × Int × Int × Int × Int) := if x2_0 = (0 : Int) then ((wire_Reader_Int.f k x0_0 x0_1 x0_2).bind fun s4v => ((synodref1_Reader_Int.f k x1_0 x1_1 x1_2).bind fun s7v => (some (decide (s4v.1 = s7v.1), s4v.2.1, s4v.2.2, s7v.2.1, s7v.2.2)))) else (if x2_0 = (1 : Int) then ((wire_Reader_Bool.f k x0_0 x0_1 x0_2).bind fun s12v => ((synodref1_Reader_Bool.f k x1_0 x1_1 x1_2).bind fun s15v => (some (s12v.1 == s15v.1, s12v.2.1, s12v.2.2, s15v.2.1, s15v.2.2)))) else (if x2_0 = (2 : Int) then ((wire_Reader_Bytes.f k x0_0 x0_1 x0_2 x2_1).bind fun s20v => ((synodref1_Reader_Bytes.f k x1_0 x1_1 x1_2 x2_1).bind fun s23v => ((synodref_SameBytes.f k s20v.1 s23v.1).bind fun s34v => ((synodlaw1_asked.l0 k s20v.1 0).bind fun s37v => (some (s34v, s20v.2.1, s20v.2.2, s23v.2.1, s23v.2.2)))))) else (if x2_0 = (3 : Int) then ((wire_Reader_Text.f k x0_0 x0_1 x0_2 x2_1).bind fun s52v => ((synodref1_Reader_Text.f k x1_0 x1_1 x1_2 x2_1).bind fun s55v => (some (decide (s52v.1 = s55v.1), s52v.2.1, s52v.2.2, s55v.2.1, s55v.2.2)))) else (some (true, x0_1, x0_2, x1_1, x1_2)))))
theorem synodlaw1_asked.calls (W : World) (F : HA) (k : Nat) (b0 : Nat) (a0_0 : Option Addr) (c0_0 : Nat) (x0_0 : List UInt8) (x0_1 : Int) (x0_2 : Int) (b1 : Nat) (a1_0 : Option Addr) (c1_0 : Nat) (x1_0 : List UInt8) (x1_1 : Int) (x1_2 : Int) (x2_0 : Int) (x2_1 : Int) (h0_0 : Rd F a0_0 (encB x0_0)) (hc0_0 : x0_0.length ≤ c0_0) (hm0_0 : c0_0 ≤ maxLen) (h1_0 : Rd F a1_0 (encB x1_0)) (hc1_0 : x1_0.length ≤ c1_0) (hm1_0 : c1_0 ≤ maxLen) :
    Fn Try.prog W 23 [.pointer (some ⟨b0, 0, none⟩), .pointer (some ⟨b1, 0, none⟩), .agg #[.int .i64 x2_0, .int .i64 x2_1]] [obj b0 78 [.slice a0_0 x0_0.length c0_0, .int .i64 x0_1, .int .i64 x0_2], obj b1 45 [.slice a1_0 x1_0.length c1_0, .int .i64 x1_1, .int .i64 x1_2]] F (synodlaw1_asked.f k x0_0 x0_1 x0_2 x1_0 x1_1 x1_2 x2_0 x2_1) (fun (r : Bool × Int × Int × Int × Int) (y : Unit) => .bool r.1) (fun r y => [obj b0 78 [.slice a0_0 x0_0.length c0_0, .int .i64 r.2.1, .int .i64 r.2.2.1], obj b1 45 [.slice a1_0 x1_0.length c1_0, .int .i64 r.2.2.2.1, .int .i64 r.2.2.2.2]]) := by
  unfold synodlaw1_asked.f
  refine fn_intro 59 Try.func23 rfl Try.ntmps23 rfl ?_
  refine sim_seq ?_
  refine sim_region ?_
  refine simL_eff (re_box rfl rfl rfl) rfl rfl rfl ?_
  intro b1v
  refine simL_val (q_asg rfl rfl) rfl rfl rfl ?_
  refine simL_nil ?_
  refine nrm_then ?_
  refine sim_seq ?_
  refine sim_seq ?_
  refine sim_region ?_
  refine simL_val (q_fa rfl rfl Try.underlying48 rfl rfl Try.sizeOf3 rfl) rfl rfl rfl ?_
  refine simL_val (q_load rfl rfl Try.isAgg3 (.obj 0 rfl rfl)) rfl rfl rfl ?_
  refine simL_nil ?_
  refine nrm_then ?_
  refine sim_block ?_
  refine sim_seq ?_
  refine sim_region ?_
  refine simL_val (q_eql rfl rfl rfl) rfl rfl rfl ?_
  refine simL_val (q_asg rfl rfl) rfl rfl rfl ?_
  refine simL_nil ?_
  refine nrm_then ?_
  refine sim_cond rfl (fun h2v => ?_) (fun h3v => ?_)
  · refine sim_seq ?_
    refine sim_region ?_
    refine simL_val (q_move rfl rfl) rfl rfl rfl ?_
    refine simL_bind (fun s4v hs6v => ?_)
    refine simL_eff (re_call (vs := [.pointer (some ⟨b0, 0, none⟩)]) (cap := []) (A := [obj b0 78 [.slice a0_0 x0_0.length c0_0, .int .i64 x0_1, .int .i64 x0_2]]) (rst := [obj b1v 48 [.int .i64 x2_0, .int .i64 x2_1], obj b1 45 [.slice a1_0 x1_0.length c1_0, .int .i64 x1_1, .int .i64 x1_2], F]) rfl rfl rfl rfl rfl rfl Try.call43 (.sel 1 rfl (.sel 0 rfl (.sel 0 rfl (.sel 0 rfl (.nil _))))) (wire_Reader_Int.calls _ _ k b0 a0_0 c0_0 x0_0 x0_1 x0_2 (h0_0.lend 2 rfl) hc0_0 hm0_0) hs6v) rfl rfl rfl ?_
    intro y5v
    refine simL_val (q_move rfl rfl) rfl rfl rfl ?_
    refine simL_bind (fun s7v hs9v => ?_)
    refine simL_eff (re_call (vs := [.pointer (some ⟨b1, 0, none⟩)]) (cap := []) (A := [obj b1 45 [.slice a1_0 x1_0.length c1_0, .int .i64 x1_1, .int .i64 x1_2]]) (rst := [obj b0 78 [.slice a0_0 x0_0.length c0_0, .int .i64 s4v.2.1, .int .i64 s4v.2.2], obj b1v 48 [.int .i64 x2_0, .int .i64 x2_1], F]) rfl rfl rfl rfl rfl rfl Try.call49 (.sel 2 rfl (.sel 0 rfl (.sel 0 rfl (.sel 0 rfl (.nil _))))) (synodref1_Reader_Int.calls _ _ k b1 a1_0 c1_0 x1_0 x1_1 x1_2 (h1_0.lend 2 rfl) hc1_0 hm1_0) hs9v) rfl rfl rfl ?_
    intro y8v
    refine simL_val (q_eql rfl rfl rfl) rfl rfl rfl ?_
    refine simL_val (q_asg rfl rfl) rfl rfl rfl ?_
    refine simL_nil ?_
    refine nrm_then ?_
    refine sim_rtn ?_
    refine rtn_block ?_
    refine rtn_then ?_
    exact rtn_fn () rfl rfl rfl (.sel 1 rfl (.sel 0 rfl (.sel 1 rfl (.nil _))))
  · refine sim_seq ?_
    refine sim_region ?_
    refine simL_val (q_eql rfl rfl rfl) rfl rfl rfl ?_
    refine simL_val (q_asg rfl rfl) rfl rfl rfl ?_
    refine simL_nil ?_
    refine nrm_then ?_
    refine sim_cond rfl (fun h10v => ?_) (fun h11v => ?_)
    · refine sim_seq ?_
      refine sim_region ?_
      refine simL_val (q_move rfl rfl) rfl rfl rfl ?_
      refine simL_bind (fun s12v hs14v => ?_)
      refine simL_eff (re_call (vs := [.pointer (some ⟨b0, 0, none⟩)]) (cap := []) (A := [obj b0 78 [.slice a0_0 x0_0.length c0_0, .int .i64 x0_1, .int .i64 x0_2]]) (rst := [obj b1v 48 [.int .i64 x2_0, .int .i64 x2_1], obj b1 45 [.slice a1_0 x1_0.length c1_0, .int .i64 x1_1, .int .i64 x1_2], F]) rfl rfl rfl rfl rfl rfl Try.call44 (.sel 1 rfl (.sel 0 rfl (.sel 0 rfl (.sel 0 rfl (.nil _))))) (wire_Reader_Bool.calls _ _ k b0 a0_0 c0_0 x0_0 x0_1 x0_2 (h0_0.lend 2 rfl) hc0_0 hm0_0) hs14v) rfl rfl rfl ?_
      intro y13v
      refine simL_val (q_move rfl rfl) rfl rfl rfl ?_
      refine simL_bind (fun s15v hs17v => ?_)
      refine simL_eff (re_call (vs := [.pointer (some ⟨b1, 0, none⟩)]) (cap := []) (A := [obj b1 45 [.slice a1_0 x1_0.length c1_0, .int .i64 x1_1, .int .i64 x1_2]]) (rst := [obj b0 78 [.slice a0_0 x0_0.length c0_0, .int .i64 s12v.2.1, .int .i64 s12v.2.2], obj b1v 48 [.int .i64 x2_0, .int .i64 x2_1], F]) rfl rfl rfl rfl rfl rfl Try.call50 (.sel 2 rfl (.sel 0 rfl (.sel 0 rfl (.sel 0 rfl (.nil _))))) (synodref1_Reader_Bool.calls _ _ k b1 a1_0 c1_0 x1_0 x1_1 x1_2 (h1_0.lend 2 rfl) hc1_0 hm1_0) hs17v) rfl rfl rfl ?_
      intro y16v
      refine simL_val (q_eqb rfl rfl rfl Try.underlying4) rfl rfl rfl ?_
      refine simL_val (q_asg rfl rfl) rfl rfl rfl ?_
      refine simL_nil ?_
      refine nrm_then ?_
      refine sim_rtn ?_
      refine rtn_block ?_
      refine rtn_then ?_
      exact rtn_fn () rfl rfl rfl (.sel 1 rfl (.sel 0 rfl (.sel 1 rfl (.nil _))))
    · refine sim_seq ?_
      refine sim_region ?_
      refine simL_val (q_eql rfl rfl rfl) rfl rfl rfl ?_
      refine simL_val (q_asg rfl rfl) rfl rfl rfl ?_
      refine simL_nil ?_
      refine nrm_then ?_
      refine sim_cond rfl (fun h18v => ?_) (fun h19v => ?_)
      · refine sim_seq ?_
        refine sim_region ?_
        refine simL_val (q_move rfl rfl) rfl rfl rfl ?_
        refine simL_val (q_fa rfl rfl Try.underlying48 rfl rfl Try.sizeOf3 rfl) rfl rfl rfl ?_
        refine simL_val (q_load rfl rfl Try.isAgg3 (.obj 0 rfl rfl)) rfl rfl rfl ?_
        refine simL_bind (fun s20v hs22v => ?_)
        refine simL_eff (re_call (vs := [.pointer (some ⟨b0, 0, none⟩), .int .i64 x2_1]) (cap := []) (A := [obj b0 78 [.slice a0_0 x0_0.length c0_0, .int .i64 x0_1, .int .i64 x0_2]]) (rst := [obj b1v 48 [.int .i64 x2_0, .int .i64 x2_1], obj b1 45 [.slice a1_0 x1_0.length c1_0, .int .i64 x1_1, .int .i64 x1_2], F]) rfl rfl rfl rfl rfl rfl Try.call45 (.sel 1 rfl (.sel 0 rfl (.sel 0 rfl (.sel 0 rfl (.nil _))))) (wire_Reader_Bytes.calls _ _ k b0 a0_0 c0_0 x0_0 x0_1 x0_2 x2_1 (h0_0.lend 2 rfl) hc0_0 hm0_0) hs22v) rfl rfl rfl ?_
        intro y21v
        refine simL_val (q_asg rfl rfl) rfl rfl rfl ?_
        refine simL_nil ?_
        refine nrm_then ?_
        refine sim_seq ?_
        refine sim_region ?_
        refine simL_val (q_move rfl rfl) rfl rfl rfl ?_
        refine simL_val (q_move rfl rfl) rfl rfl rfl ?_
        refine simL_val (q_fa rfl rfl Try.underlying48 rfl rfl Try.sizeOf3 rfl) rfl rfl rfl ?_
        refine simL_val (q_load rfl rfl Try.isAgg3 (.obj 2 rfl rfl)) rfl rfl rfl ?_
        refine simL_bind (fun s23v hs25v => ?_)
        refine simL_eff (re_call (vs := [.pointer (some ⟨b1, 0, none⟩), .int .i64 x2_1]) (cap := []) (A := [obj b1 45 [.slice a1_0 x1_0.length c1_0, .int .i64 x1_1, .int .i64 x1_2]]) (rst := [Row 5 1 y21v.1 s20v.1.length y21v.2 (encB s20v.1), obj b0 78 [.slice a0_0 x0_0.length c0_0, .int .i64 s20v.2.1, .int .i64 s20v.2.2], obj b1v 48 [.int .i64 x2_0, .int .i64 x2_1], F]) rfl rfl rfl rfl rfl rfl Try.call51 (.sel 3 rfl (.sel 0 rfl (.sel 0 rfl (.sel 0 rfl (.sel 0 rfl (.nil _)))))) (synodref1_Reader_Bytes.calls _ _ k b1 a1_0 c1_0 x1_0 x1_1 x1_2 x2_1 (h1_0.lend 3 rfl) hc1_0 hm1_0) hs25v) rfl rfl rfl ?_
        intro y24v
        refine simL_bind (fun s34v hs36v => ?_)
        refine simL_lend 2 rfl (fun hq26v hq27v hq28v hq29v => ?_)
        refine simL_lend 0 rfl (fun hq30v hq31v hq32v hq33v => ?_)
        refine simL_eff (re_call (vs := [.slice y21v.1 s20v.1.length y21v.2, .slice y24v.1 s23v.1.length y24v.2]) (cap := []) (A := []) (rst := [Row 5 1 y24v.1 s23v.1.length y24v.2 (encB s23v.1), obj b1 45 [.slice a1_0 x1_0.length c1_0, .int .i64 s23v.2.1, .int .i64 s23v.2.2], Row 5 1 y21v.1 s20v.1.length y21v.2 (encB s20v.1), obj b0 78 [.slice a0_0 x0_0.length c0_0, .int .i64 s20v.2.1, .int .i64 s20v.2.2], obj b1v 48 [.int .i64 x2_0, .int .i64 x2_1], F]) rfl rfl rfl rfl rfl rfl Try.call13 (.sel 0 rfl (.sel 0 rfl (.sel 0 rfl (.sel 0 rfl (.sel 0 rfl (.sel 0 rfl (.nil _))))))) (synodref_SameBytes.calls _ _ k y21v.1 y21v.2 s20v.1 y24v.1 y24v.2 s23v.1 (hq26v.lend 2 rfl) hq27v hq28v (hq30v.lend 0 rfl) hq31v hq32v) hs36v) rfl rfl rfl ?_
        intro y35v
        refine simL_val (q_asg rfl rfl) rfl rfl rfl ?_
        refine simL_nil ?_
        refine nrm_then ?_
        refine sim_cut (S := Unit) (Unit) (fun s y => [(8, .bool s34v)]) (fun s y => [obj b1 45 [.slice a1_0 x1_0.length c1_0, .int .i64 s23v.2.1, .int .i64 s23v.2.2], obj b0 78 [.slice a0_0 x0_0.length c0_0, .int .i64 s20v.2.1, .int .i64 s20v.2.2], F]) ?_ ?_
        · refine sim_seq ?_
          refine sim_region ?_
          refine simL_val (q_asg rfl rfl) rfl rfl rfl ?_
          refine simL_nil ?_
          refine nrm_then ?_
          refine sim_block ?_
          refine sim_loop (S := List UInt8 × Int) (Unit) (fun k s => synodlaw1_asked.l0 k s.1 s.2) (fun s y => [(7, .slice y21v.1 s.1.length y21v.2), (8, .bool s34v), (9, .int .i64 s.2)]) (fun s y => [obj b1 45 [.slice a1_0 x1_0.length c1_0, .int .i64 s23v.2.1, .int .i64 s23v.2.2], obj b0 78 [.slice a0_0 x0_0.length c0_0, .int .i64 s20v.2.1, .int .i64 s20v.2.2], Row 5 1 y21v.1 s.1.length y21v.2 (encB s.1), F]) (fun _ => by rw [synodlaw1_asked.l0]) ?_ k (s20v.1, 0) () ⟨rfl, rfl, rfl, trivial⟩ (.sel 1 rfl (.sel 2 rfl (.sel 1 rfl (.sel 2 rfl (.nil _)))))
          intro k s39v y40v
          refine sim_eq (by rw [synodlaw1_asked.l0]) ?_
          refine sim_seq ?_
          refine sim_seq ?_
          refine sim_region ?_
          refine simL_val (q_move rfl rfl) rfl rfl rfl ?_
          refine simL_val (q_move rfl rfl) rfl rfl rfl ?_
          refine simL_val (q_len rfl rfl rfl Try.underlying23) rfl rfl rfl ?_
          refine simL_val (q_lss rfl rfl rfl) rfl rfl rfl ?_
          refine simL_nil ?_
          refine nrm_then ?_
          refine sim_cond rfl (fun h43v => ?_) (fun h44v => ?_)
          · refine sim_skip ?_
            refine nrm_then ?_
            refine sim_seq ?_
            refine sim_block ?_
            refine sim_region ?_
            refine simL_val (q_move rfl rfl) rfl rfl rfl ?_
            refine simL_val (q_move rfl rfl) rfl rfl rfl ?_
            refine simL_ask (fun hi45v => ?_)
            refine simL_row 2 rfl (encB_ne (j := s39v.2.toNat) (by omega)) (fun b46v b46vo ha47v => ?_)
            refine simL_val (q_idx1 rfl rfl rfl ha47v Try.underlying23 Try.sizeOf5 hi45v.1 hi45v.2) rfl rfl rfl ?_
            refine simL_do (re_storeb 9 2 rfl rfl rfl Try.sizeOf5 rfl ha47v hi45v.2 hi45v.1 rfl) rfl rfl ?_
            intro _
            refine simL_ren (.slice y21v.1 ((s39v.1.set s39v.2.toNat 9).length) y21v.2) (d := 7) rfl (slc_len (by simp)) ?_
            refine simL_ren (.slice y21v.1 ((s39v.1.set s39v.2.toNat 9).length) y21v.2) (d := 39) rfl (slc_len (by simp)) ?_
            refine simL_ren (.slice y21v.1 ((s39v.1.set s39v.2.toNat 9).length) y21v.2) (d := 44) rfl (slc_len (by simp)) ?_
            refine simL_nil ?_
            refine nrm_block ?_
            refine nrm_then ?_
            refine sim_region ?_
            refine simL_val (q_move rfl rfl) rfl rfl rfl ?_
            refine simL_val (q_add rfl rfl rfl) rfl rfl rfl ?_
            refine simL_val (q_asg rfl rfl) rfl rfl rfl ?_
            refine simL_nil ?_
            exact nrm_again (s := (s39v.1.set s39v.2.toNat 9, IntKind.i64.wrap (s39v.2 + 1))) () ⟨rfl, rfl, rfl, trivial⟩ (.sel 0 rfl (.sel 0 rfl (.sel 0 rfl (.sel 0 rfl (.nil _)))))
          · refine sim_exi ?_
            refine exi_then ?_
            refine exi_loop ?_
            refine exi_here ?_
            exact nrm_cut (s := ()) () ⟨rfl, trivial⟩ (.sel 0 rfl (.sel 0 rfl (.sel 1 rfl (.nil _))))
        · intro s37v y38v
          refine sim_seq ?_
          refine sim_region ?_
          refine simL_val (q_move rfl rfl) rfl rfl rfl ?_
          refine simL_val (q_asg rfl rfl) rfl rfl rfl ?_
          refine simL_nil ?_
          refine nrm_then ?_
          refine sim_rtn ?_
          refine rtn_block ?_
          refine rtn_then ?_
          exact rtn_fn () rfl rfl rfl (.sel 1 rfl (.sel 0 rfl (.sel 0 rfl (.nil _))))
      · refine sim_seq ?_
        refine sim_region ?_
        refine simL_val (q_eql rfl rfl rfl) rfl rfl rfl ?_
        refine simL_val (q_asg rfl rfl) rfl rfl rfl ?_
        refine simL_nil ?_
        refine nrm_then ?_
        refine sim_cond rfl (fun h50v => ?_) (fun h51v => ?_)
        · refine sim_seq ?_
          refine sim_bind (fun s52v hs54v => ?_)
          refine sim_bind (fun s55v hs57v => ?_)
          refine sim_draw (Γ := Unit) () [[], [], [1], [0, 1, 2], [], [], [5], [0, 1, 2, 3, 4, 5, 6], [0, 1, 2, 3, 4, 5, 6, 7], [0, 1, 2, 3, 4, 5, 6, 7, 8]] [3, 7] [0, 1, 2, 4, 5, 6, 8, 9] (fun i => [[0], [0], [0], [], [0, 1], [0, 1], [0, 1], [], [2], [2]].getD i []) (fun i => [[], [], [], [0, 1, 2, 4, 5, 6], [], [], [], [0, 1, 2, 3, 4, 5, 6], [], []].getD i []) (fun γ i => [.pointer (some ⟨b0, 0, none⟩), .pointer (some ⟨b1v, 1, none⟩), .int .i64 x2_1, str s52v.1, .pointer (some ⟨b1, 0, none⟩), .pointer (some ⟨b1v, 1, none⟩), .int .i64 x2_1, str s55v.1, .bool (decide (s52v.1 = s55v.1)), .bool (decide (s52v.1 = s55v.1))].getD i undef) (fun j γ => [[obj b1v 48 [.int .i64 x2_0, .int .i64 x2_1], obj b0 78 [.slice a0_0 x0_0.length c0_0, .int .i64 x0_1, .int .i64 x0_2], obj b1 45 [.slice a1_0 x1_0.length c1_0, .int .i64 x1_1, .int .i64 x1_2], F], [obj b0 78 [.slice a0_0 x0_0.length c0_0, .int .i64 s52v.2.1, .int .i64 s52v.2.2], obj b1v 48 [.int .i64 x2_0, .int .i64 x2_1], obj b1 45 [.slice a1_0 x1_0.length c1_0, .int .i64 x1_1, .int .i64 x1_2], F], [obj b1 45 [.slice a1_0 x1_0.length c1_0, .int .i64 s55v.2.1, .int .i64 s55v.2.2], obj b0 78 [.slice a0_0 x0_0.length c0_0, .int .i64 s52v.2.1, .int .i64 s52v.2.2], obj b1v 48 [.int .i64 x2_0, .int .i64 x2_1], F]].getD j []) (fun γ => [(6, .bool (decide (s52v.1 = s55v.1)))]) mixed (by decide) (by decide) (by decide) (by decide) (by decide) (by decide) (by decide) 59 rfl (by decide) (by decide) (by decide) (Ent.refl _) ?_ ?_ (fun _ => ⟨rfl, trivial⟩) ?_
          · exact (All.cons (fun γ => (All.cons (QOb.plain [(0, .pointer (some ⟨b0, 0, none⟩))] rfl rfl (.o rfl (by decide) .nil) (q_move rfl rfl) rfl) All.nil)) (All.cons (fun γ => (All.cons (QOb.plain [(5, .pointer (some ⟨b1v, 0, none⟩))] rfl rfl (.o rfl (by decide) .nil) (q_fa rfl rfl Try.underlying48 rfl rfl Try.sizeOf3 rfl) rfl) All.nil)) (All.cons (fun γ => (All.cons (QOb.plain [(51, .pointer (some ⟨b1v, 1, none⟩))] rfl rfl (.w 1 rfl rfl rfl .nil) (q_load rfl rfl Try.isAgg3 (.obj 0 rfl rfl)) rfl) All.nil)) (All.cons (fun γ => (All.cons (QOb.plain [(1, .pointer (some ⟨b1, 0, none⟩))] rfl rfl (.o rfl (by decide) .nil) (q_move rfl rfl) rfl) (All.cons (QOb.plain [(1, .pointer (some ⟨b1, 0, none⟩))] rfl rfl (.o rfl (by decide) .nil) (q_move rfl rfl) rfl) All.nil))) (All.cons (fun γ => (All.cons (QOb.plain [(5, .pointer (some ⟨b1v, 0, none⟩))] rfl rfl (.o rfl (by decide) .nil) (q_fa rfl rfl Try.underlying48 rfl rfl Try.sizeOf3 rfl) rfl) (All.cons (QOb.plain [(5, .pointer (some ⟨b1v, 0, none⟩))] rfl rfl (.o rfl (by decide) .nil) (q_fa rfl rfl Try.underlying48 rfl rfl Try.sizeOf3 rfl) rfl) All.nil))) (All.cons (fun γ => (All.cons (QOb.plain [(55, .pointer (some ⟨b1v, 1, none⟩))] rfl rfl (.w 5 rfl rfl rfl .nil) (q_load rfl rfl Try.isAgg3 (.obj 0 rfl rfl)) rfl) (All.cons (QOb.plain [(55, .pointer (some ⟨b1v, 1, none⟩))] rfl rfl (.w 5 rfl rfl rfl .nil) (q_load rfl rfl Try.isAgg3 (.obj 1 rfl rfl)) rfl) All.nil))) (All.cons (fun γ => (All.cons (QOb.plain [(53, str s52v.1), (57, str s55v.1)] rfl rfl (.w 3 rfl rfl rfl (.w 7 rfl rfl rfl .nil)) (q_eqs rfl rfl rfl) rfl) All.nil)) (All.cons (fun γ => (All.cons (QOb.plain [(58, .bool (decide (s52v.1 = s55v.1)))] rfl rfl (.w 8 rfl rfl rfl .nil) (q_asg rfl rfl) rfl) All.nil)) All.nil))))))))
          · exact (All.cons (fun γ => EOb.mk (Z := Unit) [(50, .pointer (some ⟨b0, 0, none⟩)), (52, .int .i64 x2_1)] (fun z => ()) rfl rfl (.w 0 rfl rfl rfl (.w 2 rfl rfl rfl .nil)) (re_call (vs := [.pointer (some ⟨b0, 0, none⟩), .int .i64 x2_1]) (cap := []) (A := [obj b0 78 [.slice a0_0 x0_0.length c0_0, .int .i64 x0_1, .int .i64 x0_2]]) (rst := [obj b1v 48 [.int .i64 x2_0, .int .i64 x2_1], obj b1 45 [.slice a1_0 x1_0.length c1_0, .int .i64 x1_1, .int .i64 x1_2], F]) rfl rfl rfl rfl rfl rfl Try.call46 (.sel 1 rfl (.sel 0 rfl (.sel 0 rfl (.sel 0 rfl (.nil _))))) (wire_Reader_Text.calls _ _ k b0 a0_0 c0_0 x0_0 x0_1 x0_2 x2_1 (h0_0.lend 2 rfl) hc0_0 hm0_0) hs54v) (fun _ => ⟨rfl, rfl, rfl, rfl, rfl, rfl, trivial⟩) (fun _ => .inr rfl) (fun z => Ent.refl _)) (All.cons (fun γ => EOb.mk (Z := Unit) [(54, .pointer (some ⟨b1, 0, none⟩)), (56, .int .i64 x2_1)] (fun z => ()) rfl rfl (.w 4 rfl rfl rfl (.w 6 rfl rfl rfl .nil)) (re_call (vs := [.pointer (some ⟨b1, 0, none⟩), .int .i64 x2_1]) (cap := []) (A := [obj b1 45 [.slice a1_0 x1_0.length c1_0, .int .i64 x1_1, .int .i64 x1_2]]) (rst := [obj b0 78 [.slice a0_0 x0_0.length c0_0, .int .i64 s52v.2.1, .int .i64 s52v.2.2], obj b1v 48 [.int .i64 x2_0, .int .i64 x2_1], F]) rfl rfl rfl rfl rfl rfl Try.call52 (.sel 2 rfl (.sel 0 rfl (.sel 0 rfl (.sel 0 rfl (.nil _))))) (synodref1_Reader_Text.calls _ _ k b1 a1_0 c1_0 x1_0 x1_1 x1_2 x2_1 (h1_0.lend 2 rfl) hc1_0 hm1_0) hs57v) (fun _ => ⟨rfl, rfl, rfl, rfl, rfl, rfl, rfl, trivial⟩) (fun _ => .inr rfl) (fun z => Ent.refl _)) All.nil))
          · intro g58v
            refine nrm_then ?_
            refine sim_rtn ?_
            refine rtn_block ?_
            refine rtn_then ?_
            exact rtn_fn () rfl rfl rfl (.sel 1 rfl (.sel 0 rfl (.sel 1 rfl (.nil _))))
        · refine sim_skip ?_
          refine nrm_block ?_
          refine nrm_then ?_
          refine sim_seq ?_
          refine sim_region ?_
          refine simL_val (q_asg rfl rfl) rfl rfl rfl ?_
          refine simL_nil ?_
          refine nrm_then ?_
          refine sim_rtn ?_
          exact rtn_fn () rfl rfl rfl (.sel 1 rfl (.sel 1 rfl (.sel 1 rfl (.nil _))))

def wire_Reader_At.f (x0_0 : List UInt8) (x0_1 : Int) (x0_2 : Int) : Option (Int) := some x0_1
theorem wire_Reader_At.calls (W : World) (F : HA) (b0 : Nat) (a0_0 : Option Addr) (c0_0 : Nat) (x0_0 : List UInt8) (x0_1 : Int) (x0_2 : Int) (h0_0 : Rd F a0_0 (encB x0_0)) (hc0_0 : x0_0.length ≤ c0_0) (hm0_0 : c0_0 ≤ maxLen) :
    Fn Try.prog W 24 [.pointer (some ⟨b0, 0, none⟩)] [obj b0 78 [.slice a0_0 x0_0.length c0_0, .int .i64 x0_1, .int .i64 x0_2]] F (wire_Reader_At.f x0_0 x0_1 x0_2) (fun (r : Int) (y : Unit) => .int .i64 r) (fun r y => [obj b0 78 [.slice a0_0 x0_0.length c0_0, .int .i64 x0_1, .int .i64 x0_2]]) := by
  unfold wire_Reader_At.f
  refine fn_intro 7 Try.func24 rfl Try.ntmps24 rfl ?_
  refine sim_seq ?_
  refine sim_region ?_
  refine simL_val (q_asg rfl rfl) rfl rfl rfl ?_
  refine simL_nil ?_
  refine nrm_then ?_
  refine sim_seq ?_
  refine sim_region ?_
  refine simL_val (q_move rfl rfl) rfl rfl rfl ?_
  refine simL_val (q_nil rfl rfl) rfl rfl rfl ?_
  refine simL_val (q_fa rfl rfl Try.underlying78 rfl rfl Try.sizeOf3 rfl) rfl rfl rfl ?_
  refine simL_val (q_load rfl rfl Try.isAgg3 (.obj 0 rfl rfl)) rfl rfl rfl ?_
  refine simL_val (q_asg rfl rfl) rfl rfl rfl ?_
  refine simL_nil ?_
  refine nrm_then ?_
  refine sim_rtn ?_
  exact rtn_fn () rfl rfl rfl (.sel 0 rfl (.sel 0 rfl (.nil _)))
def wire_Reader_At.v (x0_0 : List UInt8) (x0_1 : Int) (x0_2 : Int) : Int := (wire_Reader_At.f x0_0 x0_1 x0_2).getD 0
theorem wire_Reader_At.tot (x0_0 : List UInt8) (x0_1 : Int) (x0_2 : Int) : wire_Reader_At.f x0_0 x0_1 x0_2 = some (wire_Reader_At.v x0_0 x0_1 x0_2) := by
  have h : ∃ r, wire_Reader_At.f x0_0 x0_1 x0_2 = some r := by
    unfold wire_Reader_At.f
    repeat' (first | exact ⟨_, rfl⟩ | split | simp only [Option.bind_some])
  obtain ⟨r, h⟩ := h
  unfold wire_Reader_At.v
  rw [h]; rfl

def synodref1_Reader_Left.f (x0_0 : List UInt8) (x0_1 : Int) (x0_2 : Int) : Option (Int) := some (IntKind.i64.wrap ((x0_0.length : Int) - x0_1))
theorem synodref1_Reader_Left.calls (W : World) (F : HA) (b0 : Nat) (a0_0 : Option Addr) (c0_0 : Nat) (x0_0 : List UInt8) (x0_1 : Int) (x0_2 : Int) (h0_0 : Rd F a0_0 (encB x0_0)) (hc0_0 : x0_0.length ≤ c0_0) (hm0_0 : c0_0 ≤ maxLen) :
    Fn Try.prog W 26 [.pointer (some ⟨b0, 0, none⟩)] [obj b0 45 [.slice a0_0 x0_0.length c0_0, .int .i64 x0_1, .int .i64 x0_2]] F (synodref1_Reader_Left.f x0_0 x0_1 x0_2) (fun (r : Int) (y : Unit) => .int .i64 r) (fun r y => [obj b0 45 [.slice a0_0 x0_0.length c0_0, .int .i64 x0_1, .int .i64 x0_2]]) := by
  unfold synodref1_Reader_Left.f
  refine fn_intro 13 Try.func26 rfl Try.ntmps26 rfl ?_
  refine sim_seq ?_
  refine sim_region ?_
  refine simL_val (q_asg rfl rfl) rfl rfl rfl ?_
  refine simL_nil ?_
  refine nrm_then ?_
  refine sim_seq ?_
  refine sim_draw (Γ := Unit) () [[], [0], [0, 1], [0, 1, 2], [0, 1, 2, 3], [], [5], [5, 6], [5, 6, 7], [0, 1, 2, 3, 4, 5, 6, 7, 8], [0, 1, 2, 3, 4, 5, 6, 7, 8, 9]] [] [0, 1, 2, 3, 4, 5, 6, 7, 8, 9, 10] (fun i => [[0], [0], [0], [0], [0], [0], [0], [0], [0], [0], [0]].getD i []) (fun i => [[], [], [], [], [], [], [], [], [], [], []].getD i []) (fun γ i => [.pointer (some ⟨b0, 0, none⟩), .pointer (some ⟨b0, 0, none⟩), .pointer (some ⟨b0, 0, none⟩), .slice a0_0 x0_0.length c0_0, .int .i64 (x0_0.length : Int), .pointer (some ⟨b0, 0, none⟩), .pointer (some ⟨b0, 0, none⟩), .pointer (some ⟨b0, 1, none⟩), .int .i64 x0_1, .int .i64 (IntKind.i64.wrap ((x0_0.length : Int) - x0_1)), .int .i64 (IntKind.i64.wrap ((x0_0.length : Int) - x0_1))].getD i undef) (fun j γ => [[obj b0 45 [.slice a0_0 x0_0.length c0_0, .int .i64 x0_1, .int .i64 x0_2], F]].getD j []) (fun γ => [(2, .int .i64 (IntKind.i64.wrap ((x0_0.length : Int) - x0_1)))]) mixed (by decide) (by decide) (by decide) (by decide) (by decide) (by decide) (by decide) 13 rfl (by decide) (by decide) (by decide) (Ent.refl _) ?_ ?_ (fun _ => ⟨rfl, trivial⟩) ?_
  · exact (All.cons (fun γ => (All.cons (QOb.plain [(0, .pointer (some ⟨b0, 0, none⟩))] rfl rfl (.o rfl (by decide) .nil) (q_move rfl rfl) rfl) All.nil)) (All.cons (fun γ => (All.cons (QOb.plain [(3, .pointer (some ⟨b0, 0, none⟩))] rfl rfl (.w 0 rfl rfl rfl .nil) (q_nil rfl rfl) rfl) All.nil)) (All.cons (fun γ => (All.cons (QOb.plain [(4, .pointer (some ⟨b0, 0, none⟩))] rfl rfl (.w 1 rfl rfl rfl .nil) (q_fa rfl rfl Try.underlying45 rfl rfl Try.sizeOf23 rfl) rfl) All.nil)) (All.cons (fun γ => (All.cons (QOb.plain [(5, .pointer (some ⟨b0, 0, none⟩))] rfl rfl (.w 2 rfl rfl rfl .nil) (q_load rfl rfl Try.isAgg23 (.obj 0 rfl rfl)) rfl) All.nil)) (All.cons (fun γ => (All.cons (QOb.plain [(6, .slice a0_0 x0_0.length c0_0)] rfl rfl (.w 3 rfl rfl rfl .nil) (q_len rfl rfl rfl Try.underlying23) rfl) All.nil)) (All.cons (fun γ => (All.cons (QOb.plain [(0, .pointer (some ⟨b0, 0, none⟩))] rfl rfl (.o rfl (by decide) .nil) (q_move rfl rfl) rfl) All.nil)) (All.cons (fun γ => (All.cons (QOb.plain [(8, .pointer (some ⟨b0, 0, none⟩))] rfl rfl (.w 5 rfl rfl rfl .nil) (q_nil rfl rfl) rfl) All.nil)) (All.cons (fun γ => (All.cons (QOb.plain [(9, .pointer (some ⟨b0, 0, none⟩))] rfl rfl (.w 6 rfl rfl rfl .nil) (q_fa rfl rfl Try.underlying45 rfl rfl Try.sizeOf3 rfl) rfl) All.nil)) (All.cons (fun γ => (All.cons (QOb.plain [(10, .pointer (some ⟨b0, 1, none⟩))] rfl rfl (.w 7 rfl rfl rfl .nil) (q_load rfl rfl Try.isAgg3 (.obj 0 rfl rfl)) rfl) All.nil)) (All.cons (fun γ => (All.cons (QOb.plain [(7, .int .i64 (x0_0.length : Int)), (11, .int .i64 x0_1)] rfl rfl (.w 4 rfl rfl rfl (.w 8 rfl rfl rfl .nil)) (q_sub rfl rfl rfl) rfl) All.nil)) (All.cons (fun γ => (All.cons (QOb.plain [(12, .int .i64 (IntKind.i64.wrap ((x0_0.length : Int) - x0_1)))] rfl rfl (.w 9 rfl rfl rfl .nil) (q_asg rfl rfl) rfl) All.nil)) All.nil)))))))))))
  · exact All.nil
  · intro g1v
    refine nrm_then ?_
    refine sim_rtn ?_
    exact rtn_fn () rfl rfl rfl (.sel 0 rfl (.sel 0 rfl (.nil _)))
def synodref1_Reader_Left.v (x0_0 : List UInt8) (x0_1 : Int) (x0_2 : Int) : Int := (synodref1_Reader_Left.f x0_0 x0_1 x0_2).getD 0
theorem synodref1_Reader_Left.tot (x0_0 : List UInt8) (x0_1 : Int) (x0_2 : Int) : synodref1_Reader_Left.f x0_0 x0_1 x0_2 = some (synodref1_Reader_Left.v x0_0 x0_1 x0_2) := by
  have h : ∃ r, synodref1_Reader_Left.f x0_0 x0_1 x0_2 = some r := by
    unfold synodref1_Reader_Left.f
    repeat' (first | exact ⟨_, rfl⟩ | split | simp only [Option.bind_some])
  obtain ⟨r, h⟩ := h
  unfold synodref1_Reader_Left.v
  rw [h]; rfl

def synodref1_Reader_Done.f (x0_0 : List UInt8) (x0_1 : Int) (x0_2 : Int) : Option (Int) := (if x0_2 = (0 : Int) then ((synodref1_Reader_Left.f x0_0 x0_1 x0_2).bind fun s3v => (some (decide ((0 : Int) < s3v)))) else (some false)).bind fun s1v => (if s1v = true then (some 3) else (some x0_2))
theorem synodref1_Reader_Done.calls (W : World) (F : HA) (b0 : Nat) (a0_0 : Option Addr) (c0_0 : Nat) (x0_0 : List UInt8) (x0_1 : Int) (x0_2 : Int) (h0_0 : Rd F a0_0 (encB x0_0)) (hc0_0 : x0_0.length ≤ c0_0) (hm0_0 : c0_0 ≤ maxLen) :
    Fn Try.prog W 28 [.pointer (some ⟨b0, 0, none⟩)] [obj b0 45 [.slice a0_0 x0_0.length c0_0, .int .i64 x0_1, .int .i64 x0_2]] F (synodref1_Reader_Done.f x0_0 x0_1 x0_2) (fun (r : Int) (y : Unit) => .int .i64 r) (fun r y => [obj b0 45 [.slice a0_0 x0_0.length c0_0, .int .i64 x0_1, .int .i64 x0_2]]) := by
  unfold synodref1_Reader_Done.f
  refine fn_intro 17 Try.func28 rfl Try.ntmps28 rfl ?_
  refine sim_seq ?_
  refine sim_region ?_
  refine simL_val (q_asg rfl rfl) rfl rfl rfl ?_
  refine simL_nil ?_
  refine nrm_then ?_
  refine sim_seq ?_
  refine sim_seq ?_
  refine sim_region ?_
  refine simL_val (q_move rfl rfl) rfl rfl rfl ?_
  refine simL_val (q_nil rfl rfl) rfl rfl rfl ?_
  refine simL_val (q_fa rfl rfl Try.underlying45 rfl rfl Try.sizeOf3 rfl) rfl rfl rfl ?_
  refine simL_val (q_load rfl rfl Try.isAgg3 (.obj 0 rfl rfl)) rfl rfl rfl ?_
  refine simL_val (q_eql rfl rfl rfl) rfl rfl rfl ?_
  refine simL_val (q_move rfl rfl) rfl rfl rfl ?_
  refine simL_cut' 4 (S := Bool) (Unit) (fun s y => [(0, .pointer (some ⟨b0, 0, none⟩)), (12, .bool s)]) (fun s y => [obj b0 45 [.slice a0_0 x0_0.length c0_0, .int .i64 x0_1, .int .i64 x0_2], F]) ?_ ?_
  · refine simL_casep (fun hb6v => ?_) (fun hb7v => ?_)
    · rw [hb6v]
      refine simL_valg (q_move rfl rfl) rfl rfl rfl rfl rfl rfl ?_
      refine simL_bind (fun s3v hs5v => ?_)
      refine simL_effg (re_call (vs := [.pointer (some ⟨b0, 0, none⟩)]) (cap := []) (A := [obj b0 45 [.slice a0_0 x0_0.length c0_0, .int .i64 x0_1, .int .i64 x0_2]]) (rst := [F]) rfl rfl rfl rfl rfl rfl Try.call26 (.sel 0 rfl (.sel 0 rfl (.nil _))) (synodref1_Reader_Left.calls _ _ b0 a0_0 c0_0 x0_0 x0_1 x0_2 (h0_0.lend 0 rfl) hc0_0 hm0_0) hs5v) rfl rfl rfl rfl rfl rfl ?_
      intro y4v
      refine simL_valg (q_gtr rfl rfl rfl) rfl rfl rfl rfl rfl rfl ?_
      refine simL_val (q_pick rfl rfl rfl rfl rfl) rfl rfl rfl ?_
      refine simL_nil ?_
      exact nrm_cut (s := decide ((0 : Int) < s3v)) () ⟨rfl, rfl, trivial⟩ (.sel 0 rfl (.sel 0 rfl (.nil _)))
    · rw [hb7v]
      refine simL_skipd rfl rfl rfl rfl rfl rfl ?_
      refine simL_skipd rfl rfl rfl rfl rfl rfl ?_
      refine simL_skipd rfl rfl rfl rfl rfl rfl ?_
      refine simL_val (q_pick rfl rfl rfl rfl rfl) rfl rfl rfl ?_
      refine simL_nil ?_
      exact nrm_cut (s := false) () ⟨rfl, rfl, trivial⟩ (.sel 0 rfl (.sel 0 rfl (.nil _)))
  · intro s1v y2v
    refine simL_nil ?_
    refine nrm_then ?_
    refine sim_condb rfl (fun h8v => ?_) (fun h9v => ?_)
    · refine sim_seq ?_
      refine sim_region ?_
      refine simL_val (q_asg rfl rfl) rfl rfl rfl ?_
      refine simL_nil ?_
      refine nrm_then ?_
      refine sim_rtn ?_
      refine rtn_then ?_
      exact rtn_fn () rfl rfl rfl (.sel 0 rfl (.sel 0 rfl (.nil _)))
    · refine sim_skip ?_
      refine nrm_then ?_
      refine sim_seq ?_
      refine sim_region ?_
      refine simL_val (q_move rfl rfl) rfl rfl rfl ?_
      refine simL_val (q_nil rfl rfl) rfl rfl rfl ?_
      refine simL_val (q_fa rfl rfl Try.underlying45 rfl rfl Try.sizeOf3 rfl) rfl rfl rfl ?_
      refine simL_val (q_load rfl rfl Try.isAgg3 (.obj 0 rfl rfl)) rfl rfl rfl ?_
      refine simL_val (q_asg rfl rfl) rfl rfl rfl ?_
      refine simL_nil ?_
      refine nrm_then ?_
      refine sim_rtn ?_
      exact rtn_fn () rfl rfl rfl (.sel 0 rfl (.sel 0 rfl (.nil _)))
def synodref1_Reader_Done.v (x0_0 : List UInt8) (x0_1 : Int) (x0_2 : Int) : Int := (synodref1_Reader_Done.f x0_0 x0_1 x0_2).getD 0
theorem synodref1_Reader_Done.tot (x0_0 : List UInt8) (x0_1 : Int) (x0_2 : Int) : synodref1_Reader_Done.f x0_0 x0_1 x0_2 = some (synodref1_Reader_Done.v x0_0 x0_1 x0_2) := by
  have h : ∃ r, synodref1_Reader_Done.f x0_0 x0_1 x0_2 = some r := by
    unfold synodref1_Reader_Done.f
    repeat' (first | exact ⟨_, rfl⟩ | split | simp only [Option.bind_some, synodref1_Reader_Left.tot])
  obtain ⟨r, h⟩ := h
  unfold synodref1_Reader_Done.v
  rw [h]; rfl

def synodlaw1_WireReader.l1 (x0 : List UInt8) (x1 : List (Int × Int)) (s13v : List UInt8 × Int × Int) : Nat → Int → Int → Int → Int → Int → Option ((Unit) ⊕ (Bool))
  | 0, _, _, _, _, _ => none
  | k + 1, z43v, z44v, z45v, z46v, z47v => if z43v < (x1.length : Int) then (if 0 ≤ z43v ∧ z43v < (x1.length : Int) then ((synodlaw1_asked.f k s13v.1 z46v z47v x0 z44v z45v ((x1.getD z43v.toNat ((0 : Int), (0 : Int))).1) ((x1.getD z43v.toNat ((0 : Int), (0 : Int))).2)).bind fun s62v => (if ((((!s62v.1) || (!decide ((wire_Reader_At.v s13v.1 s62v.2.1 s62v.2.2.1) = s62v.2.2.2.1))) || (!decide ((wire_Reader_Left.v s13v.1 s62v.2.1 s62v.2.2.1) = (synodref1_Reader_Left.v x0 s62v.2.2.2.1 s62v.2.2.2.2)))) || (!decide ((synodref_Num.v (wire_Reader_Done.v s13v.1 s62v.2.1 s62v.2.2.1)) = (synodref1_Reader_Done.v x0 s62v.2.2.2.1 s62v.2.2.2.2)))) = true then (some (.inr false)) else (synodlaw1_WireReader.l1 x0 x1 s13v k (IntKind.i64.wrap (z43v + 1)) s62v.2.2.2.1 s62v.2.2.2.2 s62v.2.1 s62v.2.2.1))) else none) else (some (.inl ()))
def synodlaw1_WireReader.l0 : Nat → List UInt8 → Int → Option (Unit)
  | 0, _, _ => none
  | k + 1, z30v, z31v => if z31v < (z30v.length : Int) then (if 0 ≤ z31v ∧ z31v < (z30v.length : Int) then (synodlaw1_WireReader.l0 k (z30v.set z31v.toNat 255) (IntKind.i64.wrap (z31v + 1))) else none) else (some ())
def synodlaw1_WireReader.f (k : Nat) (x0 : List UInt8) (x1 : List (Int × Int)) : Option (Bool) := (synodlaw1_first.f k).bind fun s1v => (if (((!s1v) || (decide ((300 : Int) < (x1.length : Int)))) || (decide ((20000 : Int) < (x0.length : Int)))) = true then (some s1v) else ((synodref_Lent.f x0).bind fun s6v => ((wire_NewReader.f s6v.1).bind fun s13v => ((synodref_Kept.f k s6v.1 s6v.2 x0).bind fun s21v => (if (!s21v) = true then (some false) else ((synodlaw1_WireReader.l0 k s6v.1 0).bind fun s26v => (orR (synodlaw1_WireReader.l1 x0 x1 s13v k 0 0 0 s13v.2.1 s13v.2.2) fun s39v => (some true))))))))
theorem synodlaw1_WireReader.calls (W : World) (F : HA) (k : Nat) (a0 : Option Addr) (c0 : Nat) (x0 : List UInt8) (a1 : Option Addr) (c1 : Nat) (x1 : List (Int × Int)) (h0 : Rd F a0 (encB x0)) (hc0 : x0.length ≤ c0) (hm0 : c0 ≤ maxLen) (h1 : RdV F 2 (V48 F) a1 x1) (hc1 : x1.length ≤ c1) (hm1 : c1 ≤ maxLen) :
    Fn Try.prog W 7 [.slice a0 x0.length c0, .slice a1 x1.length c1] [] F (synodlaw1_WireReader.f k x0 x1) (fun (r : Bool) (y : Unit) => .bool r) (fun r y => []) := by
  unfold synodlaw1_WireReader.f
  refine fn_intro 91 Try.func7 rfl Try.ntmps7 rfl ?_
  refine sim_seq ?_
  refine sim_region ?_
  refine simL_val (q_asg rfl rfl) rfl rfl rfl ?_
  refine simL_nil ?_
  refine nrm_then ?_
  refine sim_seq ?_
  refine sim_region ?_
  refine simL_bind (fun s1v hs3v => ?_)
  refine simL_eff (re_call (vs := []) (cap := []) (A := []) (rst := [F]) rfl rfl rfl rfl rfl rfl Try.call10 (.sel 0 rfl (.nil _)) (synodlaw1_first.calls _ _ k  ) hs3v) rfl rfl rfl ?_
  intro y2v
  refine simL_val (q_asg rfl rfl) rfl rfl rfl ?_
  refine simL_nil ?_
  refine nrm_then ?_
  refine sim_seq ?_
  refine sim_seq ?_
  refine sim_region ?_
  refine simL_val (q_move rfl rfl) rfl rfl rfl ?_
  refine simL_val (q_not rfl rfl) rfl rfl rfl ?_
  refine simL_val (q_move rfl rfl) rfl rfl rfl ?_
  refine simL_valc (b := !s1v) (fun hb151v => RQ.sub (E' := [(1, .slice a1 x1.length c1)]) ⟨rfl, trivial⟩ (q_move rfl rfl)) rfl rfl rfl rfl rfl ?_
  refine simL_valc (b := !s1v) (fun hb150v => RQ.sub (E' := [(17, .slice a1 x1.length c1)]) ⟨lk_cv rfl hb150v, trivial⟩ (q_len rfl rfl rfl Try.underlying40)) rfl rfl rfl rfl rfl ?_
  refine simL_valc (b := !s1v) (fun hb149v => RQ.sub (E' := [(18, .int .i64 (x1.length : Int))]) ⟨lk_cv rfl hb149v, trivial⟩ (q_gtr rfl rfl rfl)) rfl rfl rfl rfl rfl ?_
  refine simL_val (q_or rfl rfl rfl) rfl rfl rfl ?_
  refine simL_val (q_move rfl rfl) rfl rfl rfl ?_
  refine simL_valc (b := (!s1v) || (decide ((300 : Int) < (x1.length : Int)))) (fun hb148v => RQ.sub (E' := [(0, .slice a0 x0.length c0)]) ⟨rfl, trivial⟩ (q_move rfl rfl)) rfl rfl rfl rfl rfl ?_
  refine simL_valc (b := (!s1v) || (decide ((300 : Int) < (x1.length : Int)))) (fun hb147v => RQ.sub (E' := [(22, .slice a0 x0.length c0)]) ⟨lk_cv rfl hb147v, trivial⟩ (q_len rfl rfl rfl Try.underlying23)) rfl rfl rfl rfl rfl ?_
  refine simL_valc (b := (!s1v) || (decide ((300 : Int) < (x1.length : Int)))) (fun hb146v => RQ.sub (E' := [(23, .int .i64 (x0.length : Int))]) ⟨lk_cv rfl hb146v, trivial⟩ (q_gtr rfl rfl rfl)) rfl rfl rfl rfl rfl ?_
  refine simL_val (q_or rfl rfl rfl) rfl rfl rfl ?_
  refine simL_nil ?_
  refine nrm_then ?_
  refine sim_condb rfl (fun h4v => ?_) (fun h5v => ?_)
  · refine sim_seq ?_
    refine sim_region ?_
    refine simL_val (q_move rfl rfl) rfl rfl rfl ?_
    refine simL_val (q_asg rfl rfl) rfl rfl rfl ?_
    refine simL_nil ?_
    refine nrm_then ?_
    refine sim_rtn ?_
    refine rtn_then ?_
    exact rtn_fn () rfl rfl rfl (.sel 0 rfl (.nil _))
  · refine sim_skip ?_
    refine nrm_then ?_
    refine sim_seq ?_
    refine sim_region ?_
    refine simL_val (q_move rfl rfl) rfl rfl rfl ?_
    refine simL_bind (fun s6v hs8v => ?_)
    refine simL_eff (re_call (vs := [.slice a0 x0.length c0]) (cap := []) (A := []) (rst := [F]) rfl rfl rfl rfl rfl rfl Try.call17 (.sel 0 rfl (.nil _)) (synodref_Lent.calls _ _ a0 c0 x0 (h0.lend 0 rfl) hc0 hm0) hs8v) rfl rfl rfl ?_
    intro y7v
    refine simL_val (q_asg rfl rfl) rfl rfl rfl ?_
    refine simL_nil ?_
    refine nrm_then ?_
    refine sim_seq ?_
    refine sim_region ?_
    refine simL_val (q_move rfl rfl) rfl rfl rfl ?_
    refine simL_bind (fun s13v hs15v => ?_)
    refine simL_lend 0 rfl (fun hq9v hq10v hq11v hq12v => ?_)
    refine simL_eff (re_call (vs := [.slice y7v.1 s6v.1.length y7v.2]) (cap := []) (A := []) (rst := [Row 5 1 y7v.1 s6v.1.length y7v.2 (encB (s6v.1 ++ s6v.2)), F]) rfl rfl rfl rfl rfl rfl Try.call22 (.sel 0 rfl (.sel 0 rfl (.nil _))) (wire_NewReader.calls _ _ y7v.1 y7v.2 s6v.1 ((rd_front hq9v).lend 0 rfl) hq10v hq11v) hs15v) rfl rfl rfl ?_
    intro y14v
    refine simL_val (q_asg rfl rfl) rfl rfl rfl ?_
    refine simL_nil ?_
    refine nrm_then ?_
    refine sim_seq ?_
    refine sim_region ?_
    refine simL_val (q_move rfl rfl) rfl rfl rfl ?_
    refine simL_val (q_build (v := .agg #[.slice a0 x0.length c0, .int .i64 0, .int .i64 0]) rfl rfl (fun _ => by kernel_rfl)) rfl rfl rfl ?_
    refine simL_eff (re_box rfl rfl rfl) rfl rfl rfl ?_
    intro b16v
    refine simL_val (q_asg rfl rfl) rfl rfl rfl ?_
    refine simL_nil ?_
    refine nrm_then ?_
    refine sim_seq ?_
    refine sim_region ?_
    refine simL_val (q_move rfl rfl) rfl rfl rfl ?_
    refine simL_val (q_move rfl rfl) rfl rfl rfl ?_
    refine simL_bind (fun s21v hs23v => ?_)
    refine simL_lendt 3 rfl (fun hq17v hq18v hq19v => ?_)
    refine simL_eff (re_call (vs := [.slice y7v.1 s6v.1.length y7v.2, .slice a0 x0.length c0]) (cap := []) (A := []) (rst := [obj b16v 45 [.slice a0 x0.length c0, .int .i64 0, .int .i64 0], obj y14v.1 78 [.slice y14v.2.1 s13v.1.length y14v.2.2, .int .i64 s13v.2.1, .int .i64 s13v.2.2], Row 5 1 y14v.2.1 s13v.1.length y14v.2.2 (encB s13v.1), Row 5 1 y7v.1 s6v.1.length y7v.2 (encB (s6v.1 ++ s6v.2)), F]) rfl rfl rfl rfl rfl rfl Try.call20 (.sel 0 rfl (.sel 0 rfl (.sel 0 rfl (.sel 0 rfl (.sel 0 rfl (.nil _)))))) (synodref_Kept.calls _ _ k y7v.1 y7v.2 s6v.1 s6v.2 a0 c0 x0 (hq17v.lend 3 rfl) (by rw [encB_length, Nat.mul_one] at hq18v; exact hq18v) hq19v (h0.lend 4 rfl) hc0 hm0) hs23v) rfl rfl rfl ?_
    intro y22v
    refine simL_val (q_asg rfl rfl) rfl rfl rfl ?_
    refine simL_nil ?_
    refine nrm_then ?_
    refine sim_seq ?_
    refine sim_seq ?_
    refine sim_region ?_
    refine simL_val (q_move rfl rfl) rfl rfl rfl ?_
    refine simL_val (q_eqp rfl rfl rfl Try.underlying41) rfl rfl rfl ?_
    refine simL_val (q_move rfl rfl) rfl rfl rfl ?_
    refine simL_valg (q_move rfl rfl) rfl rfl rfl rfl rfl rfl ?_
    refine simL_valg (q_not rfl rfl) rfl rfl rfl rfl rfl rfl ?_
    refine simL_val (q_pick rfl rfl rfl rfl rfl) rfl rfl rfl ?_
    refine simL_nil ?_
    refine nrm_then ?_
    refine sim_condb rfl (fun h24v => ?_) (fun h25v => ?_)
    · refine sim_seq ?_
      refine sim_region ?_
      refine simL_val (q_asg rfl rfl) rfl rfl rfl ?_
      refine simL_nil ?_
      refine nrm_then ?_
      refine sim_rtn ?_
      refine rtn_then ?_
      exact rtn_fn () rfl rfl rfl (.sel 4 rfl (.nil _))
    · refine sim_skip ?_
      refine nrm_then ?_
      refine sim_cut (S := Unit) (Unit) (fun s y => [(1, .slice a1 x1.length c1), (7, .pointer (some ⟨y14v.1, 0, none⟩)), (8, .pointer (some ⟨b16v, 0, none⟩))]) (fun s y => [obj b16v 45 [.slice a0 x0.length c0, .int .i64 0, .int .i64 0], obj y14v.1 78 [.slice y14v.2.1 s13v.1.length y14v.2.2, .int .i64 s13v.2.1, .int .i64 s13v.2.2], Row 5 1 y14v.2.1 s13v.1.length y14v.2.2 (encB s13v.1), F]) ?_ ?_
      · refine sim_seq ?_
        refine sim_region ?_
        refine simL_val (q_asg rfl rfl) rfl rfl rfl ?_
        refine simL_nil ?_
        refine nrm_then ?_
        refine sim_block ?_
        refine sim_loop (S := List UInt8 × Int) (Unit) (fun k s => synodlaw1_WireReader.l0 k s.1 s.2) (fun s y => [(1, .slice a1 x1.length c1), (6, .slice y7v.1 s.1.length y7v.2), (7, .pointer (some ⟨y14v.1, 0, none⟩)), (8, .pointer (some ⟨b16v, 0, none⟩)), (10, .int .i64 s.2)]) (fun s y => [obj b16v 45 [.slice a0 x0.length c0, .int .i64 0, .int .i64 0], obj y14v.1 78 [.slice y14v.2.1 s13v.1.length y14v.2.2, .int .i64 s13v.2.1, .int .i64 s13v.2.2], Row 5 1 y7v.1 s.1.length y7v.2 (encB (s.1 ++ s6v.2)), Row 5 1 y14v.2.1 s13v.1.length y14v.2.2 (encB s13v.1), F]) (fun _ => by rw [synodlaw1_WireReader.l0]) ?_ k (s6v.1, 0) () ⟨rfl, rfl, rfl, rfl, rfl, trivial⟩ (.sel 0 rfl (.sel 0 rfl (.sel 1 rfl (.sel 0 rfl (.sel 0 rfl (.nil _))))))
        intro k s28v y29v
        refine sim_eq (by rw [synodlaw1_WireReader.l0]) ?_
        refine sim_seq ?_
        refine sim_seq ?_
        refine sim_region ?_
        refine simL_val (q_move rfl rfl) rfl rfl rfl ?_
        refine simL_val (q_move rfl rfl) rfl rfl rfl ?_
        refine simL_val (q_len rfl rfl rfl Try.underlying23) rfl rfl rfl ?_
        refine simL_val (q_lss rfl rfl rfl) rfl rfl rfl ?_
        refine simL_nil ?_
        refine nrm_then ?_
        refine sim_cond rfl (fun h32v => ?_) (fun h33v => ?_)
        · refine sim_skip ?_
          refine nrm_then ?_
          refine sim_seq ?_
          refine sim_block ?_
          refine sim_region ?_
          refine simL_val (q_move rfl rfl) rfl rfl rfl ?_
          refine simL_val (q_move rfl rfl) rfl rfl rfl ?_
          refine simL_ask (fun hi34v => ?_)
          refine simL_row 2 rfl (encB_ne (j := s28v.2.toNat) (by rw [List.length_append]; omega)) (fun b35v b35vo ha36v => ?_)
          refine simL_val (q_idx1 rfl rfl rfl ha36v Try.underlying23 Try.sizeOf5 hi34v.1 hi34v.2) rfl rfl rfl ?_
          refine simL_do (re_storebk 255 2 rfl rfl rfl Try.sizeOf5 rfl ha36v hi34v.2 hi34v.1 rfl) rfl rfl ?_
          intro _
          refine simL_ren (.slice y7v.1 ((s28v.1.set s28v.2.toNat 255).length) y7v.2) (d := 6) rfl (slc_len (by simp)) ?_
          refine simL_ren (.slice y7v.1 ((s28v.1.set s28v.2.toNat 255).length) y7v.2) (d := 44) rfl (slc_len (by simp)) ?_
          refine simL_ren (.slice y7v.1 ((s28v.1.set s28v.2.toNat 255).length) y7v.2) (d := 49) rfl (slc_len (by simp)) ?_
          refine simL_nil ?_
          refine nrm_block ?_
          refine nrm_then ?_
          refine sim_region ?_
          refine simL_val (q_move rfl rfl) rfl rfl rfl ?_
          refine simL_val (q_add rfl rfl rfl) rfl rfl rfl ?_
          refine simL_val (q_asg rfl rfl) rfl rfl rfl ?_
          refine simL_nil ?_
          exact nrm_again (s := (s28v.1.set s28v.2.toNat 255, IntKind.i64.wrap (s28v.2 + 1))) () ⟨rfl, rfl, rfl, rfl, rfl, trivial⟩ (.sel 0 rfl (.sel 0 rfl (.sel 0 rfl (.sel 0 rfl (.sel 0 rfl (.nil _))))))
        · refine sim_exi ?_
          refine exi_then ?_
          refine exi_loop ?_
          refine exi_here ?_
          exact nrm_cut (s := ()) () ⟨rfl, rfl, rfl, trivial⟩ (.sel 0 rfl (.sel 0 rfl (.sel 1 rfl (.sel 1 rfl (.nil _)))))
      · intro s26v y27v
        refine sim_cutR (S := Unit) (Unit) (fun s y => []) (fun s y => [F]) ?_ ?_
        · refine sim_seq ?_
          refine sim_region ?_
          refine simL_val (q_asg rfl rfl) rfl rfl rfl ?_
          refine simL_nil ?_
          refine nrm_then ?_
          refine sim_block ?_
          refine sim_loop (S := Int × Int × Int × Int × Int) (Unit) (fun k s => synodlaw1_WireReader.l1 x0 x1 s13v k s.1 s.2.1 s.2.2.1 s.2.2.2.1 s.2.2.2.2) (fun s y => [(1, .slice a1 x1.length c1), (7, .pointer (some ⟨y14v.1, 0, none⟩)), (8, .pointer (some ⟨b16v, 0, none⟩)), (11, .int .i64 s.1)]) (fun s y => [obj b16v 45 [.slice a0 x0.length c0, .int .i64 s.2.1, .int .i64 s.2.2.1], obj y14v.1 78 [.slice y14v.2.1 s13v.1.length y14v.2.2, .int .i64 s.2.2.2.1, .int .i64 s.2.2.2.2], Row 5 1 y14v.2.1 s13v.1.length y14v.2.2 (encB s13v.1), F]) (fun _ => by rw [synodlaw1_WireReader.l1]) ?_ k (0, 0, 0, s13v.2.1, s13v.2.2) () ⟨rfl, rfl, rfl, rfl, trivial⟩ (.sel 0 rfl (.sel 0 rfl (.sel 0 rfl (.sel 0 rfl (.nil _)))))
          intro k s41v y42v
          refine sim_eq (by rw [synodlaw1_WireReader.l1]) ?_
          refine sim_seq ?_
          refine sim_seq ?_
          refine sim_region ?_
          refine simL_val (q_move rfl rfl) rfl rfl rfl ?_
          refine simL_val (q_move rfl rfl) rfl rfl rfl ?_
          refine simL_val (q_len rfl rfl rfl Try.underlying40) rfl rfl rfl ?_
          refine simL_val (q_lss rfl rfl rfl) rfl rfl rfl ?_
          refine simL_nil ?_
          refine nrm_then ?_
          refine sim_cond rfl (fun h48v => ?_) (fun h49v => ?_)
          · refine sim_skip ?_
            refine nrm_then ?_
            refine sim_seq ?_
            refine sim_block ?_
            refine sim_seq ?_
            refine sim_region ?_
            refine simL_val (q_move rfl rfl) rfl rfl rfl ?_
            refine simL_val (q_move rfl rfl) rfl rfl rfl ?_
            refine simL_val (q_move rfl rfl) rfl rfl rfl ?_
            refine simL_val (q_move rfl rfl) rfl rfl rfl ?_
            refine simL_ask (fun hi50v => ?_)
            obtain ⟨b51v, b51vo, r54v, ha52v, hV55v, hlr56v, hcell57v⟩ := RdV.pos h1 (Up.refl _) rfl (i := s41v.1.toNat) (by omega) ((0 : Int), (0 : Int))
            obtain rfl := hV55v
            refine simL_val (q_idx rfl rfl rfl ha52v Try.underlying40 Try.sizeOf48 hi50v.1 hi50v.2) rfl rfl rfl ?_
            refine simL_val (q_loads rfl rfl Try.isAgg48 Try.sizeOf48 rfl (fun j v hj => hcell57v 3 rfl j v hj)) rfl rfl rfl ?_
            refine simL_bind (fun s62v hs64v => ?_)
            refine simL_lend 2 rfl (fun hq58v hq59v hq60v hq61v => ?_)
            refine simL_eff (re_call (vs := [.pointer (some ⟨y14v.1, 0, none⟩), .pointer (some ⟨b16v, 0, none⟩), .agg #[.int .i64 ((x1.getD s41v.1.toNat ((0 : Int), (0 : Int))).1), .int .i64 ((x1.getD s41v.1.toNat ((0 : Int), (0 : Int))).2)]]) (cap := []) (A := [obj y14v.1 78 [.slice y14v.2.1 s13v.1.length y14v.2.2, .int .i64 s41v.2.2.2.1, .int .i64 s41v.2.2.2.2], obj b16v 45 [.slice a0 x0.length c0, .int .i64 s41v.2.1, .int .i64 s41v.2.2.1]]) (rst := [Row 5 1 y14v.2.1 s13v.1.length y14v.2.2 (encB s13v.1), F]) rfl rfl rfl rfl rfl rfl Try.call23 (.sel 1 rfl (.sel 0 rfl (.sel 0 rfl (.sel 0 rfl (.nil _))))) (synodlaw1_asked.calls _ _ k y14v.1 y14v.2.1 y14v.2.2 s13v.1 s41v.2.2.2.1 s41v.2.2.2.2 b16v a0 c0 x0 s41v.2.1 s41v.2.2.1 ((x1.getD s41v.1.toNat ((0 : Int), (0 : Int))).1) ((x1.getD s41v.1.toNat ((0 : Int), (0 : Int))).2) (hq58v.lend 0 rfl) hq59v hq60v (h0.lend 1 rfl) hc0 hm0) hs64v) rfl rfl rfl ?_
            intro y63v
            refine simL_val (q_asg rfl rfl) rfl rfl rfl ?_
            refine simL_nil ?_
            refine nrm_then ?_
            refine sim_seq ?_
            refine sim_lend 2 rfl (fun hq65v hq66v hq67v hq68v => ?_)
            refine sim_lend 2 rfl (fun hq72v hq73v hq74v hq75v => ?_)
            refine sim_lend 2 rfl (fun hq82v hq83v hq84v hq85v => ?_)
            refine sim_lend 2 rfl (fun hq96v hq97v hq98v hq99v => ?_)
            refine sim_lend 2 rfl (fun hq110v hq111v hq112v hq113v => ?_)
            refine sim_lend 2 rfl (fun hq125v hq126v hq127v hq128v => ?_)
            refine sim_draw (Γ := Unit) () [[], [0], [0, 1], [0, 1, 2], [0, 1, 2, 3], [0, 1, 2], [0, 1, 2, 5], [0, 1, 2, 5, 6], [0, 1, 2, 5, 6, 7], [0, 1, 2, 3, 4, 5, 6, 7, 8], [0, 1, 2, 3, 4, 5, 6, 7, 8, 9], [0, 1, 2, 3, 4, 5, 6, 7, 8, 9, 10], [0, 1, 2, 3, 4, 5, 6, 7, 8, 9, 10, 11], [0, 1, 2, 3, 4, 5, 6, 7, 8, 9, 10, 11, 12], [0, 1, 2, 3, 4, 5, 6, 7, 8, 9, 10, 11], [0, 1, 2, 3, 4, 5, 6, 7, 8, 9, 10, 11, 12, 13, 14], [0, 1, 2, 3, 4, 5, 6, 7, 8, 9, 10, 11, 12, 13, 14, 15], [0, 1, 2, 3, 4, 5, 6, 7, 8, 9, 10, 11, 12, 13, 14, 15, 16], [0, 1, 2, 3, 4, 5, 6, 7, 8, 9, 10, 11, 12, 13, 14, 15, 16, 17], [0, 1, 2, 3, 4, 5, 6, 7, 8, 9, 10, 11, 12, 13, 14, 15, 16, 17, 18], [0, 1, 2, 3, 4, 5, 6, 7, 8, 9, 10, 11, 12, 13, 14, 15, 16, 17, 18, 19], [0, 1, 2, 3, 4, 5, 6, 7, 8, 9, 10, 11, 12, 13, 14, 15, 16, 17, 18, 19, 20], [0, 1, 2, 3, 4, 5, 6, 7, 8, 9, 10, 11, 12, 13, 14, 15, 16, 17, 18], [0, 1, 2, 3, 4, 5, 6, 7, 8, 9, 10, 11, 12, 13, 14, 15, 16, 17, 18, 19, 20, 21, 22], [0, 1, 2, 3, 4, 5, 6, 7, 8, 9, 10, 11, 12, 13, 14, 15, 16, 17, 18, 19, 20, 21, 22, 23], [0, 1, 2, 3, 4, 5, 6, 7, 8, 9, 10, 11, 12, 13, 14, 15, 16, 17, 18, 19, 20, 21, 22, 23, 24]] [] [0, 1, 2, 3, 4, 5, 6, 7, 8, 9, 10, 11, 12, 13, 14, 15, 16, 17, 18, 19, 20, 21, 22, 23, 24, 25] (fun i => [[0], [0], [0], [0], [0], [0], [0], [0], [0], [0], [0], [0], [0], [0], [0], [0], [0], [0], [0], [0], [0], [0], [0], [0], [0], [0]].getD i []) (fun i => [[], [], [], [], [], [], [], [], [], [], [], [], [], [], [], [], [], [], [], [], [], [], [], [], [], []].getD i []) (fun γ i => [.bool s62v.1, .bool (!s62v.1), .bool (!s62v.1), cv ((!s62v.1) == false) (.pointer (some ⟨y14v.1, 0, none⟩)), cv ((!s62v.1) == false) (.int .i64 (wire_Reader_At.v s13v.1 s62v.2.1 s62v.2.2.1)), cv ((!s62v.1) == false) (.pointer (some ⟨b16v, 0, none⟩)), cv ((!s62v.1) == false) (.pointer (some ⟨b16v, 0, none⟩)), cv ((!s62v.1) == false) (.pointer (some ⟨b16v, 1, none⟩)), cv ((!s62v.1) == false) (.int .i64 s62v.2.2.2.1), cv ((!s62v.1) == false) (.bool (!decide ((wire_Reader_At.v s13v.1 s62v.2.1 s62v.2.2.1) = s62v.2.2.2.1))), .bool ((!s62v.1) || (!decide ((wire_Reader_At.v s13v.1 s62v.2.1 s62v.2.2.1) = s62v.2.2.2.1))), .bool ((!s62v.1) || (!decide ((wire_Reader_At.v s13v.1 s62v.2.1 s62v.2.2.1) = s62v.2.2.2.1))), cv (((!s62v.1) || (!decide ((wire_Reader_At.v s13v.1 s62v.2.1 s62v.2.2.1) = s62v.2.2.2.1))) == false) (.pointer (some ⟨y14v.1, 0, none⟩)), cv (((!s62v.1) || (!decide ((wire_Reader_At.v s13v.1 s62v.2.1 s62v.2.2.1) = s62v.2.2.2.1))) == false) (.int .i64 (wire_Reader_Left.v s13v.1 s62v.2.1 s62v.2.2.1)), cv (((!s62v.1) || (!decide ((wire_Reader_At.v s13v.1 s62v.2.1 s62v.2.2.1) = s62v.2.2.2.1))) == false) (.pointer (some ⟨b16v, 0, none⟩)), cv (((!s62v.1) || (!decide ((wire_Reader_At.v s13v.1 s62v.2.1 s62v.2.2.1) = s62v.2.2.2.1))) == false) (.int .i64 (synodref1_Reader_Left.v x0 s62v.2.2.2.1 s62v.2.2.2.2)), cv (((!s62v.1) || (!decide ((wire_Reader_At.v s13v.1 s62v.2.1 s62v.2.2.1) = s62v.2.2.2.1))) == false) (.bool (!decide ((wire_Reader_Left.v s13v.1 s62v.2.1 s62v.2.2.1) = (synodref1_Reader_Left.v x0 s62v.2.2.2.1 s62v.2.2.2.2)))), .bool (((!s62v.1) || (!decide ((wire_Reader_At.v s13v.1 s62v.2.1 s62v.2.2.1) = s62v.2.2.2.1))) || (!decide ((wire_Reader_Left.v s13v.1 s62v.2.1 s62v.2.2.1) = (synodref1_Reader_Left.v x0 s62v.2.2.2.1 s62v.2.2.2.2)))), .bool (((!s62v.1) || (!decide ((wire_Reader_At.v s13v.1 s62v.2.1 s62v.2.2.1) = s62v.2.2.2.1))) || (!decide ((wire_Reader_Left.v s13v.1 s62v.2.1 s62v.2.2.1) = (synodref1_Reader_Left.v x0 s62v.2.2.2.1 s62v.2.2.2.2)))), cv ((((!s62v.1) || (!decide ((wire_Reader_At.v s13v.1 s62v.2.1 s62v.2.2.1) = s62v.2.2.2.1))) || (!decide ((wire_Reader_Left.v s13v.1 s62v.2.1 s62v.2.2.1) = (synodref1_Reader_Left.v x0 s62v.2.2.2.1 s62v.2.2.2.2)))) == false) (.pointer (some ⟨y14v.1, 0, none⟩)), cv ((((!s62v.1) || (!decide ((wire_Reader_At.v s13v.1 s62v.2.1 s62v.2.2.1) = s62v.2.2.2.1))) || (!decide ((wire_Reader_Left.v s13v.1 s62v.2.1 s62v.2.2.1) = (synodref1_Reader_Left.v x0 s62v.2.2.2.1 s62v.2.2.2.2)))) == false) (.int .i64 (wire_Reader_Done.v s13v.1 s62v.2.1 s62v.2.2.1)), cv ((((!s62v.1) || (!decide ((wire_Reader_At.v s13v.1 s62v.2.1 s62v.2.2.1) = s62v.2.2.2.1))) || (!decide ((wire_Reader_Left.v s13v.1 s62v.2.1 s62v.2.2.1) = (synodref1_Reader_Left.v x0 s62v.2.2.2.1 s62v.2.2.2.2)))) == false) (.int .i64 (synodref_Num.v (wire_Reader_Done.v s13v.1 s62v.2.1 s62v.2.2.1))), cv ((((!s62v.1) || (!decide ((wire_Reader_At.v s13v.1 s62v.2.1 s62v.2.2.1) = s62v.2.2.2.1))) || (!decide ((wire_Reader_Left.v s13v.1 s62v.2.1 s62v.2.2.1) = (synodref1_Reader_Left.v x0 s62v.2.2.2.1 s62v.2.2.2.2)))) == false) (.pointer (some ⟨b16v, 0, none⟩)), cv ((((!s62v.1) || (!decide ((wire_Reader_At.v s13v.1 s62v.2.1 s62v.2.2.1) = s62v.2.2.2.1))) || (!decide ((wire_Reader_Left.v s13v.1 s62v.2.1 s62v.2.2.1) = (synodref1_Reader_Left.v x0 s62v.2.2.2.1 s62v.2.2.2.2)))) == false) (.int .i64 (synodref1_Reader_Done.v x0 s62v.2.2.2.1 s62v.2.2.2.2)), cv ((((!s62v.1) || (!decide ((wire_Reader_At.v s13v.1 s62v.2.1 s62v.2.2.1) = s62v.2.2.2.1))) || (!decide ((wire_Reader_Left.v s13v.1 s62v.2.1 s62v.2.2.1) = (synodref1_Reader_Left.v x0 s62v.2.2.2.1 s62v.2.2.2.2)))) == false) (.bool (!decide ((synodref_Num.v (wire_Reader_Done.v s13v.1 s62v.2.1 s62v.2.2.1)) = (synodref1_Reader_Done.v x0 s62v.2.2.2.1 s62v.2.2.2.2)))), .bool ((((!s62v.1) || (!decide ((wire_Reader_At.v s13v.1 s62v.2.1 s62v.2.2.1) = s62v.2.2.2.1))) || (!decide ((wire_Reader_Left.v s13v.1 s62v.2.1 s62v.2.2.1) = (synodref1_Reader_Left.v x0 s62v.2.2.2.1 s62v.2.2.2.2)))) || (!decide ((synodref_Num.v (wire_Reader_Done.v s13v.1 s62v.2.1 s62v.2.2.1)) = (synodref1_Reader_Done.v x0 s62v.2.2.2.1 s62v.2.2.2.2))))].getD i undef) (fun j γ => [[obj y14v.1 78 [.slice y14v.2.1 s13v.1.length y14v.2.2, .int .i64 s62v.2.1, .int .i64 s62v.2.2.1], obj b16v 45 [.slice a0 x0.length c0, .int .i64 s62v.2.2.2.1, .int .i64 s62v.2.2.2.2], Row 5 1 y14v.2.1 s13v.1.length y14v.2.2 (encB s13v.1), F]].getD j []) (fun γ => [(1, .slice a1 x1.length c1), (7, .pointer (some ⟨y14v.1, 0, none⟩)), (8, .pointer (some ⟨b16v, 0, none⟩)), (11, .int .i64 s41v.1), (68, cv ((!s62v.1) == false) (.pointer (some ⟨y14v.1, 0, none⟩))), (69, cv ((!s62v.1) == false) (.int .i64 (wire_Reader_At.v s13v.1 s62v.2.1 s62v.2.2.1))), (70, cv ((!s62v.1) == false) (.pointer (some ⟨b16v, 0, none⟩))), (71, cv ((!s62v.1) == false) (.pointer (some ⟨b16v, 0, none⟩))), (72, cv ((!s62v.1) == false) (.pointer (some ⟨b16v, 1, none⟩))), (73, cv ((!s62v.1) == false) (.int .i64 s62v.2.2.2.1)), (74, cv ((!s62v.1) == false) (.bool (!decide ((wire_Reader_At.v s13v.1 s62v.2.1 s62v.2.2.1) = s62v.2.2.2.1)))), (77, cv (((!s62v.1) || (!decide ((wire_Reader_At.v s13v.1 s62v.2.1 s62v.2.2.1) = s62v.2.2.2.1))) == false) (.pointer (some ⟨y14v.1, 0, none⟩))), (78, cv (((!s62v.1) || (!decide ((wire_Reader_At.v s13v.1 s62v.2.1 s62v.2.2.1) = s62v.2.2.2.1))) == false) (.int .i64 (wire_Reader_Left.v s13v.1 s62v.2.1 s62v.2.2.1))), (79, cv (((!s62v.1) || (!decide ((wire_Reader_At.v s13v.1 s62v.2.1 s62v.2.2.1) = s62v.2.2.2.1))) == false) (.pointer (some ⟨b16v, 0, none⟩))), (80, cv (((!s62v.1) || (!decide ((wire_Reader_At.v s13v.1 s62v.2.1 s62v.2.2.1) = s62v.2.2.2.1))) == false) (.int .i64 (synodref1_Reader_Left.v x0 s62v.2.2.2.1 s62v.2.2.2.2))), (81, cv (((!s62v.1) || (!decide ((wire_Reader_At.v s13v.1 s62v.2.1 s62v.2.2.1) = s62v.2.2.2.1))) == false) (.bool (!decide ((wire_Reader_Left.v s13v.1 s62v.2.1 s62v.2.2.1) = (synodref1_Reader_Left.v x0 s62v.2.2.2.1 s62v.2.2.2.2))))), (84, cv ((((!s62v.1) || (!decide ((wire_Reader_At.v s13v.1 s62v.2.1 s62v.2.2.1) = s62v.2.2.2.1))) || (!decide ((wire_Reader_Left.v s13v.1 s62v.2.1 s62v.2.2.1) = (synodref1_Reader_Left.v x0 s62v.2.2.2.1 s62v.2.2.2.2)))) == false) (.pointer (some ⟨y14v.1, 0, none⟩))), (85, cv ((((!s62v.1) || (!decide ((wire_Reader_At.v s13v.1 s62v.2.1 s62v.2.2.1) = s62v.2.2.2.1))) || (!decide ((wire_Reader_Left.v s13v.1 s62v.2.1 s62v.2.2.1) = (synodref1_Reader_Left.v x0 s62v.2.2.2.1 s62v.2.2.2.2)))) == false) (.int .i64 (wire_Reader_Done.v s13v.1 s62v.2.1 s62v.2.2.1))), (86, cv ((((!s62v.1) || (!decide ((wire_Reader_At.v s13v.1 s62v.2.1 s62v.2.2.1) = s62v.2.2.2.1))) || (!decide ((wire_Reader_Left.v s13v.1 s62v.2.1 s62v.2.2.1) = (synodref1_Reader_Left.v x0 s62v.2.2.2.1 s62v.2.2.2.2)))) == false) (.int .i64 (synodref_Num.v (wire_Reader_Done.v s13v.1 s62v.2.1 s62v.2.2.1)))), (87, cv ((((!s62v.1) || (!decide ((wire_Reader_At.v s13v.1 s62v.2.1 s62v.2.2.1) = s62v.2.2.2.1))) || (!decide ((wire_Reader_Left.v s13v.1 s62v.2.1 s62v.2.2.1) = (synodref1_Reader_Left.v x0 s62v.2.2.2.1 s62v.2.2.2.2)))) == false) (.pointer (some ⟨b16v, 0, none⟩))), (88, cv ((((!s62v.1) || (!decide ((wire_Reader_At.v s13v.1 s62v.2.1 s62v.2.2.1) = s62v.2.2.2.1))) || (!decide ((wire_Reader_Left.v s13v.1 s62v.2.1 s62v.2.2.1) = (synodref1_Reader_Left.v x0 s62v.2.2.2.1 s62v.2.2.2.2)))) == false) (.int .i64 (synodref1_Reader_Done.v x0 s62v.2.2.2.1 s62v.2.2.2.2))), (89, cv ((((!s62v.1) || (!decide ((wire_Reader_At.v s13v.1 s62v.2.1 s62v.2.2.1) = s62v.2.2.2.1))) || (!decide ((wire_Reader_Left.v s13v.1 s62v.2.1 s62v.2.2.1) = (synodref1_Reader_Left.v x0 s62v.2.2.2.1 s62v.2.2.2.2)))) == false) (.bool (!decide ((synodref_Num.v (wire_Reader_Done.v s13v.1 s62v.2.1 s62v.2.2.1)) = (synodref1_Reader_Done.v x0 s62v.2.2.2.1 s62v.2.2.2.2))))), (90, .bool ((((!s62v.1) || (!decide ((wire_Reader_At.v s13v.1 s62v.2.1 s62v.2.2.1) = s62v.2.2.2.1))) || (!decide ((wire_Reader_Left.v s13v.1 s62v.2.1 s62v.2.2.1) = (synodref1_Reader_Left.v x0 s62v.2.2.2.1 s62v.2.2.2.2)))) || (!decide ((synodref_Num.v (wire_Reader_Done.v s13v.1 s62v.2.1 s62v.2.2.1)) = (synodref1_Reader_Done.v x0 s62v.2.2.2.1 s62v.2.2.2.2)))))]) mixed (by decide) (by decide) (by decide) (by decide) (by decide) (by decide) (by decide) 91 rfl (by decide) (by decide) (by decide) (Ent.refl _) ?_ ?_ (fun _ => ⟨rfl, rfl, rfl, rfl, rfl, rfl, rfl, rfl, rfl, rfl, rfl, rfl, rfl, rfl, rfl, rfl, rfl, rfl, rfl, rfl, rfl, rfl, rfl, trivial⟩) ?_
            · exact (All.cons (fun γ => (All.cons (QOb.plain [(12, .bool s62v.1)] rfl rfl (.o rfl (by decide) .nil) (q_move rfl rfl) rfl) All.nil)) (All.cons (fun γ => (All.cons (QOb.plain [(65, .bool s62v.1)] rfl rfl (.w 0 rfl rfl rfl .nil) (q_not rfl rfl) rfl) All.nil)) (All.cons (fun γ => (All.cons (QOb.plain [(66, .bool (!s62v.1))] rfl rfl (.w 1 rfl rfl rfl .nil) (q_move rfl rfl) rfl) All.nil)) (All.cons (fun γ => (All.cons (QOb.grd (b := !s62v.1) [(7, .pointer (some ⟨y14v.1, 0, none⟩)), (67, .bool (!s62v.1))] rfl rfl rfl rfl (.o rfl (by decide) (.w 2 rfl rfl rfl .nil)) (fun hb95v => RQ.sub (E' := [(7, .pointer (some ⟨y14v.1, 0, none⟩))]) ⟨rfl, trivial⟩ (q_move rfl rfl)) rfl) All.nil)) (All.cons (fun γ => (All.cons (QOb.grd (b := !s62v.1) [(67, .bool (!s62v.1)), (68, cv ((!s62v.1) == false) (.pointer (some ⟨y14v.1, 0, none⟩)))] rfl rfl rfl rfl (.w 2 rfl rfl rfl (.w 3 rfl rfl rfl .nil)) (fun hb103v => RQ.sub (E' := [(68, .pointer (some ⟨y14v.1, 0, none⟩))]) ⟨lk_cv rfl hb103v, trivial⟩ (RE.rq (re_call (vs := [.pointer (some ⟨y14v.1, 0, none⟩)]) (cap := []) (A := [obj y14v.1 78 [.slice y14v.2.1 s13v.1.length y14v.2.2, .int .i64 s62v.2.1, .int .i64 s62v.2.2.1]]) (rst := [obj b16v 45 [.slice a0 x0.length c0, .int .i64 s62v.2.2.2.1, .int .i64 s62v.2.2.2.2], Row 5 1 y14v.2.1 s13v.1.length y14v.2.2 (encB s13v.1), F]) rfl rfl rfl rfl rfl rfl Try.call24 (.sel 0 rfl (.sel 0 rfl (.sel 0 rfl (.sel 0 rfl (.nil _))))) (wire_Reader_At.calls _ _ y14v.1 y14v.2.1 y14v.2.2 s13v.1 s62v.2.1 s62v.2.2.1 (hq96v.lend 1 rfl) hq97v hq98v) (wire_Reader_At.tot s13v.1 s62v.2.1 s62v.2.2.1)) (fun _ => rfl) (fun _ => (.sel 0 rfl (.sel 0 rfl (.sel 0 rfl (.sel 0 rfl (.nil _)))))))) rfl) All.nil)) (All.cons (fun γ => (All.cons (QOb.grd (b := !s62v.1) [(8, .pointer (some ⟨b16v, 0, none⟩)), (67, .bool (!s62v.1))] rfl rfl rfl rfl (.o rfl (by decide) (.w 2 rfl rfl rfl .nil)) (fun hb104v => RQ.sub (E' := [(8, .pointer (some ⟨b16v, 0, none⟩))]) ⟨rfl, trivial⟩ (q_move rfl rfl)) rfl) All.nil)) (All.cons (fun γ => (All.cons (QOb.grd (b := !s62v.1) [(67, .bool (!s62v.1)), (70, cv ((!s62v.1) == false) (.pointer (some ⟨b16v, 0, none⟩)))] rfl rfl rfl rfl (.w 2 rfl rfl rfl (.w 5 rfl rfl rfl .nil)) (fun hb105v => RQ.sub (E' := [(70, .pointer (some ⟨b16v, 0, none⟩))]) ⟨lk_cv rfl hb105v, trivial⟩ (q_nil rfl rfl)) rfl) All.nil)) (All.cons (fun γ => (All.cons (QOb.grd (b := !s62v.1) [(67, .bool (!s62v.1)), (71, cv ((!s62v.1) == false) (.pointer (some ⟨b16v, 0, none⟩)))] rfl rfl rfl rfl (.w 2 rfl rfl rfl (.w 6 rfl rfl rfl .nil)) (fun hb106v => RQ.sub (E' := [(71, .pointer (some ⟨b16v, 0, none⟩))]) ⟨lk_cv rfl hb106v, trivial⟩ (q_fa rfl rfl Try.underlying45 rfl rfl Try.sizeOf3 rfl)) rfl) All.nil)) (All.cons (fun γ => (All.cons (QOb.grd (b := !s62v.1) [(67, .bool (!s62v.1)), (72, cv ((!s62v.1) == false) (.pointer (some ⟨b16v, 1, none⟩)))] rfl rfl rfl rfl (.w 2 rfl rfl rfl (.w 7 rfl rfl rfl .nil)) (fun hb107v => RQ.sub (E' := [(72, .pointer (some ⟨b16v, 1, none⟩))]) ⟨lk_cv rfl hb107v, trivial⟩ (q_load rfl rfl Try.isAgg3 (.obj 1 rfl rfl))) rfl) All.nil)) (All.cons (fun γ => (All.cons (QOb.grd (b := !s62v.1) [(67, .bool (!s62v.1)), (69, cv ((!s62v.1) == false) (.int .i64 (wire_Reader_At.v s13v.1 s62v.2.1 s62v.2.2.1))), (73, cv ((!s62v.1) == false) (.int .i64 s62v.2.2.2.1))] rfl rfl rfl rfl (.w 2 rfl rfl rfl (.w 4 rfl rfl rfl (.w 8 rfl rfl rfl .nil))) (fun hb108v => RQ.sub (E' := [(69, .int .i64 (wire_Reader_At.v s13v.1 s62v.2.1 s62v.2.2.1)), (73, .int .i64 s62v.2.2.2.1)]) ⟨lk_cv rfl hb108v, lk_cv rfl hb108v, trivial⟩ (q_neq rfl rfl rfl)) rfl) All.nil)) (All.cons (fun γ => (All.cons (QOb.plain [(67, .bool (!s62v.1)), (74, cv ((!s62v.1) == false) (.bool (!decide ((wire_Reader_At.v s13v.1 s62v.2.1 s62v.2.2.1) = s62v.2.2.2.1))))] rfl rfl (.w 2 rfl rfl rfl (.w 9 rfl rfl rfl .nil)) (q_or rfl rfl rfl) rfl) All.nil)) (All.cons (fun γ => (All.cons (QOb.plain [(75, .bool ((!s62v.1) || (!decide ((wire_Reader_At.v s13v.1 s62v.2.1 s62v.2.2.1) = s62v.2.2.2.1))))] rfl rfl (.w 10 rfl rfl rfl .nil) (q_move rfl rfl) rfl) All.nil)) (All.cons (fun γ => (All.cons (QOb.grd (b := (!s62v.1) || (!decide ((wire_Reader_At.v s13v.1 s62v.2.1 s62v.2.2.1) = s62v.2.2.2.1))) [(7, .pointer (some ⟨y14v.1, 0, none⟩)), (76, .bool ((!s62v.1) || (!decide ((wire_Reader_At.v s13v.1 s62v.2.1 s62v.2.2.1) = s62v.2.2.2.1))))] rfl rfl rfl rfl (.o rfl (by decide) (.w 11 rfl rfl rfl .nil)) (fun hb109v => RQ.sub (E' := [(7, .pointer (some ⟨y14v.1, 0, none⟩))]) ⟨rfl, trivial⟩ (q_move rfl rfl)) rfl) All.nil)) (All.cons (fun γ => (All.cons (QOb.grd (b := (!s62v.1) || (!decide ((wire_Reader_At.v s13v.1 s62v.2.1 s62v.2.2.1) = s62v.2.2.2.1))) [(76, .bool ((!s62v.1) || (!decide ((wire_Reader_At.v s13v.1 s62v.2.1 s62v.2.2.1) = s62v.2.2.2.1)))), (77, cv (((!s62v.1) || (!decide ((wire_Reader_At.v s13v.1 s62v.2.1 s62v.2.2.1) = s62v.2.2.2.1))) == false) (.pointer (some ⟨y14v.1, 0, none⟩)))] rfl rfl rfl rfl (.w 11 rfl rfl rfl (.w 12 rfl rfl rfl .nil)) (fun hb117v => RQ.sub (E' := [(77, .pointer (some ⟨y14v.1, 0, none⟩))]) ⟨lk_cv rfl hb117v, trivial⟩ (RE.rq (re_call (vs := [.pointer (some ⟨y14v.1, 0, none⟩)]) (cap := []) (A := [obj y14v.1 78 [.slice y14v.2.1 s13v.1.length y14v.2.2, .int .i64 s62v.2.1, .int .i64 s62v.2.2.1]]) (rst := [obj b16v 45 [.slice a0 x0.length c0, .int .i64 s62v.2.2.2.1, .int .i64 s62v.2.2.2.2], Row 5 1 y14v.2.1 s13v.1.length y14v.2.2 (encB s13v.1), F]) rfl rfl rfl rfl rfl rfl Try.call25 (.sel 0 rfl (.sel 0 rfl (.sel 0 rfl (.sel 0 rfl (.nil _))))) (wire_Reader_Left.calls _ _ y14v.1 y14v.2.1 y14v.2.2 s13v.1 s62v.2.1 s62v.2.2.1 (hq110v.lend 1 rfl) hq111v hq112v) (wire_Reader_Left.tot s13v.1 s62v.2.1 s62v.2.2.1)) (fun _ => rfl) (fun _ => (.sel 0 rfl (.sel 0 rfl (.sel 0 rfl (.sel 0 rfl (.nil _)))))))) rfl) All.nil)) (All.cons (fun γ => (All.cons (QOb.grd (b := (!s62v.1) || (!decide ((wire_Reader_At.v s13v.1 s62v.2.1 s62v.2.2.1) = s62v.2.2.2.1))) [(8, .pointer (some ⟨b16v, 0, none⟩)), (76, .bool ((!s62v.1) || (!decide ((wire_Reader_At.v s13v.1 s62v.2.1 s62v.2.2.1) = s62v.2.2.2.1))))] rfl rfl rfl rfl (.o rfl (by decide) (.w 11 rfl rfl rfl .nil)) (fun hb118v => RQ.sub (E' := [(8, .pointer (some ⟨b16v, 0, none⟩))]) ⟨rfl, trivial⟩ (q_move rfl rfl)) rfl) All.nil)) (All.cons (fun γ => (All.cons (QOb.grd (b := (!s62v.1) || (!decide ((wire_Reader_At.v s13v.1 s62v.2.1 s62v.2.2.1) = s62v.2.2.2.1))) [(76, .bool ((!s62v.1) || (!decide ((wire_Reader_At.v s13v.1 s62v.2.1 s62v.2.2.1) = s62v.2.2.2.1)))), (79, cv (((!s62v.1) || (!decide ((wire_Reader_At.v s13v.1 s62v.2.1 s62v.2.2.1) = s62v.2.2.2.1))) == false) (.pointer (some ⟨b16v, 0, none⟩)))] rfl rfl rfl rfl (.w 11 rfl rfl rfl (.w 14 rfl rfl rfl .nil)) (fun hb122v => RQ.sub (E' := [(79, .pointer (some ⟨b16v, 0, none⟩))]) ⟨lk_cv rfl hb122v, trivial⟩ (RE.rq (re_call (vs := [.pointer (some ⟨b16v, 0, none⟩)]) (cap := []) (A := [obj b16v 45 [.slice a0 x0.length c0, .int .i64 s62v.2.2.2.1, .int .i64 s62v.2.2.2.2]]) (rst := [obj y14v.1 78 [.slice y14v.2.1 s13v.1.length y14v.2.2, .int .i64 s62v.2.1, .int .i64 s62v.2.2.1], Row 5 1 y14v.2.1 s13v.1.length y14v.2.2 (encB s13v.1), F]) rfl rfl rfl rfl rfl rfl Try.call26 (.sel 1 rfl (.sel 0 rfl (.sel 0 rfl (.sel 0 rfl (.nil _))))) (synodref1_Reader_Left.calls _ _ b16v a0 c0 x0 s62v.2.2.2.1 s62v.2.2.2.2 (h0.lend 2 rfl) hc0 hm0) (synodref1_Reader_Left.tot x0 s62v.2.2.2.1 s62v.2.2.2.2)) (fun _ => rfl) (fun _ => (.sel 1 rfl (.sel 0 rfl (.sel 0 rfl (.sel 0 rfl (.nil _)))))))) rfl) All.nil)) (All.cons (fun γ => (All.cons (QOb.grd (b := (!s62v.1) || (!decide ((wire_Reader_At.v s13v.1 s62v.2.1 s62v.2.2.1) = s62v.2.2.2.1))) [(76, .bool ((!s62v.1) || (!decide ((wire_Reader_At.v s13v.1 s62v.2.1 s62v.2.2.1) = s62v.2.2.2.1)))), (78, cv (((!s62v.1) || (!decide ((wire_Reader_At.v s13v.1 s62v.2.1 s62v.2.2.1) = s62v.2.2.2.1))) == false) (.int .i64 (wire_Reader_Left.v s13v.1 s62v.2.1 s62v.2.2.1))), (80, cv (((!s62v.1) || (!decide ((wire_Reader_At.v s13v.1 s62v.2.1 s62v.2.2.1) = s62v.2.2.2.1))) == false) (.int .i64 (synodref1_Reader_Left.v x0 s62v.2.2.2.1 s62v.2.2.2.2)))] rfl rfl rfl rfl (.w 11 rfl rfl rfl (.w 13 rfl rfl rfl (.w 15 rfl rfl rfl .nil))) (fun hb123v => RQ.sub (E' := [(78, .int .i64 (wire_Reader_Left.v s13v.1 s62v.2.1 s62v.2.2.1)), (80, .int .i64 (synodref1_Reader_Left.v x0 s62v.2.2.2.1 s62v.2.2.2.2))]) ⟨lk_cv rfl hb123v, lk_cv rfl hb123v, trivial⟩ (q_neq rfl rfl rfl)) rfl) All.nil)) (All.cons (fun γ => (All.cons (QOb.plain [(76, .bool ((!s62v.1) || (!decide ((wire_Reader_At.v s13v.1 s62v.2.1 s62v.2.2.1) = s62v.2.2.2.1)))), (81, cv (((!s62v.1) || (!decide ((wire_Reader_At.v s13v.1 s62v.2.1 s62v.2.2.1) = s62v.2.2.2.1))) == false) (.bool (!decide ((wire_Reader_Left.v s13v.1 s62v.2.1 s62v.2.2.1) = (synodref1_Reader_Left.v x0 s62v.2.2.2.1 s62v.2.2.2.2)))))] rfl rfl (.w 11 rfl rfl rfl (.w 16 rfl rfl rfl .nil)) (q_or rfl rfl rfl) rfl) All.nil)) (All.cons (fun γ => (All.cons (QOb.plain [(82, .bool (((!s62v.1) || (!decide ((wire_Reader_At.v s13v.1 s62v.2.1 s62v.2.2.1) = s62v.2.2.2.1))) || (!decide ((wire_Reader_Left.v s13v.1 s62v.2.1 s62v.2.2.1) = (synodref1_Reader_Left.v x0 s62v.2.2.2.1 s62v.2.2.2.2)))))] rfl rfl (.w 17 rfl rfl rfl .nil) (q_move rfl rfl) rfl) All.nil)) (All.cons (fun γ => (All.cons (QOb.grd (b := ((!s62v.1) || (!decide ((wire_Reader_At.v s13v.1 s62v.2.1 s62v.2.2.1) = s62v.2.2.2.1))) || (!decide ((wire_Reader_Left.v s13v.1 s62v.2.1 s62v.2.2.1) = (synodref1_Reader_Left.v x0 s62v.2.2.2.1 s62v.2.2.2.2)))) [(7, .pointer (some ⟨y14v.1, 0, none⟩)), (83, .bool (((!s62v.1) || (!decide ((wire_Reader_At.v s13v.1 s62v.2.1 s62v.2.2.1) = s62v.2.2.2.1))) || (!decide ((wire_Reader_Left.v s13v.1 s62v.2.1 s62v.2.2.1) = (synodref1_Reader_Left.v x0 s62v.2.2.2.1 s62v.2.2.2.2)))))] rfl rfl rfl rfl (.o rfl (by decide) (.w 18 rfl rfl rfl .nil)) (fun hb124v => RQ.sub (E' := [(7, .pointer (some ⟨y14v.1, 0, none⟩))]) ⟨rfl, trivial⟩ (q_move rfl rfl)) rfl) All.nil)) (All.cons (fun γ => (All.cons (QOb.grd (b := ((!s62v.1) || (!decide ((wire_Reader_At.v s13v.1 s62v.2.1 s62v.2.2.1) = s62v.2.2.2.1))) || (!decide ((wire_Reader_Left.v s13v.1 s62v.2.1 s62v.2.2.1) = (synodref1_Reader_Left.v x0 s62v.2.2.2.1 s62v.2.2.2.2)))) [(83, .bool (((!s62v.1) || (!decide ((wire_Reader_At.v s13v.1 s62v.2.1 s62v.2.2.1) = s62v.2.2.2.1))) || (!decide ((wire_Reader_Left.v s13v.1 s62v.2.1 s62v.2.2.1) = (synodref1_Reader_Left.v x0 s62v.2.2.2.1 s62v.2.2.2.2))))), (84, cv ((((!s62v.1) || (!decide ((wire_Reader_At.v s13v.1 s62v.2.1 s62v.2.2.1) = s62v.2.2.2.1))) || (!decide ((wire_Reader_Left.v s13v.1 s62v.2.1 s62v.2.2.1) = (synodref1_Reader_Left.v x0 s62v.2.2.2.1 s62v.2.2.2.2)))) == false) (.pointer (some ⟨y14v.1, 0, none⟩)))] rfl rfl rfl rfl (.w 18 rfl rfl rfl (.w 19 rfl rfl rfl .nil)) (fun hb132v => RQ.sub (E' := [(84, .pointer (some ⟨y14v.1, 0, none⟩))]) ⟨lk_cv rfl hb132v, trivial⟩ (RE.rq (re_call (vs := [.pointer (some ⟨y14v.1, 0, none⟩)]) (cap := []) (A := [obj y14v.1 78 [.slice y14v.2.1 s13v.1.length y14v.2.2, .int .i64 s62v.2.1, .int .i64 s62v.2.2.1]]) (rst := [obj b16v 45 [.slice a0 x0.length c0, .int .i64 s62v.2.2.2.1, .int .i64 s62v.2.2.2.2], Row 5 1 y14v.2.1 s13v.1.length y14v.2.2 (encB s13v.1), F]) rfl rfl rfl rfl rfl rfl Try.call27 (.sel 0 rfl (.sel 0 rfl (.sel 0 rfl (.sel 0 rfl (.nil _))))) (wire_Reader_Done.calls _ _ y14v.1 y14v.2.1 y14v.2.2 s13v.1 s62v.2.1 s62v.2.2.1 (hq125v.lend 1 rfl) hq126v hq127v) (wire_Reader_Done.tot s13v.1 s62v.2.1 s62v.2.2.1)) (fun _ => rfl) (fun _ => (.sel 0 rfl (.sel 0 rfl (.sel 0 rfl (.sel 0 rfl (.nil _)))))))) rfl) All.nil)) (All.cons (fun γ => (All.cons (QOb.grd (b := ((!s62v.1) || (!decide ((wire_Reader_At.v s13v.1 s62v.2.1 s62v.2.2.1) = s62v.2.2.2.1))) || (!decide ((wire_Reader_Left.v s13v.1 s62v.2.1 s62v.2.2.1) = (synodref1_Reader_Left.v x0 s62v.2.2.2.1 s62v.2.2.2.2)))) [(83, .bool (((!s62v.1) || (!decide ((wire_Reader_At.v s13v.1 s62v.2.1 s62v.2.2.1) = s62v.2.2.2.1))) || (!decide ((wire_Reader_Left.v s13v.1 s62v.2.1 s62v.2.2.1) = (synodref1_Reader_Left.v x0 s62v.2.2.2.1 s62v.2.2.2.2))))), (85, cv ((((!s62v.1) || (!decide ((wire_Reader_At.v s13v.1 s62v.2.1 s62v.2.2.1) = s62v.2.2.2.1))) || (!decide ((wire_Reader_Left.v s13v.1 s62v.2.1 s62v.2.2.1) = (synodref1_Reader_Left.v x0 s62v.2.2.2.1 s62v.2.2.2.2)))) == false) (.int .i64 (wire_Reader_Done.v s13v.1 s62v.2.1 s62v.2.2.1)))] rfl rfl rfl rfl (.w 18 rfl rfl rfl (.w 20 rfl rfl rfl .nil)) (fun hb136v => RQ.sub (E' := [(85, .int .i64 (wire_Reader_Done.v s13v.1 s62v.2.1 s62v.2.2.1))]) ⟨lk_cv rfl hb136v, trivial⟩ (RE.rq (re_call (vs := [.int .i64 (wire_Reader_Done.v s13v.1 s62v.2.1 s62v.2.2.1)]) (cap := []) (A := []) (rst := [obj y14v.1 78 [.slice y14v.2.1 s13v.1.length y14v.2.2, .int .i64 s62v.2.1, .int .i64 s62v.2.2.1], obj b16v 45 [.slice a0 x0.length c0, .int .i64 s62v.2.2.2.1, .int .i64 s62v.2.2.2.2], Row 5 1 y14v.2.1 s13v.1.length y14v.2.2 (encB s13v.1), F]) rfl rfl rfl rfl rfl rfl Try.call14 (.sel 0 rfl (.sel 0 rfl (.sel 0 rfl (.sel 0 rfl (.nil _))))) (synodref_Num.calls _ _ (wire_Reader_Done.v s13v.1 s62v.2.1 s62v.2.2.1) ) (synodref_Num.tot (wire_Reader_Done.v s13v.1 s62v.2.1 s62v.2.2.1))) (fun _ => rfl) (fun _ => (.sel 0 rfl (.sel 0 rfl (.sel 0 rfl (.sel 0 rfl (.nil _)))))))) rfl) All.nil)) (All.cons (fun γ => (All.cons (QOb.grd (b := ((!s62v.1) || (!decide ((wire_Reader_At.v s13v.1 s62v.2.1 s62v.2.2.1) = s62v.2.2.2.1))) || (!decide ((wire_Reader_Left.v s13v.1 s62v.2.1 s62v.2.2.1) = (synodref1_Reader_Left.v x0 s62v.2.2.2.1 s62v.2.2.2.2)))) [(8, .pointer (some ⟨b16v, 0, none⟩)), (83, .bool (((!s62v.1) || (!decide ((wire_Reader_At.v s13v.1 s62v.2.1 s62v.2.2.1) = s62v.2.2.2.1))) || (!decide ((wire_Reader_Left.v s13v.1 s62v.2.1 s62v.2.2.1) = (synodref1_Reader_Left.v x0 s62v.2.2.2.1 s62v.2.2.2.2)))))] rfl rfl rfl rfl (.o rfl (by decide) (.w 18 rfl rfl rfl .nil)) (fun hb137v => RQ.sub (E' := [(8, .pointer (some ⟨b16v, 0, none⟩))]) ⟨rfl, trivial⟩ (q_move rfl rfl)) rfl) All.nil)) (All.cons (fun γ => (All.cons (QOb.grd (b := ((!s62v.1) || (!decide ((wire_Reader_At.v s13v.1 s62v.2.1 s62v.2.2.1) = s62v.2.2.2.1))) || (!decide ((wire_Reader_Left.v s13v.1 s62v.2.1 s62v.2.2.1) = (synodref1_Reader_Left.v x0 s62v.2.2.2.1 s62v.2.2.2.2)))) [(83, .bool (((!s62v.1) || (!decide ((wire_Reader_At.v s13v.1 s62v.2.1 s62v.2.2.1) = s62v.2.2.2.1))) || (!decide ((wire_Reader_Left.v s13v.1 s62v.2.1 s62v.2.2.1) = (synodref1_Reader_Left.v x0 s62v.2.2.2.1 s62v.2.2.2.2))))), (87, cv ((((!s62v.1) || (!decide ((wire_Reader_At.v s13v.1 s62v.2.1 s62v.2.2.1) = s62v.2.2.2.1))) || (!decide ((wire_Reader_Left.v s13v.1 s62v.2.1 s62v.2.2.1) = (synodref1_Reader_Left.v x0 s62v.2.2.2.1 s62v.2.2.2.2)))) == false) (.pointer (some ⟨b16v, 0, none⟩)))] rfl rfl rfl rfl (.w 18 rfl rfl rfl (.w 22 rfl rfl rfl .nil)) (fun hb141v => RQ.sub (E' := [(87, .pointer (some ⟨b16v, 0, none⟩))]) ⟨lk_cv rfl hb141v, trivial⟩ (RE.rq (re_call (vs := [.pointer (some ⟨b16v, 0, none⟩)]) (cap := []) (A := [obj b16v 45 [.slice a0 x0.length c0, .int .i64 s62v.2.2.2.1, .int .i64 s62v.2.2.2.2]]) (rst := [obj y14v.1 78 [.slice y14v.2.1 s13v.1.length y14v.2.2, .int .i64 s62v.2.1, .int .i64 s62v.2.2.1], Row 5 1 y14v.2.1 s13v.1.length y14v.2.2 (encB s13v.1), F]) rfl rfl rfl rfl rfl rfl Try.call28 (.sel 1 rfl (.sel 0 rfl (.sel 0 rfl (.sel 0 rfl (.nil _))))) (synodref1_Reader_Done.calls _ _ b16v a0 c0 x0 s62v.2.2.2.1 s62v.2.2.2.2 (h0.lend 2 rfl) hc0 hm0) (synodref1_Reader_Done.tot x0 s62v.2.2.2.1 s62v.2.2.2.2)) (fun _ => rfl) (fun _ => (.sel 1 rfl (.sel 0 rfl (.sel 0 rfl (.sel 0 rfl (.nil _)))))))) rfl) All.nil)) (All.cons (fun γ => (All.cons (QOb.grd (b := ((!s62v.1) || (!decide ((wire_Reader_At.v s13v.1 s62v.2.1 s62v.2.2.1) = s62v.2.2.2.1))) || (!decide ((wire_Reader_Left.v s13v.1 s62v.2.1 s62v.2.2.1) = (synodref1_Reader_Left.v x0 s62v.2.2.2.1 s62v.2.2.2.2)))) [(83, .bool (((!s62v.1) || (!decide ((wire_Reader_At.v s13v.1 s62v.2.1 s62v.2.2.1) = s62v.2.2.2.1))) || (!decide ((wire_Reader_Left.v s13v.1 s62v.2.1 s62v.2.2.1) = (synodref1_Reader_Left.v x0 s62v.2.2.2.1 s62v.2.2.2.2))))), (86, cv ((((!s62v.1) || (!decide ((wire_Reader_At.v s13v.1 s62v.2.1 s62v.2.2.1) = s62v.2.2.2.1))) || (!decide ((wire_Reader_Left.v s13v.1 s62v.2.1 s62v.2.2.1) = (synodref1_Reader_Left.v x0 s62v.2.2.2.1 s62v.2.2.2.2)))) == false) (.int .i64 (synodref_Num.v (wire_Reader_Done.v s13v.1 s62v.2.1 s62v.2.2.1)))), (88, cv ((((!s62v.1) || (!decide ((wire_Reader_At.v s13v.1 s62v.2.1 s62v.2.2.1) = s62v.2.2.2.1))) || (!decide ((wire_Reader_Left.v s13v.1 s62v.2.1 s62v.2.2.1) = (synodref1_Reader_Left.v x0 s62v.2.2.2.1 s62v.2.2.2.2)))) == false) (.int .i64 (synodref1_Reader_Done.v x0 s62v.2.2.2.1 s62v.2.2.2.2)))] rfl rfl rfl rfl (.w 18 rfl rfl rfl (.w 21 rfl rfl rfl (.w 23 rfl rfl rfl .nil))) (fun hb142v => RQ.sub (E' := [(86, .int .i64 (synodref_Num.v (wire_Reader_Done.v s13v.1 s62v.2.1 s62v.2.2.1))), (88, .int .i64 (synodref1_Reader_Done.v x0 s62v.2.2.2.1 s62v.2.2.2.2))]) ⟨lk_cv rfl hb142v, lk_cv rfl hb142v, trivial⟩ (q_neq rfl rfl rfl)) rfl) All.nil)) (All.cons (fun γ => (All.cons (QOb.plain [(83, .bool (((!s62v.1) || (!decide ((wire_Reader_At.v s13v.1 s62v.2.1 s62v.2.2.1) = s62v.2.2.2.1))) || (!decide ((wire_Reader_Left.v s13v.1 s62v.2.1 s62v.2.2.1) = (synodref1_Reader_Left.v x0 s62v.2.2.2.1 s62v.2.2.2.2))))), (89, cv ((((!s62v.1) || (!decide ((wire_Reader_At.v s13v.1 s62v.2.1 s62v.2.2.1) = s62v.2.2.2.1))) || (!decide ((wire_Reader_Left.v s13v.1 s62v.2.1 s62v.2.2.1) = (synodref1_Reader_Left.v x0 s62v.2.2.2.1 s62v.2.2.2.2)))) == false) (.bool (!decide ((synodref_Num.v (wire_Reader_Done.v s13v.1 s62v.2.1 s62v.2.2.1)) = (synodref1_Reader_Done.v x0 s62v.2.2.2.1 s62v.2.2.2.2)))))] rfl rfl (.w 18 rfl rfl rfl (.w 24 rfl rfl rfl .nil)) (q_or rfl rfl rfl) rfl) All.nil)) All.nil))))))))))))))))))))))))))
            · exact All.nil
            · intro g143v
              refine nrm_then ?_
              refine sim_condb rfl (fun h144v => ?_) (fun h145v => ?_)
              · refine sim_seq ?_
                refine sim_region ?_
                refine simL_val (q_asg rfl rfl) rfl rfl rfl ?_
                refine simL_nil ?_
                refine nrm_then ?_
                refine sim_rtn ?_
                refine rtn_block ?_
                refine rtn_then ?_
                refine rtn_loop ?_
                refine rtn_block ?_
                refine rtn_cutR ?_
                exact rtn_fn () rfl rfl rfl (.sel 3 rfl (.nil _))
              · refine sim_skip ?_
                refine nrm_block ?_
                refine nrm_then ?_
                refine sim_region ?_
                refine simL_val (q_move rfl rfl) rfl rfl rfl ?_
                refine simL_val (q_add rfl rfl rfl) rfl rfl rfl ?_
                refine simL_val (q_asg rfl rfl) rfl rfl rfl ?_
                refine simL_nil ?_
                exact nrm_again (s := (IntKind.i64.wrap (s41v.1 + 1), s62v.2.2.2.1, s62v.2.2.2.2, s62v.2.1, s62v.2.2.1)) () ⟨rfl, rfl, rfl, rfl, trivial⟩ (.sel 1 rfl (.sel 0 rfl (.sel 0 rfl (.sel 0 rfl (.nil _)))))
          · refine sim_exi ?_
            refine exi_then ?_
            refine exi_loop ?_
            refine exi_here ?_
            exact nrm_cutR (s := ()) () trivial (.sel 3 rfl (.nil _))
        · intro s39v y40v
          refine sim_seq ?_
          refine sim_region ?_
          refine simL_val (q_asg rfl rfl) rfl rfl rfl ?_
          refine simL_nil ?_
          refine nrm_then ?_
          refine sim_rtn ?_
          exact rtn_fn () rfl rfl rfl (.sel 0 rfl (.nil _))

def synodlaw1_parts.l0 (x0 : List (Int × Int × Int × Bool × List UInt8)) : Nat → List (List UInt8) → Int → Option (List (List UInt8))
  | 0, _, _ => none
  | k + 1, z5v, z6v => if z6v < (x0.length : Int) then (if 0 ≤ z6v ∧ z6v < (x0.length : Int) then (if (z5v.length + ([(x0.getD z6v.toNat ((0 : Int), (0 : Int), (0 : Int), false, ([] : List UInt8))).2.2.2.2] : List (List UInt8)).length) * 24 ≤ 140737488355328 then (synodlaw1_parts.l0 x0 k (z5v ++ ([(x0.getD z6v.toNat ((0 : Int), (0 : Int), (0 : Int), false, ([] : List UInt8))).2.2.2.2] : List (List UInt8))) (IntKind.i64.wrap (z6v + 1))) else none) else none) else (some z5v)
def synodlaw1_parts.f (k : Nat) (x0 : List (Int × Int × Int × Bool × List UInt8)) : Option (List (List UInt8)) := (synodlaw1_parts.l0 x0 k ([] : List (List UInt8)) 0).bind fun s1v => (some s1v)
theorem synodlaw1_parts.calls (W : World) (F : HA) (G : HA) (hG : Up G F) (k : Nat) (a0 : Option Addr) (c0 : Nat) (x0 : List (Int × Int × Int × Bool × List UInt8)) (h0 : RdV G 5 (V62 G) a0 x0) (hc0 : x0.length ≤ c0) (hm0 : c0 ≤ maxLen) :
    Fn Try.prog W 30 [.slice a0 x0.length c0] [] F (synodlaw1_parts.f k x0) (fun (r : List (List UInt8)) (y : Option Addr × Nat) => .slice y.1 r.length y.2) (fun r y => [RowV 23 1 (V23 G) y.1 r y.2]) := by
  unfold synodlaw1_parts.f
  refine fn_intro 20 Try.func30 rfl Try.ntmps30 rfl ?_
  refine sim_seq ?_
  refine sim_region ?_
  refine simL_val (q_asg rfl rfl) rfl rfl rfl ?_
  refine simL_nil ?_
  refine nrm_then ?_
  refine sim_seq ?_
  refine sim_region ?_
  refine simL_val (q_asg rfl rfl) rfl rfl rfl ?_
  refine simL_nil ?_
  refine nrm_then ?_
  refine sim_cut (S := List (List UInt8)) (Option Addr × Nat) (fun s y => [(3, .slice y.1 s.length y.2)]) (fun s y => [RowV 23 1 (V23 G) y.1 s y.2, F]) ?_ ?_
  · refine sim_seq ?_
    refine sim_region ?_
    refine simL_val (q_asg rfl rfl) rfl rfl rfl ?_
    refine simL_nil ?_
    refine nrm_then ?_
    refine sim_block ?_
    refine sim_loop (S := List (List UInt8) × Int) (Option Addr × Nat) (fun k s => synodlaw1_parts.l0 x0 k s.1 s.2) (fun s y => [(0, .slice a0 x0.length c0), (3, .slice y.1 s.1.length y.2), (4, .int .i64 s.2)]) (fun s y => [RowV 23 1 (V23 G) y.1 s.1 y.2, F]) (fun _ => by rw [synodlaw1_parts.l0]) ?_ k (([] : List (List UInt8)), 0) (none, 0) ⟨rfl, rfl, rfl, trivial⟩ (.rowV_nil (.sel 0 rfl (.nil _)))
    intro k s3v y4v
    refine sim_eq (by rw [synodlaw1_parts.l0]) ?_
    refine sim_seq ?_
    refine sim_seq ?_
    refine sim_region ?_
    refine simL_val (q_move rfl rfl) rfl rfl rfl ?_
    refine simL_val (q_move rfl rfl) rfl rfl rfl ?_
    refine simL_val (q_len rfl rfl rfl Try.underlying52) rfl rfl rfl ?_
    refine simL_val (q_lss rfl rfl rfl) rfl rfl rfl ?_
    refine simL_nil ?_
    refine nrm_then ?_
    refine sim_cond rfl (fun h7v => ?_) (fun h8v => ?_)
    · refine sim_skip ?_
      refine nrm_then ?_
      refine sim_seq ?_
      refine sim_block ?_
      refine sim_region ?_
      refine simL_val (q_move rfl rfl) rfl rfl rfl ?_
      refine simL_val (q_move rfl rfl) rfl rfl rfl ?_
      refine simL_val (q_move rfl rfl) rfl rfl rfl ?_
      refine simL_ask (fun hi9v => ?_)
      obtain ⟨b10v, b10vo, r13v, ha11v, hV14v, hlr15v, hcell16v⟩ := RdV.pos h0 hG rfl (i := s3v.2.toNat) (by omega) ((0 : Int), (0 : Int), (0 : Int), false, ([] : List UInt8))
      obtain ⟨a17v, c18v, rfl, ⟨he19v, hc20v, hm21v⟩⟩ := hV14v
      refine simL_val (q_idx rfl rfl rfl ha11v Try.underlying52 Try.sizeOf62 hi9v.1 hi9v.2) rfl rfl rfl ?_
      refine simL_val (q_fa rfl rfl Try.underlying62 rfl rfl Try.sizeOf23 rfl) rfl rfl rfl ?_
      refine simL_val (q_load rfl rfl Try.isAgg23 (hcell16v 1 rfl 4 _ rfl)) rfl rfl rfl ?_
      have hlb23v : ListV 1 (V23 G) ([(x0.getD s3v.2.toNat ((0 : Int), (0 : Int), (0 : Int), false, ([] : List UInt8))).2.2.2.2] : List (List UInt8)) [[.slice a17v (((x0.getD s3v.2.toNat ((0 : Int), (0 : Int), (0 : Int), false, ([] : List UInt8))).2.2.2.2).length) c18v]] := ⟨⟨rfl, one_of (by rfl), ⟨a17v, c18v, rfl, ⟨he19v, hc20v, hm21v⟩⟩⟩, trivial⟩
      refine simL_eff (re_litV (V := (V23 G)) (xs := ([(x0.getD s3v.2.toNat ((0 : Int), (0 : Int), (0 : Int), false, ([] : List UInt8))).2.2.2.2] : List (List UInt8))) [[.slice a17v (((x0.getD s3v.2.toNat ((0 : Int), (0 : Int), (0 : Int), false, ([] : List UInt8))).2.2.2.2).length) c18v]] rfl rfl Try.underlying54 elt23 rfl (by kernel_rfl) rfl hlb23v rfl rfl) rfl rfl rfl ?_
      intro b23v
      refine simL_openV 1 rfl (fun rs28v hl29v => ?_)
      refine simL_ask (fun hb27v => ?_)
      refine simL_eff (re_appendV 1 rfl rfl rfl Try.underlying54 elt23 rfl hl29v (RdsV.row hlb23v 0 rfl) hb27v) rfl rfl rfl ?_
      intro y26v
      refine simL_val (q_asg rfl rfl) rfl rfl rfl ?_
      refine simL_nil ?_
      refine nrm_block ?_
      refine nrm_then ?_
      refine sim_region ?_
      refine simL_val (q_move rfl rfl) rfl rfl rfl ?_
      refine simL_val (q_add rfl rfl rfl) rfl rfl rfl ?_
      refine simL_val (q_asg rfl rfl) rfl rfl rfl ?_
      refine simL_nil ?_
      exact nrm_again (s := (s3v.1 ++ ([(x0.getD s3v.2.toNat ((0 : Int), (0 : Int), (0 : Int), false, ([] : List UInt8))).2.2.2.2] : List (List UInt8)), IntKind.i64.wrap (s3v.2 + 1))) (y26v.1, y26v.2) ⟨rfl, rfl, rfl, trivial⟩ (.sel 1 rfl (.sel 1 rfl (.nil _)))
    · refine sim_exi ?_
      refine exi_then ?_
      refine exi_loop ?_
      refine exi_here ?_
      exact nrm_cut (s := s3v.1) (y4v.1, y4v.2) ⟨rfl, trivial⟩ (.sel 0 rfl (.sel 0 rfl (.nil _)))
  · intro s1v y2v
    refine sim_seq ?_
    refine sim_region ?_
    refine simL_val (q_move rfl rfl) rfl rfl rfl ?_
    refine simL_val (q_asg rfl rfl) rfl rfl rfl ?_
    refine simL_nil ?_
    refine nrm_then ?_
    refine sim_rtn ?_
    exact rtn_fn (y2v.1, y2v.2) rfl rfl rfl (.sel 0 rfl (.sel 0 rfl (.nil _)))

def synodref_Few.l0 (x0 : List (List UInt8)) (x1 : Int) : Nat → Int → Int → Option ((Unit) ⊕ (Bool))
  | 0, _, _ => none
  | k + 1, z5v, z6v => if z6v < (x0.length : Int) then (if 0 ≤ z6v ∧ z6v < (x0.length : Int) then (if IntKind.i64.wrap (x1 - z5v) < ((x0.getD z6v.toNat ([] : List UInt8)).length : Int) then (some (.inr false)) else (if 0 ≤ z6v ∧ z6v < (x0.length : Int) then (synodref_Few.l0 x0 x1 k (IntKind.i64.wrap (z5v + ((x0.getD z6v.toNat ([] : List UInt8)).length : Int))) (IntKind.i64.wrap (z6v + 1))) else none)) else none) else (some (.inl ()))
def synodref_Few.f (k : Nat) (x0 : List (List UInt8)) (x1 : Int) : Option (Bool) := orR (synodref_Few.l0 x0 x1 k 0 0) fun s1v => (some true)
theorem synodref_Few.calls (W : World) (F : HA) (k : Nat) (a0 : Option Addr) (c0 : Nat) (x0 : List (List UInt8)) (x1 : Int) (h0 : RdV F 1 (V23 F) a0 x0) (hc0 : x0.length ≤ c0) (hm0 : c0 ≤ maxLen) :
    Fn Try.prog W 29 [.slice a0 x0.length c0, .int .i64 x1] [] F (synodref_Few.f k x0 x1) (fun (r : Bool) (y : Unit) => .bool r) (fun r y => []) := by
  unfold synodref_Few.f
  refine fn_intro 29 Try.func29 rfl Try.ntmps29 rfl ?_
  refine sim_seq ?_
  refine sim_region ?_
  refine simL_val (q_asg rfl rfl) rfl rfl rfl ?_
  refine simL_nil ?_
  refine nrm_then ?_
  refine sim_seq ?_
  refine sim_region ?_
  refine simL_val (q_asg rfl rfl) rfl rfl rfl ?_
  refine simL_nil ?_
  refine nrm_then ?_
  refine sim_cutR (S := Unit) (Unit) (fun s y => []) (fun s y => [F]) ?_ ?_
  · refine sim_seq ?_
    refine sim_region ?_
    refine simL_val (q_asg rfl rfl) rfl rfl rfl ?_
    refine simL_nil ?_
    refine nrm_then ?_
    refine sim_block ?_
    refine sim_loop (S := Int × Int) (Unit) (fun k s => synodref_Few.l0 x0 x1 k s.1 s.2) (fun s y => [(0, .slice a0 x0.length c0), (1, .int .i64 x1), (5, .int .i64 s.1), (6, .int .i64 s.2)]) (fun s y => [F]) (fun _ => by rw [synodref_Few.l0]) ?_ k (0, 0) () ⟨rfl, rfl, rfl, rfl, trivial⟩ (.sel 0 rfl (.nil _))
    intro k s3v y4v
    refine sim_eq (by rw [synodref_Few.l0]) ?_
    refine sim_seq ?_
    refine sim_seq ?_
    refine sim_region ?_
    refine simL_val (q_move rfl rfl) rfl rfl rfl ?_
    refine simL_val (q_move rfl rfl) rfl rfl rfl ?_
    refine simL_val (q_len rfl rfl rfl Try.underlying54) rfl rfl rfl ?_
    refine simL_val (q_lss rfl rfl rfl) rfl rfl rfl ?_
    refine simL_nil ?_
    refine nrm_then ?_
    refine sim_cond rfl (fun h7v => ?_) (fun h8v => ?_)
    · refine sim_skip ?_
      refine nrm_then ?_
      refine sim_seq ?_
      refine sim_block ?_
      refine sim_seq ?_
      refine sim_seq ?_
      refine sim_region ?_
      refine simL_val (q_move rfl rfl) rfl rfl rfl ?_
      refine simL_val (q_move rfl rfl) rfl rfl rfl ?_
      refine simL_ask (fun hi9v => ?_)
      obtain ⟨b10v, b10vo, r13v, ha11v, hV14v, hlr15v, hcell16v⟩ := RdV.pos h0 (Up.refl _) rfl (i := s3v.2.toNat) (by omega) ([] : List UInt8)
      obtain ⟨a17v, c18v, rfl, ⟨he19v, hc20v, hm21v⟩⟩ := hV14v
      refine simL_val (q_idx rfl rfl rfl ha11v Try.underlying54 Try.sizeOf23 hi9v.1 hi9v.2) rfl rfl rfl ?_
      refine simL_val (q_load rfl rfl Try.isAgg23 (hcell16v 0 rfl 0 _ rfl)) rfl rfl rfl ?_
      refine simL_val (q_len rfl rfl rfl Try.underlying23) rfl rfl rfl ?_
      refine simL_val (q_move rfl rfl) rfl rfl rfl ?_
      refine simL_val (q_move rfl rfl) rfl rfl rfl ?_
      refine simL_val (q_sub rfl rfl rfl) rfl rfl rfl ?_
      refine simL_val (q_gtr rfl rfl rfl) rfl rfl rfl ?_
      refine simL_nil ?_
      refine nrm_then ?_
      refine sim_cond rfl (fun h22v => ?_) (fun h23v => ?_)
      · refine sim_seq ?_
        refine sim_region ?_
        refine simL_val (q_asg rfl rfl) rfl rfl rfl ?_
        refine simL_nil ?_
        refine nrm_then ?_
        refine sim_rtn ?_
        refine rtn_then ?_
        refine rtn_block ?_
        refine rtn_then ?_
        refine rtn_loop ?_
        refine rtn_block ?_
        refine rtn_cutR ?_
        exact rtn_fn () rfl rfl rfl (.sel 0 rfl (.nil _))
      · refine sim_skip ?_
        refine nrm_then ?_
        refine sim_region ?_
        refine simL_val (q_move rfl rfl) rfl rfl rfl ?_
        refine simL_val (q_move rfl rfl) rfl rfl rfl ?_
        refine simL_val (q_move rfl rfl) rfl rfl rfl ?_
        refine simL_ask (fun hi24v => ?_)
        obtain ⟨b25v, b25vo, r28v, ha26v, hV29v, hlr30v, hcell31v⟩ := RdV.pos h0 (Up.refl _) rfl (i := s3v.2.toNat) (by omega) ([] : List UInt8)
        obtain ⟨a32v, c33v, rfl, ⟨he34v, hc35v, hm36v⟩⟩ := hV29v
        refine simL_val (q_idx rfl rfl rfl ha26v Try.underlying54 Try.sizeOf23 hi24v.1 hi24v.2) rfl rfl rfl ?_
        refine simL_val (q_load rfl rfl Try.isAgg23 (hcell31v 0 rfl 0 _ rfl)) rfl rfl rfl ?_
        refine simL_val (q_len rfl rfl rfl Try.underlying23) rfl rfl rfl ?_
        refine simL_val (q_add rfl rfl rfl) rfl rfl rfl ?_
        refine simL_val (q_asg rfl rfl) rfl rfl rfl ?_
        refine simL_nil ?_
        refine nrm_block ?_
        refine nrm_then ?_
        refine sim_region ?_
        refine simL_val (q_move rfl rfl) rfl rfl rfl ?_
        refine simL_val (q_add rfl rfl rfl) rfl rfl rfl ?_
        refine simL_val (q_asg rfl rfl) rfl rfl rfl ?_
        refine simL_nil ?_
        exact nrm_again (s := (IntKind.i64.wrap (s3v.1 + ((x0.getD s3v.2.toNat ([] : List UInt8)).length : Int)), IntKind.i64.wrap (s3v.2 + 1))) () ⟨rfl, rfl, rfl, rfl, trivial⟩ (.sel 0 rfl (.nil _))
    · refine sim_exi ?_
      refine exi_then ?_
      refine exi_loop ?_
      refine exi_here ?_
      exact nrm_cutR (s := ()) () trivial (.sel 0 rfl (.nil _))
  · intro s1v y2v
    refine sim_seq ?_
    refine sim_region ?_
    refine simL_val (q_asg rfl rfl) rfl rfl rfl ?_
    refine simL_nil ?_
    refine nrm_then ?_
    refine sim_rtn ?_
    exact rtn_fn () rfl rfl rfl (.sel 0 rfl (.nil _))

def wire_NewWriter.f  : Option (List UInt8 × Int) := some (([] : List UInt8), 0)
theorem wire_NewWriter.calls (W : World) (F : HA)   :
    Fn Try.prog W 31 [] [] F (wire_NewWriter.f ) (fun (r : List UInt8 × Int) (y : Nat × Option Addr × Nat) => .pointer (some ⟨y.1, 0, none⟩)) (fun r y => [obj y.1 80 [.slice y.2.1 r.1.length y.2.2, .int .i64 r.2], Row 5 1 y.2.1 r.1.length y.2.2 (encB r.1)]) := by
  unfold wire_NewWriter.f
  refine fn_intro 3 Try.func31 rfl Try.ntmps31 rfl ?_
  refine sim_seq ?_
  refine sim_region ?_
  refine simL_val (q_asg rfl rfl) rfl rfl rfl ?_
  refine simL_nil ?_
  refine nrm_then ?_
  refine sim_seq ?_
  refine sim_region ?_
  refine simL_val (q_build (v := .agg #[.slice none 0 0, .int .i64 0]) rfl rfl (fun _ => by kernel_rfl)) rfl rfl rfl ?_
  refine simL_eff (re_box rfl rfl rfl) rfl rfl rfl ?_
  intro b1v
  refine simL_val (q_asg rfl rfl) rfl rfl rfl ?_
  refine simL_nil ?_
  refine nrm_then ?_
  refine sim_rtn ?_
  exact rtn_fn (b1v, none, 0) rfl rfl rfl (.sel 0 rfl (.row_nil (.sel 0 rfl (.nil _))))
def wire_NewWriter.v  : List UInt8 × Int := (wire_NewWriter.f).getD ([], 0)
theorem wire_NewWriter.tot  : wire_NewWriter.f = some (wire_NewWriter.v ) := by
  have h : ∃ r, wire_NewWriter.f = some r := by
    unfold wire_NewWriter.f
    repeat' (first | exact ⟨_, rfl⟩ | split | simp only [Option.bind_some])
  obtain ⟨r, h⟩ := h
  unfold wire_NewWriter.v
  rw [h]; rfl

def wire_Writer_Int.f (k : Nat) (x0_0 : List UInt8) (x0_1 : Int) (x1 : Int) : Option (List UInt8 × Int) := if x0_1 = (0 : Int) then ((wire_Size.f k x1).bind fun s4v => (if s4v = (0 : Int) then (some (x0_0, 1)) else ((wire_sevens.f x1).bind fun s9v => ((wire_sevens_1.f k (fun (s13v : List UInt8) (x12v : Int) => if 0 ≤ x12v ∧ x12v < 256 then (if (s13v.length + ([(byte x12v)] : List UInt8).length) * 1 ≤ 140737488355328 then (some (s13v ++ ([(byte x12v)] : List UInt8))) else none) else none) x0_0 s9v).bind fun s20v => (some (s20v, x0_1)))))) else (some (x0_0, x0_1))
theorem wire_Writer_Int.calls (W : World) (F : HA) (k : Nat) (b0 : Nat) (a0_0 : Option Addr) (c0_0 : Nat) (x0_0 : List UInt8) (x0_1 : Int) (x1 : Int)  :
    Fn Try.prog W 32 [.pointer (some ⟨b0, 0, none⟩), .int .i64 x1] [obj b0 80 [.slice a0_0 x0_0.length c0_0, .int .i64 x0_1], Row 5 1 a0_0 x0_0.length c0_0 (encB x0_0)] F (wire_Writer_Int.f k x0_0 x0_1 x1) (fun (r : List UInt8 × Int) (y : Option Addr × Nat) => .tuple #[]) (fun r y => [obj b0 80 [.slice y.1 r.1.length y.2, .int .i64 r.2], Row 5 1 y.1 r.1.length y.2 (encB r.1)]) := by
  unfold wire_Writer_Int.f
  refine fn_introM 29 Try.func32 rfl Try.ntmps32 rfl ?_
  refine sim_seq ?_
  refine sim_region ?_
  refine simL_eff (re_box rfl rfl rfl) rfl rfl rfl ?_
  intro b1v
  refine simL_nil ?_
  refine nrm_then ?_
  refine sim_seq ?_
  refine sim_seq ?_
  refine sim_region ?_
  refine simL_val (q_load rfl rfl Try.isAgg56 (.obj 0 rfl rfl)) rfl rfl rfl ?_
  refine simL_val (q_nil rfl rfl) rfl rfl rfl ?_
  refine simL_val (q_fa rfl rfl Try.underlying80 rfl rfl Try.sizeOf24 rfl) rfl rfl rfl ?_
  refine simL_val (q_load rfl rfl Try.isAgg24 (.obj 1 rfl rfl)) rfl rfl rfl ?_
  refine simL_val (q_neq rfl rfl rfl) rfl rfl rfl ?_
  refine simL_nil ?_
  refine nrm_then ?_
  refine sim_condn rfl (fun h2v => ?_) (fun h3v => ?_)
  · refine sim_skip ?_
    refine nrm_then ?_
    refine sim_seq ?_
    refine sim_seq ?_
    refine sim_region ?_
    refine simL_val (q_move rfl rfl) rfl rfl rfl ?_
    refine simL_bind (fun s4v hs6v => ?_)
    refine simL_eff (re_call (vs := [.int .i64 x1]) (cap := []) (A := []) (rst := [obj b1v 56 [.pointer (some ⟨b0, 0, none⟩)], obj b0 80 [.slice a0_0 x0_0.length c0_0, .int .i64 x0_1], Row 5 1 a0_0 x0_0.length c0_0 (encB x0_0), F]) rfl rfl rfl rfl rfl rfl Try.call15 (.sel 0 rfl (.sel 0 rfl (.sel 0 rfl (.sel 0 rfl (.nil _))))) (wire_Size.calls _ _ k x1 ) hs6v) rfl rfl rfl ?_
    intro y5v
    refine simL_val (q_eql rfl rfl rfl) rfl rfl rfl ?_
    refine simL_nil ?_
    refine nrm_then ?_
    refine sim_cond rfl (fun h7v => ?_) (fun h8v => ?_)
    · refine sim_seq ?_
      refine sim_region ?_
      refine simL_val (q_load rfl rfl Try.isAgg56 (.obj 0 rfl rfl)) rfl rfl rfl ?_
      refine simL_val (q_nil rfl rfl) rfl rfl rfl ?_
      refine simL_val (q_fa rfl rfl Try.underlying80 rfl rfl Try.sizeOf24 rfl) rfl rfl rfl ?_
      refine simL_do (re_store 1 rfl rfl rfl Try.sizeOf24 rfl rfl (one_of (by rfl)) rfl rfl) rfl rfl ?_
      intro _
      refine simL_nil ?_
      refine nrm_then ?_
      refine sim_rtn ?_
      refine rtn_then ?_
      exact rtn_fnM [] (a0_0, c0_0) rfl rfl rfl (.sel 1 rfl (.sel 1 rfl (.sel 1 rfl (.nil _))))
    · refine sim_skip ?_
      refine nrm_then ?_
      refine sim_seq ?_
      refine sim_region ?_
      refine simL_val (q_move rfl rfl) rfl rfl rfl ?_
      refine simL_bind (fun s9v hs11v => ?_)
      refine simL_eff (re_call (vs := [.int .i64 x1]) (cap := []) (A := []) (rst := [obj b1v 56 [.pointer (some ⟨b0, 0, none⟩)], obj b0 80 [.slice a0_0 x0_0.length c0_0, .int .i64 x0_1], Row 5 1 a0_0 x0_0.length c0_0 (encB x0_0), F]) rfl rfl rfl rfl rfl rfl Try.call47 (.sel 0 rfl (.sel 0 rfl (.sel 0 rfl (.sel 0 rfl (.nil _))))) (wire_sevens.calls _ _ x1 ) hs11v) rfl rfl rfl ?_
      intro y10v
      refine simL_nil ?_
      refine nrm_then ?_
      refine sim_block ?_
      refine sim_range (S := List UInt8) (Y := Option Addr × Nat) (R' := List UInt8) (Y' := (Option Addr × Nat)) (ps := [18]) (Cap := [obj y10v 3 [.int .i64 s9v]]) (rst := []) (CapB := fun r y => [obj y10v 3 [.int .i64 s9v]]) (enc := fun (x : Int) => [.int .u8 x]) (oN := wire_sevens_1.f k (fun (s13v : List UInt8) (x12v : Int) => if 0 ≤ x12v ∧ x12v < 256 then (if (s13v.length + ([(byte x12v)] : List UInt8).length) * 1 ≤ 140737488355328 then (some (s13v ++ ([(byte x12v)] : List UInt8))) else none) else none) x0_0 s9v) (fun s y => [obj b1v 56 [.pointer (some ⟨b0, 0, none⟩)], obj b0 80 [.slice y.1 s.length y.2, .int .i64 x0_1], Row 5 1 y.1 s.length y.2 (encB s), F]) x0_0 (a0_0, c0_0) (fun s13v x12v y14v => [(2, .pointer (some ⟨b1v, 0, none⟩)), (4, .int .u8 x12v)]) (fun r => r) (fun r y => y) rfl rfl Try.call55 (fun l A hY X => wire_sevens_1.calls _ _ k _ _ l _ A _ _ y10v s9v hY) rfl (fun _ => rfl) (.sel 1 rfl (.sel 1 rfl (.sel 1 rfl (.sel 1 rfl (.sel 0 rfl (.nil _)))))) ?_ ?_ ?_
      · intro l s13v x12v y14v Fr
        refine sim_ent (H' := [obj b1v 56 [.pointer (some ⟨b0, 0, none⟩)], obj b0 80 [.slice y14v.1 s13v.length y14v.2, .int .i64 x0_1], Row 5 1 y14v.1 s13v.length y14v.2 (encB s13v), F, Fr]) (Ent.refl _) ?_
        refine sim_region ?_
        refine simL_val (q_asg rfl rfl) rfl rfl rfl ?_
        refine simL_nil ?_
        exact nrm_cut () ⟨rfl, rfl, trivial⟩ (Ent.refl _)
      · intro l s13v x12v y14v Fr
        refine sim_ent (H' := [obj b1v 56 [.pointer (some ⟨b0, 0, none⟩)], obj b0 80 [.slice y14v.1 s13v.length y14v.2, .int .i64 x0_1], Row 5 1 y14v.1 s13v.length y14v.2 (encB s13v), F, Fr]) (Ent.refl _) ?_
        refine sim_block ?_
        refine sim_ask (fun hb16v => ?_)
        refine sim_ask (fun hb18v => ?_)
        refine sim_draw (Γ := Nat × (Option Addr × Nat)) (0, (none, 0)) [[], [], [1], [1, 2], [1, 2, 3], [], [5], [1, 2, 3, 4, 5, 6], [0, 1, 2, 3, 4, 5, 6, 7], [0, 1, 2, 3, 4, 5, 6, 7, 8], [0, 1, 2, 3, 4, 5, 6, 7, 8, 9]] [6, 7, 10] [0, 1, 2, 3, 4, 5, 8, 9] (fun i => [[0, 1, 2], [0, 1], [0, 1], [0, 1], [0, 1], [0], [], [], [2], [2], []].getD i []) (fun i => [[], [], [], [], [], [], [0, 1, 2, 3, 4, 5], [0, 1, 2, 3, 4, 5, 6], [], [], [0, 1, 2, 3, 4, 5, 6, 7, 8, 9]].getD i []) (fun γ i => [.pointer (some ⟨b0, 0, none⟩), .pointer (some ⟨b0, 0, none⟩), .pointer (some ⟨b0, 0, none⟩), .pointer (some ⟨b0, 0, none⟩), .slice y14v.1 s13v.length y14v.2, .int .u8 x12v, .slice (some ⟨γ.1, 0, none⟩) (([(byte x12v)] : List UInt8).length) 1, .slice γ.2.1 ((s13v ++ ([(byte x12v)] : List UInt8)).length) γ.2.2, .pointer (some ⟨b0, 0, none⟩), .pointer (some ⟨b0, 0, none⟩), undef].getD i undef) (fun j γ => [[obj b1v 56 [.pointer (some ⟨b0, 0, none⟩)], obj b0 80 [.slice y14v.1 s13v.length y14v.2, .int .i64 x0_1], Row 5 1 y14v.1 s13v.length y14v.2 (encB s13v), F, Fr], [Row 5 1 (some ⟨γ.1, 0, none⟩) ([(byte x12v)] : List UInt8).length 1 (encB ([(byte x12v)] : List UInt8)), obj b1v 56 [.pointer (some ⟨b0, 0, none⟩)], obj b0 80 [.slice y14v.1 s13v.length y14v.2, .int .i64 x0_1], Row 5 1 y14v.1 s13v.length y14v.2 (encB s13v), F, Fr], [Row 5 1 (some ⟨γ.1, 0, none⟩) ([(byte x12v)] : List UInt8).length 1 (encB ([(byte x12v)] : List UInt8)), obj b1v 56 [.pointer (some ⟨b0, 0, none⟩)], obj b0 80 [.slice y14v.1 s13v.length y14v.2, .int .i64 x0_1], Row 5 1 γ.2.1 (s13v ++ ([(byte x12v)] : List UInt8)).length γ.2.2 (encB (s13v ++ ([(byte x12v)] : List UInt8))), F, Fr], [Row 5 1 (some ⟨γ.1, 0, none⟩) ([(byte x12v)] : List UInt8).length 1 (encB ([(byte x12v)] : List UInt8)), obj b1v 56 [.pointer (some ⟨b0, 0, none⟩)], obj b0 80 [.slice γ.2.1 ((s13v ++ ([(byte x12v)] : List UInt8)).length) γ.2.2, .int .i64 x0_1], Row 5 1 γ.2.1 (s13v ++ ([(byte x12v)] : List UInt8)).length γ.2.2 (encB (s13v ++ ([(byte x12v)] : List UInt8))), F, Fr]].getD j []) (fun γ => []) mixed (by decide) (by decide) (by decide) (by decide) (by decide) (by decide) (by decide) 29 rfl (by decide) (by decide) (by decide) (Ent.refl _) ?_ ?_ (fun _ => trivial) ?_
        · exact (All.cons (fun γ => (All.cons (QOb.plain [(2, .pointer (some ⟨b1v, 0, none⟩))] rfl rfl (.o rfl (by decide) .nil) (q_load rfl rfl Try.isAgg56 (.obj 0 rfl rfl)) rfl) (All.cons (QOb.plain [(2, .pointer (some ⟨b1v, 0, none⟩))] rfl rfl (.o rfl (by decide) .nil) (q_load rfl rfl Try.isAgg56 (.obj 1 rfl rfl)) rfl) (All.cons (QOb.plain [(2, .pointer (some ⟨b1v, 0, none⟩))] rfl rfl (.o rfl (by decide) .nil) (q_load rfl rfl Try.isAgg56 (.obj 1 rfl rfl)) rfl) All.nil)))) (All.cons (fun γ => (All.cons (QOb.plain [(2, .pointer (some ⟨b1v, 0, none⟩))] rfl rfl (.o rfl (by decide) .nil) (q_load rfl rfl Try.isAgg56 (.obj 0 rfl rfl)) rfl) (All.cons (QOb.plain [(2, .pointer (some ⟨b1v, 0, none⟩))] rfl rfl (.o rfl (by decide) .nil) (q_load rfl rfl Try.isAgg56 (.obj 1 rfl rfl)) rfl) All.nil))) (All.cons (fun γ => (All.cons (QOb.plain [(20, .pointer (some ⟨b0, 0, none⟩))] rfl rfl (.w 1 rfl rfl rfl .nil) (q_nil rfl rfl) rfl) (All.cons (QOb.plain [(20, .pointer (some ⟨b0, 0, none⟩))] rfl rfl (.w 1 rfl rfl rfl .nil) (q_nil rfl rfl) rfl) All.nil))) (All.cons (fun γ => (All.cons (QOb.plain [(21, .pointer (some ⟨b0, 0, none⟩))] rfl rfl (.w 2 rfl rfl rfl .nil) (q_fa rfl rfl Try.underlying80 rfl rfl Try.sizeOf23 rfl) rfl) (All.cons (QOb.plain [(21, .pointer (some ⟨b0, 0, none⟩))] rfl rfl (.w 2 rfl rfl rfl .nil) (q_fa rfl rfl Try.underlying80 rfl rfl Try.sizeOf23 rfl) rfl) All.nil))) (All.cons (fun γ => (All.cons (QOb.plain [(22, .pointer (some ⟨b0, 0, none⟩))] rfl rfl (.w 3 rfl rfl rfl .nil) (q_load rfl rfl Try.isAgg23 (.obj 1 rfl rfl)) rfl) (All.cons (QOb.plain [(22, .pointer (some ⟨b0, 0, none⟩))] rfl rfl (.w 3 rfl rfl rfl .nil) (q_load rfl rfl Try.isAgg23 (.obj 2 rfl rfl)) rfl) All.nil))) (All.cons (fun γ => (All.cons (QOb.plain [(4, .int .u8 x12v)] rfl rfl (.o rfl (by decide) .nil) (q_move rfl rfl) rfl) All.nil)) (All.cons (fun γ => (All.cons (QOb.plain [(19, .pointer (some ⟨b0, 0, none⟩))] rfl rfl (.w 0 rfl rfl rfl .nil) (q_nil rfl rfl) rfl) All.nil)) (All.cons (fun γ => (All.cons (QOb.plain [(27, .pointer (some ⟨b0, 0, none⟩))] rfl rfl (.w 8 rfl rfl rfl .nil) (q_fa rfl rfl Try.underlying80 rfl rfl Try.sizeOf23 rfl) rfl) All.nil)) All.nil))))))))
        · exact (All.cons (fun γ => EOb.mk (Z := Nat) [(24, .int .u8 x12v)] (fun z => (z, γ.2)) rfl rfl (.w 5 rfl rfl rfl .nil) (re_litb (cs := [.int .u8 x12v]) ([(byte x12v)] : List UInt8) rfl rfl Try.underlying23 elt5 rfl (by kernel_rfl) rfl rfl (byte_lit1 hb16v)) (fun _ => ⟨rfl, rfl, rfl, rfl, rfl, rfl, trivial⟩) (fun _ => .inr rfl) (fun z => Ent.refl _)) (All.cons (fun γ => EOb.mk (Z := Option Addr × Nat) [(23, .slice y14v.1 s13v.length y14v.2), (25, .slice (some ⟨γ.1, 0, none⟩) (([(byte x12v)] : List UInt8).length) 1)] (fun z => (γ.1, z)) rfl rfl (.w 4 rfl rfl rfl (.w 6 rfl rfl rfl .nil)) (re_appendb 3 rfl rfl rfl Try.underlying23 elt5 rfl (Rds.row 0 rfl) hb18v) (fun _ => ⟨rfl, rfl, rfl, rfl, rfl, rfl, rfl, trivial⟩) (fun _ => .inr rfl) (fun z => Ent.refl _)) (All.cons (fun γ => EOb.mk (Z := Unit) [(26, .slice γ.2.1 ((s13v ++ ([(byte x12v)] : List UInt8)).length) γ.2.2), (28, .pointer (some ⟨b0, 0, none⟩))] (fun z => (γ.1, γ.2)) rfl rfl (.w 7 rfl rfl rfl (.w 9 rfl rfl rfl .nil)) (re_store 2 rfl rfl rfl Try.sizeOf23 rfl rfl (one_of (by rfl)) rfl rfl) (fun _ => ⟨rfl, rfl, rfl, rfl, rfl, rfl, rfl, rfl, rfl, rfl, trivial⟩) (fun _ => .inl rfl) (fun z => Ent.refl _)) All.nil)))
        · intro g19v
          refine nrm_block ?_
          exact nrm_cut (s := s13v ++ ([(byte x12v)] : List UInt8)) (g19v.2.1, g19v.2.2) trivial (.sel 1 rfl (.sel 1 rfl (.sel 1 rfl (.sel 1 rfl (.sel 1 rfl (.nil _))))))
      · intro D22v s20v y21v
        refine nrm_ent (H' := [shutD D22v, obj b1v 56 [.pointer (some ⟨b0, 0, none⟩)], obj b0 80 [.slice y21v.1 s20v.length y21v.2, .int .i64 x0_1], Row 5 1 y21v.1 s20v.length y21v.2 (encB s20v), F, obj y10v 3 [.int .i64 s9v]]) (Ent.refl _) ?_
        refine nrm_block ?_
        exact nrm_fnM [D22v] (y21v.1, y21v.2) rfl rfl rfl (.sel 0 rfl (.sel 1 rfl (.sel 1 rfl (.sel 1 rfl (.nil _)))))
  · refine sim_rtn ?_
    refine rtn_then ?_
    exact rtn_fnM [] (a0_0, c0_0) rfl rfl rfl (.sel 1 rfl (.sel 1 rfl (.sel 1 rfl (.nil _))))

def synodref1_Writer_Int.f (k : Nat) (x0_0 : List UInt8) (x0_1 : Int) (x1 : Int) : Option (List UInt8 × Int) := if x0_1 = (0 : Int) then ((synodref1_PutInt.f k x1).bind fun s3v => (if (x0_0.length + s3v.1.length) * 1 ≤ 140737488355328 then (some (x0_0 ++ s3v.1, s3v.2)) else none)) else (some (x0_0, x0_1))
theorem synodref1_Writer_Int.calls (W : World) (F : HA) (k : Nat) (b0 : Nat) (a0_0 : Option Addr) (c0_0 : Nat) (x0_0 : List UInt8) (x0_1 : Int) (x1 : Int)  :
    Fn Try.prog W 33 [.pointer (some ⟨b0, 0, none⟩), .int .i64 x1] [obj b0 60 [.slice a0_0 x0_0.length c0_0, .int .i64 x0_1], Row 5 1 a0_0 x0_0.length c0_0 (encB x0_0)] F (synodref1_Writer_Int.f k x0_0 x0_1 x1) (fun (r : List UInt8 × Int) (y : Option Addr × Nat) => .tuple #[]) (fun r y => [obj b0 60 [.slice y.1 r.1.length y.2, .int .i64 r.2], Row 5 1 y.1 r.1.length y.2 (encB r.1)]) := by
  unfold synodref1_Writer_Int.f
  refine fn_intro 29 Try.func33 rfl Try.ntmps33 rfl ?_
  refine sim_seq ?_
  refine sim_seq ?_
  refine sim_region ?_
  refine simL_val (q_move rfl rfl) rfl rfl rfl ?_
  refine simL_val (q_nil rfl rfl) rfl rfl rfl ?_
  refine simL_val (q_fa rfl rfl Try.underlying60 rfl rfl Try.sizeOf3 rfl) rfl rfl rfl ?_
  refine simL_val (q_load rfl rfl Try.isAgg3 (.obj 0 rfl rfl)) rfl rfl rfl ?_
  refine simL_val (q_neq rfl rfl rfl) rfl rfl rfl ?_
  refine simL_nil ?_
  refine nrm_then ?_
  refine sim_condn rfl (fun h1v => ?_) (fun h2v => ?_)
  · refine sim_skip ?_
    refine nrm_then ?_
    refine sim_seq ?_
    refine sim_region ?_
    refine simL_val (q_move rfl rfl) rfl rfl rfl ?_
    refine simL_bind (fun s3v hs5v => ?_)
    refine simL_eff (re_call (vs := [.int .i64 x1]) (cap := []) (A := []) (rst := [obj b0 60 [.slice a0_0 x0_0.length c0_0, .int .i64 x0_1], Row 5 1 a0_0 x0_0.length c0_0 (encB x0_0), F]) rfl rfl rfl rfl rfl rfl Try.call12 (.sel 0 rfl (.sel 0 rfl (.sel 0 rfl (.nil _)))) (synodref1_PutInt.calls _ _ k x1 ) hs5v) rfl rfl rfl ?_
    intro y4v
    refine simL_val (q_move rfl rfl) rfl rfl rfl ?_
    refine simL_val (q_ext rfl rfl rfl) rfl rfl rfl ?_
    refine simL_val (q_ext rfl rfl rfl) rfl rfl rfl ?_
    refine simL_val (q_asg rfl rfl) rfl rfl rfl ?_
    refine simL_val (q_asg rfl rfl) rfl rfl rfl ?_
    refine simL_nil ?_
    refine nrm_then ?_
    refine sim_seq ?_
    refine sim_region ?_
    refine simL_val (q_move rfl rfl) rfl rfl rfl ?_
    refine simL_val (q_move rfl rfl) rfl rfl rfl ?_
    refine simL_val (q_nil rfl rfl) rfl rfl rfl ?_
    refine simL_val (q_fa rfl rfl Try.underlying60 rfl rfl Try.sizeOf3 rfl) rfl rfl rfl ?_
    refine simL_do (re_store 1 rfl rfl rfl Try.sizeOf3 rfl rfl (one_of (by rfl)) rfl rfl) rfl rfl ?_
    intro _
    refine simL_nil ?_
    refine nrm_then ?_
    refine sim_region ?_
    refine simL_val (q_move rfl rfl) rfl rfl rfl ?_
    refine simL_val (q_move rfl rfl) rfl rfl rfl ?_
    refine simL_val (q_nil rfl rfl) rfl rfl rfl ?_
    refine simL_val (q_fa rfl rfl Try.underlying60 rfl rfl Try.sizeOf23 rfl) rfl rfl rfl ?_
    refine simL_val (q_load rfl rfl Try.isAgg23 (.obj 1 rfl rfl)) rfl rfl rfl ?_
    refine simL_val (q_move rfl rfl) rfl rfl rfl ?_
    refine simL_ask (fun hb7v => ?_)
    refine simL_eff (re_appendb 2 rfl rfl rfl Try.underlying23 elt5 rfl (Rds.row 0 rfl) hb7v) rfl rfl rfl ?_
    intro y6v
    refine simL_val (q_nil rfl rfl) rfl rfl rfl ?_
    refine simL_val (q_fa rfl rfl Try.underlying60 rfl rfl Try.sizeOf23 rfl) rfl rfl rfl ?_
    refine simL_do (re_store 1 rfl rfl rfl Try.sizeOf23 rfl rfl (one_of (by rfl)) rfl rfl) rfl rfl ?_
    intro _
    refine simL_nil ?_
    exact nrm_fn (y6v.1, y6v.2) rfl rfl rfl (.sel 1 rfl (.sel 1 rfl (.sel 1 rfl (.nil _))))
  · refine sim_rtn ?_
    refine rtn_then ?_
    exact rtn_fn (a0_0, c0_0) rfl rfl rfl (.sel 0 rfl (.sel 0 rfl (.sel 0 rfl (.nil _))))

def wire_Writer_Bool.f (k : Nat) (x0_0 : List UInt8) (x0_1 : Int) (x1 : Bool) : Option (List UInt8 × Int) := if x1 = true then ((wire_Writer_Int.f k x0_0 x0_1 (1 : Int)).bind fun s3v => (some (s3v.1, s3v.2))) else ((wire_Writer_Int.f k x0_0 x0_1 (0 : Int)).bind fun s6v => (some (s6v.1, s6v.2)))
theorem wire_Writer_Bool.calls (W : World) (F : HA) (k : Nat) (b0 : Nat) (a0_0 : Option Addr) (c0_0 : Nat) (x0_0 : List UInt8) (x0_1 : Int) (x1 : Bool)  :
    Fn Try.prog W 34 [.pointer (some ⟨b0, 0, none⟩), .bool x1] [obj b0 80 [.slice a0_0 x0_0.length c0_0, .int .i64 x0_1], Row 5 1 a0_0 x0_0.length c0_0 (encB x0_0)] F (wire_Writer_Bool.f k x0_0 x0_1 x1) (fun (r : List UInt8 × Int) (y : Option Addr × Nat) => .tuple #[]) (fun r y => [obj b0 80 [.slice y.1 r.1.length y.2, .int .i64 r.2], Row 5 1 y.1 r.1.length y.2 (encB r.1)]) := by
  unfold wire_Writer_Bool.f
  refine fn_intro 9 Try.func34 rfl Try.ntmps34 rfl ?_
  refine sim_seq ?_
  refine sim_region ?_
  refine simL_val (q_move rfl rfl) rfl rfl rfl ?_
  refine simL_nil ?_
  refine nrm_then ?_
  refine sim_condb rfl (fun h1v => ?_) (fun h2v => ?_)
  · refine sim_region ?_
    refine simL_val (q_move rfl rfl) rfl rfl rfl ?_
    refine simL_bind (fun s3v hs5v => ?_)
    refine simL_eff (re_call (vs := [.pointer (some ⟨b0, 0, none⟩), .int .i64 1]) (cap := []) (A := [obj b0 80 [.slice a0_0 x0_0.length c0_0, .int .i64 x0_1], Row 5 1 a0_0 x0_0.length c0_0 (encB x0_0)]) (rst := [F]) rfl rfl rfl rfl rfl rfl Try.call32 (.sel 0 rfl (.sel 0 rfl (.sel 0 rfl (.nil _)))) (wire_Writer_Int.calls _ _ k b0 a0_0 c0_0 x0_0 x0_1 (1 : Int) ) hs5v) rfl rfl rfl ?_
    intro y4v
    refine simL_nil ?_
    exact nrm_fn (y4v.1, y4v.2) rfl rfl rfl (.sel 0 rfl (.sel 0 rfl (.sel 0 rfl (.nil _))))
  · refine sim_region ?_
    refine simL_val (q_move rfl rfl) rfl rfl rfl ?_
    refine simL_bind (fun s6v hs8v => ?_)
    refine simL_eff (re_call (vs := [.pointer (some ⟨b0, 0, none⟩), .int .i64 0]) (cap := []) (A := [obj b0 80 [.slice a0_0 x0_0.length c0_0, .int .i64 x0_1], Row 5 1 a0_0 x0_0.length c0_0 (encB x0_0)]) (rst := [F]) rfl rfl rfl rfl rfl rfl Try.call32 (.sel 0 rfl (.sel 0 rfl (.sel 0 rfl (.nil _)))) (wire_Writer_Int.calls _ _ k b0 a0_0 c0_0 x0_0 x0_1 (0 : Int) ) hs8v) rfl rfl rfl ?_
    intro y7v
    refine simL_nil ?_
    exact nrm_fn (y7v.1, y7v.2) rfl rfl rfl (.sel 0 rfl (.sel 0 rfl (.sel 0 rfl (.nil _))))

def synodref1_Writer_Bool.f (k : Nat) (x0_0 : List UInt8) (x0_1 : Int) (x1 : Bool) : Option (List UInt8 × Int) := if x1 = true then ((synodref1_Writer_Int.f k x0_0 x0_1 (1 : Int)).bind fun s3v => (some (s3v.1, s3v.2))) else ((synodref1_Writer_Int.f k x0_0 x0_1 (0 : Int)).bind fun s6v => (some (s6v.1, s6v.2)))
theorem synodref1_Writer_Bool.calls (W : World) (F : HA) (k : Nat) (b0 : Nat) (a0_0 : Option Addr) (c0_0 : Nat) (x0_0 : List UInt8) (x0_1 : Int) (x1 : Bool)  :
    Fn Try.prog W 35 [.pointer (some ⟨b0, 0, none⟩), .bool x1] [obj b0 60 [.slice a0_0 x0_0.length c0_0, .int .i64 x0_1], Row 5 1 a0_0 x0_0.length c0_0 (encB x0_0)] F (synodref1_Writer_Bool.f k x0_0 x0_1 x1) (fun (r : List UInt8 × Int) (y : Option Addr × Nat) => .tuple #[]) (fun r y => [obj b0 60 [.slice y.1 r.1.length y.2, .int .i64 r.2], Row 5 1 y.1 r.1.length y.2 (encB r.1)]) := by
  unfold synodref1_Writer_Bool.f
  refine fn_intro 9 Try.func35 rfl Try.ntmps35 rfl ?_
  refine sim_seq ?_
  refine sim_region ?_
  refine simL_val (q_move rfl rfl) rfl rfl rfl ?_
  refine simL_nil ?_
  refine nrm_then ?_
  refine sim_condb rfl (fun h1v => ?_) (fun h2v => ?_)
  · refine sim_region ?_
    refine simL_val (q_move rfl rfl) rfl rfl rfl ?_
    refine simL_bind (fun s3v hs5v => ?_)
    refine simL_eff (re_call (vs := [.pointer (some ⟨b0, 0, none⟩), .int .i64 1]) (cap := []) (A := [obj b0 60 [.slice a0_0 x0_0.length c0_0, .int .i64 x0_1], Row 5 1 a0_0 x0_0.length c0_0 (encB x0_0)]) (rst := [F]) rfl rfl rfl rfl rfl rfl Try.call33 (.sel 0 rfl (.sel 0 rfl (.sel 0 rfl (.nil _)))) (synodref1_Writer_Int.calls _ _ k b0 a0_0 c0_0 x0_0 x0_1 (1 : Int) ) hs5v) rfl rfl rfl ?_
    intro y4v
    refine simL_nil ?_
    exact nrm_fn (y4v.1, y4v.2) rfl rfl rfl (.sel 0 rfl (.sel 0 rfl (.sel 0 rfl (.nil _))))
  · refine sim_region ?_
    refine simL_val (q_move rfl rfl) rfl rfl rfl ?_
    refine simL_bind (fun s6v hs8v => ?_)
    refine simL_eff (re_call (vs := [.pointer (some ⟨b0, 0, none⟩), .int .i64 0]) (cap := []) (A := [obj b0 60 [.slice a0_0 x0_0.length c0_0, .int .i64 x0_1], Row 5 1 a0_0 x0_0.length c0_0 (encB x0_0)]) (rst := [F]) rfl rfl rfl rfl rfl rfl Try.call33 (.sel 0 rfl (.sel 0 rfl (.sel 0 rfl (.nil _)))) (synodref1_Writer_Int.calls _ _ k b0 a0_0 c0_0 x0_0 x0_1 (0 : Int) ) hs8v) rfl rfl rfl ?_
    intro y7v
    refine simL_nil ?_
    exact nrm_fn (y7v.1, y7v.2) rfl rfl rfl (.sel 0 rfl (.sel 0 rfl (.sel 0 rfl (.nil _))))

def wire_Writer_Bytes.f (k : Nat) (x0_0 : List UInt8) (x0_1 : Int) (x1 : List UInt8) (x2 : Int) : Option (List UInt8 × Int) := (if ((decide (x0_1 = (0 : Int))) && (decide (max x2 (0 : Int) < (x1.length : Int)))) = true then (some 3) else (some x0_1)).bind fun s1v => (if s1v = (0 : Int) then ((wire_Writer_Int.f k x0_0 s1v (x1.length : Int)).bind fun s12v => (if (s12v.1.length + x1.length) * 1 ≤ 140737488355328 then (some (s12v.1 ++ x1, s12v.2)) else none)) else (some (x0_0, s1v)))
theorem wire_Writer_Bytes.calls (W : World) (F : HA) (k : Nat) (b0 : Nat) (a0_0 : Option Addr) (c0_0 : Nat) (x0_0 : List UInt8) (x0_1 : Int) (a1 : Option Addr) (c1 : Nat) (x1 : List UInt8) (x2 : Int) (h1 : Rd F a1 (encB x1)) (hc1 : x1.length ≤ c1) (hm1 : c1 ≤ maxLen) :
    Fn Try.prog W 36 [.pointer (some ⟨b0, 0, none⟩), .slice a1 x1.length c1, .int .i64 x2] [obj b0 80 [.slice a0_0 x0_0.length c0_0, .int .i64 x0_1], Row 5 1 a0_0 x0_0.length c0_0 (encB x0_0)] F (wire_Writer_Bytes.f k x0_0 x0_1 x1 x2) (fun (r : List UInt8 × Int) (y : Option Addr × Nat) => .tuple #[]) (fun r y => [obj b0 80 [.slice y.1 r.1.length y.2, .int .i64 r.2], Row 5 1 y.1 r.1.length y.2 (encB r.1)]) := by
  unfold wire_Writer_Bytes.f
  refine fn_intro 39 Try.func36 rfl Try.ntmps36 rfl ?_
  refine sim_cut (S := Int) (Unit) (fun s y => [(0, .pointer (some ⟨b0, 0, none⟩)), (1, .slice a1 x1.length c1)]) (fun s y => [obj b0 80 [.slice a0_0 x0_0.length c0_0, .int .i64 s], Row 5 1 a0_0 x0_0.length c0_0 (encB x0_0), F]) ?_ ?_
  · refine sim_seq ?_
    refine sim_region ?_
    refine simL_val (q_move rfl rfl) rfl rfl rfl ?_
    refine simL_val (q_nil rfl rfl) rfl rfl rfl ?_
    refine simL_val (q_fa rfl rfl Try.underlying80 rfl rfl Try.sizeOf24 rfl) rfl rfl rfl ?_
    refine simL_val (q_load rfl rfl Try.isAgg24 (.obj 0 rfl rfl)) rfl rfl rfl ?_
    refine simL_val (q_eql rfl rfl rfl) rfl rfl rfl ?_
    refine simL_val (q_move rfl rfl) rfl rfl rfl ?_
    refine simL_valc (b := decide (x0_1 = (0 : Int))) (fun hb9v => RQ.sub (E' := [(1, .slice a1 x1.length c1)]) ⟨rfl, trivial⟩ (q_move rfl rfl)) rfl rfl rfl rfl rfl ?_
    refine simL_valc (b := decide (x0_1 = (0 : Int))) (fun hb8v => RQ.sub (E' := [(12, .slice a1 x1.length c1)]) ⟨lk_cv rfl hb8v, trivial⟩ (q_len rfl rfl rfl Try.underlying23)) rfl rfl rfl rfl rfl ?_
    refine simL_valc (b := decide (x0_1 = (0 : Int))) (fun hb7v => RQ.sub (E' := [(2, .int .i64 x2)]) ⟨rfl, trivial⟩ (q_move rfl rfl)) rfl rfl rfl rfl rfl ?_
    refine simL_valc (b := decide (x0_1 = (0 : Int))) (fun hb6v => RQ.sub (E' := [(14, .int .i64 x2)]) ⟨lk_cv rfl hb6v, trivial⟩ (q_max rfl rfl rfl)) rfl rfl rfl rfl rfl ?_
    refine simL_valc (b := decide (x0_1 = (0 : Int))) (fun hb5v => RQ.sub (E' := [(13, .int .i64 (x1.length : Int)), (15, .int .i64 (max x2 (0 : Int)))]) ⟨lk_cv rfl hb5v, lk_cv rfl hb5v, trivial⟩ (q_gtr rfl rfl rfl)) rfl rfl rfl rfl rfl ?_
    refine simL_val (q_and rfl rfl rfl) rfl rfl rfl ?_
    refine simL_nil ?_
    refine nrm_then ?_
    refine sim_condb rfl (fun h3v => ?_) (fun h4v => ?_)
    · refine sim_region ?_
      refine simL_val (q_move rfl rfl) rfl rfl rfl ?_
      refine simL_val (q_nil rfl rfl) rfl rfl rfl ?_
      refine simL_val (q_fa rfl rfl Try.underlying80 rfl rfl Try.sizeOf24 rfl) rfl rfl rfl ?_
      refine simL_do (re_store 0 rfl rfl rfl Try.sizeOf24 rfl rfl (one_of (by rfl)) rfl rfl) rfl rfl ?_
      intro _
      refine simL_nil ?_
      exact nrm_cut (s := 3) () ⟨rfl, rfl, trivial⟩ (.sel 0 rfl (.sel 0 rfl (.sel 0 rfl (.nil _))))
    · refine sim_skip ?_
      exact nrm_cut (s := x0_1) () ⟨rfl, rfl, trivial⟩ (.sel 0 rfl (.sel 0 rfl (.sel 0 rfl (.nil _))))
  · intro s1v y2v
    refine sim_seq ?_
    refine sim_seq ?_
    refine sim_region ?_
    refine simL_val (q_move rfl rfl) rfl rfl rfl ?_
    refine simL_val (q_nil rfl rfl) rfl rfl rfl ?_
    refine simL_val (q_fa rfl rfl Try.underlying80 rfl rfl Try.sizeOf24 rfl) rfl rfl rfl ?_
    refine simL_val (q_load rfl rfl Try.isAgg24 (.obj 0 rfl rfl)) rfl rfl rfl ?_
    refine simL_val (q_neq rfl rfl rfl) rfl rfl rfl ?_
    refine simL_nil ?_
    refine nrm_then ?_
    refine sim_condn rfl (fun h10v => ?_) (fun h11v => ?_)
    · refine sim_skip ?_
      refine nrm_then ?_
      refine sim_seq ?_
      refine sim_region ?_
      refine simL_val (q_move rfl rfl) rfl rfl rfl ?_
      refine simL_val (q_move rfl rfl) rfl rfl rfl ?_
      refine simL_val (q_len rfl rfl rfl Try.underlying23) rfl rfl rfl ?_
      refine simL_bind (fun s12v hs14v => ?_)
      refine simL_eff (re_call (vs := [.pointer (some ⟨b0, 0, none⟩), .int .i64 (x1.length : Int)]) (cap := []) (A := [obj b0 80 [.slice a0_0 x0_0.length c0_0, .int .i64 s1v], Row 5 1 a0_0 x0_0.length c0_0 (encB x0_0)]) (rst := [F]) rfl rfl rfl rfl rfl rfl Try.call32 (.sel 0 rfl (.sel 0 rfl (.sel 0 rfl (.nil _)))) (wire_Writer_Int.calls _ _ k b0 a0_0 c0_0 x0_0 s1v (x1.length : Int) ) hs14v) rfl rfl rfl ?_
      intro y13v
      refine simL_nil ?_
      refine nrm_then ?_
      refine sim_region ?_
      refine simL_val (q_move rfl rfl) rfl rfl rfl ?_
      refine simL_val (q_move rfl rfl) rfl rfl rfl ?_
      refine simL_val (q_nil rfl rfl) rfl rfl rfl ?_
      refine simL_val (q_fa rfl rfl Try.underlying80 rfl rfl Try.sizeOf23 rfl) rfl rfl rfl ?_
      refine simL_val (q_load rfl rfl Try.isAgg23 (.obj 0 rfl rfl)) rfl rfl rfl ?_
      refine simL_val (q_move rfl rfl) rfl rfl rfl ?_
      refine simL_ask (fun hb16v => ?_)
      refine simL_eff (re_appendb 1 rfl rfl rfl Try.underlying23 elt5 rfl (h1.rds 1 rfl) hb16v) rfl rfl rfl ?_
      intro y15v
      refine simL_val (q_nil rfl rfl) rfl rfl rfl ?_
      refine simL_val (q_fa rfl rfl Try.underlying80 rfl rfl Try.sizeOf23 rfl) rfl rfl rfl ?_
      refine simL_do (re_store 0 rfl rfl rfl Try.sizeOf23 rfl rfl (one_of (by rfl)) rfl rfl) rfl rfl ?_
      intro _
      refine simL_nil ?_
      exact nrm_fn (y15v.1, y15v.2) rfl rfl rfl (.sel 0 rfl (.sel 0 rfl (.sel 0 rfl (.nil _))))
    · refine sim_rtn ?_
      refine rtn_then ?_
      exact rtn_fn (a0_0, c0_0) rfl rfl rfl (.sel 0 rfl (.sel 0 rfl (.sel 0 rfl (.nil _))))

def synodref1_Writer_Bytes.f (k : Nat) (x0_0 : List UInt8) (x0_1 : Int) (x1 : List UInt8) (x2 : Int) : Option (List UInt8 × Int) := if x0_1 = (0 : Int) then (if max x2 (0 : Int) < (x1.length : Int) then (some (x0_0, 3)) else ((synodref1_Writer_Int.f k x0_0 x0_1 (x1.length : Int)).bind fun s5v => (if (s5v.1.length + x1.length) * 1 ≤ 140737488355328 then (some (s5v.1 ++ x1, s5v.2)) else none))) else (some (x0_0, x0_1))
theorem synodref1_Writer_Bytes.calls (W : World) (F : HA) (k : Nat) (b0 : Nat) (a0_0 : Option Addr) (c0_0 : Nat) (x0_0 : List UInt8) (x0_1 : Int) (a1 : Option Addr) (c1 : Nat) (x1 : List UInt8) (x2 : Int) (h1 : Rd F a1 (encB x1)) (hc1 : x1.length ≤ c1) (hm1 : c1 ≤ maxLen) :
    Fn Try.prog W 37 [.pointer (some ⟨b0, 0, none⟩), .slice a1 x1.length c1, .int .i64 x2] [obj b0 60 [.slice a0_0 x0_0.length c0_0, .int .i64 x0_1], Row 5 1 a0_0 x0_0.length c0_0 (encB x0_0)] F (synodref1_Writer_Bytes.f k x0_0 x0_1 x1 x2) (fun (r : List UInt8 × Int) (y : Option Addr × Nat) => .tuple #[]) (fun r y => [obj b0 60 [.slice y.1 r.1.length y.2, .int .i64 r.2], Row 5 1 y.1 r.1.length y.2 (encB r.1)]) := by
  unfold synodref1_Writer_Bytes.f
  refine fn_intro 32 Try.func37 rfl Try.ntmps37 rfl ?_
  refine sim_seq ?_
  refine sim_seq ?_
  refine sim_region ?_
  refine simL_val (q_move rfl rfl) rfl rfl rfl ?_
  refine simL_val (q_nil rfl rfl) rfl rfl rfl ?_
  refine simL_val (q_fa rfl rfl Try.underlying60 rfl rfl Try.sizeOf3 rfl) rfl rfl rfl ?_
  refine simL_val (q_load rfl rfl Try.isAgg3 (.obj 0 rfl rfl)) rfl rfl rfl ?_
  refine simL_val (q_neq rfl rfl rfl) rfl rfl rfl ?_
  refine simL_nil ?_
  refine nrm_then ?_
  refine sim_condn rfl (fun h1v => ?_) (fun h2v => ?_)
  · refine sim_skip ?_
    refine nrm_then ?_
    refine sim_seq ?_
    refine sim_seq ?_
    refine sim_region ?_
    refine simL_val (q_move rfl rfl) rfl rfl rfl ?_
    refine simL_val (q_len rfl rfl rfl Try.underlying23) rfl rfl rfl ?_
    refine simL_val (q_move rfl rfl) rfl rfl rfl ?_
    refine simL_val (q_max rfl rfl rfl) rfl rfl rfl ?_
    refine simL_val (q_gtr rfl rfl rfl) rfl rfl rfl ?_
    refine simL_nil ?_
    refine nrm_then ?_
    refine sim_cond rfl (fun h3v => ?_) (fun h4v => ?_)
    · refine sim_seq ?_
      refine sim_region ?_
      refine simL_val (q_move rfl rfl) rfl rfl rfl ?_
      refine simL_val (q_nil rfl rfl) rfl rfl rfl ?_
      refine simL_val (q_fa rfl rfl Try.underlying60 rfl rfl Try.sizeOf3 rfl) rfl rfl rfl ?_
      refine simL_do (re_store 0 rfl rfl rfl Try.sizeOf3 rfl rfl (one_of (by rfl)) rfl rfl) rfl rfl ?_
      intro _
      refine simL_nil ?_
      refine nrm_then ?_
      refine sim_rtn ?_
      refine rtn_then ?_
      exact rtn_fn (a0_0, c0_0) rfl rfl rfl (.sel 0 rfl (.sel 0 rfl (.sel 0 rfl (.nil _))))
    · refine sim_skip ?_
      refine nrm_then ?_
      refine sim_seq ?_
      refine sim_region ?_
      refine simL_val (q_move rfl rfl) rfl rfl rfl ?_
      refine simL_val (q_move rfl rfl) rfl rfl rfl ?_
      refine simL_val (q_len rfl rfl rfl Try.underlying23) rfl rfl rfl ?_
      refine simL_bind (fun s5v hs7v => ?_)
      refine simL_eff (re_call (vs := [.pointer (some ⟨b0, 0, none⟩), .int .i64 (x1.length : Int)]) (cap := []) (A := [obj b0 60 [.slice a0_0 x0_0.length c0_0, .int .i64 x0_1], Row 5 1 a0_0 x0_0.length c0_0 (encB x0_0)]) (rst := [F]) rfl rfl rfl rfl rfl rfl Try.call33 (.sel 0 rfl (.sel 0 rfl (.sel 0 rfl (.nil _)))) (synodref1_Writer_Int.calls _ _ k b0 a0_0 c0_0 x0_0 x0_1 (x1.length : Int) ) hs7v) rfl rfl rfl ?_
      intro y6v
      refine simL_nil ?_
      refine nrm_then ?_
      refine sim_region ?_
      refine simL_val (q_move rfl rfl) rfl rfl rfl ?_
      refine simL_val (q_move rfl rfl) rfl rfl rfl ?_
      refine simL_val (q_nil rfl rfl) rfl rfl rfl ?_
      refine simL_val (q_fa rfl rfl Try.underlying60 rfl rfl Try.sizeOf23 rfl) rfl rfl rfl ?_
      refine simL_val (q_load rfl rfl Try.isAgg23 (.obj 0 rfl rfl)) rfl rfl rfl ?_
      refine simL_val (q_move rfl rfl) rfl rfl rfl ?_
      refine simL_ask (fun hb9v => ?_)
      refine simL_eff (re_appendb 1 rfl rfl rfl Try.underlying23 elt5 rfl (h1.rds 1 rfl) hb9v) rfl rfl rfl ?_
      intro y8v
      refine simL_val (q_nil rfl rfl) rfl rfl rfl ?_
      refine simL_val (q_fa rfl rfl Try.underlying60 rfl rfl Try.sizeOf23 rfl) rfl rfl rfl ?_
      refine simL_do (re_store 0 rfl rfl rfl Try.sizeOf23 rfl rfl (one_of (by rfl)) rfl rfl) rfl rfl ?_
      intro _
      refine simL_nil ?_
      exact nrm_fn (y8v.1, y8v.2) rfl rfl rfl (.sel 0 rfl (.sel 0 rfl (.sel 0 rfl (.nil _))))
  · refine sim_rtn ?_
    refine rtn_then ?_
    exact rtn_fn (a0_0, c0_0) rfl rfl rfl (.sel 0 rfl (.sel 0 rfl (.sel 0 rfl (.nil _))))

def wire_Writer_Text.f (k : Nat) (x0_0 : List UInt8) (x0_1 : Int) (x1 : List UInt8) (x2 : Int) : Option (List UInt8 × Int) := if x1.length ≤ 140737488355328 then ((wire_Writer_Bytes.f k x0_0 x0_1 x1 x2).bind fun s7v => (some (s7v.1, s7v.2))) else none
theorem wire_Writer_Text.calls (W : World) (F : HA) (k : Nat) (b0 : Nat) (a0_0 : Option Addr) (c0_0 : Nat) (x0_0 : List UInt8) (x0_1 : Int) (x1 : List UInt8) (x2 : Int)  :
    Fn Try.prog W 38 [.pointer (some ⟨b0, 0, none⟩), str x1, .int .i64 x2] [obj b0 80 [.slice a0_0 x0_0.length c0_0, .int .i64 x0_1], Row 5 1 a0_0 x0_0.length c0_0 (encB x0_0)] F (wire_Writer_Text.f k x0_0 x0_1 x1 x2) (fun (r : List UInt8 × Int) (y : Option Addr × Nat) => .tuple #[]) (fun r y => [obj b0 80 [.slice y.1 r.1.length y.2, .int .i64 r.2], Row 5 1 y.1 r.1.length y.2 (encB r.1)]) := by
  unfold wire_Writer_Text.f
  refine fn_intro 11 Try.func38 rfl Try.ntmps38 rfl ?_
  refine sim_region ?_
  refine simL_val (q_move rfl rfl) rfl rfl rfl ?_
  refine simL_val (q_move rfl rfl) rfl rfl rfl ?_
  refine simL_ask (fun hb2v => ?_)
  refine simL_eff (re_tobytes rfl rfl Try.underlying9 Try.underlying23 Try.underlying5 hb2v) rfl rfl rfl ?_
  intro y1v
  refine simL_val (q_move rfl rfl) rfl rfl rfl ?_
  refine simL_bind (fun s7v hs9v => ?_)
  refine simL_lend 0 rfl (fun hq3v hq4v hq5v hq6v => ?_)
  refine simL_eff (re_call (vs := [.pointer (some ⟨b0, 0, none⟩), .slice (some ⟨y1v.1, 0, none⟩) x1.length y1v.2, .int .i64 x2]) (cap := []) (A := [obj b0 80 [.slice a0_0 x0_0.length c0_0, .int .i64 x0_1], Row 5 1 a0_0 x0_0.length c0_0 (encB x0_0)]) (rst := [Row 5 1 (some ⟨y1v.1, 0, none⟩) x1.length y1v.2 (encB x1), F]) rfl rfl rfl rfl rfl rfl Try.call36 (.sel 1 rfl (.sel 1 rfl (.sel 0 rfl (.sel 0 rfl (.nil _))))) (wire_Writer_Bytes.calls _ _ k b0 a0_0 c0_0 x0_0 x0_1 (some ⟨y1v.1, 0, none⟩) y1v.2 x1 x2 (hq3v.lend 0 rfl) hq4v hq5v) hs9v) rfl rfl rfl ?_
  intro y8v
  refine simL_nil ?_
  exact nrm_fn (y8v.1, y8v.2) rfl rfl rfl (.sel 0 rfl (.sel 0 rfl (.sel 1 rfl (.nil _))))

def synodref1_Writer_Text.f (k : Nat) (x0_0 : List UInt8) (x0_1 : Int) (x1 : List UInt8) (x2 : Int) : Option (List UInt8 × Int) := if x1.length ≤ 140737488355328 then ((synodref1_Writer_Bytes.f k x0_0 x0_1 x1 x2).bind fun s7v => (some (s7v.1, s7v.2))) else none
theorem synodref1_Writer_Text.calls (W : World) (F : HA) (k : Nat) (b0 : Nat) (a0_0 : Option Addr) (c0_0 : Nat) (x0_0 : List UInt8) (x0_1 : Int) (x1 : List UInt8) (x2 : Int)  :
    Fn Try.prog W 39 [.pointer (some ⟨b0, 0, none⟩), str x1, .int .i64 x2] [obj b0 60 [.slice a0_0 x0_0.length c0_0, .int .i64 x0_1], Row 5 1 a0_0 x0_0.length c0_0 (encB x0_0)] F (synodref1_Writer_Text.f k x0_0 x0_1 x1 x2) (fun (r : List UInt8 × Int) (y : Option Addr × Nat) => .tuple #[]) (fun r y => [obj b0 60 [.slice y.1 r.1.length y.2, .int .i64 r.2], Row 5 1 y.1 r.1.length y.2 (encB r.1)]) := by
  unfold synodref1_Writer_Text.f
  refine fn_intro 11 Try.func39 rfl Try.ntmps39 rfl ?_
  refine sim_region ?_
  refine simL_val (q_move rfl rfl) rfl rfl rfl ?_
  refine simL_val (q_move rfl rfl) rfl rfl rfl ?_
  refine simL_ask (fun hb2v => ?_)
  refine simL_eff (re_tobytes rfl rfl Try.underlying9 Try.underlying23 Try.underlying5 hb2v) rfl rfl rfl ?_
  intro y1v
  refine simL_val (q_move rfl rfl) rfl rfl rfl ?_
  refine simL_bind (fun s7v hs9v => ?_)
  refine simL_lend 0 rfl (fun hq3v hq4v hq5v hq6v => ?_)
  refine simL_eff (re_call (vs := [.pointer (some ⟨b0, 0, none⟩), .slice (some ⟨y1v.1, 0, none⟩) x1.length y1v.2, .int .i64 x2]) (cap := []) (A := [obj b0 60 [.slice a0_0 x0_0.length c0_0, .int .i64 x0_1], Row 5 1 a0_0 x0_0.length c0_0 (encB x0_0)]) (rst := [Row 5 1 (some ⟨y1v.1, 0, none⟩) x1.length y1v.2 (encB x1), F]) rfl rfl rfl rfl rfl rfl Try.call37 (.sel 1 rfl (.sel 1 rfl (.sel 0 rfl (.sel 0 rfl (.nil _))))) (synodref1_Writer_Bytes.calls _ _ k b0 a0_0 c0_0 x0_0 x0_1 (some ⟨y1v.1, 0, none⟩) y1v.2 x1 x2 (hq3v.lend 0 rfl) hq4v hq5v) hs9v) rfl rfl rfl ?_
  intro y8v
  refine simL_nil ?_
  exact nrm_fn (y8v.1, y8v.2) rfl rfl rfl (.sel 0 rfl (.sel 0 rfl (.sel 1 rfl (.nil _))))

def wire_Writer_Done.f (x0_0 : List UInt8) (x0_1 : Int) : Option (List UInt8 × Int) := if x0_1 = (0 : Int) then ((wire_fresh.f x0_0).bind fun s3v => (some (s3v, 0))) else (some (([] : List UInt8), x0_1))
theorem wire_Writer_Done.calls (W : World) (F : HA) (b0 : Nat) (a0_0 : Option Addr) (c0_0 : Nat) (x0_0 : List UInt8) (x0_1 : Int) (h0_0 : Rd F a0_0 (encB x0_0)) (hc0_0 : x0_0.length ≤ c0_0) (hm0_0 : c0_0 ≤ maxLen) :
    Fn Try.prog W 42 [.pointer (some ⟨b0, 0, none⟩)] [obj b0 80 [.slice a0_0 x0_0.length c0_0, .int .i64 x0_1]] F (wire_Writer_Done.f x0_0 x0_1) (fun (r : List UInt8 × Int) (y : Option Addr × Nat) => .tuple #[.slice y.1 r.1.length y.2, .int .i64 r.2]) (fun r y => [Row 5 1 y.1 r.1.length y.2 (encB r.1), obj b0 80 [.slice a0_0 x0_0.length c0_0, .int .i64 x0_1]]) := by
  unfold wire_Writer_Done.f
  refine fn_intro 18 Try.func42 rfl Try.ntmps42 rfl ?_
  refine sim_seq ?_
  refine sim_region ?_
  refine simL_val (q_asg rfl rfl) rfl rfl rfl ?_
  refine simL_val (q_asg rfl rfl) rfl rfl rfl ?_
  refine simL_nil ?_
  refine nrm_then ?_
  refine sim_seq ?_
  refine sim_seq ?_
  refine sim_region ?_
  refine simL_val (q_move rfl rfl) rfl rfl rfl ?_
  refine simL_val (q_nil rfl rfl) rfl rfl rfl ?_
  refine simL_val (q_fa rfl rfl Try.underlying80 rfl rfl Try.sizeOf24 rfl) rfl rfl rfl ?_
  refine simL_val (q_load rfl rfl Try.isAgg24 (.obj 0 rfl rfl)) rfl rfl rfl ?_
  refine simL_val (q_neq rfl rfl rfl) rfl rfl rfl ?_
  refine simL_nil ?_
  refine nrm_then ?_
  refine sim_condn rfl (fun h1v => ?_) (fun h2v => ?_)
  · refine sim_skip ?_
    refine nrm_then ?_
    refine sim_seq ?_
    refine sim_region ?_
    refine simL_val (q_move rfl rfl) rfl rfl rfl ?_
    refine simL_val (q_nil rfl rfl) rfl rfl rfl ?_
    refine simL_val (q_fa rfl rfl Try.underlying80 rfl rfl Try.sizeOf23 rfl) rfl rfl rfl ?_
    refine simL_val (q_load rfl rfl Try.isAgg23 (.obj 0 rfl rfl)) rfl rfl rfl ?_
    refine simL_bind (fun s3v hs5v => ?_)
    refine simL_eff (re_call (vs := [.slice a0_0 x0_0.length c0_0]) (cap := []) (A := []) (rst := [obj b0 80 [.slice a0_0 x0_0.length c0_0, .int .i64 x0_1], F]) rfl rfl rfl rfl rfl rfl Try.call48 (.sel 0 rfl (.sel 0 rfl (.nil _))) (wire_fresh.calls _ _ a0_0 c0_0 x0_0 (h0_0.lend 1 rfl) hc0_0 hm0_0) hs5v) rfl rfl rfl ?_
    intro y4v
    refine simL_val (q_asg rfl rfl) rfl rfl rfl ?_
    refine simL_val (q_asg rfl rfl) rfl rfl rfl ?_
    refine simL_nil ?_
    refine nrm_then ?_
    refine sim_rtn ?_
    exact rtn_fn (y4v.1, y4v.2) rfl rfl rfl (.sel 0 rfl (.sel 0 rfl (.sel 0 rfl (.nil _))))
  · refine sim_seq ?_
    refine sim_draw (Γ := Unit) () [[], [0], [0, 1], [0, 1, 2], [], [0, 1, 2, 3, 4]] [] [0, 1, 2, 3, 4, 5] (fun i => [[0], [0], [0], [0], [0], [0]].getD i []) (fun i => [[], [], [], [], [], []].getD i []) (fun γ i => [.pointer (some ⟨b0, 0, none⟩), .pointer (some ⟨b0, 0, none⟩), .pointer (some ⟨b0, 1, none⟩), .int .i64 x0_1, .slice none 0 0, .int .i64 x0_1].getD i undef) (fun j γ => [[obj b0 80 [.slice a0_0 x0_0.length c0_0, .int .i64 x0_1], F]].getD j []) (fun γ => [(2, .slice none 0 0), (3, .int .i64 x0_1)]) mixed (by decide) (by decide) (by decide) (by decide) (by decide) (by decide) (by decide) 18 rfl (by decide) (by decide) (by decide) (Ent.refl _) ?_ ?_ (fun _ => ⟨rfl, rfl, trivial⟩) ?_
    · exact (All.cons (fun γ => (All.cons (QOb.plain [(0, .pointer (some ⟨b0, 0, none⟩))] rfl rfl (.o rfl (by decide) .nil) (q_move rfl rfl) rfl) All.nil)) (All.cons (fun γ => (All.cons (QOb.plain [(9, .pointer (some ⟨b0, 0, none⟩))] rfl rfl (.w 0 rfl rfl rfl .nil) (q_nil rfl rfl) rfl) All.nil)) (All.cons (fun γ => (All.cons (QOb.plain [(10, .pointer (some ⟨b0, 0, none⟩))] rfl rfl (.w 1 rfl rfl rfl .nil) (q_fa rfl rfl Try.underlying80 rfl rfl Try.sizeOf24 rfl) rfl) All.nil)) (All.cons (fun γ => (All.cons (QOb.plain [(11, .pointer (some ⟨b0, 1, none⟩))] rfl rfl (.w 2 rfl rfl rfl .nil) (q_load rfl rfl Try.isAgg24 (.obj 0 rfl rfl)) rfl) All.nil)) (All.cons (fun γ => (All.cons (QOb.plain [] rfl rfl .nil (q_asg rfl rfl) rfl) All.nil)) (All.cons (fun γ => (All.cons (QOb.plain [(12, .int .i64 x0_1)] rfl rfl (.w 3 rfl rfl rfl .nil) (q_asg rfl rfl) rfl) All.nil)) All.nil))))))
    · exact All.nil
    · intro g6v
      refine nrm_then ?_
      refine sim_rtn ?_
      refine rtn_then ?_
      exact rtn_fn (none, 0) rfl rfl rfl (.row_nil (.sel 0 rfl (.sel 0 rfl (.nil _))))

def synodref1_Writer_Done.f (x0_0 : List UInt8) (x0_1 : Int) : Option (List UInt8 × Int) := if x0_1 = (0 : Int) then (some (x0_0, 0)) else (some (([] : List UInt8), x0_1))
theorem synodref1_Writer_Done.calls (W : World) (F : HA) (G : HA) (hG : Up G F) (b0 : Nat) (a0_0 : Option Addr) (c0_0 : Nat) (x0_0 : List UInt8) (x0_1 : Int) (h0_0 : Rd G a0_0 (encB x0_0)) (hc0_0 : x0_0.length ≤ c0_0) (hm0_0 : c0_0 ≤ maxLen) :
    Fn Try.prog W 53 [.pointer (some ⟨b0, 0, none⟩)] [obj b0 60 [.slice a0_0 x0_0.length c0_0, .int .i64 x0_1]] F (synodref1_Writer_Done.f x0_0 x0_1) (fun (r : List UInt8 × Int) (y : Option Addr × Nat) => .tuple #[.slice y.1 r.1.length y.2, .int .i64 r.2]) (fun r y => [pr (Rd (G) y.1 (encB r.1) ∧ r.1.length ≤ y.2 ∧ y.2 ≤ maxLen), obj b0 60 [.slice a0_0 x0_0.length c0_0, .int .i64 x0_1]]) := by
  unfold synodref1_Writer_Done.f
  refine fn_intro 17 Try.func53 rfl Try.ntmps53 rfl ?_
  refine sim_seq ?_
  refine sim_region ?_
  refine simL_val (q_asg rfl rfl) rfl rfl rfl ?_
  refine simL_val (q_asg rfl rfl) rfl rfl rfl ?_
  refine simL_nil ?_
  refine nrm_then ?_
  refine sim_seq ?_
  refine sim_seq ?_
  refine sim_region ?_
  refine simL_val (q_move rfl rfl) rfl rfl rfl ?_
  refine simL_val (q_nil rfl rfl) rfl rfl rfl ?_
  refine simL_val (q_fa rfl rfl Try.underlying60 rfl rfl Try.sizeOf3 rfl) rfl rfl rfl ?_
  refine simL_val (q_load rfl rfl Try.isAgg3 (.obj 0 rfl rfl)) rfl rfl rfl ?_
  refine simL_val (q_neq rfl rfl rfl) rfl rfl rfl ?_
  refine simL_nil ?_
  refine nrm_then ?_
  refine sim_condn rfl (fun h1v => ?_) (fun h2v => ?_)
  · refine sim_skip ?_
    refine nrm_then ?_
    refine sim_seq ?_
    refine sim_region ?_
    refine simL_val (q_move rfl rfl) rfl rfl rfl ?_
    refine simL_val (q_nil rfl rfl) rfl rfl rfl ?_
    refine simL_val (q_fa rfl rfl Try.underlying60 rfl rfl Try.sizeOf23 rfl) rfl rfl rfl ?_
    refine simL_val (q_load rfl rfl Try.isAgg23 (.obj 0 rfl rfl)) rfl rfl rfl ?_
    refine simL_val (q_asg rfl rfl) rfl rfl rfl ?_
    refine simL_val (q_asg rfl rfl) rfl rfl rfl ?_
    refine simL_nil ?_
    refine nrm_then ?_
    refine sim_rtn ?_
    exact rtn_fn (a0_0, c0_0) rfl rfl rfl (.pr_in ⟨h0_0, hc0_0, hm0_0⟩ (.sel 0 rfl (.sel 0 rfl (.nil _))))
  · refine sim_seq ?_
    refine sim_draw (Γ := Unit) () [[], [0], [0, 1], [0, 1, 2], [], [0, 1, 2, 3, 4]] [] [0, 1, 2, 3, 4, 5] (fun i => [[0], [0], [0], [0], [0], [0]].getD i []) (fun i => [[], [], [], [], [], []].getD i []) (fun γ i => [.pointer (some ⟨b0, 0, none⟩), .pointer (some ⟨b0, 0, none⟩), .pointer (some ⟨b0, 1, none⟩), .int .i64 x0_1, .slice none 0 0, .int .i64 x0_1].getD i undef) (fun j γ => [[obj b0 60 [.slice a0_0 x0_0.length c0_0, .int .i64 x0_1], F]].getD j []) (fun γ => [(2, .slice none 0 0), (3, .int .i64 x0_1)]) mixed (by decide) (by decide) (by decide) (by decide) (by decide) (by decide) (by decide) 17 rfl (by decide) (by decide) (by decide) (Ent.refl _) ?_ ?_ (fun _ => ⟨rfl, rfl, trivial⟩) ?_
    · exact (All.cons (fun γ => (All.cons (QOb.plain [(0, .pointer (some ⟨b0, 0, none⟩))] rfl rfl (.o rfl (by decide) .nil) (q_move rfl rfl) rfl) All.nil)) (All.cons (fun γ => (All.cons (QOb.plain [(9, .pointer (some ⟨b0, 0, none⟩))] rfl rfl (.w 0 rfl rfl rfl .nil) (q_nil rfl rfl) rfl) All.nil)) (All.cons (fun γ => (All.cons (QOb.plain [(10, .pointer (some ⟨b0, 0, none⟩))] rfl rfl (.w 1 rfl rfl rfl .nil) (q_fa rfl rfl Try.underlying60 rfl rfl Try.sizeOf3 rfl) rfl) All.nil)) (All.cons (fun γ => (All.cons (QOb.plain [(11, .pointer (some ⟨b0, 1, none⟩))] rfl rfl (.w 2 rfl rfl rfl .nil) (q_load rfl rfl Try.isAgg3 (.obj 0 rfl rfl)) rfl) All.nil)) (All.cons (fun γ => (All.cons (QOb.plain [] rfl rfl .nil (q_asg rfl rfl) rfl) All.nil)) (All.cons (fun γ => (All.cons (QOb.plain [(12, .int .i64 x0_1)] rfl rfl (.w 3 rfl rfl rfl .nil) (q_asg rfl rfl) rfl) All.nil)) All.nil))))))
    · exact All.nil
    · intro g3v
      refine nrm_then ?_
      refine sim_rtn ?_
      refine rtn_then ?_
      exact rtn_fn (none, 0) rfl rfl rfl (.pr_in ⟨Rd.nil _ _, Nat.le_refl _, Nat.zero_le _⟩ (.sel 0 rfl (.sel 0 rfl (.nil _))))
def synodref1_Writer_Done.v (x0_0 : List UInt8) (x0_1 : Int) : List UInt8 × Int := (synodref1_Writer_Done.f x0_0 x0_1).getD ([], 0)
theorem synodref1_Writer_Done.tot (x0_0 : List UInt8) (x0_1 : Int) : synodref1_Writer_Done.f x0_0 x0_1 = some (synodref1_Writer_Done.v x0_0 x0_1) := by
  have h : ∃ r, synodref1_Writer_Done.f x0_0 x0_1 = some r := by
    unfold synodref1_Writer_Done.f
    repeat' (first | exact ⟨_, rfl⟩ | split | simp only [Option.bind_some])
  obtain ⟨r, h⟩ := h
  unfold synodref1_Writer_Done.v
  rw [h]; rfl

def synodlaw1_done.l0 : Nat → List UInt8 → Int → Option (List UInt8)
  | 0, _, _ => none
  | k + 1, z19v, z20v => if z20v < (z19v.length : Int) then (if 0 ≤ z20v ∧ z20v < (z19v.length : Int) then (synodlaw1_done.l0 k (z19v.set z20v.toNat 170) (IntKind.i64.wrap (z20v + 1))) else none) else (some z19v)
def synodlaw1_done.f (k : Nat) (x0_0 : List UInt8) (x0_1 : Int) (x1_0 : List UInt8) (x1_1 : Int) : Option (Bool) := (wire_Writer_Done.f x0_0 x0_1).bind fun s1v => ((synodref1_Writer_Done.f x1_0 x1_1).bind fun s4v => ((synodref_SameBytes.f k s1v.1 s4v.1).bind fun s12v => ((synodlaw1_done.l0 k s1v.1 0).bind fun s15v => (if (s15v.length + ([170] : List UInt8).length) * 1 ≤ 140737488355328 then ((if s12v = true then ((synodref_Num.f s1v.2).bind fun s34v => (some (decide (s34v = s4v.2)))) else (some false)).bind fun s32v => (some (s32v && (decide (((s15v ++ ([170] : List UInt8)).length : Int) = IntKind.i64.wrap ((s4v.1.length : Int) + 1)))))) else none))))
theorem synodlaw1_done.calls (W : World) (F : HA) (k : Nat) (b0 : Nat) (a0_0 : Option Addr) (c0_0 : Nat) (x0_0 : List UInt8) (x0_1 : Int) (b1 : Nat) (a1_0 : Option Addr) (c1_0 : Nat) (x1_0 : List UInt8) (x1_1 : Int) (h0_0 : Rd F a0_0 (encB x0_0)) (hc0_0 : x0_0.length ≤ c0_0) (hm0_0 : c0_0 ≤ maxLen) (h1_0 : Rd F a1_0 (encB x1_0)) (hc1_0 : x1_0.length ≤ c1_0) (hm1_0 : c1_0 ≤ maxLen) :
    Fn Try.prog W 40 [.pointer (some ⟨b0, 0, none⟩), .pointer (some ⟨b1, 0, none⟩)] [obj b0 80 [.slice a0_0 x0_0.length c0_0, .int .i64 x0_1], obj b1 60 [.slice a1_0 x1_0.length c1_0, .int .i64 x1_1]] F (synodlaw1_done.f k x0_0 x0_1 x1_0 x1_1) (fun (r : Bool) (y : Unit) => .bool r) (fun r y => [obj b0 80 [.slice a0_0 x0_0.length c0_0, .int .i64 x0_1], obj b1 60 [.slice a1_0 x1_0.length c1_0, .int .i64 x1_1]]) := by
  unfold synodlaw1_done.f
  refine fn_intro 51 Try.func40 rfl Try.ntmps40 rfl ?_
  refine sim_seq ?_
  refine sim_region ?_
  refine simL_val (q_asg rfl rfl) rfl rfl rfl ?_
  refine simL_nil ?_
  refine nrm_then ?_
  refine sim_seq ?_
  refine sim_region ?_
  refine simL_val (q_move rfl rfl) rfl rfl rfl ?_
  refine simL_bind (fun s1v hs3v => ?_)
  refine simL_eff (re_call (vs := [.pointer (some ⟨b0, 0, none⟩)]) (cap := []) (A := [obj b0 80 [.slice a0_0 x0_0.length c0_0, .int .i64 x0_1]]) (rst := [obj b1 60 [.slice a1_0 x1_0.length c1_0, .int .i64 x1_1], F]) rfl rfl rfl rfl rfl rfl Try.call42 (.sel 0 rfl (.sel 0 rfl (.sel 0 rfl (.nil _)))) (wire_Writer_Done.calls _ _ b0 a0_0 c0_0 x0_0 x0_1 (h0_0.lend 1 rfl) hc0_0 hm0_0) hs3v) rfl rfl rfl ?_
  intro y2v
  refine simL_val (q_move rfl rfl) rfl rfl rfl ?_
  refine simL_val (q_ext rfl rfl rfl) rfl rfl rfl ?_
  refine simL_val (q_ext rfl rfl rfl) rfl rfl rfl ?_
  refine simL_val (q_asg rfl rfl) rfl rfl rfl ?_
  refine simL_val (q_asg rfl rfl) rfl rfl rfl ?_
  refine simL_nil ?_
  refine nrm_then ?_
  refine sim_seq ?_
  refine sim_region ?_
  refine simL_val (q_move rfl rfl) rfl rfl rfl ?_
  refine simL_bind (fun s4v hs6v => ?_)
  refine simL_eff (re_call (vs := [.pointer (some ⟨b1, 0, none⟩)]) (cap := []) (A := [obj b1 60 [.slice a1_0 x1_0.length c1_0, .int .i64 x1_1]]) (rst := [Row 5 1 y2v.1 s1v.1.length y2v.2 (encB s1v.1), obj b0 80 [.slice a0_0 x0_0.length c0_0, .int .i64 x0_1], F]) rfl rfl rfl rfl rfl rfl Try.call53 (.sel 2 rfl (.sel 0 rfl (.sel 0 rfl (.sel 0 rfl (.nil _))))) (synodref1_Writer_Done.calls _ _ _ (Up.lend 2 rfl) b1 a1_0 c1_0 x1_0 x1_1 h1_0 hc1_0 hm1_0) hs6v) rfl rfl rfl ?_
  intro y5v
  refine simL_pr (fun hp7v => ?_)
  refine simL_val (q_move rfl rfl) rfl rfl rfl ?_
  refine simL_val (q_ext rfl rfl rfl) rfl rfl rfl ?_
  refine simL_val (q_ext rfl rfl rfl) rfl rfl rfl ?_
  refine simL_val (q_asg rfl rfl) rfl rfl rfl ?_
  refine simL_val (q_asg rfl rfl) rfl rfl rfl ?_
  refine simL_nil ?_
  refine nrm_then ?_
  refine sim_seq ?_
  refine sim_region ?_
  refine simL_val (q_move rfl rfl) rfl rfl rfl ?_
  refine simL_val (q_move rfl rfl) rfl rfl rfl ?_
  refine simL_bind (fun s12v hs14v => ?_)
  refine simL_lend 1 rfl (fun hq8v hq9v hq10v hq11v => ?_)
  refine simL_eff (re_call (vs := [.slice y2v.1 s1v.1.length y2v.2, .slice y5v.1 s4v.1.length y5v.2]) (cap := []) (A := []) (rst := [obj b1 60 [.slice a1_0 x1_0.length c1_0, .int .i64 x1_1], Row 5 1 y2v.1 s1v.1.length y2v.2 (encB s1v.1), obj b0 80 [.slice a0_0 x0_0.length c0_0, .int .i64 x0_1], F]) rfl rfl rfl rfl rfl rfl Try.call13 (.sel 0 rfl (.sel 0 rfl (.sel 0 rfl (.sel 0 rfl (.nil _))))) (synodref_SameBytes.calls _ _ k y2v.1 y2v.2 s1v.1 y5v.1 y5v.2 s4v.1 (hq8v.lend 1 rfl) hq9v hq10v (hp7v.1.lend 3 rfl) hp7v.2.1 hp7v.2.2) hs14v) rfl rfl rfl ?_
  intro y13v
  refine simL_val (q_asg rfl rfl) rfl rfl rfl ?_
  refine simL_nil ?_
  refine nrm_then ?_
  refine sim_cut (S := List UInt8) (Unit) (fun s y => [(5, .slice y2v.1 s.length y2v.2), (6, .int .i64 s1v.2), (7, .slice y5v.1 s4v.1.length y5v.2), (8, .int .i64 s4v.2), (9, .bool s12v)]) (fun s y => [obj b1 60 [.slice a1_0 x1_0.length c1_0, .int .i64 x1_1], obj b0 80 [.slice a0_0 x0_0.length c0_0, .int .i64 x0_1], Row 5 1 y2v.1 s.length y2v.2 (encB s), F]) ?_ ?_
  · refine sim_seq ?_
    refine sim_region ?_
    refine simL_val (q_asg rfl rfl) rfl rfl rfl ?_
    refine simL_nil ?_
    refine nrm_then ?_
    refine sim_block ?_
    refine sim_loop (S := List UInt8 × Int) (Unit) (fun k s => synodlaw1_done.l0 k s.1 s.2) (fun s y => [(5, .slice y2v.1 s.1.length y2v.2), (6, .int .i64 s1v.2), (7, .slice y5v.1 s4v.1.length y5v.2), (8, .int .i64 s4v.2), (9, .bool s12v), (10, .int .i64 s.2)]) (fun s y => [obj b1 60 [.slice a1_0 x1_0.length c1_0, .int .i64 x1_1], obj b0 80 [.slice a0_0 x0_0.length c0_0, .int .i64 x0_1], Row 5 1 y2v.1 s.1.length y2v.2 (encB s.1), F]) (fun _ => by rw [synodlaw1_done.l0]) ?_ k (s1v.1, 0) () ⟨rfl, rfl, rfl, rfl, rfl, rfl, trivial⟩ (.sel 0 rfl (.sel 1 rfl (.sel 0 rfl (.sel 0 rfl (.nil _)))))
    intro k s17v y18v
    refine sim_eq (by rw [synodlaw1_done.l0]) ?_
    refine sim_seq ?_
    refine sim_seq ?_
    refine sim_region ?_
    refine simL_val (q_move rfl rfl) rfl rfl rfl ?_
    refine simL_val (q_move rfl rfl) rfl rfl rfl ?_
    refine simL_val (q_len rfl rfl rfl Try.underlying23) rfl rfl rfl ?_
    refine simL_val (q_lss rfl rfl rfl) rfl rfl rfl ?_
    refine simL_nil ?_
    refine nrm_then ?_
    refine sim_cond rfl (fun h21v => ?_) (fun h22v => ?_)
    · refine sim_skip ?_
      refine nrm_then ?_
      refine sim_seq ?_
      refine sim_block ?_
      refine sim_region ?_
      refine simL_val (q_move rfl rfl) rfl rfl rfl ?_
      refine simL_val (q_move rfl rfl) rfl rfl rfl ?_
      refine simL_ask (fun hi23v => ?_)
      refine simL_row 2 rfl (encB_ne (j := s17v.2.toNat) (by omega)) (fun b24v b24vo ha25v => ?_)
      refine simL_val (q_idx1 rfl rfl rfl ha25v Try.underlying23 Try.sizeOf5 hi23v.1 hi23v.2) rfl rfl rfl ?_
      refine simL_do (re_storeb 170 2 rfl rfl rfl Try.sizeOf5 rfl ha25v hi23v.2 hi23v.1 rfl) rfl rfl ?_
      intro _
      refine simL_ren (.slice y2v.1 ((s17v.1.set s17v.2.toNat 170).length) y2v.2) (d := 5) rfl (slc_len (by simp)) ?_
      refine simL_ren (.slice y2v.1 ((s17v.1.set s17v.2.toNat 170).length) y2v.2) (d := 25) rfl (slc_len (by simp)) ?_
      refine simL_ren (.slice y2v.1 ((s17v.1.set s17v.2.toNat 170).length) y2v.2) (d := 30) rfl (slc_len (by simp)) ?_
      refine simL_nil ?_
      refine nrm_block ?_
      refine nrm_then ?_
      refine sim_region ?_
      refine simL_val (q_move rfl rfl) rfl rfl rfl ?_
      refine simL_val (q_add rfl rfl rfl) rfl rfl rfl ?_
      refine simL_val (q_asg rfl rfl) rfl rfl rfl ?_
      refine simL_nil ?_
      exact nrm_again (s := (s17v.1.set s17v.2.toNat 170, IntKind.i64.wrap (s17v.2 + 1))) () ⟨rfl, rfl, rfl, rfl, rfl, rfl, trivial⟩ (.sel 0 rfl (.sel 0 rfl (.sel 0 rfl (.sel 0 rfl (.nil _)))))
    · refine sim_exi ?_
      refine exi_then ?_
      refine exi_loop ?_
      refine exi_here ?_
      exact nrm_cut (s := s17v.1) () ⟨rfl, rfl, rfl, rfl, rfl, trivial⟩ (.sel 0 rfl (.sel 0 rfl (.sel 0 rfl (.sel 0 rfl (.nil _)))))
  · intro s15v y16v
    refine sim_seq ?_
    refine sim_region ?_
    refine simL_val (q_move rfl rfl) rfl rfl rfl ?_
    refine simL_eff (re_litb (cs := [.int .u8 170]) ([170] : List UInt8) rfl rfl Try.underlying23 elt5 rfl (by kernel_rfl) rfl rfl rfl) rfl rfl rfl ?_
    intro b28v
    refine simL_ask (fun hb31v => ?_)
    refine simL_eff (re_appendb 3 rfl rfl rfl Try.underlying23 elt5 rfl (Rds.row 0 rfl) hb31v) rfl rfl rfl ?_
    intro y30v
    refine simL_val (q_asg rfl rfl) rfl rfl rfl ?_
    refine simL_nil ?_
    refine nrm_then ?_
    refine sim_seq ?_
    refine sim_region ?_
    refine simL_val (q_move rfl rfl) rfl rfl rfl ?_
    refine simL_val (q_move rfl rfl) rfl rfl rfl ?_
    refine simL_cut' 5 (S := Bool) (Unit) (fun s y => [(5, .slice y30v.1 ((s15v ++ ([170] : List UInt8)).length) y30v.2), (7, .slice y5v.1 s4v.1.length y5v.2), (42, .bool s)]) (fun s y => [obj b1 60 [.slice a1_0 x1_0.length c1_0, .int .i64 x1_1], obj b0 80 [.slice a0_0 x0_0.length c0_0, .int .i64 x0_1], Row 5 1 y30v.1 (s15v ++ ([170] : List UInt8)).length y30v.2 (encB (s15v ++ ([170] : List UInt8))), F]) ?_ ?_
    · refine simL_caseb (fun hb37v => ?_) (fun hb38v => ?_)
      · rw [hb37v]
        refine simL_valg (q_move rfl rfl) rfl rfl rfl rfl rfl rfl ?_
        refine simL_bind (fun s34v hs36v => ?_)
        refine simL_effg (re_call (vs := [.int .i64 s1v.2]) (cap := []) (A := []) (rst := [Row 5 1 (some ⟨b28v, 0, none⟩) ([170] : List UInt8).length 1 (encB ([170] : List UInt8)), obj b1 60 [.slice a1_0 x1_0.length c1_0, .int .i64 x1_1], obj b0 80 [.slice a0_0 x0_0.length c0_0, .int .i64 x0_1], Row 5 1 y30v.1 (s15v ++ ([170] : List UInt8)).length y30v.2 (encB (s15v ++ ([170] : List UInt8))), F]) rfl rfl rfl rfl rfl rfl Try.call14 (.sel 0 rfl (.sel 0 rfl (.sel 0 rfl (.sel 0 rfl (.sel 0 rfl (.nil _)))))) (synodref_Num.calls _ _ s1v.2 ) hs36v) rfl rfl rfl rfl rfl rfl ?_
        intro y35v
        refine simL_valg (q_move rfl rfl) rfl rfl rfl rfl rfl rfl ?_
        refine simL_valg (q_eql rfl rfl rfl) rfl rfl rfl rfl rfl rfl ?_
        refine simL_val (q_pick rfl rfl rfl rfl rfl) rfl rfl rfl ?_
        refine simL_nil ?_
        exact nrm_cut (s := decide (s34v = s4v.2)) () ⟨rfl, rfl, rfl, trivial⟩ (.sel 1 rfl (.sel 1 rfl (.sel 1 rfl (.sel 1 rfl (.nil _)))))
      · rw [hb38v]
        refine simL_skipd rfl rfl rfl rfl rfl rfl ?_
        refine simL_skipd rfl rfl rfl rfl rfl rfl ?_
        refine simL_skipd rfl rfl rfl rfl rfl rfl ?_
        refine simL_skipd rfl rfl rfl rfl rfl rfl ?_
        refine simL_val (q_pick rfl rfl rfl rfl rfl) rfl rfl rfl ?_
        refine simL_nil ?_
        exact nrm_cut (s := false) () ⟨rfl, rfl, rfl, trivial⟩ (.sel 1 rfl (.sel 1 rfl (.sel 1 rfl (.sel 1 rfl (.nil _)))))
    · intro s32v y33v
      refine simL_val (q_move rfl rfl) rfl rfl rfl ?_
      refine simL_valc (b := s32v) (fun hb44v => RQ.sub (E' := [(5, .slice y30v.1 ((s15v ++ ([170] : List UInt8)).length) y30v.2)]) ⟨rfl, trivial⟩ (q_move rfl rfl)) rfl rfl rfl rfl rfl ?_
      refine simL_valc (b := s32v) (fun hb43v => RQ.sub (E' := [(44, .slice y30v.1 ((s15v ++ ([170] : List UInt8)).length) y30v.2)]) ⟨lk_cv rfl hb43v, trivial⟩ (q_len rfl rfl rfl Try.underlying23)) rfl rfl rfl rfl rfl ?_
      refine simL_valc (b := s32v) (fun hb42v => RQ.sub (E' := [(7, .slice y5v.1 s4v.1.length y5v.2)]) ⟨rfl, trivial⟩ (q_move rfl rfl)) rfl rfl rfl rfl rfl ?_
      refine simL_valc (b := s32v) (fun hb41v => RQ.sub (E' := [(46, .slice y5v.1 s4v.1.length y5v.2)]) ⟨lk_cv rfl hb41v, trivial⟩ (q_len rfl rfl rfl Try.underlying23)) rfl rfl rfl rfl rfl ?_
      refine simL_valc (b := s32v) (fun hb40v => RQ.sub (E' := [(47, .int .i64 (s4v.1.length : Int))]) ⟨lk_cv rfl hb40v, trivial⟩ (q_add rfl rfl rfl)) rfl rfl rfl rfl rfl ?_
      refine simL_valc (b := s32v) (fun hb39v => RQ.sub (E' := [(45, .int .i64 ((s15v ++ ([170] : List UInt8)).length : Int)), (48, .int .i64 (IntKind.i64.wrap ((s4v.1.length : Int) + 1)))]) ⟨lk_cv rfl hb39v, lk_cv rfl hb39v, trivial⟩ (q_eql rfl rfl rfl)) rfl rfl rfl rfl rfl ?_
      refine simL_val (q_and rfl rfl rfl) rfl rfl rfl ?_
      refine simL_val (q_asg rfl rfl) rfl rfl rfl ?_
      refine simL_nil ?_
      refine nrm_then ?_
      refine sim_rtn ?_
      exact rtn_fn () rfl rfl rfl (.sel 1 rfl (.sel 0 rfl (.sel 1 rfl (.nil _))))
end Go.Proofs.Ytdolffamgbcokaa
