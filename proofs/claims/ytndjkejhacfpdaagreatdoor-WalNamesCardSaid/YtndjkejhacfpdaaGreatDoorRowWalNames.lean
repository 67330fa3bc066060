/- The row of the law WalNames, out of its pure law and the printed walk. Conditions: none. -/
import Derived.Test.YtndjkejhacfpdaaGreatDoorM8
import Derived.Laws.BitsLemmas
import Derived.Lib.ItoaMem
import Derived.Lib.Repeat
import Derived.Lib.SlTrimSet
import Derived.Test.YtndjkejhacfpdaaGreatDoorRows
import Derived.ProofKit
import Derived.OpenShut
import Derived.ShutString
import Derived.ChangeOld
import Derived.SizedLaws
import Derived.Deep.CondSized
import Derived.JoinedCond
import Derived.Lib.LaidTab
import Derived.Deep.DeepHandedRow
import Derived.Lay
import Derived.MakeChecks
import Derived.Test.YtndjkejhacfpdaaGreatDoorCards
import Derived.Test.YtndjkejhacfpdaaGreatDoorTie
namespace Go.Proofs.YtndjkejhacfpdaaGreatDoor
open Go.RowKit
set_option linter.unusedVariables false
set_option linter.unusedSimpArgs false
set_option maxRecDepth 20000
set_option maxHeartbeats 20000000
def synodlaw5_WalNames.f (k : Nat) (x0 : Int) (x1 : List UInt8) : Option (Bool) := (synodlaw5_first.f k).bind fun s1v => (if ((!s1v) || (decide ((1000 : Int) < (x1.length : Int)))) = true then (some s1v) else ((wal_Name.f k x0).bind fun s6v => ((wal_Number.f k x1).bind fun s9v => ((synodref5_Number.f k x1).bind fun s12v => (if (!((decide ((1 : Int) ≤ x0)) && (decide (x0 ≤ (99999999 : Int))))) = true then ((synodref_Num.f s6v.2).bind fun s17v => (some ((((decide (s17v = (1 : Int))) && (decide (s6v.1 = ([] : List UInt8)))) && (decide (s9v.1 = s12v))) && (s9v.2 == (decide ((0 : Int) < s12v)))))) else ((wal_Number.f k s6v.1).bind fun s29v => ((synodref_Num.f s6v.2).bind fun s32v => ((if s32v = (0 : Int) then ((synodref5_Name.f k x0).bind fun s37v => (some (decide (s6v.1 = s37v)))) else (some false)).bind fun s35v => (some ((((s35v && (decide (s9v.1 = s12v))) && (s9v.2 == (decide ((0 : Int) < s12v)))) && (decide (s29v.1 = x0))) && s29v.2))))))))))
theorem synodlaw5_WalNames.calls (W : World) (F : HA) (k : Nat) (x0 : Int) (x1 : List UInt8) (hgl : Glb Tryz.prog F) :
    Fn Tryz.prog W 3 [.int .i64 x0, str x1] [] F (synodlaw5_WalNames.f k x0 x1) (fun (r : Bool) (y : Unit) => .bool r) (fun r y => []) := by
 unfold synodlaw5_WalNames.f
 refine fn_intro 94 Tryz.func3 rfl Tryz.ntmps3 rfl ?_
 refine sr ?_
 refine va rfl rfl (nx ?_)
 refine simL_bind (fun s1v hs2v => ?_)
 refine simL_eff (re_call (vs := []) (cap := []) (A := []) (rst := [F]) rfl rfl rfl rfl rfl rfl Tryz.call9 (.sel 0 rfl (.nil _)) (synodlaw5_first.calls _ _ k  (hgl.lend 0 rfl)) hs2v) rfl rfl rfl ?_
 intro y3v
 refine va rfl rfl (simL_nil (nrm_then (sim_seq (sr ?_))))
 refine vm rfl rfl ?_
 refine vq (q_not rfl rfl) rfl ?_
 refine vm rfl rfl ?_
 refine simL_valc (b := !s1v) (fun hb57v => RQ.sub (E' := [(1, str x1)]) ⟨rfl, trivial⟩ (q_move rfl rfl)) rfl rfl rfl rfl rfl ?_
 refine simL_valc (b := !s1v) (fun hb56v => RQ.sub (E' := [(18, str x1)]) ⟨lk_cv rfl hb56v, trivial⟩ (q_lens rfl rfl rfl Tryz.underlying9)) rfl rfl rfl rfl rfl ?_
 refine simL_valc (b := !s1v) (fun hb55v => RQ.sub (E' := [(19, .int .i64 (x1.length : Int))]) ⟨lk_cv rfl hb55v, trivial⟩ (q_gtr rfl rfl rfl)) rfl rfl rfl rfl rfl ?_
 refine vq (q_or rfl rfl rfl) rfl (simL_nil (nrm_then ?_))
 refine sim_condb rfl (fun h4v => ?_) (fun h5v => ?_)
 refine sr ?_
 refine vm rfl rfl ?_
 refine va rfl rfl (simL_nil (nrm_then (sim_rtn ?_)))
 refine rtn_then ?_
 exact rtn_fn () rfl rfl rfl (.sel 0 rfl (.nil _))
 refine sim_skip ?_
 refine nrm_then (sr ?_)
 refine vm rfl rfl ?_
 refine simL_bind (fun s6v hs7v => ?_)
 refine simL_eff (re_call (vs := [.int .i64 x0]) (cap := []) (A := []) (rst := [F]) rfl rfl rfl rfl rfl rfl Tryz.call10 (.sel 0 rfl (.nil _)) (wal_Name.calls _ _ k x0 (hgl.lend 0 rfl)) hs7v) rfl rfl rfl ?_
 intro y8v
 refine vm rfl rfl ?_
 refine vq (q_ext rfl rfl rfl) rfl ?_
 refine vq (q_ext rfl rfl rfl) rfl ?_
 refine va rfl rfl ?_
 refine va rfl rfl (nx ?_)
 refine vm rfl rfl ?_
 refine simL_bind (fun s9v hs10v => ?_)
 refine simL_eff (re_call (vs := [str x1]) (cap := []) (A := []) (rst := [F]) rfl rfl rfl rfl rfl rfl Tryz.call11 (.sel 0 rfl (.nil _)) (wal_Number.calls _ _ k x1 ) hs10v) rfl rfl rfl ?_
 intro y11v
 refine vm rfl rfl ?_
 refine vq (q_ext rfl rfl rfl) rfl ?_
 refine vq (q_ext rfl rfl rfl) rfl ?_
 refine va rfl rfl ?_
 refine va rfl rfl (nx ?_)
 refine vm rfl rfl ?_
 refine simL_bind (fun s12v hs13v => ?_)
 refine simL_eff (re_call (vs := [str x1]) (cap := []) (A := []) (rst := [F]) rfl rfl rfl rfl rfl rfl Tryz.call12 (.sel 0 rfl (.nil _)) (synodref5_Number.calls _ _ k x1 ) hs13v) rfl rfl rfl ?_
 intro y14v
 refine va rfl rfl (nx ?_)
 refine vm rfl rfl ?_
 refine vq (q_geq rfl rfl rfl) rfl ?_
 refine vm rfl rfl ?_
 refine simL_valc (b := decide ((1 : Int) ≤ x0)) (fun hb54v => RQ.sub (E' := [(0, .int .i64 x0)]) ⟨rfl, trivial⟩ (q_move rfl rfl)) rfl rfl rfl rfl rfl ?_
 refine simL_valc (b := decide ((1 : Int) ≤ x0)) (fun hb53v => RQ.sub (E' := [(38, .int .i64 x0)]) ⟨lk_cv rfl hb53v, trivial⟩ (q_leq rfl rfl rfl)) rfl rfl rfl rfl rfl ?_
 refine vq (q_and rfl rfl rfl) rfl ?_
 refine va rfl rfl (simL_nil (nrm_then (sim_seq (sr ?_))))
 refine vm rfl rfl ?_
 refine vq (q_not rfl rfl) rfl (simL_nil (nrm_then ?_))
 refine sim_condb rfl (fun h15v => ?_) (fun h16v => ?_)
 refine sr ?_
 refine vm rfl rfl ?_
 refine simL_bind (fun s17v hs18v => ?_)
 refine simL_eff (re_call (vs := [.int .i64 s6v.2]) (cap := []) (A := []) (rst := [F]) rfl rfl rfl rfl rfl rfl Tryz.call13 (.sel 0 rfl (.nil _)) (synodref_Num.calls _ _ s6v.2 ) hs18v) rfl rfl rfl ?_
 intro y19v
 refine vq (q_eql rfl rfl rfl) rfl ?_
 refine vm rfl rfl ?_
 refine simL_valc (b := decide (s17v = (1 : Int))) (fun hb28v => RQ.sub (E' := [(6, str s6v.1)]) ⟨rfl, trivial⟩ (q_move rfl rfl)) rfl rfl rfl rfl rfl ?_
 refine simL_valc (b := decide (s17v = (1 : Int))) (fun hb27v => RQ.sub (E' := [(47, str s6v.1)]) ⟨lk_cv rfl hb27v, trivial⟩ (q_eqs rfl rfl rfl)) rfl rfl rfl rfl rfl ?_
 refine vq (q_and rfl rfl rfl) rfl ?_
 refine vm rfl rfl ?_
 refine simL_valc (b := (decide (s17v = (1 : Int))) && (decide (s6v.1 = ([] : List UInt8)))) (fun hb26v => RQ.sub (E' := [(8, .int .i64 s9v.1)]) ⟨rfl, trivial⟩ (q_move rfl rfl)) rfl rfl rfl rfl rfl ?_
 refine simL_valc (b := (decide (s17v = (1 : Int))) && (decide (s6v.1 = ([] : List UInt8)))) (fun hb25v => RQ.sub (E' := [(10, .int .i64 s12v)]) ⟨rfl, trivial⟩ (q_move rfl rfl)) rfl rfl rfl rfl rfl ?_
 refine simL_valc (b := (decide (s17v = (1 : Int))) && (decide (s6v.1 = ([] : List UInt8)))) (fun hb24v => RQ.sub (E' := [(51, .int .i64 s9v.1), (52, .int .i64 s12v)]) ⟨lk_cv rfl hb24v, lk_cv rfl hb24v, trivial⟩ (q_eql rfl rfl rfl)) rfl rfl rfl rfl rfl ?_
 refine vq (q_and rfl rfl rfl) rfl ?_
 refine vm rfl rfl ?_
 refine simL_valc (b := ((decide (s17v = (1 : Int))) && (decide (s6v.1 = ([] : List UInt8)))) && (decide (s9v.1 = s12v))) (fun hb23v => RQ.sub (E' := [(9, .bool s9v.2)]) ⟨rfl, trivial⟩ (q_move rfl rfl)) rfl rfl rfl rfl rfl ?_
 refine simL_valc (b := ((decide (s17v = (1 : Int))) && (decide (s6v.1 = ([] : List UInt8)))) && (decide (s9v.1 = s12v))) (fun hb22v => RQ.sub (E' := [(10, .int .i64 s12v)]) ⟨rfl, trivial⟩ (q_move rfl rfl)) rfl rfl rfl rfl rfl ?_
 refine simL_valc (b := ((decide (s17v = (1 : Int))) && (decide (s6v.1 = ([] : List UInt8)))) && (decide (s9v.1 = s12v))) (fun hb21v => RQ.sub (E' := [(57, .int .i64 s12v)]) ⟨lk_cv rfl hb21v, trivial⟩ (q_gtr rfl rfl rfl)) rfl rfl rfl rfl rfl ?_
 refine simL_valc (b := ((decide (s17v = (1 : Int))) && (decide (s6v.1 = ([] : List UInt8)))) && (decide (s9v.1 = s12v))) (fun hb20v => RQ.sub (E' := [(56, .bool s9v.2), (58, .bool (decide ((0 : Int) < s12v)))]) ⟨lk_cv rfl hb20v, lk_cv rfl hb20v, trivial⟩ (q_eqb rfl rfl rfl Tryz.underlying4)) rfl rfl rfl rfl rfl ?_
 refine vq (q_and rfl rfl rfl) rfl ?_
 refine va rfl rfl (simL_nil (nrm_then (sim_rtn ?_)))
 refine rtn_then ?_
 exact rtn_fn () rfl rfl rfl (.sel 0 rfl (.nil _))
 refine sim_skip ?_
 refine nrm_then (sr ?_)
 refine vm rfl rfl ?_
 refine simL_bind (fun s29v hs30v => ?_)
 refine simL_eff (re_call (vs := [str s6v.1]) (cap := []) (A := []) (rst := [F]) rfl rfl rfl rfl rfl rfl Tryz.call11 (.sel 0 rfl (.nil _)) (wal_Number.calls _ _ k s6v.1 ) hs30v) rfl rfl rfl ?_
 intro y31v
 refine vm rfl rfl ?_
 refine vq (q_ext rfl rfl rfl) rfl ?_
 refine vq (q_ext rfl rfl rfl) rfl ?_
 refine va rfl rfl ?_
 refine va rfl rfl (nx ?_)
 refine vm rfl rfl ?_
 refine simL_bind (fun s32v hs33v => ?_)
 refine simL_eff (re_call (vs := [.int .i64 s6v.2]) (cap := []) (A := []) (rst := [F]) rfl rfl rfl rfl rfl rfl Tryz.call13 (.sel 0 rfl (.nil _)) (synodref_Num.calls _ _ s6v.2 ) hs33v) rfl rfl rfl ?_
 intro y34v
 refine vq (q_eql rfl rfl rfl) rfl ?_
 refine vm rfl rfl ?_
 refine simL_cut' 5 (S := Bool) (Unit) (fun s y => [(0, .int .i64 x0), (8, .int .i64 s9v.1), (9, .bool s9v.2), (10, .int .i64 s12v), (12, .int .i64 s29v.1), (13, .bool s29v.2), (74, .bool s)]) (fun s y => [F]) ?_ ?_
 refine simL_casep (fun hb40v => ?_) (fun hb41v => ?_)
 rw [hb40v]
 refine simL_valg (q_move rfl rfl) rfl rfl rfl rfl rfl rfl ?_
 refine simL_valg (q_move rfl rfl) rfl rfl rfl rfl rfl rfl ?_
 refine simL_bind (fun s37v hs38v => ?_)
 refine simL_effg (re_call (vs := [.int .i64 x0]) (cap := []) (A := []) (rst := [F]) rfl rfl rfl rfl rfl rfl Tryz.call14 (.sel 0 rfl (.nil _)) (synodref5_Name.calls _ _ k x0 ) hs38v) rfl rfl rfl rfl rfl rfl ?_
 intro y39v
 refine simL_valg (q_eqs rfl rfl rfl) rfl rfl rfl rfl rfl rfl ?_
 refine vq (q_pick rfl rfl rfl rfl rfl) rfl (simL_nil ?_)
 exact nrm_cut (s := decide (s6v.1 = s37v)) () ⟨rfl, rfl, rfl, rfl, rfl, rfl, rfl, trivial⟩ (.sel 0 rfl (.nil _))
 rw [hb41v]
 refine simL_skipd rfl rfl rfl rfl rfl rfl ?_
 refine simL_skipd rfl rfl rfl rfl rfl rfl ?_
 refine simL_skipd rfl rfl rfl rfl rfl rfl ?_
 refine simL_skipd rfl rfl rfl rfl rfl rfl ?_
 refine vq (q_pick rfl rfl rfl rfl rfl) rfl (simL_nil ?_)
 exact nrm_cut (s := false) () ⟨rfl, rfl, rfl, rfl, rfl, rfl, rfl, trivial⟩ (.sel 0 rfl (.nil _))
 intro s35v y36v
 refine vm rfl rfl ?_
 refine simL_valc (b := s35v) (fun hb52v => RQ.sub (E' := [(8, .int .i64 s9v.1)]) ⟨rfl, trivial⟩ (q_move rfl rfl)) rfl rfl rfl rfl rfl ?_
 refine simL_valc (b := s35v) (fun hb51v => RQ.sub (E' := [(10, .int .i64 s12v)]) ⟨rfl, trivial⟩ (q_move rfl rfl)) rfl rfl rfl rfl rfl ?_
 refine simL_valc (b := s35v) (fun hb50v => RQ.sub (E' := [(76, .int .i64 s9v.1), (77, .int .i64 s12v)]) ⟨lk_cv rfl hb50v, lk_cv rfl hb50v, trivial⟩ (q_eql rfl rfl rfl)) rfl rfl rfl rfl rfl ?_
 refine vq (q_and rfl rfl rfl) rfl ?_
 refine vm rfl rfl ?_
 refine simL_valc (b := s35v && (decide (s9v.1 = s12v))) (fun hb49v => RQ.sub (E' := [(9, .bool s9v.2)]) ⟨rfl, trivial⟩ (q_move rfl rfl)) rfl rfl rfl rfl rfl ?_
 refine simL_valc (b := s35v && (decide (s9v.1 = s12v))) (fun hb48v => RQ.sub (E' := [(10, .int .i64 s12v)]) ⟨rfl, trivial⟩ (q_move rfl rfl)) rfl rfl rfl rfl rfl ?_
 refine simL_valc (b := s35v && (decide (s9v.1 = s12v))) (fun hb47v => RQ.sub (E' := [(82, .int .i64 s12v)]) ⟨lk_cv rfl hb47v, trivial⟩ (q_gtr rfl rfl rfl)) rfl rfl rfl rfl rfl ?_
 refine simL_valc (b := s35v && (decide (s9v.1 = s12v))) (fun hb46v => RQ.sub (E' := [(81, .bool s9v.2), (83, .bool (decide ((0 : Int) < s12v)))]) ⟨lk_cv rfl hb46v, lk_cv rfl hb46v, trivial⟩ (q_eqb rfl rfl rfl Tryz.underlying4)) rfl rfl rfl rfl rfl ?_
 refine vq (q_and rfl rfl rfl) rfl ?_
 refine vm rfl rfl ?_
 refine simL_valc (b := (s35v && (decide (s9v.1 = s12v))) && (s9v.2 == (decide ((0 : Int) < s12v)))) (fun hb45v => RQ.sub (E' := [(12, .int .i64 s29v.1)]) ⟨rfl, trivial⟩ (q_move rfl rfl)) rfl rfl rfl rfl rfl ?_
 refine simL_valc (b := (s35v && (decide (s9v.1 = s12v))) && (s9v.2 == (decide ((0 : Int) < s12v)))) (fun hb44v => RQ.sub (E' := [(0, .int .i64 x0)]) ⟨rfl, trivial⟩ (q_move rfl rfl)) rfl rfl rfl rfl rfl ?_
 refine simL_valc (b := (s35v && (decide (s9v.1 = s12v))) && (s9v.2 == (decide ((0 : Int) < s12v)))) (fun hb43v => RQ.sub (E' := [(87, .int .i64 s29v.1), (88, .int .i64 x0)]) ⟨lk_cv rfl hb43v, lk_cv rfl hb43v, trivial⟩ (q_eql rfl rfl rfl)) rfl rfl rfl rfl rfl ?_
 refine vq (q_and rfl rfl rfl) rfl ?_
 refine vm rfl rfl ?_
 refine simL_valc (b := ((s35v && (decide (s9v.1 = s12v))) && (s9v.2 == (decide ((0 : Int) < s12v)))) && (decide (s29v.1 = x0))) (fun hb42v => RQ.sub (E' := [(13, .bool s29v.2)]) ⟨rfl, trivial⟩ (q_move rfl rfl)) rfl rfl rfl rfl rfl ?_
 refine vq (q_and rfl rfl rfl) rfl ?_
 refine va rfl rfl (simL_nil (nrm_then (sim_rtn ?_)))
 exact rtn_fn () rfl rfl rfl (.sel 0 rfl (.nil _))
end Go.Proofs.YtndjkejhacfpdaaGreatDoor

namespace Go.Proofs.YtndjkejhacfpdaaGreatDoor
set_option linter.unusedVariables false
set_option linter.unusedSimpArgs false
open Go.RowKit

theorem w64 {n : Int} (h0 : -9223372036854775808 ≤ n) (h1 : n ≤ 9223372036854775807) : IntKind.i64.wrap n = n := by rw [IntKind.wrap_i64]; omega
theorem w8 {n : Int} (h0 : 0 ≤ n) (h1 : n < 256) : IntKind.u8.wrap n = n := by rw [IntKind.wrap_u8]; omega
end Go.Proofs.YtndjkejhacfpdaaGreatDoor

namespace Go.Proofs.YtndjkejhacfpdaaGreatDoor
set_option linter.unusedVariables false
set_option linter.unusedSimpArgs false
open Go.RowKit
theorem getD_at {α : Type} {l : List α} {i : Nat} {d : α} (h : i < l.length) : l.getD i d = l[i] := by
  rw [List.getD_eq_getElem?_getD, List.getElem?_eq_getElem h]; rfl
theorem getA_cons {α : Type} {l : List α} {i : Nat} {d : α} (h : i < l.length) : l.drop i = l.getD i d :: l.drop (i + 1) := by
  rw [getD_at h]
  exact List.drop_eq_getElem_cons h
theorem wn1 {n : Nat} (h : n < 2 ^ 61) : IntKind.i64.wrap ((n : Int) + 1) = ((n + 1 : Nat) : Int) := by rw [w64 (by omega) (by omega)]; simp
def dg (c : UInt8) : Prop := 48 ≤ c.toNat ∧ c.toNat ≤ 57
def fold10 (a : Nat) (l : List UInt8) : Nat := l.foldl (fun a c => a * 10 + (c.toNat - 48)) a
instance (c : UInt8) : Decidable (dg c) := inferInstanceAs (Decidable (48 ≤ c.toNat ∧ c.toNat ≤ 57))
theorem fold10_cons (a : Nat) (c : UInt8) (l : List UInt8) : fold10 a (c :: l) = fold10 (a * 10 + (c.toNat - 48)) l := by simp only [fold10, List.foldl_cons]
theorem fold10_snoc (a : Nat) (c : UInt8) (l : List UInt8) : fold10 a (l ++ [c]) = fold10 a l * 10 + (c.toNat - 48) := by simp [fold10, List.foldl_append]
theorem u8_of {n : Nat} (h : n < 256) : (UInt8.ofNat n).toNat = n := by simp; omega
theorem dec_len : ∀ (k u : Nat), u < 10 ^ (k + 1) → (Lib.decDigits u).length ≤ k + 1
  | 0, u, h => by rw [Lib.decDigits, dif_pos (by simpa using h)]; simp
  | k + 1, u, h => by
    rw [Lib.decDigits]
    split
    · simp
    · have := dec_len k (u / 10) (by rw [Nat.pow_succ] at h; omega)
      simp; omega
theorem itoa_pos {n : Int} (h : 0 ≤ n) : Lib.itoa n = Lib.decDigits n.toNat := by unfold Lib.itoa; rw [if_neg (by omega)]
def pad : Nat → Nat → List UInt8
  | 0, _ => []
  | k + 1, n => pad k (n / 10) ++ [UInt8.ofNat (48 + n % 10)]
theorem pad_len : ∀ k n, (pad k n).length = k
  | 0, _ => rfl
  | k + 1, n => by rw [pad, List.length_append, pad_len k]; rfl
theorem pad_zero : ∀ k, pad k 0 = Lib.repeatL [48] k
  | 0 => rfl
  | k + 1 => by
    have e : ∀ k, Lib.repeatL [48] k ++ [48] = Lib.repeatL [48] (k + 1) := fun k => by
      induction k with
      | zero => rfl
      | succ k ih => rw [Lib.repeatL, List.append_assoc, ih]; rfl
    rw [pad, show (0 : Nat) / 10 = 0 from rfl, pad_zero k]
    exact e k
theorem pad_dec : ∀ (k n : Nat), n < 10 ^ (k + 1) → Lib.repeatL [48] (k + 1 - (Lib.decDigits n).length) ++ Lib.decDigits n = pad (k + 1) n
  | k, n, h => by
    by_cases h10 : n < 10
    · rw [Lib.decDigits, dif_pos h10, pad, show n / 10 = 0 by omega, show n % 10 = n by omega, pad_zero]
      rfl
    · rw [Lib.decDigits, dif_neg h10]
      cases k with
      | zero => exact absurd h (by simp; omega)
      | succ k =>
        have ih := pad_dec k (n / 10) (by rw [Nat.pow_succ] at h; omega)
        rw [pad, ← ih, List.length_append]
        simp only [List.length_cons, List.length_nil]
        rw [show k + 1 + 1 - ((Lib.decDigits (n / 10)).length + (0 + 1)) = k + 1 - (Lib.decDigits (n / 10)).length by omega]
        simp
theorem pad_dg : ∀ (k n : Nat) c, c ∈ pad k n → dg c
  | 0, _, c, h => by cases h
  | k + 1, n, c, h => by
    rw [pad] at h
    rcases List.mem_append.1 h with h | h
    · exact pad_dg k _ c h
    · have e : (UInt8.ofNat (48 + n % 10)).toNat = 48 + n % 10 := u8_of (by omega)
      rw [List.mem_singleton.1 h, dg, e]; omega
theorem pad_fold : ∀ (k n : Nat), n < 10 ^ k → fold10 0 (pad k n) = n
  | 0, n, h => by simp at h; subst h; rfl
  | k + 1, n, h => by
    have e : (UInt8.ofNat (48 + n % 10)).toNat = 48 + n % 10 := u8_of (by omega)
    rw [pad, fold10_snoc, pad_fold k (n / 10) (by rw [Nat.pow_succ] at h; omega), e]
    omega
theorem rune_dig {n : Nat} (h : n < 10) : runeS (IntKind.i32.wrap (IntKind.i64.wrap (48 + (n : Int)))) = [UInt8.ofNat (48 + n)] := by
  have : ((List.range 10).all fun n => decide (runeS (IntKind.i32.wrap (IntKind.i64.wrap (48 + (n : Int)))) = [UInt8.ofNat (48 + n)])) = true := by decide +kernel
  exact of_decide_eq_true (List.all_eq_true.1 this n (List.mem_range.2 h))
end Go.Proofs.YtndjkejhacfpdaaGreatDoor

namespace Go.Proofs.YtndjkejhacfpdaaGreatDoor
set_option linter.unusedVariables false
set_option linter.unusedSimpArgs false
open Go.RowKit
abbrev walW : List UInt8 := [119, 97, 108, 45]
def nameW (n : Nat) : List UInt8 := walW ++ pad 8 n
def numW (s : List UInt8) : Nat := if s.length = 12 ∧ s.take 4 = walW ∧ (∀ c, c ∈ s.drop 4 → dg c) then fold10 0 (s.drop 4) else 0
instance (l : List UInt8) : Decidable (∀ c, c ∈ l → dg c) := inferInstanceAs (Decidable (∀ c ∈ l, dg c))
theorem nameW_l0 (l : List UInt8) (hl : l.length ≤ 8) : ∀ (k j : Nat), 8 - l.length - j < k → j ≤ 8 - l.length → wal_Name.l0 k (Lib.repeatL [48] j ++ l) = some (Lib.repeatL [48] (8 - l.length) ++ l)
  | 0, j, h, _ => by omega
  | k + 1, j, h, hj => by
    have hr : (Lib.repeatL [48] j).length = j := by rw [Lib.repeatL_length]; simp
    rw [wal_Name.l0]
    by_cases hlt : j < 8 - l.length
    · rw [if_pos (by rw [List.length_append, hr]; omega), if_pos (by rw [List.length_append, hr]; simp only [List.length_cons, List.length_nil]; omega)]
      have ih := nameW_l0 l hl k (j + 1) (by omega) (by omega)
      rw [Lib.repeatL, List.append_assoc] at ih
      exact ih
    · rw [if_neg (by rw [List.length_append, hr]; omega), show j = 8 - l.length by omega]
theorem nameW_f {n k : Nat} (h0 : 1 ≤ n) (h1 : n ≤ 99999999) (hk : 10 ≤ k) : wal_Name.f k (n : Int) = some (nameW n, 0) := by
  have hlen := dec_len 7 n (by omega)
  have hp := pad_dec 7 n (by omega)
  unfold wal_Name.f
  have l0 := nameW_l0 (Lib.decDigits n) (by omega) k 0 (by omega) (by omega)
  rw [if_neg (by simp; omega), strconv_Itoa.f, if_pos (by omega), Option.bind_some, itoa_pos (by omega), Int.toNat_natCast]
  rw [show Lib.repeatL [48] 0 ++ Lib.decDigits n = Lib.decDigits n from rfl] at l0
  rw [l0, hp, Option.bind_some, if_pos (by rw [pad_len]; simp only [List.length_cons, List.length_nil]; omega)]
  rfl
theorem nameW_bad {n : Int} {k : Nat} (h : n < 1 ∨ 99999999 < n) : wal_Name.f k n = some ([], 1) := by
  unfold wal_Name.f
  rw [if_pos (by simpa using h)]
theorem nameWD_l0 : ∀ (k i n : Nat) (z : List UInt8), 8 - i < k → i ≤ 8 → n ≤ 4611686018427387904 → z.length ≤ i → synodref5_Name.l0 k (n : Int) z (i : Int) = some (pad (8 - i) n ++ z)
  | 0, i, n, z, h, _, _, _ => by omega
  | k + 1, i, n, z, h, hi, hn, hz => by
    rw [synodref5_Name.l0]
    by_cases hlt : i < 8
    · have hr := rune_dig (n := n % 10) (by omega)
      have e1 : Int.tmod (n : Int) 10 = ((n % 10 : Nat) : Int) := by rw [Int.tmod_eq_emod_of_nonneg (by omega)]; rfl
      have e2 : Int.tdiv (n : Int) 10 = ((n / 10 : Nat) : Int) := by rw [Int.tdiv_eq_ediv_of_nonneg (by omega)]; rfl
      rw [if_pos (by omega), e1, e2, hr, if_pos (by simp only [List.length_cons, List.length_nil]; omega), w64 (n := ((n / 10 : Nat) : Int)) (by omega) (by omega), wn1 (by omega),
        nameWD_l0 k (i + 1) (n / 10) _ (by omega) (by omega) (by omega) (by simp; omega), show 8 - i = (8 - (i + 1)) + 1 by omega, pad]
      simp
    · rw [if_neg (by omega), show 8 - i = 0 by omega]
      rfl
theorem nameWD_f {n k : Nat} (h1 : n ≤ 4611686018427387904) (hk : 8 < k) : synodref5_Name.f k (n : Int) = some (nameW n) := by
  unfold synodref5_Name.f
  have l0 := nameWD_l0 k 0 n [] (by omega) (by omega) h1 (by simp)
  rw [show ((0 : Nat) : Int) = (0 : Int) from rfl] at l0
  rw [l0, Option.bind_some, if_pos (by simp [pad_len])]
  simp [nameW]
theorem numW_l0 {s : List UInt8} (hs : s.length = 12) : ∀ (k i n : Nat), 8 - i < k → i ≤ 8 → n < 10 ^ i →
    wal_Number.l0 s k (n : Int) (i : Int) = some (if (∀ c, c ∈ (s.drop 4).drop i → dg c) then .inl ((fold10 n ((s.drop 4).drop i) : Nat) : Int) else .inr (0, false))
  | 0, i, n, h, _, _ => by omega
  | k + 1, i, n, hk, hi, hn => by
    rw [wal_Number.l0]
    have ec : cut s (4 : Int) (s.length : Int) = s.drop 4 := by unfold cut; simp
    have el : (s.drop 4).length = 8 := by simp; omega
    rw [ec, el]
    by_cases hlt : i < 8
    · have hm : n * 10 + 9 < 10 ^ 9 := by
        have : (10 : Nat) ^ i ≤ 10 ^ 7 := Nat.pow_le_pow_right (by omega) (by omega)
        omega
      have hn8 : n * 10 < 10 ^ (i + 1) := by rw [Nat.pow_succ]; omega
      have hd4 : (s.drop 4).drop i = (s.drop 4).getD i 0 :: (s.drop 4).drop (i + 1) := by
        have h2 := getA_cons (l := s.drop 4) (d := (0 : UInt8)) (i := i) (by omega)
        exact h2
      rw [if_pos (by omega), if_pos (by omega), hd4]
      simp only [Int.toNat_natCast]
      obtain ⟨c, hc⟩ : ∃ c, (s.drop 4).getD i 0 = c := ⟨_, rfl⟩
      simp only [hc]
      by_cases hd : dg c
      · have d1 := hd.1
        have d2 := hd.2
        rw [if_neg (by simp; omega)]
        have e2 : IntKind.i64.wrap (IntKind.i64.wrap (10 * (n : Int)) + IntKind.i64.wrap (IntKind.u8.wrap (((c.toNat : Nat) : Int) - 48))) = ((n * 10 + (c.toNat - 48) : Nat) : Int) := by
          rw [w8 (by omega) (by omega), w64 (n := 10 * (n : Int)) (by omega) (by omega), w64 (n := ((c.toNat : Nat) : Int) - 48) (by omega) (by omega), w64 (by omega) (by omega)]
          omega
        rw [e2, wn1 (by omega), numW_l0 hs k (i + 1) _ (by omega) (by omega) (by rw [Nat.pow_succ]; omega), fold10_cons]
        have e3 : (∀ d, d ∈ c :: (s.drop 4).drop (i + 1) → dg d) ↔ (∀ d, d ∈ (s.drop 4).drop (i + 1) → dg d) := ⟨fun h d hd' => h d (List.mem_cons_of_mem _ hd'), fun h d hd' => by
          rcases List.mem_cons.1 hd' with rfl | hd'
          · exact hd
          · exact h d hd'⟩
        simp only [e3]
      · rw [if_pos (by
          unfold dg at hd
          simp only [Bool.or_eq_true, decide_eq_true_eq]
          omega), if_neg (fun h => hd (h c (by simp)))]
    · rw [if_neg (by omega), List.drop_of_length_le (l := s.drop 4) (by omega), if_pos (fun c h => (by cases h))]
      rfl
theorem numW_f {s : List UInt8} {k : Nat} (hs : s.length ≤ 2 ^ 40) (hk : 10 ≤ k) : wal_Number.f k s = some ((numW s : Int), decide (0 < numW s)) := by
  unfold wal_Number.f numW
  by_cases hl : s.length = 12
  · rw [if_pos (by omega), if_pos (by omega), Option.bind_some]
    have ec : cut s (0 : Int) (4 : Int) = s.take 4 := by unfold cut; simp
    rw [ec]
    by_cases hp : s.take 4 = walW
    · have l0 := numW_l0 hl k 0 0 (by omega) (by omega) (by omega)
      rw [show ((0 : Nat) : Int) = (0 : Int) from rfl] at l0
      have ed : (cut s (4 : Int) (s.length : Int)).length = 8 := by unfold cut; simp; omega
      rw [if_neg (by simp [hp]), if_pos (show 0 ≤ (4 : Int) ∧ (4 : Int) ≤ (s.length : Int) ∧ (s.length : Int) ≤ (s.length : Int) by omega), if_pos (by rw [ed]; omega), l0]
      rw [List.drop_zero]
      by_cases hd : ∀ c, c ∈ s.drop 4 → dg c
      · rw [if_pos hd, if_pos ⟨hl, hp, hd⟩]
        simp [orR]
      · rw [if_neg hd, if_neg (fun h => hd h.2.2)]
        rfl
    · rw [if_pos (by simp [hp]), if_neg (fun h => hp h.2.1)]
      rfl
  · rw [if_neg (by omega), Option.bind_some, if_pos rfl, if_neg (fun h => hl h.1)]
    rfl
theorem numWD_l0 {s : List UInt8} (hs : s.length = 12) : ∀ (k i n : Nat), 12 - i < k → 4 ≤ i → i ≤ 12 → n < 10 ^ (i - 4) →
    synodref5_Number.l0 s k (n : Int) (i : Int) = some (if (∀ c, c ∈ s.drop i → dg c) then .inl ((fold10 n (s.drop i) : Nat) : Int) else .inr 0)
  | 0, i, n, h, _, _, _ => by omega
  | k + 1, i, n, hk, h4, hi, hn => by
    rw [synodref5_Number.l0]
    by_cases hlt : i < 12
    · obtain ⟨j, rfl⟩ : ∃ j, i = 4 + j := ⟨i - 4, by omega⟩
      have hn' : n < 10 ^ j := by rw [show 4 + j - 4 = j by omega] at hn; exact hn
      have hm : n * 10 + 9 < 10 ^ 9 := by
        have : (10 : Nat) ^ j ≤ 10 ^ 7 := Nat.pow_le_pow_right (by omega) (by omega)
        omega
      have hn8 : n * 10 < 10 ^ (j + 1) := by rw [Nat.pow_succ]; omega
      rw [if_pos (by omega), if_pos (by omega), getA_cons (d := (0 : UInt8)) (by omega)]
      simp only [if_pos (show 0 ≤ ((4 + j : Nat) : Int) ∧ ((4 + j : Nat) : Int) < (s.length : Int) by omega), Int.toNat_natCast]
      obtain ⟨c, hc⟩ : ∃ c, s.getD (4 + j) 0 = c := ⟨_, rfl⟩
      simp only [hc]
      have e1 : (if ((c.toNat : Nat) : Int) < (48 : Int) then (some true) else (some (decide ((57 : Int) < ((c.toNat : Nat) : Int))))) = some (decide (¬ dg c)) := by
        unfold dg
        by_cases h1 : c.toNat < 48
        · rw [if_pos (by omega)]; congr 1; symm; exact decide_eq_true (by omega)
        · rw [if_neg (by omega)]; congr 1; exact decide_eq_decide.2 (by omega)
      rw [e1, Option.bind_some]
      by_cases hd : dg c
      · have d1 := hd.1
        have d2 := hd.2
        rw [if_neg (by simp [hd])]
        have e2 : IntKind.i64.wrap (IntKind.i64.wrap (10 * (n : Int)) + IntKind.i64.wrap (IntKind.u8.wrap (((c.toNat : Nat) : Int) - 48))) = ((n * 10 + (c.toNat - 48) : Nat) : Int) := by
          rw [w8 (by omega) (by omega), w64 (n := 10 * (n : Int)) (by omega) (by omega), w64 (n := ((c.toNat : Nat) : Int) - 48) (by omega) (by omega), w64 (by omega) (by omega)]
          omega
        rw [e2, wn1 (by omega), numWD_l0 hs k (4 + j + 1) _ (by omega) (by omega) (by omega) (by rw [show 4 + j + 1 - 4 = j + 1 by omega, Nat.pow_succ]; omega), fold10_cons]
        have e3 : (∀ d, d ∈ c :: s.drop (4 + j + 1) → dg d) ↔ (∀ d, d ∈ s.drop (4 + j + 1) → dg d) := ⟨fun h d hd' => h d (List.mem_cons_of_mem _ hd'), fun h d hd' => by
          rcases List.mem_cons.1 hd' with rfl | hd'
          · exact hd
          · exact h d hd'⟩
        simp only [e3]
      · rw [if_pos (by simp [hd]), if_neg (fun h => hd (h c (by simp)))]
    · rw [if_neg (by omega), List.drop_of_length_le (by omega), if_pos (fun c h => (by cases h))]
      rfl
theorem numWD_f {s : List UInt8} {k : Nat} (hs : s.length ≤ 2 ^ 40) (hk : 10 ≤ k) : synodref5_Number.f k s = some (numW s : Int) := by
  unfold synodref5_Number.f numW
  by_cases hl : s.length = 12
  · rw [if_pos (by omega), if_pos (by omega), Option.bind_some]
    have ec : cut s (0 : Int) (4 : Int) = s.take 4 := by unfold cut; simp
    rw [ec]
    by_cases hp : s.take 4 = walW
    · have l0 := numWD_l0 hl k 4 0 (by omega) (by omega) (by omega) (by omega)
      rw [show ((4 : Nat) : Int) = (4 : Int) from rfl, show ((0 : Nat) : Int) = (0 : Int) from rfl] at l0
      rw [if_neg (by simp [hp]), l0]
      by_cases hd : ∀ c, c ∈ s.drop 4 → dg c
      · rw [if_pos hd, if_pos ⟨hl, hp, hd⟩]; rfl
      · rw [if_neg hd, if_neg (fun h => hd h.2.2)]; rfl
    · rw [if_pos (by simp [hp]), if_neg (fun h => hp h.2.1)]; rfl
  · rw [if_neg (by omega), Option.bind_some, if_pos rfl, if_neg (fun h => hl h.1)]; rfl
theorem nameW_len (n : Nat) : (nameW n).length = 12 := by simp [nameW, pad_len]
theorem num_name {n : Nat} (h : n ≤ 99999999) : numW (nameW n) = n := by
  have e2 : (nameW n).take 4 = walW := by simp [nameW]
  have e3 : (nameW n).drop 4 = pad 8 n := by simp [nameW]
  unfold numW
  rw [e3, pad_fold 8 n (by omega), if_pos ⟨nameW_len n, e2, fun c hc => pad_dg 8 n c hc⟩]
end Go.Proofs.YtndjkejhacfpdaaGreatDoor

namespace Go.Proofs.YtndjkejhacfpdaaGreatDoor
set_option linter.unusedVariables false
set_option linter.unusedSimpArgs false
open Go.RowKit
theorem first5_eq (m : Nat) : synodlaw5_first.f (m + 100) = some true := by kernel_rfl
theorem pure_WalNames (n : Int) (hn : (Lit.int .i64 n).wf = true) (s : List UInt8) (hs : s.length ≤ reachBytes) : ∃ k, synodlaw5_WalNames.f k n s = some true := by
  refine ⟨100 + 100, ?_⟩
  unfold synodlaw5_WalNames.f
  rw [first5_eq, Option.bind_some]
  by_cases hb : ((!true) || (decide ((1000 : Int) < (s.length : Int)))) = true
  · rw [if_pos hb]
  · rw [if_neg hb]
    simp only [Bool.not_true, Bool.false_or, decide_eq_true_eq] at hb
    by_cases hn : n < 1 ∨ 99999999 < n
    · rw [nameW_bad hn, Option.bind_some, numW_f (by omega) (by omega), Option.bind_some, numWD_f (by omega) (by omega), Option.bind_some, if_pos (by simp; omega)]
      simp [synodref_Num.f]
    · obtain ⟨m, rfl⟩ : ∃ m : Nat, n = (m : Int) := ⟨n.toNat, by omega⟩
      rw [nameW_f (by omega) (by omega) (by omega), Option.bind_some, numW_f (by omega) (by omega), Option.bind_some, numWD_f (by omega) (by omega), Option.bind_some, if_neg (by simp; omega), numW_f (by rw [nameW_len]; omega) (by omega), Option.bind_some,
        nameWD_f (by omega) (by omega), num_name (by omega)]
      simp [synodref_Num.f]
      omega
end Go.Proofs.YtndjkejhacfpdaaGreatDoor

namespace Go.Proofs.YtndjkejhacfpdaaGreatDoor
set_option linter.unusedVariables false
set_option linter.unusedSimpArgs false
open Go.RowKit Go.ChangeShapes Go.WideShapes Go.ChangeAt

def heapF (W : World) : HA := fun h => ∀ i, i < W.heap.size → h i = W.heap[i]?
theorem sat_start (W : World) : Sat W ([] ++ [heapF W]) W := ⟨rfl, rfl, rfl, Nat.le_refl _, star_tt (fun _ _ => rfl)⟩
theorem below_of {W w : World} {l : List HA} (s : Sat W l w) (k : Nat) (hk : l[k]? = some (heapF W)) : Below W.heap.size W w := by
  obtain ⟨a, ha, hz⟩ := s.at hk
  refine ⟨s.os, s.tape, s.output, s.size, fun i hi => ?_⟩
  have h1 := ha i hi
  obtain ⟨o, ho⟩ : ∃ o, W.heap[i]? = some o := ⟨_, Array.getElem?_eq_getElem hi⟩
  rw [ho] at h1
  rw [hz i o h1, ho]
theorem row_of_fn {P : Program} {W : World} {f : FuncId} {args : List Value} {R Y : Type} {o : Option R} {val : R → Y → Value} {r : R}
    (h : Fn P W f args [] (heapF W) o val (fun _ _ => [])) (hs : o = some r) (hv : ∀ y, val r y = .bool true) :
    Calls P f args.toArray W fun e w' => e = .returned (.bool true) ∧ Below W.heap.size W w' := by
  refine (h r hs W (sat_start W)).mono ?_
  rintro e w' ⟨y, rfl, s⟩
  exact ⟨by rw [hv], below_of s 0 rfl⟩
theorem weights_of {H : Type} {P : Program} {ts : List TypeId} {ds : List (DataW H)} (h : (DataW.weightsEach P ts ds).all (· ≤ reachBytes) = true) {j : Nat} {t : TypeId} {d : DataW H} (ht : ts[j]? = some t) (hd : ds[j]? = some d) : ∀ n ∈ d.weights P t, n ≤ reachBytes := fun n hn => by
  have := List.all_eq_true.1 h n (DataW.weights_mem_each ht hd n hn)
  simpa using this
end Go.Proofs.YtndjkejhacfpdaaGreatDoor

namespace Go.Proofs.YtndjkejhacfpdaaGreatDoor
set_option linter.unusedVariables false
set_option linter.unusedSimpArgs false
open Go.RowKit Go.ChangeShapes Go.WideShapes Go.ChangeAt
section
variable {H : Type} {enc : TypeId × Value → H} {P : Program} {W : World} {held : Bool} {α β : Type}
def Opens (enc : TypeId × Value → H) (P : Program) (W : World) (held : Bool) (t : TypeId) (V : α → List Value → Prop) (Ok : α → Prop) : Prop :=
  ∀ fuel cs x, DataW.trod enc P W 0 (fun _ => true) held fuel t cs = some x → (∀ n ∈ x.1.weights P t, n ≤ reachBytes) → ∃ y, V y cs ∧ one cs ∧ cs.length = P.cellsOf t ∧ Ok y
theorem Opens.map {t : TypeId} {V : α → List Value → Prop} {V' : β → List Value → Prop} {Ok : α → Prop} {Ok' : β → Prop} (f : α → β) (h : Opens enc P W held t V Ok) (hV : ∀ x r, V x r → V' (f x) r) (hO : ∀ x, Ok x → Ok' (f x)) : Opens enc P W held t V' Ok' := fun fuel cs x h1 h2 =>
  let ⟨y, a, b, c, d⟩ := h fuel cs x h1 h2; ⟨f y, hV _ _ a, b, c, hO _ d⟩
theorem Opens.mono {t : TypeId} {V V' : α → List Value → Prop} {Ok Ok' : α → Prop} (h : Opens enc P W held t V Ok) (hV : ∀ x r, V x r → V' x r) (hO : ∀ x, Ok x → Ok' x) : Opens enc P W held t V' Ok' := fun fuel cs x h1 h2 =>
  let ⟨y, a, b, c, d⟩ := h fuel cs x h1 h2; ⟨y, hV _ _ a, b, c, hO _ d⟩
theorem opens_str {t : TypeId} (ht : P.underlying t = some .string) (hc : P.cellsOf t = 1) : Opens enc P W held t (fun x r => r = [str x]) (fun x => x.length ≤ reachBytes) := by
  intro fuel cs x h hw
  cases fuel with
  | zero => simp [DataW.trod] at h
  | succ n =>
    unfold DataW.trod at h
    rw [ht] at h
    split at h <;> simp_all
    rename_i s
    obtain ⟨h1, rfl⟩ := h
    refine ⟨s.data.toList, ?_, one_of rfl, ?_⟩
    · simp [str]
    · exact hw s.data.toList.length (by simp [DataW.weights])
/-! Structs: their fields, one behind the other. -/
end
end Go.Proofs.YtndjkejhacfpdaaGreatDoor

namespace Go.Proofs.YtndjkejhacfpdaaGreatDoor
set_option linter.unusedVariables false
set_option linter.unusedSimpArgs false
open Go.RowKit Go.ChangeShapes Go.WideShapes Go.ChangeAt
class Mu (α : Type) where
  mu : α → Nat
instance : Mu Int := ⟨fun _ => 1⟩
instance : Mu Bool := ⟨fun _ => 1⟩
instance : Mu UInt8 := ⟨fun _ => 1⟩
instance {α β : Type} [Mu α] [Mu β] : Mu (α × β) := ⟨fun x => Mu.mu x.1 + Mu.mu x.2⟩
instance {α : Type} [Mu α] : Mu (List α) := ⟨fun l => (l.map Mu.mu).sum + 1⟩
section
variable {H : Type} {enc : TypeId × Value → H} {P : Program} {W : World} {held : Bool} {α β : Type} [Mu α] [Mu β]
def OpensU (enc : TypeId × Value → H) (P : Program) (W : World) (held : Bool) (t : TypeId) (V : α → List Value → Prop) (Ok : α → Prop) : Prop :=
  ∀ fuel cs x, DataW.trod enc P W 0 (fun _ => true) held fuel t cs = some x → (∀ n ∈ x.1.weights P t, n ≤ reachBytes) → ∃ y, V y cs ∧ one cs ∧ cs.length = P.cellsOf t ∧ Ok y ∧ Mu.mu y ≤ Rows.uptoBulk x.1
theorem OpensU.mono {t : TypeId} {V V' : α → List Value → Prop} {Ok Ok' : α → Prop} (h : OpensU enc P W held t V Ok) (hV : ∀ x r, V x r → V' x r) (hO : ∀ x, Ok x → Ok' x) : OpensU enc P W held t V' Ok' := fun fuel cs x h1 h2 =>
  let ⟨y, a, b, c, d⟩ := h fuel cs x h1 h2; ⟨y, hV _ _ a, b, c, hO _ d.1, d.2⟩
theorem OpensU.map {α β : Type} [Mu α] [Mu β] {H : Type} {enc : TypeId × Value → H} {P : Program} {W : World} {held : Bool} {t : TypeId} {V : α → List Value → Prop} {V' : β → List Value → Prop} {Ok : α → Prop} {Ok' : β → Prop} (f : α → β) (h : OpensU enc P W held t V Ok) (hV : ∀ x r, V x r → V' (f x) r) (hO : ∀ x, Ok x → Ok' (f x)) (hM : ∀ x, Mu.mu (f x) = Mu.mu x) : OpensU enc P W held t V' Ok' := fun fuel cs x h1 h2 =>
  let ⟨y, a, b, c, d⟩ := h fuel cs x h1 h2; ⟨f y, hV _ _ a, b, c, hO _ d.1, by rw [hM]; exact d.2⟩
end
end Go.Proofs.YtndjkejhacfpdaaGreatDoor

namespace Go.Proofs.YtndjkejhacfpdaaGreatDoor
set_option linter.unusedVariables false
set_option linter.unusedSimpArgs false
open Go.RowKit Go.ChangeShapes Go.WideShapes Go.ChangeAt
def VRead (P : Program) (w : World) (n : String) (d : DataW Unit) : Prop :=
  ∃ g t cs fuel p, P.globalNamed n = some g ∧ (P.globals[g]?).map (·.type) = some t ∧ w.var? P n = some cs ∧ DataW.trod (fun _ => ()) P w 0 (fun _ => true) false fuel t cs.toList = some (d, p)
theorem vread_of {P : Program} {w : World} : ∀ {l : List (String × DataW Unit)} {ps : List MemPlace}, DataW.LaidVars P w l ps → ∀ n d, (n, d) ∈ l → VRead P w n d
  | [], _, _, _, _, hm => by cases hm
  | (n', d') :: r, ps, h, n, d, hm => by
    obtain ⟨g, t, cs, fuel, p, q, h1, h2, h3, h4, h5, _⟩ := h
    rcases List.mem_cons.1 hm with e | e
    · cases e
      exact ⟨g, t, cs, fuel, p, h1, h2, h3, h4⟩
    · exact vread_of h5 n d e
theorem laid_vread {P : Program} {w : World} {l : List (String × DataW Unit)} (h : laidMet P l w) {n : String} {d : DataW Unit} (hm : (n, d) ∈ l) : VRead P w n d :=
  let ⟨_, hv, _⟩ := h
  vread_of hv n d hm
theorem tab_of {P : Program} {W : World} {name : String} {k : IntKind} {zs : List Int} {g : Nat} {t e : TypeId} {n : Nat} (hg : P.globalNamed name = some g) (hty : (P.globals[g]?).map (·.type) = some t)
    (ht : P.underlying t = some (.array n e)) (he : P.underlying e = some (.int k)) (hce : P.cellsOf e = 1) (hct : P.cellsOf t = n) (h : VRead P W name (Lib.tabData k zs)) : Lib.TabIs P W name k zs := by
  obtain ⟨g', t', cs, fuel, p, hg', ht', hvar, hd⟩ := h
  obtain rfl := Option.some.inj (hg.symm.trans hg')
  obtain rfl := Option.some.inj (hty.symm.trans ht')
  unfold Lib.TabIs
  rw [hvar, ← Lib.cells_of_tab ht he hce hct hd]
theorem var_mono {P : Program} {W w : World} {n : String} {cs : Array Value} (h : HoldsW (heapF W) w) (hv : W.var? P n = some cs) : w.var? P n = some cs := by
  obtain ⟨a, ha, e⟩ := h
  unfold World.var? at hv ⊢
  cases hg : P.globalNamed n with
  | none => rw [hg] at hv; cases hv
  | some g =>
    rw [hg] at hv
    simp only [Option.bind_some] at hv ⊢
    cases ho : W.heap[g]? with
    | none => rw [ho] at hv; cases hv
    | some o =>
      have hlt : g < W.heap.size := (Array.getElem?_eq_some_iff.1 ho).1
      have h1 : w.heap[g]? = some o := e g o ((ha g hlt).trans ho)
      rw [ho] at hv
      rw [h1]
      exact hv
theorem glb_of {P : Program} {W : World} (h1 : Lib.TabIs P W "internal/strconv.uint64pow10" .u64 Lib.pow10Tab) (h2 : (P.globalNamed "strconv.ErrSyntax").isSome = true → ∃ u p, W.var? P "strconv.ErrSyntax" = some #[.iface u p]) (h3 : (P.globalNamed "strconv.ErrRange").isSome = true → ∃ u p, W.var? P "strconv.ErrRange" = some #[.iface u p]) :
    Glb P (heapF W) :=
  ⟨fun w h => var_mono h h1, fun e w h => let ⟨u, p, e⟩ := h2 e; ⟨u, p, var_mono h e⟩, fun e w h => let ⟨u, p, e⟩ := h3 e; ⟨u, p, var_mono h e⟩⟩
theorem witness_laid {H : Type} {enc : TypeId × Value → H} {C : Checked} {os : Os} {f : FuncId} {fn : Func} {s : OpenSpec} {conds : List PathCond} {apart : Bool} {laid : List (String × DataW Unit)} (w0 : World) (args : Array Value) (hos : w0.os = os)
    (hsh : (w0.forCall (fun _ _ => 0) ⟨#[], args, []⟩).Shaped C.prog)
    (hok : Input.okWideB C.prog (w0.forCall (fun _ _ => 0) ⟨#[], args, []⟩) f ⟨#[], args, []⟩ = true)
    (hrow : s.preRow enc C.prog fn conds apart laid (w0.forCall (fun _ _ => 0) ⟨#[], args, []⟩).memory args) :
    ∃ (w : World) (tape : Tape) (i : Input), w.os = os ∧ (w.forCall tape i).Shaped C.prog ∧ i.vars = [] ∧ Input.okWide C.prog (w.forCall tape i) .any w.heap.size f i ∧
      s.preRow enc C.prog fn conds apart laid (w.forCall tape i).memory i.args ∧ ({} : Assume).holds C.prog (lone (Frame.enter C.prog f i.args .normal) [] (w.forCall tape i)) :=
  ⟨w0, fun _ _ => 0, ⟨#[], args, []⟩, hos, hsh, (Input.okWide_of_okWideB (base := 0) hok).1, (Input.okWide_of_okWideB hok).2, hrow, by
    simp only [Assume.holds]
    exact ⟨by simp, by simp, fun _ => Modest.zero, by simp, by simp⟩⟩
end Go.Proofs.YtndjkejhacfpdaaGreatDoor

namespace Go.Proofs.YtndjkejhacfpdaaGreatDoor.walNames
open Go.RowKit Go.ChangeShapes Go.WideShapes Go.ChangeAt
open Go.ChangeMaps (open_string shut_string)
set_option linter.unusedVariables false
theorem own : ownKnob Tryz.prog.godebug = none := by kernel_rfl
theorem laidOut : laidOutB Tryz.prog = true := by kernel_rfl
theorem glb {W : World} (hL : laidMetH Tryz.prog Rows.walNamesRow.laid W) : Glb Tryz.prog (heapF W) := by
  rw [MakeChecks.laidMetH_plain _ _ _ (by kernel_rfl)] at hL
  exact glb_of (tab_of (g := 0) (t := 198) (e := 174) (by kernel_rfl) (by kernel_rfl) Tryz.underlying198 Tryz.underlying174 (by kernel_rfl) (by kernel_rfl) (laid_vread hL (n := "internal/strconv.uint64pow10") (d := Rows.laid_internal_strconv_uint64pow10) (.tail _ (.tail _ (.head _))))) (fun h => by rw [show (Tryz.prog.globalNamed "strconv.ErrSyntax").isSome = false by kernel_rfl] at h; cases h) (fun h => by rw [show (Tryz.prog.globalNamed "strconv.ErrRange").isSome = false by kernel_rfl] at h; cases h)
theorem laid_met (os : Os) (args : Array Value) : laidMetH Tryz.prog Rows.walNamesRow.laid ((World.laidAll Tryz.prog os Rows.walNamesRow.laid).forCall (fun _ _ => 0) ⟨#[], args, []⟩).memory := by
  rw [MakeChecks.laidMetH_plain _ _ _ (by kernel_rfl)]
  exact laidMet_laidAll args (by kernel_rfl) (by kernel_rfl)
set_option maxRecDepth 100000 in
theorem lifted (os : Os) (started : os.Started) (H : Type) (enc : TypeId × Value → H) (F : Stop.Interp) :
    ReturnsInHanded {} Tryz.checked os 3 .any ((OpenSpec.ofChange Rows.walNamesSpec).preRow enc Tryz.prog Tryz.f3 Rows.walNamesRow.domain false Rows.walNamesRow.laid) (((OpenSpec.ofChange Rows.walNamesSpec).at F).post enc Tryz.prog Tryz.f3 false true false false) := by
  refine returnsInHanded_of_row (C := Tryz.checked) (s := (OpenSpec.ofChange Rows.walNamesSpec)) own started (by kernel_rfl) Tryz.func3
    (witness_laid (enc := enc) (C := Tryz.checked) (World.laidAll Tryz.prog os Rows.walNamesRow.laid) #[.int .i64 0, .string ⟨#[]⟩] (World.laidAll_os _ _ _) (World.shaped_of_ZipB (by kernel_rfl) (by kernel_rfl)) (by kernel_rfl)
      (OpenSpec.preRow_of_cond 8 (x := ([.lit (.int .i64 0), .lit (.string [])], [], [])) (by kernel_rfl) (by kernel_rfl) (fun k hk => by cases hk) (by kernel_rfl) (laid_met os _))) ?_
  intro W base args ds gs before hval0 hW hcnd hk00 hsz0 hL _ _
  have hgl := glb hL
  have hsz : (DataW.weightsEach Tryz.prog (Tryz.f3.params.toList ++ Rows.walNamesSpec.plain.varTypes Tryz.prog) (ds ++ gs)).all (· ≤ reachBytes) = true := hsz0
  have hval : ∀ (j : Nat) t v, Tryz.f3.params[j]? = some t → args[j]? = some v → Value.okWide Tryz.prog W .any base t v := hval0
  have hW' := hW
  obtain ⟨p, q, hA0, hV, rfl, hfz, hnd⟩ := hW
  have hA : DataW.TrodAll enc Tryz.prog W 0 (fun _ => true) true Tryz.f3.params.toList args.toList ds p := hA0
  rw [Tryz.params3] at hA hval hsz
  obtain ⟨v0, vs0, d0, ds0, p0, q0, hargs, rfl, rfl, h0, r0⟩ := trodAll_cons hA
  obtain ⟨v1, vs1, d1, ds1, p1, q1, rfl, rfl, rfl, h1, r1⟩ := trodAll_cons r0
  obtain ⟨rfl, rfl, rfl⟩ := trodAll_nil r1
  obtain rfl : args = #[v0, v1] := by cases args; simp_all
  obtain ⟨rfl, rfl⟩ := trodVars_none hV
  obtain ⟨a0, rfl, rfl, rfl, w0⟩ := open_int Tryz.underlying3 (hval 0 3 v0 rfl rfl) h0
  obtain ⟨ss1, rfl⟩ := okWide_string Tryz.underlying9 (hval 1 9 v1 rfl rfl)
  have k1 := h1
  have lt1 : ∀ x ∈ p1, x.block < W.heap.size := by obtain ⟨m, hm⟩ := k1; exact DataW.trod_lt m _ _ _ hm
  obtain ⟨fuel1, hf1⟩ := h1
  obtain ⟨z1_0, hcs1, _, _, ok1⟩ := (opens_str Tryz.underlying9 (by kernel_rfl)) _ _ _ hf1 (weights_of hsz (j := 1) (t := 9) rfl rfl)
  have e1 : Value.string ss1 = str z1_0 := by simpa [Value.cells] using hcs1
  unfold str at e1
  injection e1 with ea1
  subst ea1
  clear hA0 hval0 hsz0 hsz
  obtain ⟨k, hk⟩ := pure_WalNames a0 w0 z1_0 ok1
  refine (row_of_fn (synodlaw5_WalNames.calls W (heapF W) k a0 z1_0 hgl) hk (fun _ => rfl)).mono fun e W' ⟨he, bel⟩ => ?_
  subst he
  exact ⟨_, rfl, _, _, _, [], _, [], hW', trodAll_mk1 (shut_bool Tryz.underlying4 _), (trodAll_cons_mk (shut_int Tryz.underlying3 w0) (trodAll_cons_mk (Below.trod laidOut (by kernel_rfl) (of_decide_eq_true (by kernel_rfl)) k1 bel lt1) trodAll_mk0)), rfl, bel.frame _, fun h => by cases h⟩
theorem said : Rows.WalNamesSaid :=
  OpenClaim.holds_of_cond 3 Tryz.f3 rfl rfl rfl rfl rfl rfl rfl ⟨rfl, rfl, rfl, rfl, rfl⟩ rfl rfl rfl rfl rfl (by kernel_rfl) Tryz.func3 (by kernel_rfl)
    (of_decide_eq_true (by kernel_rfl)) (by unfold Func.isWrapper; first | (rw [if_pos (by decide +kernel)]; kernel_rfl) | (rw [if_neg (by decide +kernel)]; exact ⟨rfl, rfl⟩))
    (fun os started H enc _ F => by rw [OpenClaim.pre_eq_preRow]; exact lifted os started H enc F)
theorem plain (f : FuncId) (fn : Func) (hf : Tryz.pinned.checked.prog.funcNamed "synod/synodlaw5.WalNames" = some f) (hfn : Tryz.pinned.checked.prog.funcs[f]? = some fn) :
    true = Tryz.pinned.checked.prog.looks [] ∧ ∀ (j : Nat) t, fn.params[j]? = some t → Tryz.pinned.checked.prog.wantsStandIn t = false := by
  obtain rfl : f = 3 := Option.some.inj ((show Tryz.prog.funcNamed "synod/synodlaw5.WalNames" = some 3 by kernel_rfl).symm.trans hf) |>.symm
  obtain rfl : fn = Tryz.f3 := (Option.some.inj (Tryz.func3.symm.trans hfn)).symm
  refine ⟨by kernel_rfl, fun j t ht => ?_⟩
  rw [Tryz.params3] at ht
  have hm : t ∈ [3, 9] := by simpa using Array.mem_of_getElem? ht
  have hall : ([3, 9].all fun u => !Tryz.prog.wantsStandIn u) = true := by kernel_rfl
  exact (show Tryz.prog.wantsStandIn t = false by simpa using List.all_eq_true.1 hall t hm)
theorem card : Rows.WalNamesCardSaid :=
  Claim7.holds_tied_plain_at .later [] _ _ _ _ said (fun _ h => by cases h) (by kernel_rfl) (fun _ h => by cases h) walNames_row_tie rfl ⟨rfl, rfl⟩ (by kernel_rfl) rfl plain (by kernel_rfl)
end Go.Proofs.YtndjkejhacfpdaaGreatDoor.walNames
namespace Go.Proofs.YtndjkejhacfpdaaGreatDoor
/-- The card, under a short name, for the claim. -/
theorem walNames_holds : Rows.WalNamesCardSaid := walNames.card
end Go.Proofs.YtndjkejhacfpdaaGreatDoor
