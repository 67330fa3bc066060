/- Leaving pieces of code: exits and returns through what encloses them; small rules that a program's lines use. Conditions: none. -/
import Derived.Test.YtbcnegennmpliaaDoorSl7
namespace Go.Proofs.YtbcnegennmpliaaDoor
set_option linter.unusedVariables false
set_option linter.unusedSimpArgs false
open Go.RowKit
section
variable {K : Cx} {R S Y : Type} {Q : Post R} {E : Env} {H : List HA} {o : Option R} {ops : Array Oper} {rest : List Oper} {op : Oper}
def Exi (K : Cx) (Q : Post R) (id : Nat) (E : Env) (H : List HA) (o : Option R) : Prop := ∀ r, o = some r → ∀ a w, Has K.n K.ds E a → Sat K.W H w → Q r (.exit id) a w
theorem sim_exi {id : Nat} (h : Exi K Q id E H o) : Sim K Q (.exit id) E H o := fun r hr a w he hs => wpIn_exit (h r hr a w he hs)
theorem exi_then {id : Nat} {c : Code} (h : Exi K Q id E H o) : Exi K (thenQ K c Q) id E H o := h
theorem exi_loop {id : Nat} {L : S → Option R} {Es : S → Y → Env} {Hs : S → Y → List HA} (h : Exi K Q id E H o) : Exi K (loopQ K L Es Hs Q) id E H o := h
theorem exi_here {id : Nat} (h : Nrm K Q E H o) : Exi K (blockQ id Q) id E H o := fun r hr a w he hs => by
  show Exit.inBlock id (Q r) (.exit id) a w
  simp only [Exit.inBlock, if_true]
  exact h r hr a w he hs
def Rtn (K : Cx) (Q : Post R) (E : Env) (H : List HA) (o : Option R) : Prop := ∀ r, o = some r → ∀ a w, Has K.n K.ds E a → Sat K.W H w → Q r .ret a w
theorem sim_rtn (h : Rtn K Q E H o) : Sim K Q .ret E H o := fun r hr a w he hs => wpIn_ret (h r hr a w he hs)
theorem rtn_then {c : Code} (h : Rtn K Q E H o) : Rtn K (thenQ K c Q) E H o := h
theorem rtn_block {id : Nat} (h : Rtn K Q E H o) : Rtn K (blockQ id Q) E H o := h
theorem rtn_loop {L : S → Option R} {Es : S → Y → Env} {Hs : S → Y → List HA} (h : Rtn K Q E H o) : Rtn K (loopQ K L Es Hs Q) E H o := h
theorem rtn_cutR {E2 : S → Y → Env} {H2 : S → Y → List HA} {r : R} (h : Rtn K Q E H (some r)) : Rtn K (cutR K Q E2 H2) E H (some (.inr r)) := fun _ hr a w he hs => by
  cases hr
  exact h r rfl a w he hs
theorem rtn_fn {fn : Func} {val : R → Y → Value} {B : R → Y → List HA} {r : R} {vs : List Value} (y : Y) (hd : K.ds = []) (hres : resL fn.results.toList E = some vs) (hv : tup vs = val r y) (hH : Ent H (B r y)) :
    Rtn K (retQ K fn val B) E H (some r) := fun r' hr a w he hs => nrm_ret (K := K) y hd hres hv hH r' hr a w he hs
theorem sim_eq {c : Code} {o' : Option R} (e : o = o') (h : Sim K Q c E H o') : Sim K Q c E H o := e ▸ h
def cut {α : Type} (l : List α) (lo hi : Int) : List α := (l.take hi.toNat).drop lo.toNat
theorem cut_to {α : Type} (l : List α) (lo : Int) : cut l lo l.length = l.drop lo.toNat := by unfold cut; simp
theorem Rd.sub {F : HA} {a : Option Addr} {l : List UInt8} (h : Rd F a (encB l)) (lo hi : Int) {c : Nat} (hc : hi.toNat ≤ c) : Rd F (if c = lo.toNat then a else a.map (·.add (lo.toNat * 1))) (encB (cut l lo hi)) := by
  by_cases e : c = lo.toNat
  · left
    unfold cut
    rw [List.drop_of_length_le (by simp; omega)]
    rfl
  · rw [if_neg e, Nat.mul_one]
    have := (h.take hi.toNat).drop lo.toNat
    rwa [encB_take, encB_drop] at this
end
end Go.Proofs.YtbcnegennmpliaaDoor
