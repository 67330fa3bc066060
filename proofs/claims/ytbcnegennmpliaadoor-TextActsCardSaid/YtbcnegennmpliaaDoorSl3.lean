/- What single operations do, as steps of a simulation: numbers, tests, strings, variables in memory, calls. Conditions: none. -/
import Derived.Test.YtbcnegennmpliaaDoorSl2
namespace Go.Proofs.YtbcnegennmpliaaDoor
set_option linter.unusedVariables false
set_option linter.unusedSimpArgs false
open Go.RowKit

section
variable {K : Cx} {R S Y : Type} {Q : Post R} {E : Env} {H : List HA} {opt : Option R} {ops : Array Oper} {rest : List Oper} {o : Oper}

theorem re_run {v : Y → Value} {H' : Y → List HA} (hn : ∀ c, o.op ≠ .defer c)
    (h : ∀ a w, Has K.n K.ds E a → Sat K.W H w → ∃ y w', (execOp a.eval o).run K.P w = .ok (.value (v y)) w' ∧ Sat K.W (H' y) w') : RE K o E H v H' := by
  intro a w he hs next Q hnx
  obtain ⟨y, w', hr, s⟩ := h a w he hs
  refine ⟨fun f _ => fen_fn _ _, ?_⟩
  rw [Oper.semAt_eq _ _ _ hn, hr]
  exact hnx y w' s
theorem re_skip {H' : Y → List HA} (hn : ∀ c, o.op ≠ .defer c)
    (h : ∀ a w, Has K.n K.ds E a → Sat K.W H w → ∃ y w', (execOp a.eval o).run K.P w = .ok .skip w' ∧ Sat K.W (H' y) w') : RE K o E H (fun _ => undef) H' := by
  intro a w he hs next Q hnx
  obtain ⟨y, w', hr, s⟩ := h a w he hs
  refine ⟨fun f _ => fen_fn _ _, ?_⟩
  rw [Oper.semAt_eq _ _ _ hn, hr]
  exact hnx y w' s
theorem rq_run {v : Value} (hn : ∀ c, o.op ≠ .defer c)
    (h : ∀ a w, Has K.n K.ds E a → Sat K.W H w → ∃ w', (execOp a.eval o).run K.P w = .ok (.value v) w' ∧ Sat K.W H w') : RQ K o E H v := by
  intro a w he hs next Q hnx
  obtain ⟨w', hr, s⟩ := h a w he hs
  refine ⟨fun f _ => fen_fn _ _, ?_⟩
  rw [Oper.semAt_eq _ _ _ hn, hr]
  exact hnx w' s
theorem rq_same {v : Value} (hn : ∀ c, o.op ≠ .defer c) (h : ∀ a w, Has K.n K.ds E a → Sat K.W H w → (execOp a.eval o).run K.P w = .ok (.value v) w) : RQ K o E H v :=
  rq_run hn fun a w he hs => ⟨w, h a w he hs, hs⟩

/-! ### 1. Moves -/
theorem q_move {x : Operand} {v : Value} (ho : o.op = .move x) (hx : ev E x = some v) : RQ K o E H v :=
  rq_same (by rw [ho]; intro c h; cases h) fun a w he _ => by unfold execOp; simp only [ho]; rw [he.ev hx]; rfl
theorem q_asg {x : Operand} {v : Value} (ho : o.op = .assign x) (hx : ev E x = some v) : RQ K o E H v :=
  rq_same (by rw [ho]; intro c h; cases h) fun a w he _ => by unfold execOp; simp only [ho]; rw [he.ev hx]; rfl
theorem q_pick {x y z : Operand} {b : Bool} {u v t : Value} (ho : o.op = .pick x y z) (hx : ev E x = some (.bool b)) (hy : ev E y = some u) (hz : ev E z = some v) (ht : (bif b then u else v) = t) : RQ K o E H t :=
  rq_same (by rw [ho]; intro c h; cases h) fun a w he _ => by
    unfold execOp; simp only [ho]; rw [he.ev hx, he.ev hy, he.ev hz, ← ht]; cases b <;> rfl
theorem q_and {x y : Operand} {b c : Bool} (ho : o.op = .pick x y (.const (.bool false))) (hx : ev E x = some (.bool b)) (hy : ev E y = some (cv (b == true) (.bool c))) : RQ K o E H (.bool (b && c)) :=
  q_pick ho hx hy rfl (by cases b <;> rfl)
theorem q_or {x y : Operand} {b c : Bool} (ho : o.op = .pick x (.const (.bool true)) y) (hx : ev E x = some (.bool b)) (hy : ev E y = some (cv (b == false) (.bool c))) : RQ K o E H (.bool (b || c)) :=
  q_pick ho hx rfl hy (by cases b <;> rfl)
theorem q_ext {x : Operand} {i : Nat} {vs : Array Value} {v : Value} (ho : o.op = .extract x i) (hx : ev E x = some (.tuple vs)) (hv : vs[i]? = some v) : RQ K o E H v :=
  rq_same (by rw [ho]; intro c h; cases h) fun a w he _ => by
    unfold execOp; simp only [ho]; rw [he.ev hx]
    simp [Instr.extract, hv]

/-! ### 2. Numbers -/
theorem q_bin {b : BinOp} {xt yt : TypeId} {x y : Operand} {u v t : Value} (ho : o.op = .binOp b xt x y yt) (hx : ev E x = some u) (hy : ev E y = some v)
    (hg : ∀ P w, (eqGuard b xt x y u v).run P w = .ok () w) (hr : ∀ P w, (binOp b xt u v).run P w = .ok t w) : RQ K o E H t :=
  rq_same (by rw [ho]; intro c h; cases h) fun a w he _ => by
    unfold execOp; simp only [ho]; rw [he.ev hx, he.ev hy]
    simp [hg, hr]
theorem eqGuard_int {b : BinOp} {xt : TypeId} {x y : Operand} {k k' : IntKind} {m n : Int} (P : Program) (w : World) : (eqGuard b xt x y (.int k m) (.int k' n)).run P w = .ok () w := by
  unfold eqGuard; cases b <;> rfl
theorem eqGuard_str {b : BinOp} {xt : TypeId} {x y : Operand} {m n : ByteArray} (P : Program) (w : World) : (eqGuard b xt x y (.string m) (.string n)).run P w = .ok () w := by
  unfold eqGuard; cases b <;> rfl
section ints
variable {xt yt : TypeId} {x y : Operand} {k : IntKind} {m n : Int}
theorem q_add (ho : o.op = .binOp .add xt x y yt) (hx : ev E x = some (.int k m)) (hy : ev E y = some (.int k n)) : RQ K o E H (.int k (k.wrap (m + n))) :=
  q_bin ho hx hy eqGuard_int fun P w => by simp [binOp, Op.intArith]
theorem q_sub (ho : o.op = .binOp .sub xt x y yt) (hx : ev E x = some (.int k m)) (hy : ev E y = some (.int k n)) : RQ K o E H (.int k (k.wrap (m - n))) :=
  q_bin ho hx hy eqGuard_int fun P w => by simp [binOp, Op.intArith]
theorem q_mul (ho : o.op = .binOp .mul xt x y yt) (hx : ev E x = some (.int k m)) (hy : ev E y = some (.int k n)) : RQ K o E H (.int k (k.wrap (m * n))) :=
  q_bin ho hx hy eqGuard_int fun P w => by simp [binOp, Op.intArith]
theorem q_quo (ho : o.op = .binOp .quo xt x y yt) (hx : ev E x = some (.int k m)) (hy : ev E y = some (.int k n)) (h0 : n ≠ 0) : RQ K o E H (.int k (k.wrap (m.tdiv n))) :=
  q_bin ho hx hy eqGuard_int fun P w => by simp [binOp, Op.intDiv, h0]
theorem q_rem (ho : o.op = .binOp .rem xt x y yt) (hx : ev E x = some (.int k m)) (hy : ev E y = some (.int k n)) (h0 : n ≠ 0) : RQ K o E H (.int k (m.tmod n)) :=
  q_bin ho hx hy eqGuard_int fun P w => by simp [binOp, Op.intDiv, h0]
theorem q_lss (ho : o.op = .binOp .lss xt x y yt) (hx : ev E x = some (.int k m)) (hy : ev E y = some (.int k n)) : RQ K o E H (.bool (decide (m < n))) :=
  q_bin ho hx hy eqGuard_int fun P w => by simp [binOp, Op.intCmp]
theorem q_leq (ho : o.op = .binOp .leq xt x y yt) (hx : ev E x = some (.int k m)) (hy : ev E y = some (.int k n)) : RQ K o E H (.bool (decide (m ≤ n))) :=
  q_bin ho hx hy eqGuard_int fun P w => by simp [binOp, Op.intCmp]
theorem q_gtr (ho : o.op = .binOp .gtr xt x y yt) (hx : ev E x = some (.int k m)) (hy : ev E y = some (.int k n)) : RQ K o E H (.bool (decide (n < m))) :=
  q_bin ho hx hy eqGuard_int fun P w => by simp [binOp, Op.intCmp]
theorem q_geq (ho : o.op = .binOp .geq xt x y yt) (hx : ev E x = some (.int k m)) (hy : ev E y = some (.int k n)) : RQ K o E H (.bool (decide (n ≤ m))) :=
  q_bin ho hx hy eqGuard_int fun P w => by simp [binOp, Op.intCmp]
theorem q_eql (ho : o.op = .binOp .eql xt x y yt) (hx : ev E x = some (.int k m)) (hy : ev E y = some (.int k n)) : RQ K o E H (.bool (decide (m = n))) :=
  q_bin ho hx hy eqGuard_int fun P w => by simp [binOp, Op.intCmp]; rfl
theorem q_neq (ho : o.op = .binOp .neq xt x y yt) (hx : ev E x = some (.int k m)) (hy : ev E y = some (.int k n)) : RQ K o E H (.bool (!decide (m = n))) :=
  q_bin ho hx hy eqGuard_int fun P w => by simp [binOp, Op.intCmp]; rfl
theorem q_neg {xt : TypeId} (ho : o.op = .unOp .neg xt x) (hx : ev E x = some (.int k m)) : RQ K o E H (.int k (k.wrap (-m))) :=
  rq_same (by rw [ho]; intro c h; cases h) fun a w he _ => by
    unfold execOp; simp only [ho]; rw [he.ev hx]
    simp [Op.unary, Op.intArith]
theorem q_not {xt : TypeId} {b : Bool} (ho : o.op = .unOp .not xt x) (hx : ev E x = some (.bool b)) : RQ K o E H (.bool (!b)) :=
  rq_same (by rw [ho]; intro c h; cases h) fun a w he _ => by
    unfold execOp; simp only [ho]; rw [he.ev hx]
    simp [Op.unary]
theorem q_conv {s d : TypeId} {k' : IntKind} {u : TypeDesc} (ho : o.op = .convert s d x) (hx : ev E x = some (.int k m)) (hu : K.P.underlying s = some u) (hd : K.P.underlying d = some (.int k')) : RQ K o E H (.int k' (k'.wrap m)) :=
  rq_same (by rw [ho]; intro c h; cases h) fun a w he _ => by
    unfold execOp; simp only [ho]; rw [he.ev hx]
    simp [convert, underlying, program, Sem.run, hu, hd, Conv.intToInt]
end ints
/-! ### 3. Strings: as lists of bytes -/
def str (l : List UInt8) : Value := .string ⟨l.toArray⟩
section strs
variable {xt yt : TypeId} {x y : Operand} {l m : List UInt8}
theorem q_eqs (ho : o.op = .binOp .eql xt x y yt) (hx : ev E x = some (str l)) (hy : ev E y = some (str m)) : RQ K o E H (.bool (decide (l = m))) :=
  q_bin ho hx hy eqGuard_str fun P w => by simp [binOp, Op.stringOp, str]; rw [Bool.eq_iff_iff]; simp
theorem q_nes (ho : o.op = .binOp .neq xt x y yt) (hx : ev E x = some (str l)) (hy : ev E y = some (str m)) : RQ K o E H (.bool (!decide (l = m))) :=
  q_bin ho hx hy eqGuard_str fun P w => by simp [binOp, Op.stringOp, str]; rw [Bool.eq_iff_iff]; simp
end strs
end
end Go.Proofs.YtbcnegennmpliaaDoor
