/- Slice literals, copy; bytes to strings and back; strings joined and compared; bytes as lists. Conditions: none. -/
import Derived.Test.YtbcnegennmpliaaDoorSl6
namespace Go.Proofs.YtbcnegennmpliaaDoor
set_option linter.unusedVariables false
set_option linter.unusedSimpArgs false
open Go.RowKit

def encB (l : List UInt8) : List Value := l.map fun c => .int .u8 (c.toNat : Int)
theorem encB_length (l : List UInt8) : (encB l).length = l.length := by simp [encB]
theorem encB_append (l m : List UInt8) : encB (l ++ m) = encB l ++ encB m := by simp [encB]
theorem encB_take (l : List UInt8) (n : Nat) : (encB l).take n = encB (l.take n) := by simp [encB]
theorem encB_drop (l : List UInt8) (n : Nat) : (encB l).drop n = encB (l.drop n) := by simp [encB]
theorem encB_one (l : List UInt8) : one (encB l) := by
  intro v hv
  simp [encB] at hv
  obtain ⟨c, _, rfl⟩ := hv
  rfl
def byte (n : Int) : UInt8 := UInt8.ofNat n.toNat
theorem byte_toNat {n : Int} (h0 : 0 ≤ n) (h1 : n < 256) : ((byte n).toNat : Int) = n := by
  unfold byte
  rw [UInt8.toNat_ofNat']
  omega

section
variable {K : Cx} {R S Y : Type} {Q : Post R} {E : Env} {H : List HA} {opt : Option R} {ops : Array Oper} {rest : List Oper} {o : Oper}
theorem re_lit {t e sz bytes len : Nat} {zs : List Value} {l : List (Nat × Operand)} {vs : List (Nat × Value)} {cs : List Value} (ho : o.op = .buildSlice t len l.toArray) (hx : evP l E = some vs) (ht : K.P.underlying t = some (.slice e)) (hE : Elt K.P e sz bytes zs)
    (hb : Nat.ble (len * sz) 16777216 = true) (hf : Instr.fill (fun i => some (i * sz, sz)) ((Array.range (len * sz)).map (zs.toArray[· % zs.toArray.size]!)) vs = some cs.toArray) (h0 : Nat.blt 0 (len * sz) = true) (hl : cs.length = len * sz) :
    RE K (Y := Nat) o E H (fun b => .slice (some ⟨b, 0, none⟩) len len) (fun b => Row e sz (some ⟨b, 0, none⟩) len len cs :: H) :=
  re_run (by rw [ho]; intro c h; cases h) fun a' w he s => by
    obtain ⟨i, z, hi, hz, hsz, hby, hzs⟩ := hE.info
    have hb' : len * sz ≤ 16777216 := by simpa [Nat.ble_eq] using hb
    have h0' : 0 < len * sz := by simpa [Nat.blt_eq] using h0
    have hsp : 0 < sz := by have := hE.spos; simpa [Nat.blt_eq] using this
    refine ⟨w.heap.size, { w with heap := w.heap.push (.cells cs.toArray e (0, 0)) }, ?_, (s.new _).ent (Ent.sel' 0 rfl ?_ (Ent.refl _))⟩
    · unfold execOp; simp only [ho]
      have : (l.toArray.map fun (i, x) => (i, a'.eval x)) = vs.toArray := by
        rw [← evP_map he l vs hx]; simp
      rw [this]
      have hne : ¬ (len * sz = 0) := by omega
      have hgt : ¬ (len * sz > 2 ^ 24) := by omega
      simp only [Instr.buildSlice, underlying, program, Sem.run_bind, Sem.run, ht, sizeOf, typeInfo, hi, hsz, Result.andThen_ok, Sem.run_pure, hgt, hne, if_false, zeroValue, hz, hzs, newRow, newObj]
      simp only [hf, Sem.run_bind, Sem.run, Result.andThen_ok, Sem.run_pure, newRow, newObj]
    · intro h x
      have hlm : len ≤ 16777216 := Nat.le_trans (Nat.le_mul_of_pos_right len hsp) hb'
      refine Row.mk (pre := []) (junk := []) (fz := (0, 0)) ⟨rfl, Nat.le_refl _, by simp only [maxLen]; omega, by simp [hl], by simp [hl], by simp [hl], Or.inl rfl⟩ h ?_
      simpa [pts] using x
/-! ### Bytes and strings -/
theorem foldl_push (l : List UInt8) : ∀ s : ByteArray, (l.map fun c => (c.toNat : Int)).foldl (fun r n => r.push (UInt8.ofNat n.toNat)) s = ⟨s.data ++ l.toArray⟩ := by
  induction l with
  | nil => intro s; simp
  | cons c l ih =>
    intro s
    simp only [List.map_cons, List.foldl_cons]
    rw [ih]
    apply ByteArray.ext
    simp [ByteArray.push]
theorem q_tostr {x : Operand} {t d e : TypeId} {a : Option Addr} {n c : Nat} {l : List UInt8} (ho : o.op = .convert t d x) (hx : ev E x = some (.slice a n c)) (ht : K.P.underlying t = some (.slice e)) (he8 : K.P.underlying e = some (.int .u8)) (hd : K.P.underlying d = some .string)
    (hr : Rds H a (encB l)) (hn : n = l.length) : RQ K o E H (str l) :=
  rq_same (by rw [ho]; intro c h; cases h) fun a' w he s => by
    subst hn
    unfold execOp; simp only [ho]; rw [he.ev hx]
    have key : (convert t d (.slice a l.length c)).run K.P w = .ok (str l) w := by
      rw [run_convert_bytes_string (P := K.P) w t d e a l.length c ht he8 hd]
      rcases hr.cells s with hn | ⟨b2, off2, ha2, hc⟩
      · have : l = [] := List.eq_nil_of_length_eq_zero (by rw [← encB_length, hn]; rfl)
        subst this
        cases a with
        | none => simp [Conv.bytesToString, str]; rfl
        | some ad => simp [Conv.bytesToString, loadCells, loadCellsFrom, str]; rfl
      · subst ha2
        have := run_loads (P := K.P) (w := w) (b := b2) (off := off2) (vs := encB l) hc
        rw [encB_length] at this
        rw [run_bytesToString (P := K.P) w ⟨b2, off2, none⟩ l.length c (l.map fun c => (c.toNat : Int)) (by rw [this]; simp [encB]), foldl_push]
        show Result.ok (Value.string ⟨#[] ++ l.toArray⟩) w = _
        simp [str]
    simp [key]
theorem q_cat {xt yt : TypeId} {x y : Operand} {l m : List UInt8} (ho : o.op = .binOp .add xt x y yt) (hx : ev E x = some (str l)) (hy : ev E y = some (str m)) (hl : l.length + m.length ≤ 9223372036854775807) : RQ K o E H (str (l ++ m)) :=
  q_bin ho hx hy eqGuard_str fun P w => by
    have h1 : (ByteArray.mk l.toArray).size = l.length := by show l.toArray.size = _; simp
    have h2 : (ByteArray.mk m.toArray).size = m.length := by show m.toArray.size = _; simp
    have h3 : (ByteArray.mk l.toArray) ++ (ByteArray.mk m.toArray) = ⟨(l ++ m).toArray⟩ := by
      apply ByteArray.ext; simp
    have h4 : ¬ ((((ByteArray.mk l.toArray).size + (ByteArray.mk m.toArray).size : Nat) : Int) > IntKind.i64.max) := by
      rw [h1, h2]
      simp only [IntKind.max, IntKind.signed, IntKind.bits, if_true]
      omega
    simp only [str, binOp, Op.stringOp, h4, if_false, h3, Sem.run_pure]
end
end Go.Proofs.YtbcnegennmpliaaDoor
