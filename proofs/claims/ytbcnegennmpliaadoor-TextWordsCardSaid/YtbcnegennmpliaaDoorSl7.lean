/- Slice literals, copy; bytes to strings and back; strings joined and compared; bytes as lists. Conditions: none. -/
import Derived.Test.YtbcnegennmpliaaDoorSl6
namespace Go.Proofs.YtbcnegennmpliaaDoor
set_option linter.unusedVariables false
set_option linter.unusedSimpArgs false
open Go.RowKit

def encB (l : List UInt8) : List Value := l.map fun c => .int .u8 (c.toNat : Int)
theorem encB_length (l : List UInt8) : (encB l).length = l.length := by simp [encB]
theorem encB_append (l m : List UInt8) : encB (l ++ m) = encB l ++ encB m := by simp [encB]
theorem encB_take (l : List UInt8) (n : Nat) : (encB l).take n = encB (l.take n) := by simp [encB]
theorem encB_drop (l : List UInt8) (n : Nat) : (encB l).drop n = encB (l.drop n) := by simp [encB]
theorem encB_one (l : List UInt8) : one (encB l) := by
  intro v hv
  simp [encB] at hv
  obtain ⟨c, _, rfl⟩ := hv
  rfl
theorem encB_get {l : List UInt8} {j : Nat} (h : j < l.length) : (encB l)[j]? = some (.int .u8 ((l.getD j 0).toNat : Int)) := by
  simp [encB, List.getElem?_eq_getElem h, List.getD_eq_getElem?_getD]
theorem encB_ne {l : List UInt8} {j : Nat} (h : j < l.length) : encB l ≠ [] := by
  intro e
  have := encB_length l
  rw [e] at this
  simp at this
  omega
theorem encB_set {l : List UInt8} {j : Nat} {c : UInt8} : setL (encB l) j [.int .u8 (c.toNat : Int)] = encB (l.set j c) := by
  simp [setL, encB, List.map_set]
theorem encB_repl (n : Nat) : List.replicate n (Value.int .u8 0) = encB (List.replicate n 0) := by simp [encB]
def byte (n : Int) : UInt8 := UInt8.ofNat n.toNat
theorem byte_toNat {n : Int} (h0 : 0 ≤ n) (h1 : n < 256) : ((byte n).toNat : Int) = n := by
  unfold byte
  rw [UInt8.toNat_ofNat']
  omega

section
variable {K : Cx} {R S Y : Type} {Q : Post R} {E : Env} {H : List HA} {opt : Option R} {ops : Array Oper} {rest : List Oper} {o : Oper}
theorem re_lit {t e sz bytes len : Nat} {zs : List Value} {l : List (Nat × Operand)} {vs : List (Nat × Value)} {cs : List Value} (ho : o.op = .buildSlice t len l.toArray) (hx : evP l E = some vs) (ht : K.P.underlying t = some (.slice e)) (hE : Elt K.P e sz bytes zs)
    (hb : Nat.ble (len * sz) 16777216 = true) (hf : Instr.fill (fun i => some (i * sz, sz)) ((Array.range (len * sz)).map (zs.toArray[· % zs.toArray.size]!)) vs = some cs.toArray) (h0 : Nat.blt 0 (len * sz) = true) (hl : cs.length = len * sz) :
    RE K (Y := Nat) o E H (fun b => .slice (some ⟨b, 0, none⟩) len len) (fun b => Row e sz (some ⟨b, 0, none⟩) len len cs :: H) :=
  re_run (by rw [ho]; intro c h; cases h) fun a' w he s => by
    obtain ⟨i, z, hi, hz, hsz, hby, hzs⟩ := hE.info
    have hb' : len * sz ≤ 16777216 := by simpa [Nat.ble_eq] using hb
    have h0' : 0 < len * sz := by simpa [Nat.blt_eq] using h0
    have hsp : 0 < sz := by have := hE.spos; simpa [Nat.blt_eq] using this
    refine ⟨w.heap.size, { w with heap := w.heap.push (.cells cs.toArray e (0, 0)) }, ?_, (s.new _).ent (Ent.sel' 0 rfl ?_ (Ent.refl _))⟩
    · unfold execOp; simp only [ho]
      have : (l.toArray.map fun (i, x) => (i, a'.eval x)) = vs.toArray := by
        rw [← evP_map he l vs hx]; simp
      rw [this]
      have hne : ¬ (len * sz = 0) := by omega
      have hgt : ¬ (len * sz > 2 ^ 24) := by omega
      simp only [Instr.buildSlice, underlying, program, Sem.run_bind, Sem.run, ht, sizeOf, typeInfo, hi, hsz, Result.andThen_ok, Sem.run_pure, hgt, hne, if_false, zeroValue, hz, hzs, newRow, newObj]
      simp only [hf, Sem.run_bind, Sem.run, Result.andThen_ok, Sem.run_pure, newRow, newObj]
    · intro h x
      have hlm : len ≤ 16777216 := Nat.le_trans (Nat.le_mul_of_pos_right len hsp) hb'
      refine Row.mk (pre := []) (junk := []) (fz := (0, 0)) ⟨rfl, Nat.le_refl _, by simp only [maxLen]; omega, by simp [hl], by simp [hl], by simp [hl], Or.inl rfl⟩ h ?_
      simpa [pts] using x
theorem re_copy {x y : Operand} {t t2 e sz bytes : Nat} {zs : List Value} {a a2 : Option Addr} {n c m c2 : Nat} {cs news : List Value} (k : Nat) (ho : o.op = .call { callee := .builtin .copy, args := #[x, y], argTypes := #[t, t2] })
    (hx : ev E x = some (.slice a n c)) (hy : ev E y = some (.slice a2 m c2)) (ht : K.P.underlying t = some (.slice e)) (hE : Elt K.P e sz bytes zs) (hk : H[k]? = some (Row e sz a n c cs))
    (hr : Rds H a2 news) (hl : (min m n) * sz = news.length) (h1 : one news) :
    RE K (Y := Unit) o E H (fun _ => .int .i64 (min m n : Nat)) (fun _ => H.set k (Row e sz a n c (setL cs 0 news))) :=
  re_run (by rw [ho]; intro c h; cases h) fun a' w he s => by
    obtain ⟨i, z, hi, hz, hsz, hby, hzs⟩ := hE.info
    have hnews : (Builtin.firstCells sz (min m n) (.slice a2 m c2)).run K.P w = .ok news.toArray w := by
      rcases hr.cells s with hn | ⟨b2, off2, ha2, hc⟩
      · subst hn
        have hm : min m n * sz = 0 := by simpa using hl
        cases a2 <;> simp [Builtin.firstCells, hm, loadCells, loadCellsFrom]
      · subst ha2
        have := run_loads (P := K.P) (w := w) (b := b2) (off := off2) (vs := news) hc
        rw [← hl] at this
        simpa [Builtin.firstCells] using this
    have go : ∀ w', (execOp a'.eval o).run K.P w = .ok (.value (.int .i64 (min m n : Nat))) w' ↔ (match a with | some ad => (storeCells ad news).run K.P w = .ok () w' | none => w' = w) := by
      intro w'
      unfold execOp; simp only [ho]
      simp only [resolve, invoke, builtin, Sem.run_bind, Sem.run_pure, Result.andThen_ok, List.map_toArray, List.map_cons, List.map_nil, he.ev hx, he.ev hy]
      have hmin : Nat.min m n = min m n := rfl
      cases a with
      | none =>
        simp [Builtin.copy_, underlying, program, Sem.run, ht, Builtin.lenOf, sizeOf, typeInfo, hi, hsz, hmin, hnews, goInt]
        constructor <;> (intro h; exact h.symm)
      | some ad =>
        simp [Builtin.copy_, underlying, program, Sem.run, ht, Builtin.lenOf, sizeOf, typeInfo, hi, hsz, hmin, hnews, goInt]
        cases (storeCells ad news).run K.P w <;> simp
    rcases (s.focus hk).row_cases with ⟨rfl, rfl, rfl, rfl⟩ | ⟨b, off, pre, junk, fz, rfl, ok, s2⟩
    · refine ⟨(), w, (go w).2 rfl, ?_⟩
      have hn0 : news = [] := List.eq_nil_of_length_eq_zero (by rw [← hl]; simp)
      subst hn0
      exact Sat.unfocus hk (s.focus hk)
    · have hbk := s2.pts_at (i := 0) rfl
      have hlen := ok.len
      have hpre := ok.offs
      have hcap := ok.le
      have hfit : news.length ≤ n * sz := by rw [← hl]; exact Nat.mul_le_mul_right _ (Nat.min_le_right m n)
      have hnc : n * sz ≤ c * sz := Nat.mul_le_mul_right _ hcap
      have hst := run_store (P := K.P) off news 0 (pre ++ cs ++ junk) w hbk (by simp; omega) (fun q h1 h2 h3 => ok.free q (by omega) (by omega)) h1
      refine ⟨(), _, (go _).2 hst, Sat.unfocus hk ((s2.upd (o' := .cells (setL (pre ++ cs ++ junk) (off + 0) news).toArray e fz)).ent (Ent.sel' 0 rfl ?_ (Ent.refl _)))⟩
      intro h x
      have e1 : setL (pre ++ cs ++ junk) (off + 0) news = pre ++ setL cs 0 news ++ junk := by
        rw [setL_eq _ _ _ (by simp; omega), setL_eq _ _ _ (by omega)]
        rw [List.append_assoc pre cs junk, List.take_append, List.drop_append, List.drop_append]
        rw [List.take_of_length_le (by omega), List.drop_of_length_le (by omega)]
        rw [show off + 0 - pre.length = 0 by omega, show off + 0 + news.length - pre.length = news.length by omega, show news.length - cs.length = 0 by omega]
        simp
      rw [e1] at x
      exact Row.mk (junk := junk) ⟨hpre, ok.le, ok.cap, by rw [setL_length]; exact ok.room, by rw [setL_length]; exact ok.len, by rw [setL_length]; exact ok.top, ok.fzok⟩ h x
/-! ### Bytes and strings -/
theorem foldl_push (l : List UInt8) : ∀ s : ByteArray, (l.map fun c => (c.toNat : Int)).foldl (fun r n => r.push (UInt8.ofNat n.toNat)) s = ⟨s.data ++ l.toArray⟩ := by
  induction l with
  | nil => intro s; simp
  | cons c l ih =>
    intro s
    simp only [List.map_cons, List.foldl_cons]
    rw [ih]
    apply ByteArray.ext
    simp [ByteArray.push]
theorem q_tostr {x : Operand} {t d e : TypeId} {a : Option Addr} {n c : Nat} {l : List UInt8} (ho : o.op = .convert t d x) (hx : ev E x = some (.slice a n c)) (ht : K.P.underlying t = some (.slice e)) (he8 : K.P.underlying e = some (.int .u8)) (hd : K.P.underlying d = some .string)
    (hr : Rds H a (encB l)) (hn : n = l.length) : RQ K o E H (str l) :=
  rq_same (by rw [ho]; intro c h; cases h) fun a' w he s => by
    subst hn
    unfold execOp; simp only [ho]; rw [he.ev hx]
    have key : (convert t d (.slice a l.length c)).run K.P w = .ok (str l) w := by
      rw [run_convert_bytes_string (P := K.P) w t d e a l.length c ht he8 hd]
      rcases hr.cells s with hn | ⟨b2, off2, ha2, hc⟩
      · have : l = [] := List.eq_nil_of_length_eq_zero (by rw [← encB_length, hn]; rfl)
        subst this
        cases a with
        | none => simp [Conv.bytesToString, str]; rfl
        | some ad => simp [Conv.bytesToString, loadCells, loadCellsFrom, str]; rfl
      · subst ha2
        have := run_loads (P := K.P) (w := w) (b := b2) (off := off2) (vs := encB l) hc
        rw [encB_length] at this
        rw [run_bytesToString (P := K.P) w ⟨b2, off2, none⟩ l.length c (l.map fun c => (c.toNat : Int)) (by rw [this]; simp [encB]), foldl_push]
        show Result.ok (Value.string ⟨#[] ++ l.toArray⟩) w = _
        simp [str]
    simp [key]
theorem re_tobytes {x : Operand} {t d e : TypeId} {l : List UInt8} (ho : o.op = .convert t d x) (hx : ev E x = some (str l)) (ht : K.P.underlying t = some .string) (hd : K.P.underlying d = some (.slice e)) (he8 : K.P.underlying e = some (.int .u8)) (hl : l.length ≤ 140737488355328) :
    RE K (Y := Nat × Nat) o E H (fun y => .slice (some ⟨y.1, 0, none⟩) l.length y.2) (fun y => Row e 1 (some ⟨y.1, 0, none⟩) l.length y.2 (encB l) :: H) :=
  re_run (by rw [ho]; intro c h; cases h) fun a' w he s => by
    have hsz : (ByteArray.mk l.toArray).size = l.length := by show l.toArray.size = _; simp
    have hml : l.length ≤ maxLen := by simp only [maxLen]; omega
    have hge := grownCap_ge w l.length 0 e
    have hcm := grownCap_le_maxLen w l.length 0 e hml
    let cap := grownCap w l.length 0 e
    let arr : List Value := encB l ++ List.replicate (cap - l.length) (.int .u8 0)
    have hal : arr.length = cap := by simp [arr, encB_length]; omega
    refine ⟨(w.heap.size, cap), { w with drawn := w.drawn + 1, heap := w.heap.push (.cells arr.toArray e (cap, cap + 1)) }, ?_, ((s.drew (w.drawn + 1)).new _).ent (Ent.sel' 0 rfl ?_ (Ent.refl _))⟩
    · unfold execOp; simp only [ho]; rw [he.ev hx]
      have harr : ((ByteArray.mk l.toArray).data.map fun b => Value.int .u8 b.toNat) ++ Array.replicate (cap - l.length) (Value.int .u8 0) = arr.toArray := by
        simp [arr, encB]
      have hpush : (w.heap.push (.cells arr.toArray e (0, 0)))[w.heap.size]? = some (.cells arr.toArray e (0, 0)) := by simp
      have hchoose : (choose (.appendCap l.length 0 e)).run K.P w = .ok cap w.drew := by
        simp [choose, Sem.run, Question.forced, cap, grownCap]
      have hfz : ({ w with drawn := w.drawn + 1, heap := w.heap.push (.cells arr.toArray e (0, 0)) } : World).freeze ⟨w.heap.size, cap, none⟩ 1 = { w with drawn := w.drawn + 1, heap := w.heap.push (.cells arr.toArray e (cap, cap + 1)) } := by
        unfold World.freeze
        rw [if_neg (by omega)]
        simp only
        rw [heap_modify_eq _ _ _ _ hpush]
        congr 1
        apply Array.ext_getElem?
        intro j
        rw [Array.getElem?_setIfInBounds]
        by_cases hj : w.heap.size = j
        · subst hj; simp
        · rw [if_neg hj]; simp [Array.getElem?_push, Ne.symm hj]
      have key : (convert t d (str l)).run K.P w = .ok (.slice (some ⟨w.heap.size, 0, none⟩) l.length cap) { w with drawn := w.drawn + 1, heap := w.heap.push (.cells arr.toArray e (cap, cap + 1)) } := by
        simp only [str, convert, underlying, program, Sem.run_bind, Sem.run, ht, hd, Result.andThen_ok, Sem.run_pure, he8]
        unfold Conv.stringToBytes
        simp only [hsz]
        rw [Sem.run_bind, hchoose]
        simp only [Result.andThen_ok, newRow, newObj, Sem.run_bind, Sem.run, Sem.run_pure]
        rw [show (Array.map (fun b => Value.int IntKind.u8 (b.toNat : Int)) (ByteArray.mk l.toArray).data ++ Array.replicate (cap - l.length) (Value.int IntKind.u8 0)) = arr.toArray from harr]
        have hm : (markStringish ⟨w.heap.size, 0, none⟩).run K.P { w with drawn := w.drawn + 1, heap := w.heap.push (.cells arr.toArray e (0, 0)) } = .ok () { w with drawn := w.drawn + 1, heap := w.heap.push (.cells arr.toArray e (cap, cap + 1)) } := by
          unfold markStringish
          simp only [shape, Sem.run_bind, Sem.run, Result.andThen_ok, World.shape?, hpush, List.size_toArray, hal, freeze]
          rw [hfz]
        exact congrArg (fun r => Result.andThen r fun _ w' => Result.ok (Value.slice (some ⟨w.heap.size, 0, none⟩) l.length cap) w') hm
      simp [key]
    · intro h x
      refine Row.mk (pre := []) (junk := List.replicate (cap - l.length) (.int .u8 0)) (fz := (cap, cap + 1)) ⟨rfl, hge, hcm, by simp [encB_length]; omega, by simp [encB_length], by simp [encB_length]; omega, Or.inr (by simp; exact Nat.le_refl cap)⟩ h ?_
      simpa [pts, arr] using x
theorem q_cat {xt yt : TypeId} {x y : Operand} {l m : List UInt8} (ho : o.op = .binOp .add xt x y yt) (hx : ev E x = some (str l)) (hy : ev E y = some (str m)) (hl : l.length + m.length ≤ 9223372036854775807) : RQ K o E H (str (l ++ m)) :=
  q_bin ho hx hy eqGuard_str fun P w => by
    have h1 : (ByteArray.mk l.toArray).size = l.length := by show l.toArray.size = _; simp
    have h2 : (ByteArray.mk m.toArray).size = m.length := by show m.toArray.size = _; simp
    have h3 : (ByteArray.mk l.toArray) ++ (ByteArray.mk m.toArray) = ⟨(l ++ m).toArray⟩ := by
      apply ByteArray.ext; simp
    have h4 : ¬ ((((ByteArray.mk l.toArray).size + (ByteArray.mk m.toArray).size : Nat) : Int) > IntKind.i64.max) := by
      rw [h1, h2]
      simp only [IntKind.max, IntKind.signed, IntKind.bits, if_true]
      omega
    simp only [str, binOp, Op.stringOp, h4, if_false, h3, Sem.run_pure]
end
end Go.Proofs.YtbcnegennmpliaaDoor
