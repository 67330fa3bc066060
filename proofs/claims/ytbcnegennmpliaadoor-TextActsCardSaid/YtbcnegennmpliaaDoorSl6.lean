/- Slices that are made: append, make, literals, copy; bytes to strings and back. Conditions: none. -/
import Derived.Test.YtbcnegennmpliaaDoorSl5
namespace Go.Proofs.YtbcnegennmpliaaDoor
set_option linter.unusedVariables false
set_option linter.unusedSimpArgs false
open Go.RowKit

theorem add_lit' (b off n : Nat) : (⟨b, off, none⟩ : Addr).add n = ⟨b, off + n, none⟩ := by unfold Addr.add; split <;> simp_all
theorem run_append {P : Program} {W w : World} {l : List HA} {t ty e : TypeId} {i : TypeInfo} {z : Value} {sz bytes : Nat} {a a2 : Option Addr} {n c m c2 : Nat} {cs news : List Value}
    (s : Sat W (Row e sz a n c cs :: l) w) (ht : P.underlying t = some (.slice e)) (hi : P.info? e = some i) (hz : i.zero = some z) (hsz : i.size = sz) (hby : i.bytes = bytes) (hzs : z.cells.size = sz)
    (hl : news.length = m * sz) (hr : Rds l a2 news) (h1 : one news) (hb : (n + m) * bytes ≤ 140737488355328) (h0 : Nat.blt 0 bytes = true) (h0' : Nat.blt 0 sz = true) :
    ∃ a' c' w', (Builtin.append_ #[t, t] ty #[.slice a n c, .slice a2 m c2]).run P w = .ok (.slice a' (n + m) c') w' ∧ Sat W (Row e sz a' (n + m) c' (cs.take (n * sz) ++ news) :: l) w' := by
  subst hsz
  subst hby
  have hbp : 0 < i.bytes := by simpa [Nat.blt_eq] using h0
  have hsp : 0 < i.size := by simpa [Nat.blt_eq] using h0'
  have hnm : n + m ≤ 140737488355328 := Nat.le_trans (Nat.le_mul_of_pos_right (n + m) hbp) hb
  have hml : n + m ≤ maxLen := by simp only [maxLen]; omega
  have s' : Sat W l w := s.ent (Ent.drop (Ent.refl _))
  -- where the news are read
  have hnews : ∀ w2, Sat W l w2 → (Builtin.firstCells i.size m (.slice a2 m c2)).run P w2 = .ok news.toArray w2 := by
    intro w2 s2
    rcases hr.cells s2 with hn | ⟨b2, off2, ha2, hc⟩
    · subst hn
      have hm : m = 0 := by
        rcases Nat.eq_zero_or_pos m with h | h
        · exact h
        · have := Nat.mul_pos h hsp; simp at hl; omega
      subst hm
      cases a2 <;> simp [Builtin.firstCells, loadCells, loadCellsFrom]
    · subst ha2
      have := run_loads (P := P) (w := w2) (b := b2) (off := off2) (vs := news) hc
      rw [hl] at this
      simpa [Builtin.firstCells] using this
  -- the grown row
  have grown : ∀ (old : List Value), old.length = n * i.size → c < n + m → Sat W (Row e i.size (some ⟨w.heap.size, 0, none⟩) (n + m) (grownCap w (n + m) c e) (old ++ news) :: l)
      { w with drawn := w.drawn + 1, heap := w.heap.push (.cells (old.toArray ++ news.toArray ++ Builtin.zeroCells z.cells (grownCap w (n + m) c e - (n + m))) e (0, 0)) } := by
    intro old ho hc
    have hge := grownCap_ge w (n + m) c e
    have hcm := grownCap_le_maxLen w (n + m) c e hml
    have s2 := (s'.drew (w.drawn + 1)).new (.cells (old.toArray ++ news.toArray ++ Builtin.zeroCells z.cells (grownCap w (n + m) c e - (n + m))) e (0, 0))
    refine s2.ent (Ent.sel' 0 rfl ?_ (Ent.refl _))
    intro h x
    have hlen : (old ++ news).length = (n + m) * i.size := by rw [List.length_append, ho, hl, Nat.add_mul]
    have hzl : (Builtin.zeroCells z.cells (grownCap w (n + m) c e - (n + m))).toList.length = (grownCap w (n + m) c e - (n + m)) * i.size := by rw [Array.length_toList, size_zeroCells, hzs]
    refine Row.mk (pre := []) (junk := (Builtin.zeroCells z.cells (grownCap w (n + m) c e - (n + m))).toList) (fz := (0, 0)) ⟨rfl, hge, hcm, ?_, by rw [hlen]; exact Nat.le_refl _, by rw [hlen]; exact Nat.mul_le_mul_right _ hge, Or.inl rfl⟩ h ?_
    · rw [hlen, hzl, ← Nat.add_mul]; exact Nat.mul_le_mul_right _ (by omega)
    · have : (old.toArray ++ news.toArray ++ Builtin.zeroCells z.cells (grownCap w (n + m) c e - (n + m))) = ([] ++ (old ++ news) ++ (Builtin.zeroCells z.cells (grownCap w (n + m) c e - (n + m))).toList).toArray := by
        apply Array.ext'; simp
      rw [this] at x
      exact x
  have hcut : ∀ old, (Question.appendCap (n + m) old e).cut (w.tape w.drawn (.appendCap (n + m) old e)) = grownCap w (n + m) old e := fun _ => rfl
  by_cases hroom : n + m ≤ c
  · -- there is room
    rcases s.row_cases with ⟨rfl, rfl, rfl, rfl⟩ | ⟨b, off, pre, junk, fz, rfl, ok, s2⟩
    · have hm : m = 0 := by omega
      subst hm
      have hn0 : news = [] := List.eq_nil_of_length_eq_zero (by simpa using hl)
      subst hn0
      refine ⟨none, 0, w, ?_, by simpa using s⟩
      simp [Builtin.append_, run_underlying ht, sizeOf, typeInfo, program, Sem.run, hi, Builtin.lenOf, hnews w s']
    · have hbk := s2.pts_at (i := 0) rfl
      have hlen := ok.len
      have hpre := ok.offs
      have hrm := ok.room
      have hfit : n * i.size + news.length ≤ c * i.size := by rw [hl, ← Nat.add_mul]; exact Nat.mul_le_mul_right _ hroom
      have hst := run_store (P := P) (off + n * i.size) news 0 (pre ++ cs ++ junk) w hbk (by simp; omega) (fun q h1 h2 h3 => ok.free q (by omega) (by omega)) h1
      rw [Nat.add_zero] at hst
      refine ⟨some ⟨b, off, none⟩, c, _, ?_, (s2.upd (o' := .cells (setL (pre ++ cs ++ junk) (off + n * i.size) news).toArray e fz)).ent (Ent.sel' 0 rfl ?_ (Ent.refl _))⟩
      · simp [Builtin.append_, run_underlying ht, sizeOf, typeInfo, program, Sem.run, hi, Builtin.lenOf, hroom, hnews w s', add_lit', hst]
      · intro h x
        have e1 : setL (pre ++ cs ++ junk) (off + n * i.size) news = pre ++ (cs.take (n * i.size) ++ news) ++ (cs ++ junk).drop (n * i.size + news.length) := by
          rw [setL_eq _ _ _ (by simp; omega)]
          rw [List.append_assoc pre cs junk, List.take_append, List.drop_append]
          rw [List.take_of_length_le (by omega), List.drop_of_length_le (by omega)]
          rw [show off + n * i.size - pre.length = n * i.size by omega, show off + n * i.size + news.length - pre.length = n * i.size + news.length by omega]
          rw [List.take_append_of_le_length hlen]
          simp
        rw [e1] at x
        have hl2 : (cs.take (n * i.size) ++ news).length = (n + m) * i.size := by rw [List.length_append, List.length_take, Nat.min_eq_left hlen, hl, Nat.add_mul]
        refine Row.mk (junk := (cs ++ junk).drop (n * i.size + news.length)) ⟨hpre, hroom, ok.cap, ?_, by rw [hl2]; exact Nat.le_refl _, by rw [hl2]; exact Nat.mul_le_mul_right _ hroom, ok.fzok⟩ h x
        rw [hl2, List.length_drop, List.length_append, Nat.add_mul, ← hl]
        omega
  · -- it grows
    have hg : c < n + m := by omega
    have h63 : ¬ (9223372036854775807 < ((n : Int) + (m : Int))) := by simp only [maxLen] at hml; omega
    have hfits := growslice_fits (bytes := i.bytes) hg hb
    have h48 : ¬ (281474976710656 < Builtin.nextslicecap (n + m) c * i.bytes) := by omega
    have hd : Sat W l w.drew := s'.drew _
    rcases s.row_cases with ⟨rfl, rfl, rfl, rfl⟩ | ⟨b, off, pre, junk, fz, rfl, ok, s2⟩
    · refine ⟨_, _, _, ?_, by simpa using grown [] (by simp) hg⟩
      have hf0 : (Builtin.firstCells i.size 0 (.slice none 0 0)).run P w.drew = .ok #[] w.drew := by simp [Builtin.firstCells]
      have hm : m ≠ 0 := by omega
      have h63' : ¬ (9223372036854775807 < (m : Int)) := by omega
      simp only [Nat.zero_add] at hroom h48 hcut ⊢
      simp [Builtin.append_, run_underlying ht, sizeOf, typeInfo, zeroValue, hi, hz, Builtin.lenOf, hm, h63', h48, Question.forced, hf0, hnews _ hd, newRow, grownCap]
      rfl
    · have hlen := ok.len
      have hold : (Builtin.firstCells i.size n (.slice (some ⟨b, off, none⟩) n c)).run P w.drew = .ok (cs.take (n * i.size)).toArray w.drew := by
        have := run_loads (P := P) (w := w.drew) (b := b) (off := off) (vs := cs.take (n * i.size)) fun j v hj => by
          have hj' : cs[j]? = some v := by
            rw [List.getElem?_take] at hj
            split at hj
            · exact hj
            · cases hj
          exact (CellAt.row (H := Row e i.size (some ⟨b, off, none⟩) n c cs :: l) 0 rfl hj').sat (s.drew _)
        rw [List.length_take, Nat.min_eq_left hlen] at this
        simpa [Builtin.firstCells] using this
      refine ⟨_, _, _, ?_, grown (cs.take (n * i.size)) (by rw [List.length_take, Nat.min_eq_left hlen]) hg⟩
      simp [Builtin.append_, run_underlying ht, sizeOf, typeInfo, zeroValue, hi, hz, Builtin.lenOf, hroom, h63, h48, Question.forced, hold, hnews _ hd, newRow, grownCap]
      refine congrArg (fun x => w.drew.alloc (.cells x e)) ?_
      apply Array.ext'
      simp [List.append_assoc]

section
variable {K : Cx} {R S Y : Type} {Q : Post R} {E : Env} {H : List HA} {opt : Option R} {ops : Array Oper} {rest : List Oper} {o : Oper}
structure Elt (P : Program) (e sz bytes : Nat) (zs : List Value) : Prop where
  info : ∃ i z, P.info? e = some i ∧ i.zero = some z ∧ i.size = sz ∧ i.bytes = bytes ∧ z.cells = zs.toArray
  len : zs.length = sz
  pos : Nat.blt 0 bytes = true
  spos : Nat.blt 0 sz = true
theorem Elt.of {P : Program} {e sz bytes : Nat} {zs : List Value} (z : Value) (h : (P.info? e).map (fun i => (i.zero, i.size, i.bytes)) = some (some z, sz, bytes)) (hz : z.cells = zs.toArray) (hl : zs.length = sz) (h1 : Nat.blt 0 bytes = true) (h2 : Nat.blt 0 sz = true) : Elt P e sz bytes zs := by
  refine ⟨?_, hl, h1, h2⟩
  cases hi : P.info? e with
  | none => rw [hi] at h; cases h
  | some i =>
    rw [hi] at h
    simp only [Option.map_some, Option.some.injEq, Prod.mk.injEq] at h
    exact ⟨i, z, rfl, h.1, h.2.1, h.2.2, hz⟩
theorem re_append {x y : Operand} {t e sz bytes : Nat} {zs : List Value} {a a2 : Option Addr} {n c m c2 : Nat} {cs news : List Value} (k : Nat) (ho : o.op = .call { callee := .builtin .append, args := #[x, y], argTypes := #[t, t] })
    (hx : ev E x = some (.slice a n c)) (hy : ev E y = some (.slice a2 m c2)) (ht : K.P.underlying t = some (.slice e)) (hE : Elt K.P e sz bytes zs) (hk : H[k]? = some (Row e sz a n c cs))
    (hr : Rds (H.eraseIdx k) a2 news) (hl : news.length = m * sz) (h1 : one news) (hb : (n + m) * bytes ≤ 140737488355328) :
    RE K (Y := Option Addr × Nat) o E H (fun y => .slice y.1 (n + m) y.2) (fun y => H.set k (Row e sz y.1 (n + m) y.2 (cs.take (n * sz) ++ news))) :=
  re_run (by rw [ho]; intro c h; cases h) fun a' w he s => by
    obtain ⟨i, z, hi, hz, hsz, hby, hzs⟩ := hE.info
    obtain ⟨a3, c3, w', hrun, s2⟩ := run_append (t := t) (ty := o.type) (c2 := c2) (s.focus hk) ht hi hz hsz hby (by rw [hzs]; simpa using hE.len) hl hr h1 hb hE.pos hE.spos
    refine ⟨(a3, c3), w', ?_, Sat.unfocus hk s2⟩
    unfold execOp; simp only [ho]
    simp only [resolve, invoke, builtin, Sem.run_bind, Sem.run_pure, Result.andThen_ok, List.map_toArray, List.map_cons, List.map_nil, he.ev hx, he.ev hy, hrun]
/-! ### make -/
end
end Go.Proofs.YtbcnegennmpliaaDoor
