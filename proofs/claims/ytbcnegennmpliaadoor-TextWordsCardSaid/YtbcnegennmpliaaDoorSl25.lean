/- Lists whose elements' rows are known with their room; and such lists when what their rows hold is no longer told: they may be written. Conditions: none. -/
import Derived.Test.YtbcnegennmpliaaDoorSl24
namespace Go.Proofs.YtbcnegennmpliaaDoor
set_option linter.unusedVariables false
set_option linter.unusedSimpArgs false
open Go.RowKit
def CapW (T : TypeId) (F : HA) (a : Option Addr) (c : Nat) : Prop := ∀ h, F h → c = 0 ∨ ∃ b off, a = some ⟨b, off, none⟩ ∧ ∃ (l : List Value) (fz : Nat × Nat), h b = some (.cells l.toArray T fz) ∧ off + c ≤ l.length ∧ (fz.1 = fz.2 ∨ off + c ≤ fz.1)
theorem CapW.row {T : TypeId} {a : Option Addr} {n c : Nat} {cs : List Value} : CapW T (Row T 1 a n c cs) a c := by
  rintro h (⟨rfl, rfl, rfl, rfl⟩ | ⟨b, off, pre, junk, fz, rfl, ok, hb⟩)
  · exact .inl rfl
  · have h1 := ok.room; have h2 := ok.offs; have h3 := ok.fzok
    refine .inr ⟨b, off, rfl, _, fz, hb, ?_, ?_⟩
    · simp only [List.length_append]; omega
    · rcases h3 with h | h
      · exact .inl h
      · right; omega
structure RdW (T : TypeId) (F : HA) (a : Option Addr) (c : Nat) (cs : List Value) : Prop where
  rd : Rd F a cs
  cap : CapW T F a c
theorem RdW.row {T : TypeId} {a : Option Addr} {n c : Nat} {cs : List Value} (h : Rd (Row T 1 a n c cs) a cs) : RdW T (Row T 1 a n c cs) a c cs := ⟨h, .row⟩
theorem RdW.none {T : TypeId} {F : HA} : RdW T F none 0 [] := ⟨.inl rfl, fun _ _ => .inl rfl⟩
def UpC (G F : HA) : Prop := ∀ h, F h → ∃ g, G g ∧ ∀ b o, g b = some o → h b = some o
theorem UpC.refl (F : HA) : UpC F F := fun h x => ⟨h, x, fun _ _ e => e⟩
theorem UpC.trans {A B C : HA} (u : UpC A B) (v : UpC B C) : UpC A C := fun h x => by
  obtain ⟨g, hg, e⟩ := v h x
  obtain ⟨f, hf, e'⟩ := u g hg
  exact ⟨f, hf, fun b o y => e b o (e' b o y)⟩
theorem UpC.lend {F : HA} {l : List HA} (k : Nat) (hk : l[k]? = some F) : UpC F (stars l) := fun h x => knows_at l k F hk h x
theorem UpC.up {G F : HA} (u : UpC G F) : Up G F := fun a cs r => by
  rcases r with h | ⟨b, off, ha, hc⟩
  · exact .inl h
  · refine .inr ⟨b, off, ha, fun h x => ?_⟩
    obtain ⟨g, hg, e⟩ := u h x
    obtain ⟨l, T, fz, h1, h2⟩ := hc g hg
    exact ⟨l, T, fz, e _ _ h1, h2⟩
theorem RdW.up {T : TypeId} {G F : HA} {a : Option Addr} {c : Nat} {cs : List Value} (r : RdW T G a c cs) (u : UpC G F) : RdW T F a c cs :=
  ⟨u.up _ _ r.rd, fun h x => by
    obtain ⟨g, hg, e⟩ := u h x
    rcases r.cap g hg with h0 | ⟨b, off, ha, l, fz, h1, h2⟩
    · exact .inl h0
    · exact .inr ⟨b, off, ha, l, fz, e _ _ h1, h2⟩⟩
/-! ### What may be written -/
def updH (h : Hp) (b : Nat) (o : Obj) : Hp := fun i => if i = b then some o else h i
def Shp (z : HA) : HA := fun h' => ∃ h, z h ∧ ∀ b (l : List Value) T fz, h b = some (.cells l.toArray T fz) → ∃ l' : List Value, h' b = some (.cells l'.toArray T fz) ∧ l'.length = l.length
theorem Shp.of {z : HA} (h : Hp) (x : z h) : Shp z h := ⟨h, x, fun _ l _ _ e => ⟨l, e, rfl⟩⟩
def Wrt (T : TypeId) (J : HA) (a : Option Addr) (c : Nat) : Prop := ∀ h, J h → c = 0 ∨ ∃ b off, a = some ⟨b, off, none⟩ ∧ ∃ (l : List Value) (fz : Nat × Nat), h b = some (.cells l.toArray T fz) ∧ off + c ≤ l.length ∧ (fz.1 = fz.2 ∨ off + c ≤ fz.1) ∧
  ∀ l' : List Value, l'.length = l.length → J (updH h b (.cells l'.toArray T fz))
theorem CapW.shp {T : TypeId} {z : HA} {a : Option Addr} {c : Nat} (r : CapW T z a c) : Wrt T (Shp z) a c := by
  rintro h' ⟨h, hz, hs⟩
  rcases r h hz with h0 | ⟨b, off, ha, l, fz, h1, h2, h3⟩
  · exact .inl h0
  · obtain ⟨l', e, hl⟩ := hs b l T fz h1
    refine .inr ⟨b, off, ha, l', fz, e, by omega, h3, fun m hm => ⟨h, hz, fun b' k T' fz' hk => ?_⟩⟩
    by_cases hb : b' = b
    · subst hb
      rw [h1] at hk
      simp only [Option.some.injEq, Obj.cells.injEq] at hk
      obtain ⟨e1, e2, e3⟩ := hk
      have e1 : l = k := by simpa using congrArg Array.toList e1
      subst e1; subst e2; subst e3
      exact ⟨m, by simp [updH], by omega⟩
    · obtain ⟨k', hk', hl'⟩ := hs b' k T' fz' hk
      exact ⟨k', by simp [updH, hb, hk'], hl'⟩
def UpW (J J' : HA) : Prop := ∀ T a c, Wrt T J a c → Wrt T J' a c
theorem UpW.refl (J : HA) : UpW J J := fun _ _ _ h => h
theorem UpW.trans {A B C : HA} (u : UpW A B) (v : UpW B C) : UpW A C := fun T a c h => v T a c (u T a c h)
theorem Wrt.up {T : TypeId} {J J' : HA} {a : Option Addr} {c : Nat} (h : Wrt T J a c) (u : UpW J J') : Wrt T J' a c := u T a c h
theorem UpW.star {A J : HA} : UpW J (star A J) := by
  rintro T a c r h ⟨x, y, d, rfl, hx, hy⟩
  rcases r y hy with h0 | ⟨b, off, ha, l, fz, h1, h2, h3, h4⟩
  · exact .inl h0
  · refine .inr ⟨b, off, ha, l, fz, star_right_some d h1, h2, h3, fun m hm => ⟨x, updH y b (.cells m.toArray T fz), ?_, ?_, hx, h4 m hm⟩⟩
    · intro i
      by_cases hi : i = b
      · subst hi
        rcases d i with e | e
        · exact .inl e
        · rw [h1] at e; cases e
      · simpa [updH, hi] using d i
    · funext i
      by_cases hi : i = b
      · subst hi
        rcases d i with e | e
        · simp [updH, un, e]
        · rw [h1] at e; cases e
      · simp [updH, un, hi]
def Blk (T : TypeId) (b s : Nat) : HA := fun h => ∃ l : List Value, h b = some (.cells l.toArray T (0, 0)) ∧ l.length = s
theorem Wrt.blk {T : TypeId} {b s c : Nat} {J : HA} (hc : c ≤ s) : Wrt T (star (Blk T b s) J) (some ⟨b, 0, none⟩) c := by
  rintro h ⟨x, y, d, rfl, ⟨l, hx, hl⟩, hy⟩
  refine .inr ⟨b, 0, rfl, l, (0, 0), star_left_some hx, by omega, .inl rfl, fun m hm => ⟨updH x b (.cells m.toArray T (0, 0)), y, ?_, ?_, ⟨m, by simp [updH], by omega⟩, hy⟩⟩
  · intro i
    by_cases hi : i = b
    · subst hi
      rcases d i with e | e
      · rw [hx] at e; cases e
      · exact .inr e
    · simpa [updH, hi] using d i
  · funext i
    by_cases hi : i = b
    · subst hi; simp [updH, un]
    · simp [updH, un, hi]
def blkA (T : TypeId) (J : HA) (b : Nat) (l0 : List Value) (fz : Nat × Nat) : HA := fun h => h b = some (.cells l0.toArray T fz) ∧ ∀ l' : List Value, l'.length = l0.length → J (updH h b (.cells l'.toArray T fz))
theorem Sat.wrt {W w : World} {l : List HA} {T : TypeId} {J : HA} {a : Option Addr} {c : Nat} (hW : Wrt T J a c) (s : Sat W (J :: l) w) :
    c = 0 ∨ ∃ b off l0 fz, a = some ⟨b, off, none⟩ ∧ off + c ≤ l0.length ∧ (fz.1 = fz.2 ∨ off + c ≤ fz.1) ∧ Sat W (blkA T J b l0 fz :: l) w := by
  obtain ⟨x, r, d, e, hx, hr⟩ := s.hp
  rcases hW x hx with h0 | ⟨b, off, ha, l0, fz, h1, h2, h3, h4⟩
  · exact .inl h0
  · exact .inr ⟨b, off, l0, fz, ha, h2, h3, s.os, s.tape, s.output, s.size, x, r, d, e, ⟨h1, h4⟩, hr⟩
theorem Sat.blk_at {W w : World} {l : List HA} {T : TypeId} {J : HA} {b : Nat} {l0 : List Value} {fz : Nat × Nat} (s : Sat W (blkA T J b l0 fz :: l) w) : w.heap[b]? = some (.cells l0.toArray T fz) := by
  obtain ⟨a, ha, k⟩ := s.at (i := 0) rfl
  exact k _ _ ha.1
theorem Sat.blk_upd {W w : World} {l : List HA} {T : TypeId} {J : HA} {b : Nat} {l0 l1 : List Value} {fz : Nat × Nat} (hl : l1.length = l0.length) (s : Sat W (blkA T J b l0 fz :: l) w) : Sat W (J :: l) { w with heap := w.heap.setIfInBounds b (.cells l1.toArray T fz) } := by
  have hb := s.blk_at
  have hlt : b < w.heap.size := (Array.getElem?_eq_some_iff.1 hb).1
  refine ⟨s.os, s.tape, s.output, by simpa using s.size, ?_⟩
  obtain ⟨a, r, d, e, ha, hr⟩ := s.hp
  refine ⟨updH a b (.cells l1.toArray T fz), r, ?_, ?_, ha.2 l1 hl, hr⟩
  · intro i
    by_cases h : i = b
    · subst h
      rcases d i with x | x
      · rw [ha.1] at x; cases x
      · exact .inr x
    · simpa [updH, h] using d i
  · funext i
    have := congrFun e i
    simp only [hpw] at this ⊢
    simp only [un] at this ⊢
    rw [Array.getElem?_setIfInBounds]
    by_cases h : i = b
    · subst h; simp [updH, hlt]
    · have h' : ¬ b = i := fun x => h x.symm
      simp [updH, h, h', this]
theorem Sat.blk_out {W w : World} {l : List HA} {T : TypeId} {J : HA} {b : Nat} {l0 : List Value} {fz : Nat × Nat} (s : Sat W (blkA T J b l0 fz :: l) w) : Sat W (J :: l) w := by
  obtain ⟨a, r, d, e, ha, hr⟩ := s.hp
  refine ⟨s.os, s.tape, s.output, s.size, a, r, d, e, ?_, hr⟩
  have := ha.2 l0 rfl
  have e : updH a b (.cells l0.toArray T fz) = a := by
    funext i
    by_cases h : i = b
    · subst h; simp [updH, ha.1]
    · simp [updH, h]
  rwa [e] at this
section
variable {K : Cx} {R S Y : Type} {Q : Post R} {E : Env} {H : List HA} {opt : Option R} {ops : Array Oper} {rest : List Oper} {o : Oper}
theorem simL_wrt {T : TypeId} {J : HA} {a : Option Addr} {c : Nat} (k : Nat) (hk : H[k]? = some J) (hW : Wrt T J a c) (hc : 0 < c) (h : ∀ b off, a = some ⟨b, off, none⟩ → SimL K Q ops rest E H opt) : SimL K Q ops rest E H opt := by
  intro r hr a' w he hs
  rcases (hs.focus hk).wrt hW with h0 | ⟨b, off, l0, fz, ha, _⟩
  · omega
  · exact h b off ha r hr a' w he hs
theorem re_storeS {x y : Operand} {t T : TypeId} {b off c j : Nat} {v : Value} {a : Option Addr} {J : HA} (k : Nat) (ho : o.op = .store t x y) (hx : ev E x = some (.pointer (some ⟨b, off + j, none⟩))) (hy : ev E y = some v)
    (hs : ∀ w, (sizeOf t).run K.P w = .ok 1 w) (hv : v.cells = [v].toArray) (h1 : one [v]) (hk : H[k]? = some J) (hW : Wrt T J a c) (ha : a = some ⟨b, off, none⟩) (hj : j < c) :
    RE K (Y := Unit) o E H (fun _ => undef) (fun _ => H) :=
  re_skip (by rw [ho]; intro c h; cases h) fun a' w he s => by
    rcases (s.focus hk).wrt hW with h0 | ⟨b', off', l0, fz, ha', h2, h3, s2⟩
    · omega
    · rw [ha] at ha'
      simp only [Option.some.injEq, Addr.mk.injEq] at ha'
      obtain ⟨rfl, rfl, _⟩ := ha'
      have hb := s2.blk_at
      have hst := run_store (P := K.P) (off + j) [v] 0 l0 w hb (by simp; omega) (fun q h4 h5 h6 => by
        simp only [List.length_cons, List.length_nil] at h6
        rcases h3 with h | h <;> omega) h1
      have hu := Sat.unfocus hk (s2.blk_upd (l1 := setL l0 (off + j) [v]) (by rw [setL_length]))
      have hset : H.set k J = H := by
        apply List.ext_getElem?
        intro i
        rw [List.getElem?_set]
        have hlt : k < H.length := (List.getElem?_eq_some_iff.1 hk).1
        by_cases h : k = i
        · subst h; rw [if_pos rfl, if_pos hlt, hk]
        · rw [if_neg h]
      rw [hset] at hu
      refine ⟨(), _, ?_, hu⟩
      unfold execOp; simp only [ho]; rw [he.ev hx, he.ev hy]
      rw [Nat.add_zero] at hst
      simp [Instr.storeAt, Instr.sureAddr, storeVar, hs, hv, hst]
theorem run_appendS {P : Program} {W w : World} {l : List HA} {t ty e : TypeId} {i : TypeInfo} {z : Value} {a a2 : Option Addr} {n c m c2 : Nat} {J : HA} {news : List Value}
    (s : Sat W (J :: l) w) (hW : Wrt e J a c) (hnc : n ≤ c) (hcm : c ≤ maxLen) (ht : P.underlying t = some (.slice e)) (hi : P.info? e = some i) (hz : i.zero = some z) (hsz : i.size = 1) (hby : i.bytes = 1) (hzs : z.cells.size = 1)
    (hl : news.length = m) (hr : Rds l a2 news) (h1 : one news) (hm0 : 0 < m) (hb : n + m ≤ 140737488355328) :
    ∃ a' c' J' w', (Builtin.append_ #[t, t] ty #[.slice a n c, .slice a2 m c2]).run P w = .ok (.slice a' (n + m) c') w' ∧ (Wrt e J' a' c' ∧ n + m ≤ c' ∧ c' ≤ maxLen) ∧ UpW J J' ∧ Sat W (J' :: l) w' := by
  have hml : n + m ≤ maxLen := by simp only [maxLen]; omega
  have s' : Sat W l w := s.ent (Ent.drop (Ent.refl _))
  have hnews : ∀ w2, Sat W l w2 → (Builtin.firstCells i.size m (.slice a2 m c2)).run P w2 = .ok news.toArray w2 := by
    intro w2 s2
    rcases hr.cells s2 with hn | ⟨b2, off2, ha2, hc⟩
    · subst hn; simp at hl; omega
    · subst ha2
      have := run_loads (P := P) (w := w2) (b := b2) (off := off2) (vs := news) hc
      rw [hl] at this
      simpa [Builtin.firstCells, hsz] using this
  have grown : ∀ (old : List Value), old.length = n → c < n + m → ∃ b' c', (Wrt e (star (Blk e b' c') J) (some ⟨b', 0, none⟩) c' ∧ n + m ≤ c' ∧ c' ≤ maxLen) ∧ c' = grownCap w (n + m) c e ∧ b' = w.heap.size ∧ Sat W (star (Blk e b' c') J :: l)
      { w with drawn := w.drawn + 1, heap := w.heap.push (.cells (old.toArray ++ news.toArray ++ Builtin.zeroCells z.cells (grownCap w (n + m) c e - (n + m))) e (0, 0)) } := by
    intro old ho hc
    have hge := grownCap_ge w (n + m) c e
    have hcm := grownCap_le_maxLen w (n + m) c e hml
    have s2 := (s.drew (w.drawn + 1)).new (.cells (old.toArray ++ news.toArray ++ Builtin.zeroCells z.cells (grownCap w (n + m) c e - (n + m))) e (0, 0))
    refine ⟨_, _, ⟨Wrt.blk (Nat.le_refl _), hge, hcm⟩, rfl, rfl, s2.ent fun h x => ?_⟩
    obtain ⟨p, q, d, rfl, hp, p2, q2, d2, rfl, hp2, hq2⟩ := x
    refine ⟨un p p2, q2, ?_, ?_, ⟨p, p2, ?_, rfl, ⟨(old ++ news ++ (Builtin.zeroCells z.cells (grownCap w (n + m) c e - (n + m))).toList), ?_, ?_⟩, hp2⟩, hq2⟩
    · intro i
      rcases d2 i with e1 | e1
      · rcases d i with e2 | e2
        · left; simp [un, e1, e2]
        · right; simp only [un] at e2; rw [e1] at e2; simpa using e2
      · exact .inr e1
    · funext i; simp [un, Option.or_assoc]
    · intro i
      rcases d i with e2 | e2
      · exact .inl e2
      · right
        simp only [un] at e2
        cases h2 : p2 i with
        | none => rfl
        | some o => rw [h2] at e2; simp at e2
    · have : (old.toArray ++ news.toArray ++ Builtin.zeroCells z.cells (grownCap w (n + m) c e - (n + m))) = (old ++ news ++ (Builtin.zeroCells z.cells (grownCap w (n + m) c e - (n + m))).toList).toArray := by
        apply Array.ext'; simp
      rw [this] at hp
      exact hp
    · have hzl : (Builtin.zeroCells z.cells (grownCap w (n + m) c e - (n + m))).toList.length = grownCap w (n + m) c e - (n + m) := by rw [Array.length_toList, size_zeroCells, hzs, Nat.mul_one]
      simp only [List.length_append, hzl, ho, hl]
      omega
  have hcut : ∀ old, (Question.appendCap (n + m) old e).cut (w.tape w.drawn (.appendCap (n + m) old e)) = grownCap w (n + m) old e := fun _ => rfl
  by_cases hroom : n + m ≤ c
  · rcases s.wrt hW with h0 | ⟨b, off, l0, fz, rfl, h2, h3, s2⟩
    · omega
    · have hbk := s2.blk_at
      have hst := run_store (P := P) (off + n) news 0 l0 w hbk (by simp; omega) (fun q h4 h5 h6 => by rcases h3 with h | h <;> omega) h1
      rw [Nat.add_zero] at hst
      refine ⟨some ⟨b, off, none⟩, c, J, _, ?_, ⟨hW, hroom, hcm⟩, UpW.refl _, s2.blk_upd (l1 := setL l0 (off + n) news) (by rw [setL_length])⟩
      simp [Builtin.append_, run_underlying ht, sizeOf, typeInfo, program, Sem.run, hi, Builtin.lenOf, hroom, hnews w s', add_lit', hst, hsz]
      simp [hsz] at hnews
      simp [hnews w s', hst]
  · have hg : c < n + m := by omega
    have h63 : ¬ (9223372036854775807 < ((n : Int) + (m : Int))) := by simp only [maxLen] at hml; omega
    have hfits := growslice_fits (bytes := i.bytes) hg (by rw [hby]; omega)
    have h48 : ¬ (281474976710656 < Builtin.nextslicecap (n + m) c * i.bytes) := by omega
    have hd : Sat W l w.drew := s'.drew _
    rcases s.wrt hW with h0 | ⟨b, off, l0, fz, rfl, h2, h3, s2⟩
    · have hn : n = 0 := by omega
      subst hn; subst h0
      obtain ⟨b', c', hw', rfl, rfl, hs'⟩ := grown [] rfl hg
      refine ⟨_, _, _, _, ?_, hw', UpW.star, hs'⟩
      have hf0 : (Builtin.firstCells i.size 0 (.slice a 0 0)).run P w.drew = .ok #[] w.drew := by cases a <;> simp [Builtin.firstCells, loadCells, loadCellsFrom]
      have hm : m ≠ 0 := by omega
      have h63' : ¬ (9223372036854775807 < (m : Int)) := by omega
      simp only [Nat.zero_add] at hroom h48 hcut ⊢
      simp [Builtin.append_, run_underlying ht, sizeOf, typeInfo, zeroValue, hi, hz, Builtin.lenOf, hm, h63', h48, Question.forced, hf0, hnews _ hd, newRow, grownCap]
      rfl
    · have hbk := s2.blk_at
      have hold : (Builtin.firstCells i.size n (.slice (some ⟨b, off, none⟩) n c)).run P w.drew = .ok ((l0.drop off).take n).toArray w.drew := by
        have := run_loads (P := P) (w := w.drew) (b := b) (off := off) (vs := (l0.drop off).take n) fun j v hj => by
          rw [List.getElem?_take] at hj
          split at hj
          · rw [List.getElem?_drop] at hj
            refine CellAt.sat (H := blkA e J b l0 fz :: l) (.of 0 rfl fun x hx => ⟨l0.toArray, e, fz, hx.1, by simpa using hj⟩) (s2.drew _)
          · cases hj
        rw [List.length_take, List.length_drop, Nat.min_eq_left (by omega)] at this
        simpa [Builtin.firstCells, hsz] using this
      obtain ⟨b', c', hw', rfl, rfl, hs'⟩ := grown ((l0.drop off).take n) (by rw [List.length_take, List.length_drop, Nat.min_eq_left (by omega)]) hg
      refine ⟨_, _, _, _, ?_, hw', UpW.star, hs'⟩
      simp [Builtin.append_, run_underlying ht, sizeOf, typeInfo, zeroValue, hi, hz, Builtin.lenOf, hroom, h63, h48, Question.forced, hold, hnews _ hd, newRow, grownCap]
      refine congrArg (fun x => w.drew.alloc (.cells x e)) ?_
      apply Array.ext'
      simp [List.append_assoc]
theorem re_appendS {x y : Operand} {t e : Nat} {zs : List Value} {a a2 : Option Addr} {c c2 : Nat} {l m : List UInt8} {J : HA} (k : Nat) (ho : o.op = .call { callee := .builtin .append, args := #[x, y], argTypes := #[t, t] })
    (hx : ev E x = some (.slice a l.length c)) (hy : ev E y = some (.slice a2 m.length c2)) (ht : K.P.underlying t = some (.slice e)) (hE : Elt K.P e 1 1 zs) (hk : H[k]? = some J) (hW : Wrt e J a c) (hnc : l.length ≤ c) (hcm : c ≤ maxLen)
    (hr : Rds (H.eraseIdx k) a2 (encB m)) (hm : 0 < m.length) (hb : (l.length + m.length) * 1 ≤ 140737488355328) :
    RE K (Y := Option Addr × Nat × HA) o E H (fun y => .slice y.1 (l ++ m).length y.2.1) (fun y => pr (Wrt e y.2.2 y.1 y.2.1 ∧ (l ++ m).length ≤ y.2.1 ∧ y.2.1 ≤ maxLen) :: pr (UpW J y.2.2) :: H.set k y.2.2) :=
  re_run (by rw [ho]; intro c h; cases h) fun a' w he s => by
    obtain ⟨i, z, hi, hz, hsz, hby, hzs⟩ := hE.info
    obtain ⟨a3, c3, J', w', hrun, hw, hu, s2⟩ := run_appendS (t := t) (ty := o.type) (c2 := c2) (s.focus hk) hW hnc hcm ht hi hz hsz hby (by rw [hzs]; simpa using hE.len) (by rw [encB_length]) hr (encB_one m) hm (by omega)
    refine ⟨(a3, c3, J'), w', ?_, (Sat.unfocus hk s2).ent fun h x => ⟨fun _ => none, h, fun _ => .inl rfl, by funext i; simp [un], by rw [List.length_append]; exact hw, fun _ => none, h, fun _ => .inl rfl, by funext i; simp [un], hu, x⟩⟩
    rw [List.length_append]
    unfold execOp; simp only [ho]
    simp only [resolve, invoke, builtin, Sem.run_bind, Sem.run_pure, Result.andThen_ok, List.map_toArray, List.map_cons, List.map_nil, he.ev hx, he.ev hy, hrun]
end
end Go.Proofs.YtbcnegennmpliaaDoor
