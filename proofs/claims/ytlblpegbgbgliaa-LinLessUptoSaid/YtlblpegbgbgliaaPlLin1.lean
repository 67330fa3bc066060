/- Histories: what counts, what an operation does, the search for an order. Conditions: as each says. -/
import Derived.Test.YtlblpegbgbgliaaPlLin0
import Derived.Test.YtlblpegbgbgliaaG
namespace Go.Proofs.Ytlblpegbgbgliaa
set_option linter.unusedVariables false
set_option linter.unusedSimpArgs false
open Go.RowKit
abbrev OpT := Ty35
abbrev op0 : OpT := dz35
abbrev oKind (x : OpT) : Int := x.2.2.1
abbrev oKey (x : OpT) : List UInt8 := x.2.2.2.1
abbrev oVal (x : OpT) : List UInt8 := x.2.2.2.2.1
abbrev oOld (x : OpT) : List UInt8 := x.2.2.2.2.2.1
abbrev oCall (x : OpT) : Int := x.2.2.2.2.2.2.1
abbrev oBack (x : OpT) : Int := x.2.2.2.2.2.2.2.1
abbrev oCode (x : OpT) : Int := x.2.2.2.2.2.2.2.2.1
abbrev oRv (x : OpT) : List UInt8 := x.2.2.2.2.2.2.2.2.2
def isO (x : OpT) : Bool := decide (oBack x = 0)
def cnt (x : OpT) : Bool := if oBack x = 0 then !decide (oKind x = 1) else ((decide (oCode x = 1)) || (decide (oCode x = 2))) || (decide (oCode x = 3))
def stp (t : Bool) (v : List UInt8) (x : OpT) : Bool × List UInt8 × Int × List UInt8 :=
  if oKind x = 1 then (if t then (true, v, 1, v) else (false, [], 2, [])) else
  if oKind x = 2 then (true, oVal x, 1, []) else
  if oKind x = 3 then (if t then (false, [], 1, []) else (false, [], 2, [])) else
  if oKind x = 4 then (if t then (if v = oOld x then (true, oVal x, 1, []) else (true, v, 3, v)) else (false, [], 2, [])) else
  (t, if t then v else [], 0, [])
def okR (x : OpT) (r : Int × List UInt8) : Bool := isO x || (decide (r.1 = oCode x) && decide (r.2 = oRv x))
theorem open_eq (x : OpT) : lin_open.f x.1 x.2.1 x.2.2.1 x.2.2.2.1 x.2.2.2.2.1 x.2.2.2.2.2.1 x.2.2.2.2.2.2.1 x.2.2.2.2.2.2.2.1 x.2.2.2.2.2.2.2.2.1 x.2.2.2.2.2.2.2.2.2 = some (isO x) := rfl
theorem openv_eq (x : OpT) : lin_open.v x.1 x.2.1 x.2.2.1 x.2.2.2.1 x.2.2.2.2.1 x.2.2.2.2.2.1 x.2.2.2.2.2.2.1 x.2.2.2.2.2.2.2.1 x.2.2.2.2.2.2.2.2.1 x.2.2.2.2.2.2.2.2.2 = isO x := rfl
theorem cnt_eq (x : OpT) : lin_Counts.f x.1 x.2.1 x.2.2.1 x.2.2.2.1 x.2.2.2.2.1 x.2.2.2.2.2.1 x.2.2.2.2.2.2.1 x.2.2.2.2.2.2.2.1 x.2.2.2.2.2.2.2.2.1 x.2.2.2.2.2.2.2.2.2 = some (cnt x) := by
  unfold lin_Counts.f cnt
  rw [open_eq, Option.bind_some]
  unfold isO
  by_cases h : oBack x = 0 <;> simp [h]
theorem stp_eq (t : Bool) (v : List UInt8) (x : OpT) : lin_Step.f t v x.1 x.2.1 x.2.2.1 x.2.2.2.1 x.2.2.2.2.1 x.2.2.2.2.2.1 x.2.2.2.2.2.2.1 x.2.2.2.2.2.2.2.1 x.2.2.2.2.2.2.2.2.1 x.2.2.2.2.2.2.2.2.2 = some (stp t v x) := by
  unfold lin_Step.f stp
  cases t <;> simp only [Bool.not_false, Bool.not_true, if_true, Bool.false_eq_true, if_false, Option.bind_some] <;> (repeat' split) <;> simp_all
/-! ### The numbers of a key -/
def inK (h : List OpT) (key : List UInt8) (j : Nat) : Bool := decide (oKey (h.getD j op0) = key) && cnt (h.getD j op0)
def ofR (h : List OpT) (key : List UInt8) (i d : Nat) : List Int := ((List.range' i d).filter (inK h key)).map fun (j : Nat) => (j : Int)
def ofL (h : List OpT) (key : List UInt8) : List Int := ofR h key 0 h.length
theorem ofR_succ (h : List OpT) (key : List UInt8) (i d : Nat) : ofR h key i (d + 1) = (if inK h key i then [(i : Int)] else []) ++ ofR h key (i + 1) d := by
  unfold ofR
  rw [List.range'_succ, List.filter_cons]
  split <;> simp
theorem of_loop {h : List OpT} {key : List UInt8} (hh : h.length < 2 ^ 42) : ∀ (d i k : Nat) (acc : List Int), i + d = h.length → acc.length ≤ i → d + 1 ≤ k → lin_of.l0 h key k acc (i : Int) = some (acc ++ ofR h key i d)
  | d, i, 0, acc, _, _, hk => by omega
  | 0, i, k + 1, acc, hd, _, _ => by
    simp only [lin_of.l0]
    rw [if_neg (by omega)]
    simp [ofR]
  | d + 1, i, k + 1, acc, hd, ha, hk => by
    have ih := fun acc ha => of_loop (key := key) hh d (i + 1) k acc (by omega) ha (by omega)
    simp only [lin_of.l0]
    rw [if_pos (by omega), if_pos (by omega), w64 (n := (i : Int) + 1) (by omega) (by omega), ofR_succ]
    simp only [Int.toNat_natCast]
    have e : ((i : Int) + 1) = ((i + 1 : Nat) : Int) := by omega
    rw [e]
    unfold inK
    generalize h.getD i op0 = x
    by_cases hk : oKey x = key
    · rw [if_pos hk, cnt_eq x]
      simp only [Option.bind_some]
      by_cases hc : cnt x = true
      · rw [if_pos hc, if_pos (by simp; omega), ih _ (by simp; omega)]
        simp [hk, hc]
      · rw [if_neg hc, ih _ (by omega)]
        simp [hc]
    · rw [if_neg hk]
      simp only [Option.bind_some]
      rw [if_neg (by simp), ih _ (by omega)]
      simp [hk]
theorem of_eq {h : List OpT} {key : List UInt8} (hh : h.length < 2 ^ 42) {k : Nat} (hk : h.length + 1 ≤ k) : lin_of.f k h key = some (ofL h key) := by
  unfold lin_of.f
  have := of_loop (key := key) hh h.length 0 k [] (by omega) (by simp) hk
  rw [show ((0 : Nat) : Int) = 0 from rfl] at this
  rw [this]
  rfl
/-! ### The search -/
def whole (l : List OpT) (m : Nat) : Bool := (List.range' 0 l.length).all fun i => isO (l.getD i op0) || m.testBit i
def mayP (l : List OpT) (m i k : Nat) : Bool := (isO (l.getD k op0) || m.testBit k) || !decide (oBack (l.getD k op0) < oCall (l.getD i op0))
def may (l : List OpT) (m i : Nat) : Bool := !m.testBit i && (List.range' 0 l.length).all (mayP l m i)
def comp (l : List OpT) : Nat → Bool → List UInt8 → List Nat → Prop
  | m, _, _, [] => whole l m = true
  | m, t, v, i :: o => i < l.length ∧ may l m i = true ∧ okR (l.getD i op0) (stp t v (l.getD i op0)).2.2 = true ∧ comp l (m ||| 2 ^ i) (stp t v (l.getD i op0)).1 (stp t v (l.getD i op0)).2.1 o
def lexle : List Nat → List Nat → Prop
  | [], _ => True
  | _ :: _, [] => False
  | a :: x, b :: y => a < b ∨ (a = b ∧ lexle x y)
theorem lexle_antisymm : ∀ {x y : List Nat}, lexle x y → lexle y x → x = y
  | [], [], _, _ => rfl
  | [], _ :: _, _, h => h.elim
  | _ :: _, [], h, _ => h.elim
  | a :: x, b :: y, h, g => by
    rcases h with h | ⟨rfl, h⟩
    · rcases g with g | ⟨rfl, g⟩
      · omega
      · omega
    · rcases g with g | ⟨_, g⟩
      · omega
      · rw [lexle_antisymm h g]
def Least (l : List OpT) (m : Nat) (t : Bool) (v : List UInt8) (o : List Nat) : Prop := comp l m t v o ∧ ∀ o', comp l m t v o' → lexle o o'
theorem Least.one {l : List OpT} {m : Nat} {t : Bool} {v : List UInt8} {o o' : List Nat} (h : Least l m t v o) (g : Least l m t v o') : o = o' := lexle_antisymm (h.2 _ g.1) (g.2 _ h.1)
abbrev SpotM := List ((Int × Bool × List UInt8) × Int)
def Snd (l : List OpT) (f : SpotM) : Prop := ∀ (m : Nat) (t : Bool) (v : List UInt8), m < 2 ^ l.length → (0 : Int) < (mget f ((m : Int), t, v)).getD (0 : Int) → ∀ o, ¬ comp l m t v o
theorem Snd.nil (l : List OpT) : Snd l [] := fun m t v _ h => by simp [mget] at h
theorem Snd.put {l : List OpT} {f : SpotM} (h : Snd l f) {m : Nat} {t : Bool} {v : List UInt8} (hn : ∀ o, ¬ comp l m t v o) (c : Int) : Snd l (mput f ((m : Int), t, v) c) := by
  intro m' t' v' hm hp
  rw [mget_mput] at hp
  split at hp
  · rename_i e
    simp only [Prod.mk.injEq] at e
    obtain ⟨e1, rfl, rfl⟩ := e
    have : m = m' := by omega
    subst this
    exact hn
  · exact h m' t' v' hm hp
section
variable {l : List OpT} (hn : l.length ≤ 12)
include hn
theorem mask_lt {m : Nat} (hm : m < 2 ^ l.length) : m < 2 ^ 60 := Nat.lt_of_lt_of_le hm (Nat.pow_le_pow_right (by decide) (by omega))
theorem whole_loop {m : Nat} (hm : m < 2 ^ l.length) : ∀ (d i k : Nat), i + d = l.length → d + 1 ≤ k → lin_search_whole.l0 l (m : Int) k (i : Int) = some (if (List.range' i d).all (fun i => isO (l.getD i op0) || m.testBit i) = true then .inl () else .inr false)
  | d, i, 0, _, hk => by omega
  | 0, i, k + 1, hd, _ => by
    simp only [lin_search_whole.l0]
    rw [if_neg (by omega)]; rfl
  | d + 1, i, k + 1, hd, hk => by
    have ih := whole_loop hm d (i + 1) k (by omega) (by omega)
    simp only [lin_search_whole.l0]
    rw [if_pos (by omega), if_pos (by omega), w64 (n := (i : Int) + 1) (by omega) (by omega), List.range'_succ, List.all_cons]
    simp only [Int.toNat_natCast]
    have e : ((i : Int) + 1) = ((i + 1 : Nat) : Int) := by omega
    rw [e, open_eq (l.getD i op0)]
    simp only [Option.bind_some]
    have hb := lin_and (mask_lt hn hm) (show i < 60 by omega)
    simp only [Int.toNat_natCast] at hb
    by_cases ho : isO (l.getD i op0) = true
    · rw [ho, if_neg (by simp)]; simp only [Option.bind_some]; rw [if_neg (by simp), ih, Bool.true_or, Bool.true_and]
    · have ho' : isO (l.getD i op0) = false := by simpa using ho
      rw [ho', if_pos (by simp), if_pos (by omega)]
      simp only [Option.bind_some]
      by_cases hbit : m.testBit i = true
      · rw [if_neg (by rw [decide_eq_true_eq, hb, hbit]; simp), ih, hbit, Bool.or_true, Bool.true_and]
      · have : m.testBit i = false := by simpa using hbit
        rw [if_pos (by rw [decide_eq_true_eq, hb, this]), this, Bool.or_false, Bool.false_and]; rfl
theorem whole_eq {m : Nat} (hm : m < 2 ^ l.length) {k : Nat} (hk : l.length + 1 ≤ k) (f : SpotM) (ord : List Int) : lin_search_whole.f k l f ord (m : Int) = some (whole l m) := by
  unfold lin_search_whole.f
  have := whole_loop hn hm l.length 0 k (by omega) hk
  rw [show ((0 : Nat) : Int) = 0 from rfl] at this
  rw [this]
  unfold whole
  split
  · rename_i h; rw [h]; rfl
  · rename_i h; simp only [Bool.not_eq_true] at h; rw [h]; rfl
theorem may_loop {m i : Nat} (hm : m < 2 ^ l.length) (hi : i < l.length) : ∀ (d j k : Nat), j + d = l.length → d + 1 ≤ k → lin_search_may.l0 l (m : Int) (i : Int) k (j : Int) = some (if (List.range' j d).all (mayP l m i) = true then .inl () else .inr false)
  | d, j, 0, _, hk => by omega
  | 0, j, k + 1, hd, _ => by
    simp only [lin_search_may.l0]
    rw [if_neg (by omega)]; rfl
  | d + 1, j, k + 1, hd, hk => by
    have ih := may_loop hm hi d (j + 1) k (by omega) (by omega)
    simp only [lin_search_may.l0]
    rw [if_pos (by omega), if_pos (by omega), w64 (n := (j : Int) + 1) (by omega) (by omega), List.range'_succ, List.all_cons]
    simp only [Int.toNat_natCast]
    have e : ((j : Int) + 1) = ((j + 1 : Nat) : Int) := by omega
    rw [e, openv_eq (l.getD j op0)]
    have hb := lin_and (mask_lt hn hm) (show j < 60 by omega)
    simp only [Int.toNat_natCast] at hb
    by_cases ho : isO (l.getD j op0) = true
    · rw [ho, if_neg (by simp)]; simp only [Option.bind_some]; rw [if_neg (by simp), ih, show mayP l m i j = true by unfold mayP; rw [ho, Bool.true_or, Bool.true_or], Bool.true_and]
    · have ho' : isO (l.getD j op0) = false := by simpa using ho
      rw [ho', if_pos (by simp), if_pos (by omega)]
      by_cases hbit : m.testBit j = true
      · rw [if_neg (by rw [hb, hbit]; simp)]; simp only [Option.bind_some]; rw [if_neg (by simp), ih, show mayP l m i j = true by unfold mayP; rw [hbit, Bool.or_true, Bool.true_or], Bool.true_and]
      · have hbf : m.testBit j = false := by simpa using hbit
        rw [if_pos (hb.2 hbf), if_pos (by omega)]
        simp only [Option.bind_some]
        by_cases hc : oBack (l.getD j op0) < oCall (l.getD i op0)
        · rw [if_pos (decide_eq_true hc), show mayP l m i j = false by unfold mayP; rw [hbf, ho', decide_eq_true hc]; rfl, Bool.false_and]; rfl
        · rw [if_neg (by rw [decide_eq_false hc]; simp), ih, show mayP l m i j = true by unfold mayP; rw [decide_eq_false hc]; simp, Bool.true_and]
theorem may_eq {m i : Nat} (hm : m < 2 ^ l.length) (hi : i < l.length) {k : Nat} (hk : l.length + 1 ≤ k) (f : SpotM) (ord : List Int) : lin_search_may.f k l f ord (m : Int) (i : Int) = some (may l m i) := by
  unfold lin_search_may.f
  have hb := lin_and (mask_lt hn hm) (show i < 60 by omega)
  rw [if_pos (by omega)]
  have := may_loop hn hm hi l.length 0 k (by omega) hk
  rw [show ((0 : Nat) : Int) = 0 from rfl] at this
  rw [this]
  unfold may
  by_cases hbit : m.testBit i = true
  · rw [if_neg (by rw [hb, hbit]; simp), hbit]; simp
  · have hbf : m.testBit i = false := by simpa using hbit
    rw [if_pos (hb.2 hbf), hbf]
    cases hal : (List.range' 0 l.length).all (mayP l m i) <;> simp [orR]
theorem from_eq : ∀ (d m : Nat) (t : Bool) (v : List UInt8) (f : SpotM) (ord : List Int) (k : Nat), 2 ^ l.length - m ≤ d → m < 2 ^ l.length → Snd l f → d + 40 ≤ k → ord.length + d ≤ 5000 →
    ∃ f', Snd l f' ∧ ((∃ o, lin_search_from.f k l f ord (m : Int) t v = some (true, f', ord ++ o.map fun (j : Nat) => (j : Int)) ∧ Least l m t v o) ∨ (lin_search_from.f k l f ord (m : Int) t v = some (false, f', ord) ∧ ∀ o, ¬ comp l m t v o))
  | 0, m, t, v, f, ord, k, hd, hm, _, _, _ => by omega
  | d + 1, m, t, v, f, ord, 0, hd, hm, hs, hk, ho => by omega
  | d + 1, m, t, v, f, ord, k + 1, hd, hm, hs, hk, ho => by
    rw [lin_search_from.f]
    unfold lin_search_from.fr
    rw [whole_eq hn hm (by omega), Option.bind_some]
    by_cases hw : whole l m = true
    · rw [if_pos hw]
      exact ⟨f, hs, .inl ⟨[], by simp, hw, fun _ _ => trivial⟩⟩
    rw [if_neg hw]
    by_cases hp : (0 : Int) < (mget f ((m : Int), t, v)).getD (0 : Int)
    · rw [if_pos hp]
      exact ⟨f, hs, .inr ⟨rfl, hs m t v hm hp⟩⟩
    rw [if_neg hp]
    have loop : ∀ (r i kk : Nat) (f : SpotM), i + r = l.length → Snd l f → r + 20 ≤ kk → (∀ j, j < i → ∀ o, ¬ comp l m t v (j :: o)) →
        ∃ f', Snd l f' ∧ ((∃ o, lin_search_from.l0 l (m : Int) t v (lin_search_from.f k) kk (i : Int) f ord = some (.inr (true, f', ord ++ o.map fun (j : Nat) => (j : Int))) ∧ Least l m t v o) ∨ (lin_search_from.l0 l (m : Int) t v (lin_search_from.f k) kk (i : Int) f ord = some (.inl (f', ord)) ∧ ∀ j, j < l.length → ∀ o, ¬ comp l m t v (j :: o))) := by
      intro r
      induction r with
      | zero =>
        intro i kk f hi hs hkk hno
        obtain ⟨kk, rfl⟩ : ∃ q, kk = q + 1 := ⟨kk - 1, by omega⟩
        simp only [lin_search_from.l0]
        rw [if_neg (by omega)]
        exact ⟨f, hs, .inr ⟨rfl, fun j hj => hno j (by omega)⟩⟩
      | succ r ihr =>
        intro i kk f hi hs hkk hno
        obtain ⟨kk, rfl⟩ : ∃ q, kk = q + 1 := ⟨kk - 1, by omega⟩
        simp only [lin_search_from.l0]
        have e : ((i : Int) + 1) = ((i + 1 : Nat) : Int) := by omega
        rw [if_pos (by omega), if_pos (by omega), w64 (n := (i : Int) + 1) (by omega) (by omega), e, may_eq hn hm (show i < l.length by omega) (by omega), Option.bind_some]
        simp only [Int.toNat_natCast]
        have nx : (∀ o, ¬ comp l m t v (i :: o)) → ∀ j, j < i + 1 → ∀ o, ¬ comp l m t v (j :: o) := by
          intro hni j hj o hc
          by_cases h : j < i
          · exact hno j h o hc
          · obtain rfl : j = i := by omega
            exact hni o hc
        have next : ∀ f, Snd l f → (∀ o, ¬ comp l m t v (i :: o)) → _ := fun f hs hni => ihr (i + 1) kk f (by omega) hs (by omega) (nx hni)
        by_cases hmay : may l m i = true
        · rw [if_neg (by simp [hmay]), stp_eq t v (l.getD i op0), Option.bind_some, open_eq (l.getD i op0), Option.bind_some]
          by_cases hok : okR (l.getD i op0) (stp t v (l.getD i op0)).2.2 = true
          · have hor := lin_or (mask_lt hn hm) (show i < 60 by omega)
            simp only [Int.toNat_natCast] at hor
            have hbf : m.testBit i = false := by unfold may at hmay; simp at hmay; exact hmay.1
            have hadd := or_add i m hbf
            have hlt := or_lt hm (show i < l.length by omega)
            have hpos : 0 < 2 ^ i := Nat.two_pow_pos i
            rw [if_neg (by unfold okR at hok; intro hh; simp only [Bool.and_eq_true, Bool.not_eq_true'] at hh; rw [hh.1] at hok; simp only [Bool.false_or] at hok; rw [hh.2] at hok; cases hok),
              if_pos (by simp; omega), if_pos (by omega), hor]
            obtain ⟨f', hs', hres⟩ := from_eq d (m ||| 2 ^ i) (stp t v (l.getD i op0)).1 (stp t v (l.getD i op0)).2.1 f (ord ++ [(i : Int)]) k (by omega) hlt hs (by omega) (by simp; omega)
            rcases hres with ⟨o, hr, hl⟩ | ⟨hr, hno'⟩
            · rw [hr, Option.bind_some]
              simp only [if_true]
              refine ⟨f', hs', .inl ⟨i :: o, by simp, ⟨by omega, hmay, hok, hl.1⟩, fun o' hc => ?_⟩⟩
              match o', hc with
              | [], hc => exact absurd hc hw
              | j :: o', hc =>
                by_cases hji : j < i
                · exact absurd hc (hno j hji o')
                · by_cases hij : i < j
                  · exact .inl hij
                  · obtain rfl : i = j := by omega
                    exact .inr ⟨rfl, hl.2 o' hc.2.2.2⟩
            · rw [hr, Option.bind_some]
              simp only [Bool.false_eq_true, if_false]
              have hlen : ((ord ++ [(i : Int)]).length : Int) - 1 = (ord.length : Int) := by simp
              rw [hlen, w64 (by omega) (by omega), if_pos (by refine ⟨by omega, by omega, by simp; omega⟩)]
              have hcut : cut (ord ++ [(i : Int)]) (0 : Int) (ord.length : Int) = ord := by simp [cut]
              rw [hcut]
              exact next f' hs' fun o hc => hno' o hc.2.2.2
          · rw [if_pos (by
              unfold okR at hok
              rw [Bool.or_eq_true, not_or, Bool.not_eq_true, Bool.not_eq_true] at hok
              rw [hok.1, hok.2]; rfl)]
            exact next f hs fun o hc => hok hc.2.2.1
        · rw [if_pos (by simpa using hmay)]
          exact next f hs fun o hc => hmay hc.2.1
    obtain ⟨f', hs', hres⟩ := loop l.length 0 k f (by omega) hs (by omega) (fun j hj => by omega)
    rw [show ((0 : Nat) : Int) = 0 from rfl] at hres
    rcases hres with ⟨o, hr, hl⟩ | ⟨hr, hno⟩
    · rw [hr]
      exact ⟨f', hs', .inl ⟨o, rfl, hl⟩⟩
    · rw [hr]
      have hnone : ∀ o, ¬ comp l m t v o := fun o hc => match o, hc with
        | [], hc => hw hc
        | j :: o, hc => hno j hc.1 o hc
      exact ⟨_, hs'.put hnone _, .inr ⟨rfl, hnone⟩⟩
end
end Go.Proofs.Ytlblpegbgbgliaa
