/- Histories: the document's own search answers the same. Conditions: as each says. -/
import Derived.Test.YtlblpegbgbgliaaPlLin3
namespace Go.Proofs.Ytlblpegbgbgliaa
set_option linter.unusedVariables false
set_option linter.unusedSimpArgs false
open Go.RowKit
theorem bit_eq {i : Nat} (h : i < 60) : synodref16_bit.f (i : Int) = some ((2 ^ i : Nat) : Int) := by
  unfold synodref16_bit.f
  rw [if_pos (by omega), shl_bit h]
section
variable {h : List OpT} {ns : List Int} (hn : ns.length ≤ 12) (hin : ∀ i ∈ ns, ∃ j : Nat, i = (j : Int) ∧ j < h.length)
include hin in
theorem ns_at {j : Nat} (hj : j < ns.length) : ∃ i : Nat, ns.getD j 0 = (i : Int) ∧ i < h.length ∧ h.getD i op0 = (ns.map fun i => h.getD i.toNat op0).getD j op0 := by
  obtain ⟨i, h1, h2⟩ := hin (ns.getD j 0) (by rw [getD_at hj]; exact List.getElem_mem _)
  refine ⟨i, h1, h2, ?_⟩
  rw [getD_at (l := ns.map _) (by simpa using hj)]
  rw [getD_at hj] at h1
  simp [h1]
include hn hin
theorem rmay_loop {m i : Nat} (hm : m < 2 ^ ns.length) (hi : i < ns.length) : ∀ (d j k : Nat), j + d = ns.length → d + 1 ≤ k → synodref16_search_may.l0 h ns (m : Int) (i : Int) k (j : Int) = some (if (List.range' j d).all (mayP (ns.map fun i => h.getD i.toNat op0) m i) = true then .inl () else .inr false)
  | d, j, 0, _, hk => by omega
  | 0, j, k + 1, hd, _ => by
    simp only [synodref16_search_may.l0]
    rw [if_neg (by omega)]; rfl
  | d + 1, j, k + 1, hd, hk => by
    have ih := rmay_loop hm hi d (j + 1) k (by omega) (by omega)
    have e : ((j : Int) + 1) = ((j + 1 : Nat) : Int) := by omega
    have hm60 : m < 2 ^ 60 := Nat.lt_of_lt_of_le hm (Nat.pow_le_pow_right (by decide) (by omega))
    have hp := Nat.two_pow_pos j
    obtain ⟨q, hq, hql, hqe⟩ := ns_at hin (show j < ns.length by omega)
    obtain ⟨p, hp2, hpl, hpe⟩ := ns_at hin hi
    simp only [synodref16_search_may.l0]
    rw [if_pos (by omega), if_pos (by omega), w64 (n := (j : Int) + 1) (by omega) (by omega), List.range'_succ, List.all_cons]
    simp only [Int.toNat_natCast, hq, hp2, hqe, hpe]
    rw [if_pos (by omega), e, bit_eq (by omega), Option.bind_some, if_pos (by omega), ref_bit hm60]
    obtain ⟨x, hx⟩ : ∃ x, (ns.map fun i => h.getD i.toNat op0).getD j op0 = x := ⟨_, rfl⟩
    obtain ⟨y, hy⟩ : ∃ y, (ns.map fun i => h.getD i.toNat op0).getD i op0 = y := ⟨_, rfl⟩
    simp only [hx, hy]
    have hP : mayP (ns.map fun i => h.getD i.toNat op0) m i j = ((isO x || m.testBit j) || !decide (oBack x < oCall y)) := by unfold mayP; simp only [hx, hy]
    rw [hP, ih]
    unfold isO
    by_cases hbit : m.testBit j = true
    · rw [hbit, Bool.or_true, Bool.true_or, Bool.true_and]
      simp
    · have hbf : m.testBit j = false := by simpa using hbit
      rw [hbf, Bool.or_false]
      by_cases ho : oBack x = 0
      · rw [decide_eq_true ho, Bool.true_or, Bool.true_and]
        simp
      · by_cases hc : oBack x < oCall y
        · rw [decide_eq_false ho, Bool.false_or, decide_eq_true hc, Bool.not_true, Bool.false_and]
          simp only [decide_eq_false ho, Bool.not_false, Bool.and_true]
          rw [if_pos (by simp), if_pos (by omega), if_pos (by omega)]; rfl
        · rw [decide_eq_false ho, Bool.false_or, decide_eq_false hc, Bool.not_false, Bool.true_and]
          simp only [decide_eq_false ho, Bool.not_false, Bool.and_true]
          rw [if_pos (by simp), if_pos (by omega), if_pos (by omega)]; rfl
theorem rmay_eq {m i : Nat} (hm : m < 2 ^ ns.length) (hi : i < ns.length) {k : Nat} (hk : ns.length + 1 ≤ k) (f : SpotM) (t : Bool) (v : List UInt8) : synodref16_search_may.f k h ns f (m : Int) t v (i : Int) = some (may (ns.map fun i => h.getD i.toNat op0) m i) := by
  unfold synodref16_search_may.f
  have hm60 : m < 2 ^ 60 := Nat.lt_of_lt_of_le hm (Nat.pow_le_pow_right (by decide) (by omega))
  have hp := Nat.two_pow_pos i
  have := rmay_loop hn hin hm hi ns.length 0 k (by omega) hk
  rw [show ((0 : Nat) : Int) = 0 from rfl] at this
  rw [bit_eq (by omega), Option.bind_some, if_pos (by omega), ref_bit hm60, this]
  unfold may
  rw [List.length_map]
  by_cases hbit : m.testBit i = true
  · rw [hbit]; simp
  · have hbf : m.testBit i = false := by simpa using hbit
    rw [hbf]
    cases hal : (List.range' 0 ns.length).all (mayP (ns.map fun i => h.getD i.toNat op0) m i) <;> simp [orR]
theorem rall_loop {m : Nat} (hm : m < 2 ^ ns.length) : ∀ (d i k : Nat) (b : Bool), i + d = ns.length → d + 1 ≤ k → synodref16_search_from.l0 h ns (m : Int) k b (i : Int) = some (b && (List.range' i d).all (fun j => isO ((ns.map fun i => h.getD i.toNat op0).getD j op0) || m.testBit j))
  | d, i, 0, _, _, hk => by omega
  | 0, i, k + 1, b, hd, _ => by
    simp only [synodref16_search_from.l0]
    rw [if_neg (by omega)]; simp
  | d + 1, i, k + 1, b, hd, hk => by
    have ih := fun b => rall_loop hm d (i + 1) k b (by omega) (by omega)
    have e : ((i : Int) + 1) = ((i + 1 : Nat) : Int) := by omega
    have hm60 : m < 2 ^ 60 := Nat.lt_of_lt_of_le hm (Nat.pow_le_pow_right (by decide) (by omega))
    have hp := Nat.two_pow_pos i
    obtain ⟨q, hq, hql, hqe⟩ := ns_at hin (show i < ns.length by omega)
    simp only [synodref16_search_from.l0]
    rw [if_pos (by omega), w64 (n := (i : Int) + 1) (by omega) (by omega), List.range'_succ, List.all_cons]
    simp only [Int.toNat_natCast, hq, hqe]
    rw [e]
    cases b with
    | false => rw [if_neg (by simp), ih]; simp
    | true =>
      rw [if_pos rfl, if_pos (by omega), if_pos (by omega)]
      obtain ⟨x, hx⟩ : ∃ x, (ns.map fun i => h.getD i.toNat op0).getD i op0 = x := ⟨_, rfl⟩
      simp only [hx]
      by_cases ho : oBack x = 0
      · rw [if_pos ho, ih, show isO x = true from decide_eq_true ho, Bool.true_or, Bool.true_and, Bool.true_and]
      · rw [if_neg ho, bit_eq (by omega), Option.bind_some, if_pos (by omega), ref_bit hm60, ih, show isO x = false from decide_eq_false ho, Bool.false_or, Bool.true_and]
        cases m.testBit i <;> rfl
theorem rfrom_eq : ∀ (d m : Nat) (t : Bool) (v : List UInt8) (f : SpotM) (k : Nat), 2 ^ ns.length - m ≤ d → m < 2 ^ ns.length → Snd (ns.map fun i => h.getD i.toNat op0) f → d + 40 ≤ k →
    ∃ f', Snd (ns.map fun i => h.getD i.toNat op0) f' ∧ ((∃ o, synodref16_search_from.f k h ns f (m : Int) t v = some (o.map (fun j => ns.getD j 0), true, f') ∧ Least (ns.map fun i => h.getD i.toNat op0) m t v o) ∨ (synodref16_search_from.f k h ns f (m : Int) t v = some ([], false, f') ∧ ∀ o, ¬ comp (ns.map fun i => h.getD i.toNat op0) m t v o))
  | 0, m, t, v, f, k, hd, hm, _, _ => by omega
  | d + 1, m, t, v, f, 0, hd, hm, hs, hk => by omega
  | d + 1, m, t, v, f, k + 1, hd, hm, hs, hk => by
    have hml : m < 2 ^ (ns.map fun i => h.getD i.toNat op0).length := by rw [List.length_map]; exact hm
    have h12 : 2 ^ ns.length ≤ 2 ^ 12 := Nat.pow_le_pow_right (by decide) hn
    rw [synodref16_search_from.f]
    unfold synodref16_search_from.fr
    by_cases hp : (0 : Int) < (mget f ((m : Int), t, v)).getD (0 : Int)
    · rw [if_pos hp]
      exact ⟨f, hs, .inr ⟨rfl, hs m t v hml hp⟩⟩
    rw [if_neg hp]
    have hal := rall_loop hn hin hm ns.length 0 k true (by omega) (by omega)
    rw [show ((0 : Nat) : Int) = 0 from rfl, Bool.true_and] at hal
    rw [hal, Option.bind_some]
    have hwl : ((List.range' 0 ns.length).all fun j => isO ((ns.map fun i => h.getD i.toNat op0).getD j op0) || m.testBit j) = whole (ns.map fun i => h.getD i.toNat op0) m := by unfold whole; rw [List.length_map]
    rw [hwl]
    by_cases hw : whole (ns.map fun i => h.getD i.toNat op0) m = true
    · rw [if_pos hw]
      exact ⟨f, hs, .inl ⟨[], rfl, hw, fun _ _ => trivial⟩⟩
    rw [if_neg hw]
    have loop : ∀ (r i kk : Nat) (f : SpotM), i + r = ns.length → Snd (ns.map fun i => h.getD i.toNat op0) f → r + 20 ≤ kk → (∀ j, j < i → ∀ o, ¬ comp (ns.map fun i => h.getD i.toNat op0) m t v (j :: o)) →
        ∃ f', Snd (ns.map fun i => h.getD i.toNat op0) f' ∧ ((∃ o, synodref16_search_from.l1 h ns (m : Int) t v (synodref16_search_from.f k) kk (i : Int) f = some (.inr (o.map (fun j => ns.getD j 0), true, f')) ∧ Least (ns.map fun i => h.getD i.toNat op0) m t v o) ∨ (synodref16_search_from.l1 h ns (m : Int) t v (synodref16_search_from.f k) kk (i : Int) f = some (.inl f') ∧ ∀ j, j < ns.length → ∀ o, ¬ comp (ns.map fun i => h.getD i.toNat op0) m t v (j :: o))) := by
      intro r
      induction r with
      | zero =>
        intro i kk f hi hs hkk hno
        obtain ⟨kk, rfl⟩ : ∃ q, kk = q + 1 := ⟨kk - 1, by omega⟩
        simp only [synodref16_search_from.l1]
        rw [if_neg (by omega)]
        exact ⟨f, hs, .inr ⟨rfl, fun j hj => hno j (by omega)⟩⟩
      | succ r ihr =>
        intro i kk f hi hs hkk hno
        obtain ⟨kk, rfl⟩ : ∃ q, kk = q + 1 := ⟨kk - 1, by omega⟩
        have e : ((i : Int) + 1) = ((i + 1 : Nat) : Int) := by omega
        have hil : i < ns.length := by omega
        have hm60 : m < 2 ^ 60 := by omega
        have nx : (∀ o, ¬ comp (ns.map fun i => h.getD i.toNat op0) m t v (i :: o)) → ∀ j, j < i + 1 → ∀ o, ¬ comp (ns.map fun i => h.getD i.toNat op0) m t v (j :: o) := by
          intro hni j hj o hc
          by_cases h : j < i
          · exact hno j h o hc
          · obtain rfl : j = i := by omega
            exact hni o hc
        have next : ∀ f, Snd (ns.map fun i => h.getD i.toNat op0) f → (∀ o, ¬ comp (ns.map fun i => h.getD i.toNat op0) m t v (i :: o)) → _ := fun f hs hni => ihr (i + 1) kk f (by omega) hs (by omega) (nx hni)
        obtain ⟨q, hq, hql, hqe⟩ := ns_at hin hil
        simp only [synodref16_search_from.l1]
        rw [if_pos (by omega), w64 (n := (i : Int) + 1) (by omega) (by omega), e, rmay_eq hn hin hm hil (by omega), Option.bind_some]
        simp only [Int.toNat_natCast, hq, hqe]
        by_cases hmay : may (ns.map fun i => h.getD i.toNat op0) m i = true
        · rw [if_neg (by rw [hmay]; simp), if_pos (by omega), if_pos (by omega), rstp_eq t v ((ns.map fun i => h.getD i.toNat op0).getD i op0), Option.bind_some]
          by_cases hok : okR ((ns.map fun i => h.getD i.toNat op0).getD i op0) (stp t v ((ns.map fun i => h.getD i.toNat op0).getD i op0)).2.2 = true
          · have hbf : m.testBit i = false := by unfold may at hmay; rw [Bool.and_eq_true, Bool.not_eq_true'] at hmay; exact hmay.1
            have hadd := or_add i m hbf
            have hlt := or_lt hm hil
            have hpos := Nat.two_pow_pos i
            rw [if_neg (by
              unfold okR isO at hok
              intro hh
              rw [Bool.and_eq_true, Bool.not_eq_true'] at hh
              rw [hh.1, Bool.false_or] at hok
              rw [hok] at hh
              exact absurd hh.2 (by simp)), bit_eq (by omega), Option.bind_some]
            have ew : IntKind.i64.wrap ((m : Int) + ((2 ^ i : Nat) : Int)) = ((m ||| 2 ^ i : Nat) : Int) := by
              rw [hadd]
              have := pow_lt60 (show i < 60 by omega)
              generalize 2 ^ i = p at this ⊢
              rw [w64 (by omega) (by omega)]; omega
            rw [ew]
            obtain ⟨f', hs', hres⟩ := rfrom_eq d (m ||| 2 ^ i) (stp t v ((ns.map fun i => h.getD i.toNat op0).getD i op0)).1 (stp t v ((ns.map fun i => h.getD i.toNat op0).getD i op0)).2.1 f k (by omega) hlt hs (by omega)
            rcases hres with ⟨o, hr, hl⟩ | ⟨hr, hno'⟩
            · rw [hr, Option.bind_some]
              have hol := comp_len (by rw [List.length_map]; exact hlt) hl.1
              rw [List.length_map] at hol
              simp only [if_true]
              rw [if_pos (by omega), if_pos (by simp; omega)]
              refine ⟨f', hs', .inl ⟨i :: o, by rw [List.map_cons, hq]; rfl, ⟨by rw [List.length_map]; exact hil, hmay, hok, hl.1⟩, fun o' hc => ?_⟩⟩
              match o', hc with
              | [], hc => exact absurd hc hw
              | j :: o', hc =>
                by_cases hji : j < i
                · exact absurd hc (hno j hji o')
                · by_cases hij : i < j
                  · exact .inl hij
                  · obtain rfl : i = j := by omega
                    exact .inr ⟨rfl, hl.2 o' hc.2.2.2⟩
            · rw [hr, Option.bind_some]
              simp only [Bool.false_eq_true, if_false]
              exact next f' hs' fun o hc => hno' o hc.2.2.2
          · rw [if_pos (by
              unfold okR isO at hok
              rw [Bool.or_eq_true, not_or, Bool.not_eq_true, Bool.not_eq_true] at hok
              rw [hok.1, hok.2]; rfl)]
            exact next f hs fun o hc => hok hc.2.2.1
        · rw [if_pos (by rw [Bool.eq_false_iff.2 hmay]; rfl)]
          exact next f hs fun o hc => hmay hc.2.1
    obtain ⟨f', hs', hres⟩ := loop ns.length 0 k f (by omega) hs (by omega) (fun j hj => by omega)
    rw [show ((0 : Nat) : Int) = 0 from rfl] at hres
    rcases hres with ⟨o, hr, hl⟩ | ⟨hr, hno⟩
    · rw [hr]
      exact ⟨f', hs', .inl ⟨o, rfl, hl⟩⟩
    · rw [hr]
      have hnone : ∀ o, ¬ comp (ns.map fun i => h.getD i.toNat op0) m t v o := fun o hc => match o, hc with
        | [], hc => hw hc
        | j :: o, hc => hno j (by have := hc.1; rwa [List.length_map] at this) o hc
      exact ⟨_, hs'.put hnone _, .inr ⟨rfl, hnone⟩⟩
end
theorem rof_loop {h : List OpT} {key : List UInt8} (hh : h.length < 2 ^ 40) : ∀ (d i k : Nat) (acc : List Int), i + d = h.length → acc.length ≤ i → d + 1 ≤ k → synodref16_Explain.l0 h key k (i : Int) acc = some (acc ++ ofR h key i d)
  | d, i, 0, acc, _, _, hk => by omega
  | 0, i, k + 1, acc, hd, _, _ => by
    simp only [synodref16_Explain.l0]
    rw [if_neg (by omega)]
    simp [ofR]
  | d + 1, i, k + 1, acc, hd, ha, hk => by
    have ih := fun acc ha => rof_loop (key := key) hh d (i + 1) k acc (by omega) ha (by omega)
    simp only [synodref16_Explain.l0]
    rw [if_pos (by omega), if_pos (by omega), w64 (n := (i : Int) + 1) (by omega) (by omega), ofR_succ, if_pos (by omega)]
    simp only [Int.toNat_natCast]
    have e : ((i : Int) + 1) = ((i + 1 : Nat) : Int) := by omega
    rw [e]
    unfold inK
    obtain ⟨x, hx⟩ : ∃ x, h.getD i op0 = x := ⟨_, rfl⟩
    simp only [hx]
    rw [rcnt_eq x, Option.bind_some]
    by_cases hc : cnt x = true
    · rw [if_pos hc]
      simp only [Option.bind_some]
      by_cases hk2 : oKey x = key
      · rw [if_pos (decide_eq_true hk2), if_pos (by simp; omega), ih _ (by simp; omega), if_pos (by simp [hc, hk2])]
        simp
      · rw [if_neg (by rw [decide_eq_false hk2]; simp), ih _ (by omega), if_neg (by rw [decide_eq_false hk2]; simp)]
        simp
    · rw [if_neg hc]
      simp only [Option.bind_some]
      rw [if_neg (by simp), ih _ (by omega), if_neg (by simp [hc])]
      simp
theorem rexplain_eq {h : List OpT} {key : List UInt8} (hh : h.length ≤ 600) (h12 : (ofL h key).length ≤ 12) {k : Nat} (hk : 6000 ≤ k) : synodref16_Explain.f k h key = some (explL h key) := by
  unfold synodref16_Explain.f
  have h0 := rof_loop (h := h) (key := key) (by omega) h.length 0 k [] (by omega) (by simp) (by omega)
  rw [show ((0 : Nat) : Int) = 0 from rfl, List.nil_append] at h0
  have e0 : ofR h key 0 h.length = ofL h key := rfl
  rw [h0, Option.bind_some, e0]
  have hp : 2 ^ (ofL h key).length ≤ 2 ^ 12 := Nat.pow_le_pow_right (by decide) h12
  have hp0 := Nat.two_pow_pos (ofL h key).length
  obtain ⟨f', _, hr⟩ := rfrom_eq (h := h) (ns := ofL h key) h12 (fun i hi => by obtain ⟨j, a, b, _⟩ := ofL_mem.1 hi; exact ⟨j, a, b⟩) (2 ^ (ofL h key).length) 0 false [] [] k (by omega) (by omega) (Snd.nil _) (by omega)
  rw [show ((0 : Nat) : Int) = 0 from rfl] at hr
  rcases hr with ⟨o, hr, hl⟩ | ⟨hr, hno⟩
  · rw [hr, Option.bind_some, expl_of (h := h) (key := key) (.inl ⟨o, hl, rfl⟩)]
  · rw [hr, Option.bind_some, expl_of (h := h) (key := key) (.inr ⟨hno, rfl⟩)]
theorem rcheck_l0 {h : List OpT} {ks : List (List UInt8)} (hh : h.length ≤ 600) (h12 : ∀ key, (ofL h key).length ≤ 12) (hks : ks.length < 2 ^ 40) : ∀ (d i k : Nat), i + d = ks.length → d + 6001 ≤ k → synodref16_Check.l0 h ks k (i : Int) = some (if (ks.drop i).all (fun key => (explL h key).2) = true then .inl () else .inr false)
  | d, i, 0, _, hk => by omega
  | 0, i, k + 1, hd, _ => by
    simp only [synodref16_Check.l0]
    rw [if_neg (by omega), List.drop_of_length_le (by omega)]; rfl
  | d + 1, i, k + 1, hd, hk => by
    have ih := rcheck_l0 hh h12 hks d (i + 1) k (by omega) (by omega)
    simp only [synodref16_Check.l0]
    have e : ((i : Int) + 1) = ((i + 1 : Nat) : Int) := by omega
    rw [if_pos (by omega), if_pos (by omega), w64 (n := (i : Int) + 1) (by omega) (by omega), e, drop_at (show i < ks.length by omega) []]
    simp only [Int.toNat_natCast]
    rw [rexplain_eq hh (h12 _) (by omega), Option.bind_some, ih, List.all_cons]
    cases hc : (explL h (ks.getD i [])).2
    · simp
    · simp
theorem rcheck_eq {h : List OpT} (hh : h.length ≤ 600) (h12 : ∀ key, (ofL h key).length ≤ 12) {k : Nat} (hk : 7000 ≤ k) : synodref16_Check.f k h = some ((keysL h).all (fun key => (explL h key).2)) := by
  unfold synodref16_Check.f
  rw [rkeys_eq hh (by omega), Option.bind_some]
  have hkl := keysL_len h
  have := rcheck_l0 (ks := keysL h) hh h12 (by omega) (keysL h).length 0 k (by omega) (by omega)
  rw [show ((0 : Nat) : Int) = 0 from rfl, List.drop_zero] at this
  rw [this]
  cases hc : (keysL h).all (fun key => (explL h key).2) <;> simp [orR]
end Go.Proofs.Ytlblpegbgbgliaa
