/- Quoted words: the program's loop and the document's tell the same. Conditions: as each says. -/
import Derived.Test.YtbcnegennmpliaaDoorPlTx0
namespace Go.Proofs.YtbcnegennmpliaaDoor
set_option linter.unusedVariables false
set_option linter.unusedSimpArgs false
open Go.RowKit
abbrev QR := Option (List UInt8 × List UInt8)
def qres (n : Nat) (b : List UInt8) (q : QR) : List UInt8 × Int := match q with
  | some p => (b ++ p.1, ((n - p.2.length : Nat) : Int))
  | none => ([], 0)
theorem qres_cons {n : Nat} {b : List UInt8} {c : UInt8} {q : QR} : qres n (b ++ [c]) q = qres n b (q.map fun p => (c :: p.1, p.2)) := by
  cases q <;> simp [qres]
theorem pre1 {l : List UInt8} {z : UInt8} : Lib.hasPrefix l [z] = (match l with | d :: _ => decide (d.toNat = z.toNat) | [] => false) := by
  cases l with
  | nil => rfl
  | cons d t =>
    show (z == d && _) = _
    rw [List.isPrefixOf, Bool.and_true]
    by_cases h : d = z
    · subst h; simp
    · rw [show (z == d) = false from by simpa using fun e => h e.symm]
      simp only [decide_eq_false (fun e => h (UInt8.toNat_inj.1 e)), Bool.false_and]
theorem drop_cons {x : List UInt8} {i : Nat} {d : UInt8} {t : List UInt8} (h : x.drop i = d :: t) : i < x.length ∧ x.drop (i + 1) = t := by
  have hl : i < x.length := by
    rcases Nat.lt_or_ge i x.length with hh | hh
    · exact hh
    · rw [List.drop_of_length_le hh] at h; cases h
  refine ⟨hl, ?_⟩
  rw [List.drop_eq_getElem_cons hl] at h
  exact (List.cons.inj h).2
theorem quoted_l0 {x : List UInt8} (hx : x.length < 2 ^ 40) : ∀ (k : Nat) (b : List UInt8) (i : Nat), x.length - i < k → i ≤ x.length → b.length ≤ i →
    orR (text_quoted.l0 x k b (i : Int)) (fun _ => some (([] : List UInt8), (0 : Int))) = some (qres x.length b (qd (x.drop i)))
  | 0, b, i, h, _, _ => by omega
  | k + 1, b, i, hk, hi, hb => by
    rw [text_quoted.l0]
    by_cases hlt : i < x.length
    · have ed := getD_cons_of hlt
      have e1 := wi1 (n := i) (by omega)
      simp only [Int.toNat_natCast]
      rw [if_pos (by omega), if_pos (by omega), e1, if_pos (by omega), ed]
      generalize hc : x.getD i 0 = c
      rw [hc] at ed
      have ecut : cut x ((i + 1 : Nat) : Int) (x.length : Int) = x.drop (i + 1) := by rw [cut_to]; simp
      simp only [ecut]
      by_cases h34 : c.toNat = 34
      · rw [if_pos (by omega), qd_cons, if_pos h34]
        simp only [orR, qres, List.append_nil]
        have : (x.drop (i + 1)).length = x.length - (i + 1) := by simp
        rw [this]
        congr 3
        omega
      · rw [if_neg (by omega), plain_f, Option.bind_some, qd_cons, if_neg h34]
        by_cases hp : plainB c = false
        · rw [if_pos (by simp [hp]), if_pos hp]; rfl
        · rw [if_neg (by simp [hp]), if_neg hp]
          by_cases h92 : c.toNat = 92
          · have n92 : ¬ (c.toNat ≠ 92) := by simp [h92]
            rw [if_pos (show (c.toNat : Int) = 92 by omega), if_neg n92]
            simp only [strings_HasPrefix.f, Option.bind_some, pre1]
            rcases hd : x.drop (i + 1) with _ | ⟨d, t1⟩
            · simp only [Bool.false_eq_true, if_false, Option.bind_some, escaped_f]
              rfl
            · obtain ⟨hl1, ht1⟩ := drop_cons hd
              simp only []
              by_cases hq : d.toNat = 34 ∨ d.toNat = 92
              · rw [if_pos hq]
                have e3 : (if decide (d.toNat = (34 : UInt8).toNat) = true then some true else some (decide (d.toNat = (92 : UInt8).toNat))) = some true := by
                  rcases hq with hq | hq
                  · rw [if_pos (by simp [hq])]
                  · rw [if_neg (by simp [hq])]; simp [hq]
                rw [e3, Option.bind_some, if_pos rfl, if_pos (by simp <;> omega)]
                simp only [show (0 : Int).toNat = 0 from rfl, List.getD_cons_zero]
                rw [if_pos (by simp <;> omega)]
                have e2 := wi1 (n := i + 1) (by omega)
                rw [e2, quoted_l0 hx k (b ++ [d]) (i + 1 + 1) (by omega) (by omega) (by simp <;> omega), ht1, qres_cons]
              · rw [if_neg hq]
                have e3 : (if decide (d.toNat = (34 : UInt8).toNat) = true then some true else some (decide (d.toNat = (92 : UInt8).toNat))) = some false := by
                  rw [if_neg (by simp; exact fun h => hq (.inl h))]
                  congr 1
                  simp
                  exact fun h => hq (.inr h)
                rw [e3, Option.bind_some, if_neg (by simp), escaped_f, Option.bind_some]
                rcases t1 with _ | ⟨h, _ | ⟨l, t2⟩⟩
                · simp [orR, qres]
                · simp [orR, qres]
                · obtain ⟨hl2, ht2⟩ := drop_cons ht1
                  obtain ⟨hl3, ht3⟩ := drop_cons ht2
                  simp only []
                  by_cases hxd : d.toNat = 120
                  · rw [if_pos hxd, if_pos hxd]
                    unfold escB
                    by_cases h1 : 0 ≤ hexI h ∧ 0 ≤ hexI l ∧ plainB (byte (16 * hexI h + hexI l)) = false
                    · have b1 := hexI_lt h
                      have b2 := hexI_lt l
                      rw [if_pos h1]
                      simp only [Option.isSome_some, Bool.not_true, Bool.false_eq_true, if_false, Option.bind_some]
                      rw [hexw ⟨h1.1, b1.2⟩ ⟨h1.2.1, b2.2⟩, if_pos (by omega), if_pos (by simp <;> omega)]
                      have e2 := wi3 (n := i) (by omega)
                      have e4 := wi1 (n := i + 3) (by omega)
                      rw [e2, e4, quoted_l0 hx k _ (i + 3 + 1) (by omega) (by omega) (by simp <;> omega), ht3, qres_cons]
                    · rw [if_neg h1]
                      simp [orR, qres]
                  · rw [if_neg hxd, if_neg hxd]
                    simp [orR, qres]
          · rw [if_neg (show ¬ (c.toNat : Int) = 92 by omega), if_pos h92, if_pos (by simp <;> omega), quoted_l0 hx k _ (i + 1) (by omega) (by omega) (by simp <;> omega), qres_cons]
    · rw [if_neg (by omega)]
      have : x.drop i = [] := List.drop_of_length_le (by omega)
      rw [this, qd_nil]
      rfl
theorem quoted_f {x : List UInt8} {k : Nat} (hx : x.length < 2 ^ 40) (hk : x.length < k) : text_quoted.f k x = some (qres x.length [] (qd x)) := by
  have := quoted_l0 hx k [] 0 (by omega) (by omega) (by simp)
  simpa [text_quoted.f] using this
/-! ### The document's -/
theorem value_l0 (c : UInt8) : ∀ (k j : Nat), j ≤ 16 → 16 - j < k → orR (synodref17_value.l0 (c.toNat : Int) k (j : Int)) (fun _ => some (-1)) = some (if Lib.indexByte (hexs.drop j) c = -1 then -1 else Lib.indexByte (hexs.drop j) c + (j : Int))
  | 0, j, h, hk => by omega
  | k + 1, j, h, hk => by
    rw [synodref17_value.l0]
    by_cases hj : j < 16
    · have ed := getD_cons_of (l := hexs) (i := j) (by simpa using hj)
      rw [if_pos (by omega), synodref17_digit.f, if_pos (by simp; omega), Option.bind_some, wi1 (by omega), ed]
      simp only [Int.toNat_natCast]
      show orR (if ((hexs.getD j 0).toNat : Int) = (c.toNat : Int) then _ else _) _ = _
      generalize hexs.getD j 0 = b
      rw [Lib.indexByte]
      by_cases hb : b = c
      · subst hb
        rw [if_pos rfl]
        simp [orR]
      · have hb' : b.toNat ≠ c.toNat := fun e => hb (UInt8.toNat_inj.1 e)
        rw [if_neg (by omega), value_l0 c k (j + 1) (by omega) (by omega)]
        have hbc : (b == c) = false := by simpa using hb
        simp only [hbc, Bool.false_eq_true, if_false, beq_iff_eq]
        have hnn : ∀ l : List UInt8, Lib.indexByte l c = -1 ∨ 0 ≤ Lib.indexByte l c := by
          intro l
          induction l with
          | nil => exact .inl rfl
          | cons a l ih =>
            rw [Lib.indexByte]
            split
            · right; omega
            · rcases ih with e | e
              · left; simp [e]
              · right
                split
                · rename_i h1 h2
                  simp at h2; omega
                · omega
        rcases hnn (hexs.drop (j + 1)) with e | e
        · rw [e]; simp
        · rw [if_neg (by omega), if_neg (by omega), if_neg (by omega)]
          congr 1
          omega
    · have : j = 16 := by omega
      subst this
      rw [if_neg (by omega)]
      rfl
theorem value_f (c : UInt8) {k : Nat} (hk : 16 < k) : synodref17_value.f k (c.toNat : Int) = some (hexI c) := by
  have := value_l0 c k 0 (by omega) (by omega)
  unfold synodref17_value.f
  rw [show (0 : Int) = ((0 : Nat) : Int) from rfl, this]
  unfold hexI
  simp only [List.drop_zero]
  split
  · rename_i h; rw [h]
  · simp
def qresD (n : Nat) (b : List UInt8) (q : QR) : List UInt8 × Int := match q with
  | some p => (b ++ p.1, ((n - p.2.length : Nat) : Int))
  | none => ([], -1)
theorem qresD_cons {n : Nat} {b : List UInt8} {c : UInt8} {q : QR} : qresD n (b ++ [c]) q = qresD n b (q.map fun p => (c :: p.1, p.2)) := by
  cases q <;> simp [qresD]
theorem plainD_f (c : UInt8) : synodref17_plain.f (c.toNat : Int) = some (plainB c && !decide (c.toNat = 34) && !decide (c.toNat = 92)) := by
  unfold synodref17_plain.f plainB
  congr 1
  rw [show decide ((32 : Int) ≤ (c.toNat : Int)) = decide (32 ≤ c.toNat) by congr 1; exact propext (by omega), show decide ((c.toNat : Int) ≤ 126) = decide (c.toNat ≤ 126) by congr 1; exact propext (by omega),
    show decide ((c.toNat : Int) = 34) = decide (c.toNat = 34) by congr 1; exact propext (by omega), show decide ((c.toNat : Int) = 92) = decide (c.toNat = 92) by congr 1; exact propext (by omega)]
theorem plain_iff {n : Int} (h0 : 0 ≤ n) (h1 : n < 256) : ((decide ((32 : Int) ≤ n)) && (decide (n ≤ (126 : Int)))) = plainB (byte n) := by
  have := byte_eq h0 h1
  unfold plainB
  congr 1
  · congr 1; exact propext (by omega)
  · congr 1; exact propext (by omega)
theorem quotedD_l0 {x : List UInt8} (hx : x.length < 2 ^ 40) : ∀ (k : Nat) (b : List UInt8) (i : Nat), x.length - i + 20 < k → i ≤ x.length → b.length ≤ i →
    orR (synodref17_quoted.l0 x k b (i : Int)) (fun _ => some (([] : List UInt8), (-1 : Int))) = some (qresD x.length b (qd (x.drop i)))
  | 0, b, i, h, _, _ => by omega
  | k + 1, b, i, hk, hi, hb => by
    rw [synodref17_quoted.l0]
    by_cases hlt : i < x.length
    · have ed := getD_cons_of hlt
      have e1 := wi1 (n := i) (by omega)
      have e2 := wi2 (n := i) (by omega)
      have e3 := wi3 (n := i) (by omega)
      have e4 := wi4 (n := i) (by omega)
      simp only [Int.toNat_natCast]
      rw [if_pos (by omega), if_pos (by omega), e1, e2, e3, e4, ed]
      simp only [Int.toNat_natCast]
      obtain ⟨c, hc⟩ : ∃ c, x.getD i 0 = c := ⟨_, rfl⟩
      simp only [hc] at ed ⊢
      rw [qd_cons]
      by_cases h34 : c.toNat = 34
      · rw [if_pos (show (c.toNat : Int) = 34 by omega), if_pos h34]
        simp only [orR, qresD, List.append_nil]
        have : (x.drop (i + 1)).length = x.length - (i + 1) := by simp
        rw [this]
        congr 3
        omega
      · rw [if_neg (show ¬ (c.toNat : Int) = 34 by omega), plainD_f, Option.bind_some, if_neg h34]
        by_cases hp : plainB c = false
        · rw [if_neg (by simp [hp]), if_pos (by
            have : c.toNat ≠ 92 := fun e => by simp [plainB, e] at hp
            simp; left; omega), if_pos hp]
          rfl
        · have hp' : plainB c = true := by simpa using hp
          rw [if_neg hp]
          by_cases h92 : c.toNat = 92
          · have n92 : ¬ (c.toNat ≠ 92) := by simp [h92]
            rw [if_neg (by simp [h92]), if_neg n92]
            by_cases hl1 : i + 1 < x.length
            · have hd := getD_cons_of hl1
              obtain ⟨d, hdd⟩ : ∃ c, x.getD (i + 1) 0 = c := ⟨_, rfl⟩
              simp only [hdd] at hd ⊢
              rw [if_neg (by simp [h92]; omega), if_pos (by omega), hd]
              simp only []
              by_cases hq : d.toNat = 34 ∨ d.toNat = 92
              · rw [if_pos hq, if_pos (by simp; omega), if_pos (by simp <;> omega), quotedD_l0 hx k (b ++ [d]) (i + 2) (by omega) (by omega) (by simp; omega), qresD_cons]
              · rw [if_neg hq, if_neg (by simp; omega)]
                by_cases hx3 : i + 3 < x.length
                · have h2 := getD_cons_of (l := x) (i := i + 2) (by omega)
                  have h3 := getD_cons_of (l := x) (i := i + 3) (by omega)
                  obtain ⟨h, hhd⟩ : ∃ c, x.getD (i + 2) 0 = c := ⟨_, rfl⟩
                  obtain ⟨l, hld⟩ : ∃ c, x.getD (i + 3) 0 = c := ⟨_, rfl⟩
                  simp only [hhd, hld] at h2 h3 ⊢
                  rw [show i + 1 + 1 = i + 2 from rfl, h2, show i + 2 + 1 = i + 3 from rfl, h3]
                  simp only []
                  by_cases hxd : d.toNat = 120
                  · rw [if_pos hxd, if_neg (by simp [hxd]; omega), if_pos (by omega), value_f _ (by omega), Option.bind_some, Option.bind_some]
                    unfold escB
                    have b1 := hexI_lt h
                    have b2 := hexI_lt l
                    by_cases g1 : 0 ≤ hexI h
                    · rw [if_neg (by simp; omega), if_pos (by omega), value_f _ (by omega), Option.bind_some, Option.bind_some]
                      by_cases g2 : 0 ≤ hexI l
                      · rw [if_neg (by simp; omega), if_pos (by omega), Option.bind_some, if_pos (by omega), Option.bind_some, hexw ⟨g1, b1.2⟩ ⟨g2, b2.2⟩, plain_iff (by omega) (by omega)]
                        by_cases g3 : plainB (byte (16 * hexI h + hexI l)) = false
                        · rw [if_neg (by simp [g3]), if_pos (by omega), if_pos (by simp <;> omega), if_pos ⟨g1, g2, g3⟩, quotedD_l0 hx k _ (i + 4) (by omega) (by omega) (by simp; omega), Option.bind_some, qresD_cons]
                        · rw [if_pos (by simpa using g3), if_neg (fun q => g3 q.2.2)]
                          rfl
                      · rw [if_pos (by simp; omega), if_neg (fun q => g2 q.2.1)]
                        rfl
                    · rw [if_pos (by simp; omega), Option.bind_some, if_pos rfl, if_neg (fun q => g1 q.1)]
                      rfl
                  · rw [if_neg hxd, if_pos (by simp; left; omega)]
                    rfl
                · rw [if_pos (by simp; right; omega)]
                  rcases hdt : x.drop (i + 1 + 1) with _ | ⟨h, _ | ⟨l, t⟩⟩
                  · rfl
                  · rfl
                  · have := congrArg List.length hdt
                    simp at this
                    omega
            · have : x.drop (i + 1) = [] := List.drop_of_length_le (by omega)
              rw [if_pos (by simp; right; omega), this]
              rfl
          · rw [if_pos (by simp [hp', h34, h92]), if_pos (by simp <;> omega), if_pos h92, quotedD_l0 hx k _ (i + 1) (by omega) (by omega) (by simp; omega), qresD_cons]
    · rw [if_neg (by omega)]
      have : x.drop i = [] := List.drop_of_length_le (by omega)
      rw [this, qd_nil]
      rfl
theorem quotedD_f {x : List UInt8} {k i : Nat} (hx : x.length < 2 ^ 40) (hi : i < x.length) (hk : x.length + 20 < k) : synodref17_quoted.f k x (i : Int) = some (qresD x.length [] (qd (x.drop (i + 1)))) := by
  have := quotedD_l0 hx k [] (i + 1) (by omega) (by omega) (by simp)
  unfold synodref17_quoted.f
  rw [wi1 (by omega)]
  exact this
end Go.Proofs.YtbcnegennmpliaaDoor
