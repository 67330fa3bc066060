/- Kv: the document's Restore. Conditions: as each says. -/
import Derived.Test.YtdaedoklkmdhcaaGreatPlKv9
namespace Go.Proofs.YtdaedoklkmdhcaaGreat
set_option linter.unusedVariables false
set_option linter.unusedSimpArgs false
open Go.RowKit
def fm (e : Int) (ok : Bool) : Int := if e = 0 then (if ok then 0 else 4) else e
theorem fm_stop {e : Int} (h : ¬ e = 0) (ok : Bool) : fm e ok = e := by unfold fm; rw [if_neg h]
theorem fm_ok {e : Int} {ok : Bool} (h : e = 0) (h2 : ok = true) : fm e ok = 0 := by unfold fm; rw [if_pos h, h2]; rfl
theorem fm_no {e : Int} {ok : Bool} (h : e = 0) (h2 : ok = false) : fm e ok = 4 := by unfold fm; rw [if_pos h, h2]; rfl
theorem form_fm (b : List UInt8) (p e : Int) (ok : Bool) : synodref11_form.f b p e ok = some (p, fm e ok) := form_eq b p e ok
theorem rPos_le' {b : List UInt8} {p : Nat} (e : Int) (hp : p ≤ b.length) : rPos b p e ≤ b.length := rPos_le hp
theorem refS_step {b : List UInt8} (hb : b.length < 2 ^ 46) (s3 : Int × Int × Int) (i k p : Nat) (a : Int) (acc : List Sess) (hc : (i : Int) < s3.1) (hi2 : i ≤ 1000) (hk : 20 ≤ k) (hp : p ≤ b.length) (hl : acc.length = i) (h0 : 0 ≤ a) (ha : i = 0 → a = 0) (ha2 : 0 < i → (acc.getD (i - 1) dSe).1 = a)
    (c q d : Int × Int × Int) (v : List UInt8 × Nat × Int) (p1 p2 p3 : Nat) (e1 e2 e3 : Int) (dc : c = rNum b p 0) (dp1 : p1 = rPos b p 0) (de1 : e1 = fm c.2.2 (decide (a < c.1))) (dq : q = rNum b p1 e1) (dp2 : p2 = rPos b p1 e1) (de2 : e2 = fm q.2.2 (decide (0 < q.1)))
    (dd : d = rNum b p2 e2) (dp3 : p3 = rPos b p2 e2) (de3 : e3 = fm d.2.2 (keptC d.1)) (dv : v = rBytes b p3 e3 1024) :
    synodref11_Restore.l1 b s3 (k + 1) (i : Int) (p : Int) 0 acc = synodref11_Restore.l1 b s3 k ((i + 1 : Nat) : Int) (v.2.1 : Int) (fm v.2.2 (okVal d.1 v.1)) (acc ++ [(c.1, q.1, d.1, v.1)]) := by
  have hp1 : p1 ≤ b.length := by rw [dp1]; exact rPos_le hp
  have hp2 : p2 ≤ b.length := by rw [dp2]; exact rPos_le hp1
  have hp3 : p3 ≤ b.length := by rw [dp3]; exact rPos_le hp2
  have hg : (if (0 : Int) < c.1 then (if (i : Int) = (0 : Int) then ((synodref11_form.f b ((p1 : Nat) : Int) c.2.2 true).bind fun s82v => (some (s82v.1, s82v.2))) else (if 0 ≤ IntKind.i64.wrap ((i : Int) - 1) ∧ IntKind.i64.wrap ((i : Int) - 1) < (acc.length : Int) then ((synodref11_form.f b ((p1 : Nat) : Int) c.2.2 (decide ((acc.getD (IntKind.i64.wrap ((i : Int) - 1)).toNat dSe).1 < c.1))).bind fun s94v => (some (s94v.1, s94v.2))) else none)) else ((synodref11_form.f b ((p1 : Nat) : Int) c.2.2 false).bind fun s98v => (some (s98v.1, s98v.2)))) = some (((p1 : Nat) : Int), e1) := by
    rw [de1]
    by_cases hc0 : (0 : Int) < c.1
    · rw [if_pos hc0]
      by_cases hi0 : i = 0
      · have := ha hi0
        rw [if_pos (by omega), form_fm, Option.bind_some, this, decide_eq_true hc0]
      · have e : IntKind.i64.wrap ((i : Int) - 1) = ((i - 1 : Nat) : Int) := by rw [w64 (by omega) (by omega)]; omega
        rw [if_neg (by omega), e, if_pos (by omega), Int.toNat_natCast, ha2 (by omega), form_fm, Option.bind_some]
    · rw [if_neg hc0, form_fm, Option.bind_some, decide_eq_false (by omega : ¬ a < c.1)]
  simp only [synodref11_Restore.l1]
  rw [if_pos (by simp; omega), refInt_eq (by omega) (by omega) p 0 hp, Option.bind_some, ← dc, ← dp1]
  simp only
  unfold dSe at hg
  rw [hg, Option.bind_some]
  simp only
  rw [refInt_eq (by omega) (by omega) p1 e1 hp1, Option.bind_some, ← dq, ← dp2, form_fm, Option.bind_some, ← de2]
  simp only
  rw [refInt_eq (by omega) (by omega) p2 e2 hp2, Option.bind_some, ← dd, ← dp3, form_fm, Option.bind_some]
  simp only
  rw [show fm d.2.2 ((((decide (d.1 = (1 : Int))) || (decide (d.1 = (2 : Int)))) || (decide (d.1 = (3 : Int)))) || (decide (d.1 = (5 : Int)))) = e3 from de3.symm]
  rw [refText_eq (by omega) (by omega) p3 e3 1024 hp3, Option.bind_some, ← dv, form_fm, Option.bind_some, if_pos (by simp; omega), inc64 i 2000 (by omega) (by decide)]
  rfl
theorem refS_loop {b : List UInt8} (hb : b.length < 2 ^ 46) (s3 : Int × Int × Int) : ∀ (n i k p : Nat) (a : Int) (acc : SS), ((i + n : Nat) : Int) = s3.1 → i + n ≤ 1000 → n + 40 ≤ k → p ≤ b.length → acc.length = i → 0 ≤ a → (i = 0 → a = 0) → (0 < i → ((acc.map (·.2)).getD (i - 1) dSe).1 = a) →
    ((prS b n p a acc).2.1 = 0 → synodref11_Restore.l1 b s3 k (i : Int) (p : Int) 0 (acc.map (·.2)) = some ((((prS b n p a acc).1 : Nat) : Int), 0, (prS b n p a acc).2.2.map (·.2)) ∧ (prS b n p a acc).1 ≤ b.length) ∧
    ((prS b n p a acc).2.1 ≠ 0 → ∃ (p' : Nat) (m : List Sess), p' ≤ b.length ∧ synodref11_Restore.l1 b s3 k (i : Int) (p : Int) 0 (acc.map (·.2)) = some ((p' : Int), (prS b n p a acc).2.1, m))
  | n, i, 0, p, a, acc, _, _, hk, _, _, _, _, _ => by omega
  | 0, i, k + 1, p, a, acc, hi, _, hk, hp, _, _, _, _ => by
    have hL : synodref11_Restore.l1 b s3 (k + 1) (i : Int) (p : Int) 0 (acc.map (·.2)) = some ((p : Int), 0, acc.map (·.2)) := by
      simp only [synodref11_Restore.l1]
      rw [if_neg (by simp; omega)]
    rw [hL, show prS b 0 p a acc = (p, 0, acc) from rfl]
    exact ⟨fun _ => ⟨rfl, hp⟩, fun h => absurd rfl h⟩
  | n + 1, i, k + 1, p, a, acc, hi, hi2, hk, hp, hl, h0, ha, ha2 => by
    have hS := refS_step hb s3 i k p a (acc.map (·.2)) (by omega) (by omega) (by omega) hp (by simpa using hl) h0 ha ha2 _ _ _ _ _ _ _ _ _ _ rfl rfl rfl rfl rfl rfl rfl rfl rfl rfl
    have hp1 : rPos b p 0 ≤ b.length := rPos_le hp
    have fin : ∀ (e : Int), prS b (n + 1) p a acc = (0, e, []) → ¬ e = 0 → (∃ (p' : Nat) (m : List Sess), p' ≤ b.length ∧ synodref11_Restore.l1 b s3 (k + 1) (i : Int) (p : Int) 0 (acc.map (·.2)) = synodref11_Restore.l1 b s3 k ((i + 1 : Nat) : Int) (p' : Int) e m) →
        (((prS b (n + 1) p a acc).2.1 = 0 → synodref11_Restore.l1 b s3 (k + 1) (i : Int) (p : Int) 0 (acc.map (·.2)) = some ((((prS b (n + 1) p a acc).1 : Nat) : Int), 0, (prS b (n + 1) p a acc).2.2.map (·.2)) ∧ (prS b (n + 1) p a acc).1 ≤ b.length) ∧
        ((prS b (n + 1) p a acc).2.1 ≠ 0 → ∃ (p' : Nat) (m : List Sess), p' ≤ b.length ∧ synodref11_Restore.l1 b s3 (k + 1) (i : Int) (p : Int) 0 (acc.map (·.2)) = some ((p' : Int), (prS b (n + 1) p a acc).2.1, m))) := by
      intro e hx he hm
      rw [hx]
      obtain ⟨p', m, h1, h2⟩ := hm
      refine ⟨fun h => absurd h he, fun _ => ⟨p', m, h1, ?_⟩⟩
      rw [h2, ref_stop1 _ _ (by omega) _ _ _ he]
    by_cases h1 : (rNum b p 0).2.2 = 0
    · by_cases h2 : a < (rNum b p 0).1
      · rw [fm_ok h1 (decide_eq_true h2)] at hS
        have hp2 : rPos b (rPos b p 0) 0 ≤ b.length := rPos_le hp1
        by_cases h3 : (rNum b (rPos b p 0) 0).2.2 = 0
        · by_cases h4 : 0 < (rNum b (rPos b p 0) 0).1
          · rw [fm_ok h3 (decide_eq_true h4)] at hS
            have hp3 : rPos b (rPos b (rPos b p 0) 0) 0 ≤ b.length := rPos_le hp2
            by_cases h5 : (rNum b (rPos b (rPos b p 0) 0) 0).2.2 = 0
            · by_cases h6 : keptC (rNum b (rPos b (rPos b p 0) 0) 0).1 = false
              · rw [fm_no h5 h6, rBytes_stop _ _ _ (by decide : ¬ (4 : Int) = 0), fm_stop (show ¬ (4 : Int) = 0 by decide)] at hS
                exact fin 4 (by simp only [prS]; rw [if_neg (not_not_intro h1), if_neg (not_not_intro h2), if_neg (not_not_intro h3), if_neg (not_not_intro h4), if_neg (not_not_intro h5), if_pos h6]) (by decide) ⟨_, _, hp3, hS⟩
              · have h6' : keptC (rNum b (rPos b (rPos b p 0) 0) 0).1 = true := by simpa using h6
                rw [fm_ok h5 h6'] at hS
                have hp4 := rBytes_le (e := 0) (most := 1024) hp3
                by_cases h7 : (rBytes b (rPos b (rPos b (rPos b p 0) 0) 0) 0 1024).2.2 = 0
                · by_cases h8 : okVal (rNum b (rPos b (rPos b p 0) 0) 0).1 (rBytes b (rPos b (rPos b (rPos b p 0) 0) 0) 0 1024).1 = false
                  · rw [fm_no h7 h8] at hS
                    exact fin 4 (by simp only [prS]; rw [if_neg (not_not_intro h1), if_neg (not_not_intro h2), if_neg (not_not_intro h3), if_neg (not_not_intro h4), if_neg (not_not_intro h5), if_neg h6, if_neg (not_not_intro h7), if_pos h8]) (by decide) ⟨_, _, hp4.1, hS⟩
                  · have h8' : okVal (rNum b (rPos b (rPos b p 0) 0) 0).1 (rBytes b (rPos b (rPos b (rPos b p 0) 0) 0) 0 1024).1 = true := by simpa using h8
                    have hP : prS b (n + 1) p a acc = prS b n (rBytes b (rPos b (rPos b (rPos b p 0) 0) 0) 0 1024).2.1 (rNum b p 0).1 (acc ++ [((rNum b p 0).1, ((rNum b p 0).1, (rNum b (rPos b p 0) 0).1, (rNum b (rPos b (rPos b p 0) 0) 0).1, (rBytes b (rPos b (rPos b (rPos b p 0) 0) 0) 0 1024).1))]) := by
                      simp only [prS]; rw [if_neg (not_not_intro h1), if_neg (not_not_intro h2), if_neg (not_not_intro h3), if_neg (not_not_intro h4), if_neg (not_not_intro h5), if_neg h6, if_neg (not_not_intro h7), if_neg h8]
                    rw [fm_ok h7 h8'] at hS
                    rw [hP, hS]
                    have hm : acc.map (·.2) ++ [((rNum b p 0).1, (rNum b (rPos b p 0) 0).1, (rNum b (rPos b (rPos b p 0) 0) 0).1, (rBytes b (rPos b (rPos b (rPos b p 0) 0) 0) 0 1024).1)] = (acc ++ [((rNum b p 0).1, ((rNum b p 0).1, (rNum b (rPos b p 0) 0).1, (rNum b (rPos b (rPos b p 0) 0) 0).1, (rBytes b (rPos b (rPos b (rPos b p 0) 0) 0) 0 1024).1))]).map (·.2) := by simp
                    rw [hm]
                    exact refS_loop hb s3 n (i + 1) k _ _ _ (by rw [← hi]; omega) (by omega) (by omega) hp4.1 (by simp [hl]) (by omega) (by omega) (by
                      intro _
                      rw [← hm, getD_of (x := ((rNum b p 0).1, (rNum b (rPos b p 0) 0).1, (rNum b (rPos b (rPos b p 0) 0) 0).1, (rBytes b (rPos b (rPos b (rPos b p 0) 0) 0) 0 1024).1))]
                      simp [hl])
                · rw [fm_stop h7] at hS
                  exact fin _ (by simp only [prS]; rw [if_neg (not_not_intro h1), if_neg (not_not_intro h2), if_neg (not_not_intro h3), if_neg (not_not_intro h4), if_neg (not_not_intro h5), if_neg h6, if_pos h7]) h7 ⟨_, _, hp4.1, hS⟩
            · rw [fm_stop h5, rBytes_stop _ _ _ h5, fm_stop h5] at hS
              exact fin _ (by simp only [prS]; rw [if_neg (not_not_intro h1), if_neg (not_not_intro h2), if_neg (not_not_intro h3), if_neg (not_not_intro h4), if_pos h5]) h5 ⟨_, _, hp3, hS⟩
          · have n4 : ¬ (4 : Int) = 0 := by decide
            rw [fm_no h3 (decide_eq_false h4), rNum_stop _ _ n4, rPos_stop _ _ n4] at hS
            simp only at hS
            rw [fm_stop n4, rBytes_stop _ _ _ n4, fm_stop n4] at hS
            exact fin 4 (by simp only [prS]; rw [if_neg (not_not_intro h1), if_neg (not_not_intro h2), if_neg (not_not_intro h3), if_pos h4]) (by decide) ⟨_, _, hp2, hS⟩
        · rw [fm_stop h3, rNum_stop _ _ h3, rPos_stop _ _ h3] at hS
          simp only at hS
          rw [fm_stop h3, rBytes_stop _ _ _ h3, fm_stop h3] at hS
          exact fin _ (by simp only [prS]; rw [if_neg (not_not_intro h1), if_neg (not_not_intro h2), if_pos h3]) h3 ⟨_, _, hp2, hS⟩
      · have n4 : ¬ (4 : Int) = 0 := by decide
        rw [fm_no h1 (decide_eq_false h2), rNum_stop _ _ n4, rPos_stop _ _ n4] at hS
        simp only at hS
        rw [fm_stop n4, rNum_stop _ _ n4, rPos_stop _ _ n4] at hS
        simp only at hS
        rw [fm_stop n4, rBytes_stop _ _ _ n4, fm_stop n4] at hS
        exact fin 4 (by simp only [prS]; rw [if_neg (not_not_intro h1), if_pos h2]) (by decide) ⟨_, _, hp1, hS⟩
    · rw [fm_stop h1, rNum_stop _ (rPos b p 0) h1, rPos_stop _ (rPos b p 0) h1] at hS
      simp only at hS
      rw [fm_stop h1, rNum_stop _ (rPos b p 0) h1, rPos_stop _ (rPos b p 0) h1] at hS
      simp only at hS
      rw [fm_stop h1, rBytes_stop _ _ _ h1, fm_stop h1] at hS
      exact fin _ (by simp only [prS]; rw [if_pos h1]) h1 ⟨_, _, hp1, hS⟩
theorem refDone_eq {b : List UInt8} (p : Nat) (e : Int) (hp : p ≤ b.length) (hb : b.length < 2 ^ 46) : synodref1_Reader_Done.f b (p : Int) e = some (if e = 0 then (if p < b.length then 3 else 0) else e) := by
  unfold synodref1_Reader_Done.f synodref1_Reader_Left.f
  by_cases he : e = 0
  · rw [if_pos he, if_pos he, Option.bind_some, Option.bind_some, w64 (by omega) (by omega)]
    by_cases h : p < b.length
    · rw [if_pos h, if_pos (by simp; omega)]
    · rw [if_neg h, if_neg (by simp; omega), he]
  · rw [if_neg he, if_neg he, Option.bind_some, if_neg (by simp)]
theorem refRestore_eq {b : List UInt8} (hb : b.length < 2 ^ 46) {k : Nat} (hk : 400 ≤ k) : synodref11_Restore.f k b = some (decide ((resV b).1 = 0), (resV b).2.1, (resV b).2.2.map (·.2), (resV b).1) := by
  have stop : ∀ (p : Nat) (e : Int) (m : PP), p ≤ b.length → ¬ e = 0 → ((synodref11_count.f k b (p : Int) e (32 : Int)).bind fun s57v => ((synodref11_Restore.l1 b s57v k 0 s57v.2.1 s57v.2.2 ([] : List Sess)).bind fun s60v => ((synodref1_Reader_Done.f b s60v.1 s60v.2.1).bind fun s144v => (if s144v = (0 : Int) then (some (true, m, s60v.2.2, s144v)) else (some (false, ([] : PP), ([] : List Sess), s144v)))))) = some (false, [], [], e) := by
    intro p e m hp he
    rw [count_eq (by omega) (by omega) p e 32 hp, Option.bind_some, rNum_stop _ _ he, rPos_stop _ _ he]
    simp only
    rw [if_neg (by simp [he]), ref_stop1 _ _ (by omega) _ _ _ he, Option.bind_some]
    simp only
    rw [refDone_eq p e hp hb, if_neg he, Option.bind_some, if_neg he]
  unfold synodref11_Restore.f resV
  have c0 := count_eq (b := b) (by omega) (k := k) (by omega) 0 0 128 (by omega)
  rw [show ((0 : Nat) : Int) = 0 from rfl] at c0
  rw [c0, Option.bind_some]
  have hp0 := rPos_le' (b := b) (p := 0) 0 (by omega)
  by_cases h1 : (rNum b 0 0).2.2 = 0
  · simp only [if_neg (not_not_intro h1)]
    obtain ⟨n, j, hd, a1, a2, a3⟩ := rNum_ok h1
    have hn1 : (rNum b 0 0).1 = (n : Int) := by rw [hd]
    by_cases h2 : 128 < (rNum b 0 0).1
    · rw [if_pos h2, if_pos ⟨h1, h2⟩]
      simp only
      rw [ref_stop0 _ _ (by omega) _ _ _ (show ¬ (23 : Int) = 0 by decide), Option.bind_some]
      simp only
      rw [stop _ 23 _ hp0 (by decide)]; rfl
    · rw [if_neg h2, if_neg (fun h => h2 h.2), h1]
      have L := refP_loop hb ((rNum b 0 0).1, ((rPos b 0 0 : Nat) : Int), 0) n 0 k (rPos b 0 0) [] [] (by rw [hn1]; simp) (by omega) (by omega) hp0 rfl (fun _ => rfl) (by omega)
      rw [hn1, Int.toNat_natCast]
      rw [hn1, show ((0 : Nat) : Int) = 0 from rfl] at L
      by_cases h3 : (prP b n (rPos b 0 0) [] []).2.1 = 0
      · obtain ⟨e3, hp3⟩ := L.1 h3
        rw [e3, Option.bind_some, if_neg (not_not_intro h3)]
        simp only
        rw [count_eq (by omega) (by omega) _ 0 32 hp3, Option.bind_some]
        have hp4 := rPos_le' (b := b) 0 hp3
        by_cases h4 : (rNum b (prP b n (rPos b 0 0) [] []).1 0).2.2 = 0
        · rw [if_neg (not_not_intro h4)]
          obtain ⟨m, j2, hd2, c1, c2, c3⟩ := rNum_ok h4
          have hm1 : (rNum b (prP b n (rPos b 0 0) [] []).1 0).1 = (m : Int) := by rw [hd2]
          by_cases h5 : 32 < (rNum b (prP b n (rPos b 0 0) [] []).1 0).1
          · rw [if_pos h5, if_pos ⟨h4, h5⟩]
            simp only
            rw [ref_stop1 _ _ (by omega) _ _ _ (show ¬ (23 : Int) = 0 by decide), Option.bind_some]
            simp only
            rw [refDone_eq _ 23 hp4 hb, if_neg (by decide), Option.bind_some]; rfl
          · rw [if_neg h5, if_neg (fun h => h5 h.2), h4]
            have C := refS_loop hb ((rNum b (prP b n (rPos b 0 0) [] []).1 0).1, ((rPos b (prP b n (rPos b 0 0) [] []).1 0 : Nat) : Int), 0) m 0 k (rPos b (prP b n (rPos b 0 0) [] []).1 0) 0 [] (by rw [hm1]; simp) (by omega) (by omega) hp4 rfl (by omega) (fun _ => rfl) (by omega)
            rw [hm1, Int.toNat_natCast]
            rw [hm1, show ((0 : Nat) : Int) = 0 from rfl, List.map_nil] at C
            by_cases h6 : (prS b m (rPos b (prP b n (rPos b 0 0) [] []).1 0) 0 []).2.1 = 0
            · obtain ⟨e6, hp6⟩ := C.1 h6
              rw [e6, Option.bind_some, if_neg (not_not_intro h6)]
              simp only
              rw [refDone_eq _ 0 hp6 hb, if_pos rfl]
              by_cases h7 : (prS b m (rPos b (prP b n (rPos b 0 0) [] []).1 0) 0 []).1 < b.length
              · rw [if_pos h7, if_pos h7]; rfl
              · rw [if_neg h7, if_neg h7]; rfl
            · obtain ⟨p', mm, hp', e6⟩ := C.2 h6
              rw [e6, Option.bind_some, if_pos h6]
              simp only
              rw [refDone_eq _ _ hp' hb, if_neg h6, Option.bind_some, if_neg h6, decide_eq_false h6]; rfl
        · rw [if_pos h4, if_neg (fun h => h4 h.1), ref_stop1 _ _ (by omega) _ _ _ h4, Option.bind_some]
          simp only
          rw [refDone_eq _ _ hp4 hb, if_neg h4, Option.bind_some, if_neg h4, decide_eq_false h4]; rfl
      · obtain ⟨p', mm, hp', e3⟩ := L.2 h3
        rw [e3, Option.bind_some, if_pos h3]
        simp only
        rw [stop _ _ _ hp' h3, decide_eq_false h3]; rfl
  · rw [if_pos h1, if_neg (fun h => h1 h.1)]
    simp only
    rw [ref_stop0 _ _ (by omega) _ _ _ h1, Option.bind_some]
    simp only
    rw [stop _ _ _ hp0 h1, decide_eq_false h1]; rfl
end Go.Proofs.YtdaedoklkmdhcaaGreat
