/- Kv: a snapshot is read again, and what is read is a snapshot. Conditions: as each says. -/
import Derived.Test.YtdaedoklkmdhcaaGreatPlKv9a
namespace Go.Proofs.YtdaedoklkmdhcaaGreat
set_option linter.unusedVariables false
set_option linter.unusedSimpArgs false
open Go.RowKit

theorem wNum0 {x : Int} (h : okN x) (b : List UInt8) : wNum b 0 x = (b ++ bytesV x, 0) := by unfold wNum; rw [if_pos rfl, (errV_zero x).2 h]
theorem wBytes0 {d : List UInt8} {m : Int} (h : (d.length : Int) ≤ m) (b : List UInt8) : wBytes b 0 d m = (b ++ bytesV (d.length : Int) ++ d, 0) := by
  unfold wBytes; rw [if_pos rfl, if_neg (by omega)]
theorem wDone0 (b : List UInt8) : wDone b 0 = (b, 0) := by unfold wDone; rw [if_pos rfl]
def bB (d : List UInt8) : List UInt8 := bytesV (d.length : Int) ++ d
theorem rNum_at {b pre r : List UInt8} {x : Int} (h : b = pre ++ (bytesV x ++ r)) (hx : okN x) : rNum b pre.length 0 = (x, (((bytesV x).length : Nat) : Int), (0 : Int)) := by
  subst h
  obtain ⟨n, rfl⟩ := Int.eq_ofNat_of_zero_le hx.1
  have hn : n ≤ 2 ^ 62 := by have := hx.2; omega
  have hb : bytesV (n : Int) = sv n := by unfold bytesV; rw [if_pos hx]; rfl
  have hp := sv_pos n
  unfold rNum decAt
  rw [if_pos rfl, hb, if_neg (by rw [List.length_append, List.length_append]; omega), Int.toNat_natCast, List.drop_left']
  · exact dec_sv hn r
  · rfl
theorem rB_at {b pre r d : List UInt8} {most : Int} (h : b = pre ++ (bB d ++ r)) (hd : (d.length : Int) ≤ most) (hl : d.length ≤ 100000000) : rBytes b pre.length 0 most = (d, (pre ++ bB d).length, 0) := by
  have hx : okN (d.length : Int) := ⟨by omega, by omega⟩
  have h' : b = pre ++ (bytesV (d.length : Int) ++ (d ++ r)) := by rw [h]; simp [bB]
  have e := rNum_at h' hx
  have e2 : rPos b pre.length 0 = pre.length + (bytesV (d.length : Int)).length := by unfold rPos; rw [e]; rfl
  unfold rBytes
  rw [e, e2]
  simp only [if_true, Int.toNat_natCast]
  rw [if_neg (by omega), if_neg (by rw [h']; simp only [List.length_append]; omega)]
  have e3 : b.drop (pre.length + (bytesV (d.length : Int)).length) = d ++ r := by
    rw [h', ← List.append_assoc, List.drop_left']; simp
  rw [e3, List.take_left' rfl]
  simp [bB, Nat.add_assoc]
theorem rP_at {b pre r : List UInt8} {x : Int} (h : b = pre ++ (bytesV x ++ r)) (hx : okN x) : rPos b pre.length 0 = (pre ++ bytesV x).length := by
  unfold rPos; rw [rNum_at h hx]; simp
def encP (l : PP) : List UInt8 := l.flatMap fun e => bB e.1 ++ bB e.2
def encS1 (x : Sess) : List UInt8 := bytesV x.1 ++ (bytesV x.2.1 ++ (bytesV x.2.2.1 ++ bB x.2.2.2))
def encS (l : List Sess) : List UInt8 := l.flatMap encS1
theorem rg_okN {x : Int} (h : rg x 1) : okN x := rg_ok h (by decide)
theorem wP_enc : ∀ (l : PP) (b : List UInt8), (∀ e ∈ l, e.1.length ≤ 64 ∧ e.2.length ≤ 1024) → l.foldl wP (b, 0) = (b ++ encP l, 0)
  | [], b, _ => by simp [encP]
  | e :: l, b, h => by
    have he := h e (by simp)
    have : wP (b, 0) e = (b ++ (bB e.1 ++ bB e.2), 0) := by
      unfold wP
      simp only
      rw [wBytes0 (by omega), wBytes0 (by omega)]; simp [bB]
    rw [List.foldl_cons, this, wP_enc l _ fun e he => h e (List.mem_cons_of_mem _ he)]
    simp [encP]
def okSe (x : Sess) : Prop := okN x.1 ∧ okN x.2.1 ∧ okN x.2.2.1 ∧ x.2.2.2.length ≤ 1024
theorem wS_enc : ∀ (l : List Sess) (b : List UInt8), (∀ e ∈ l, okSe e) → l.foldl wS (b, 0) = (b ++ encS l, 0)
  | [], b, _ => by simp [encS]
  | e :: l, b, h => by
    obtain ⟨h1, h2, h3, h4⟩ := h e (by simp)
    have : wS (b, 0) e = (b ++ encS1 e, 0) := by
      unfold wS
      simp only
      rw [wNum0 h1]
      simp only
      rw [wNum0 h2]
      simp only
      rw [wNum0 h3]
      simp only
      rw [wBytes0 (by omega)]; simp [bB, encS1]
    rw [List.foldl_cons, this, wS_enc l _ fun e he => h e (List.mem_cons_of_mem _ he)]
    simp [encS]
theorem okSe_of {p : PP} {s : SS} (h : Inv p s) {x : Sess} (hx : x ∈ canS s) : okSe x := by
  obtain ⟨h1, h2, h3, h4, h5⟩ := h.se _ (canS_in h x hx)
  refine ⟨rg_okN h2, rg_okN h3, ?_, h5⟩
  simp only at h4
  exact ⟨by omega, by omega⟩
theorem snapV_enc {p : PP} {s : SS} (h : Inv p s) : snapV p s = bytesV (p.length : Int) ++ (encP (canP p) ++ (bytesV (s.length : Int) ++ encS (canS s))) := by
  have hp := h.pl; have hs := h.sl
  unfold snapV snapSt
  simp only
  rw [wNum0 ⟨by omega, by omega⟩, wP_enc _ _ (by
    intro e he; obtain ⟨c, hc, rfl⟩ := List.mem_map.1 he; exact canP_in h c hc)]
  simp only
  rw [wNum0 ⟨by omega, by omega⟩, wS_enc _ _ fun e he => okSe_of h he, wDone0]
  simp
theorem prP_at (b r : List UInt8) : ∀ (l : PP) (pre : List UInt8) (a : List UInt8) (acc : PP), b = pre ++ (encP l ++ r) → srt l → (∀ e ∈ l, a < e.1 ∧ e.1.length ≤ 64 ∧ e.2.length ≤ 1024) → prP b l.length pre.length a acc = ((pre ++ encP l).length, 0, acc ++ l)
  | [], pre, a, acc, _, _, _ => by simp [prP, encP]
  | e :: l, pre, a, acc, hb, hs, he => by
    obtain ⟨h1, h2, h3⟩ := he e (by simp)
    have b1 : b = pre ++ (bB e.1 ++ (bB e.2 ++ (encP l ++ r))) := by rw [hb]; simp [encP]
    have b2 : b = (pre ++ bB e.1) ++ (bB e.2 ++ (encP l ++ r)) := by rw [b1]; simp
    have r1 := rB_at (most := 64) b1 (by omega) (by omega)
    have r2 := rB_at (most := 1024) b2 (by omega) (by omega)
    rw [List.length_cons]
    simp only [prP]
    rw [r1]
    simp only
    rw [if_pos trivial, if_pos h1, r2]
    simp only
    rw [if_pos trivial]
    have hs' := srt_cons.1 hs
    have ih := prP_at b r l (pre ++ bB e.1 ++ bB e.2) e.1 (acc ++ [(e.1, e.2)]) (by rw [b2]; simp) hs'.2 (fun x hx => ⟨hs'.1 x hx, (he x (List.mem_cons_of_mem _ hx)).2⟩)
    rw [ih]
    simp [encP]
theorem prS_at (b r : List UInt8) : ∀ (l : SS) (pre : List UInt8) (a : Int) (acc : SS), b = pre ++ (encS (l.map (·.2)) ++ r) → srt l → (∀ e ∈ l, a < e.1 ∧ goodS e ∧ okVal e.2.2.2.1 e.2.2.2.2 = true) → prS b l.length pre.length a acc = ((pre ++ encS (l.map (·.2))).length, 0, acc ++ l)
  | [], pre, a, acc, _, _, _ => by simp [prS, encS]
  | e :: l, pre, a, acc, hb, hs, he => by
    obtain ⟨h1, ⟨g1, g2, g3, g4, g5⟩, h3⟩ := he e (by simp)
    have k1 := rg_okN g2
    have k2 := rg_okN g3
    have k3 : okN e.2.2.2.1 := ⟨by omega, by omega⟩
    rw [← g1] at k1
    have b1 : b = pre ++ (bytesV e.2.1 ++ (bytesV e.2.2.1 ++ (bytesV e.2.2.2.1 ++ (bB e.2.2.2.2 ++ (encS (l.map (·.2)) ++ r))))) := by rw [hb]; simp [encS, encS1]
    have b2 : b = (pre ++ bytesV e.2.1) ++ (bytesV e.2.2.1 ++ (bytesV e.2.2.2.1 ++ (bB e.2.2.2.2 ++ (encS (l.map (·.2)) ++ r)))) := by rw [b1]; simp
    have b3 : b = (pre ++ bytesV e.2.1 ++ bytesV e.2.2.1) ++ (bytesV e.2.2.2.1 ++ (bB e.2.2.2.2 ++ (encS (l.map (·.2)) ++ r))) := by rw [b2]; simp
    have b4 : b = (pre ++ bytesV e.2.1 ++ bytesV e.2.2.1 ++ bytesV e.2.2.2.1) ++ (bB e.2.2.2.2 ++ (encS (l.map (·.2)) ++ r)) := by rw [b3]; simp
    have q1 := rNum_at b1 k1
    have p1 := rP_at b1 k1
    have q2 := rNum_at b2 k2
    have p2 := rP_at b2 k2
    have q3 := rNum_at b3 k3
    have p3 := rP_at b3 k3
    have q4 := rB_at (most := 1024) b4 (by omega) (by omega)
    have hk : ¬ keptC e.2.2.2.1 = false := by rw [(keptC_iff _).2 g4]; simp
    have hv : ¬ okVal e.2.2.2.1 e.2.2.2.2 = false := by rw [h3]; simp
    have hs' := srt_cons.1 hs
    have ih := prS_at b r l (pre ++ bytesV e.2.1 ++ bytesV e.2.2.1 ++ bytesV e.2.2.2.1 ++ bB e.2.2.2.2) e.1 (acc ++ [e]) (by rw [b4]; simp) hs'.2 (fun x hx => ⟨hs'.1 x hx, (he x (List.mem_cons_of_mem _ hx)).2⟩)
    rw [List.length_cons]
    simp only [prS]
    rw [p1, p2, p3, q1, q2, q3, q4]
    simp only
    have z : ¬ ¬ True := not_not_intro trivial
    rw [if_neg z, if_neg (not_not_intro (by rw [g1]; exact h1)), if_neg z, if_neg (not_not_intro (by have := g3.1; omega)), if_neg z, if_neg hk, if_neg z, if_neg hv]
    have ee : (e.2.1, (e.2.1, e.2.2.1, e.2.2.2.1, e.2.2.2.2)) = e := Prod.ext g1 rfl
    rw [← g1] at ih
    rw [ee, ih]
    simp [encS, encS1]
theorem wf_take (b : List UInt8) (p j : Nat) : b.take (p + j) = b.take p ++ (b.drop p).take j := List.take_add
theorem rNum_back {b : List UInt8} {p : Nat} (hp : p ≤ b.length) (h : (rNum b p 0).2.2 = 0) : b.take (rPos b p 0) = b.take p ++ bytesV (rNum b p 0).1 ∧ okN (rNum b p 0).1 := by
  have hd : rNum b p 0 = decAt b (p : Int) := by unfold rNum; rw [if_pos rfl]
  rw [hd] at h
  unfold decAt at h hd
  by_cases hat : (p : Int) < 0 ∨ (b.length : Int) ≤ (p : Int)
  · rw [if_pos hat] at h; simp at h
  · rw [if_neg hat] at h hd
    rw [Int.toNat_natCast] at h hd
    obtain ⟨i, hi, h9, hlt, hz, hv, he⟩ := dec_ok h
    have hn : okN ((part7 (i + 1) (b.drop p) : Nat) : Int) := ⟨by omega, by omega⟩
    have hr : rPos b p 0 = p + (i + 1) := by unfold rPos; rw [hd, he]; rfl
    rw [hr, hd, he, wf_take]
    refine ⟨?_, hn⟩
    have hs := sv_val i (b.drop p) hi hlt hz
    rw [val7_part] at hs
    unfold bytesV
    rw [if_pos hn, Int.toNat_natCast, hs]
theorem rBytes_back {b : List UInt8} {p : Nat} {m : Int} (hp : p ≤ b.length) (h : (rBytes b p 0 m).2.2 = 0) : b.take (rBytes b p 0 m).2.1 = b.take p ++ bB (rBytes b p 0 m).1 := by
  unfold rBytes at h ⊢
  simp only at h ⊢
  by_cases h1 : (rNum b p 0).2.2 = 0
  · rw [if_pos h1] at h ⊢
    obtain ⟨hb, hk⟩ := rNum_back hp h1
    obtain ⟨n, j, hd, a1, a2, a3⟩ := rNum_ok h1
    have hr : rPos b p 0 = p + j := by unfold rPos; rw [hd]; rfl
    rw [hr, hd] at h hb ⊢
    simp only at h hb ⊢
    by_cases h2 : max m 0 < (n : Int)
    · rw [if_pos h2] at h; simp at h
    · rw [if_neg h2] at h ⊢
      by_cases h3 : (b.length : Int) - ((p + j : Nat) : Int) < (n : Int)
      · rw [if_pos h3] at h; simp at h
      · rw [if_neg h3]
        simp only [Int.toNat_natCast]
        rw [wf_take, hb]
        have hl : ((b.drop (p + j)).take n).length = n := by rw [List.length_take, List.length_drop]; omega
        unfold bB
        rw [hl, List.append_assoc]
  · rw [if_neg h1] at h; exact absurd h h1
theorem prP_back (b : List UInt8) : ∀ (n p : Nat) (a : List UInt8) (acc : PP), p ≤ b.length → (prP b n p a acc).2.1 = 0 → ∃ L, (prP b n p a acc).2.2 = acc ++ L ∧ L.length = n ∧ b.take (prP b n p a acc).1 = b.take p ++ encP L ∧ (prP b n p a acc).1 ≤ b.length
  | 0, p, a, acc, hp, _ => ⟨[], by simp [prP], rfl, by simp [prP, encP], hp⟩
  | n + 1, p, a, acc, hp, h => by
    simp only [prP] at h ⊢
    have hp1 := (rBytes_le (e := 0) (most := 64) hp).1
    have hp2 := (rBytes_le (e := 0) (most := 1024) hp1).1
    by_cases c1 : (rBytes b p 0 64).2.2 = 0
    · by_cases c2 : a < (rBytes b p 0 64).1
      · by_cases c3 : (rBytes b (rBytes b p 0 64).2.1 0 1024).2.2 = 0
        · rw [if_pos c1, if_pos c2, if_pos c3] at h ⊢
          obtain ⟨L, h1, h2, h3, h4⟩ := prP_back b n _ _ _ hp2 h
          refine ⟨((rBytes b p 0 64).1, (rBytes b (rBytes b p 0 64).2.1 0 1024).1) :: L, by rw [h1]; simp, by simp [h2], ?_, h4⟩
          rw [h3, rBytes_back hp1 c3, rBytes_back hp c1]
          simp [encP]
        · rw [if_pos c1, if_pos c2, if_neg c3] at h; exact absurd h c3
      · rw [if_pos c1, if_neg c2] at h; simp at h
    · rw [if_neg c1] at h; exact absurd h c1
theorem prS_back (b : List UInt8) : ∀ (n p : Nat) (a : Int) (acc : SS), p ≤ b.length → (prS b n p a acc).2.1 = 0 → ∃ L, (prS b n p a acc).2.2 = acc ++ L ∧ L.length = n ∧ b.take (prS b n p a acc).1 = b.take p ++ encS (L.map (·.2)) ∧ (prS b n p a acc).1 ≤ b.length
  | 0, p, a, acc, hp, _ => ⟨[], by simp [prS], rfl, by simp [prS, encS], hp⟩
  | n + 1, p, a, acc, hp, h => by
    simp only [prS] at h ⊢
    have hp1 : rPos b p 0 ≤ b.length := rPos_le hp
    have hp2 : rPos b (rPos b p 0) 0 ≤ b.length := rPos_le hp1
    have hp3 : rPos b (rPos b (rPos b p 0) 0) 0 ≤ b.length := rPos_le hp2
    have hp4 := (rBytes_le (e := 0) (most := 1024) hp3).1
    by_cases c1 : (rNum b p 0).2.2 = 0
    · rw [if_neg (not_not_intro c1)] at h ⊢
      by_cases c2 : a < (rNum b p 0).1
      · rw [if_neg (not_not_intro c2)] at h ⊢
        by_cases c3 : (rNum b (rPos b p 0) 0).2.2 = 0
        · rw [if_neg (not_not_intro c3)] at h ⊢
          by_cases c4 : 0 < (rNum b (rPos b p 0) 0).1
          · rw [if_neg (not_not_intro c4)] at h ⊢
            by_cases c5 : (rNum b (rPos b (rPos b p 0) 0) 0).2.2 = 0
            · rw [if_neg (not_not_intro c5)] at h ⊢
              by_cases c6 : keptC (rNum b (rPos b (rPos b p 0) 0) 0).1 = false
              · rw [if_pos c6] at h; simp at h
              · rw [if_neg c6] at h ⊢
                by_cases c7 : (rBytes b (rPos b (rPos b (rPos b p 0) 0) 0) 0 1024).2.2 = 0
                · rw [if_neg (not_not_intro c7)] at h ⊢
                  by_cases c8 : okVal (rNum b (rPos b (rPos b p 0) 0) 0).1 (rBytes b (rPos b (rPos b (rPos b p 0) 0) 0) 0 1024).1 = false
                  · rw [if_pos c8] at h; simp at h
                  · rw [if_neg c8] at h ⊢
                    obtain ⟨L, h1, h2, h3, h4⟩ := prS_back b n _ _ _ hp4 h
                    refine ⟨((rNum b p 0).1, ((rNum b p 0).1, (rNum b (rPos b p 0) 0).1, (rNum b (rPos b (rPos b p 0) 0) 0).1, (rBytes b (rPos b (rPos b (rPos b p 0) 0) 0) 0 1024).1)) :: L, by rw [h1]; simp, by simp [h2], ?_, h4⟩
                    rw [h3, rBytes_back hp3 c7, (rNum_back hp2 c5).1, (rNum_back hp1 c3).1, (rNum_back hp c1).1]
                    simp [encS, encS1]
                · rw [if_pos c7] at h; exact absurd h c7
            · rw [if_pos c5] at h; exact absurd h c5
          · rw [if_pos c4] at h; simp at h
        · rw [if_pos c3] at h; exact absurd h c3
      · rw [if_pos c2] at h; simp at h
    · rw [if_pos c1] at h; exact absurd h c1
theorem resV_back {b : List UInt8} (h : (resV b).1 = 0) : snapV (resV b).2.1 (resV b).2.2 = b := by
  obtain ⟨s1, s2, hI⟩ := resV_inv h
  rw [snapV_enc hI, canP_self s1, canS_M, canM_self s2]
  have hsplit : ∀ t : Nat, ¬ t < b.length → b.take t = b := fun t ht => List.take_of_length_le (by omega)
  clear hI s1 s2
  unfold resV at h ⊢
  simp only at h ⊢
  have hp0 : rPos b 0 0 ≤ b.length := rPos_le (Nat.zero_le _)
  by_cases c1 : (rNum b 0 0).2.2 = 0
  · rw [if_neg (not_not_intro c1)] at h ⊢
    by_cases c2 : 128 < (rNum b 0 0).1
    · rw [if_pos c2] at h; simp at h
    · rw [if_neg c2] at h ⊢
      by_cases c3 : (prP b (rNum b 0 0).1.toNat (rPos b 0 0) [] []).2.1 = 0
      · rw [if_neg (not_not_intro c3)] at h ⊢
        obtain ⟨L, l1, l2, l3, l4⟩ := prP_back b _ _ _ _ hp0 c3
        have hp1 : rPos b (prP b (rNum b 0 0).1.toNat (rPos b 0 0) [] []).1 0 ≤ b.length := rPos_le l4
        by_cases c4 : (rNum b (prP b (rNum b 0 0).1.toNat (rPos b 0 0) [] []).1 0).2.2 = 0
        · rw [if_neg (not_not_intro c4)] at h ⊢
          by_cases c5 : 32 < (rNum b (prP b (rNum b 0 0).1.toNat (rPos b 0 0) [] []).1 0).1
          · rw [if_pos c5] at h; simp at h
          · rw [if_neg c5] at h ⊢
            by_cases c6 : (prS b (rNum b (prP b (rNum b 0 0).1.toNat (rPos b 0 0) [] []).1 0).1.toNat (rPos b (prP b (rNum b 0 0).1.toNat (rPos b 0 0) [] []).1 0) 0 []).2.1 = 0
            · rw [if_neg (not_not_intro c6)] at h ⊢
              obtain ⟨M, m1, m2, m3, m4⟩ := prS_back b _ _ _ _ hp1 c6
              split at h
              · simp at h
              · rename_i c7
                rw [if_neg c7]
                simp only
                rw [hsplit _ c7, (rNum_back l4 c4).1, l3, (rNum_back (Nat.zero_le _) c1).1] at m3
                rw [l1, m1]
                simp only [List.nil_append]
                have k1 := (rNum_back (Nat.zero_le _) c1).2.1
                have k2 := (rNum_back l4 c4).2.1
                have n1 : (L.length : Int) = (rNum b 0 0).1 := by rw [l2]; omega
                have n2 : (M.length : Int) = (rNum b (prP b (rNum b 0 0).1.toNat (rPos b 0 0) [] []).1 0).1 := by rw [m2]; omega
                rw [n1, n2]
                conv => rhs; rw [m3]
                simp
            · rw [if_pos c6] at h; exact absurd h c6
        · rw [if_pos c4] at h; exact absurd h c4
      · rw [if_pos c3] at h; exact absurd h c3
  · rw [if_pos c1] at h; exact absurd h c1
theorem resV_snap {p : PP} {s : SS} (h : Inv p s) (hv : ∀ e ∈ s, okVal e.2.2.2.1 e.2.2.2.2 = true) : resV (snapV p s) = (0, canP p, canM s) := by
  have hp := h.pl; have hs := h.sl
  have e0 := snapV_enc h
  obtain ⟨b, hb⟩ : ∃ b, b = snapV p s := ⟨_, rfl⟩
  rw [← hb] at e0 ⊢
  have k1 : okN (p.length : Int) := ⟨by omega, by omega⟩
  have k2 : okN (s.length : Int) := ⟨by omega, by omega⟩
  have hcm : (canM s).map (·.2) = canS s := (canS_M s).symm
  have b1 : b = [] ++ (bytesV (p.length : Int) ++ (encP (canP p) ++ (bytesV (s.length : Int) ++ encS (canS s)))) := by rw [e0]; rfl
  have b2 : b = ([] ++ bytesV (p.length : Int)) ++ (encP (canP p) ++ (bytesV (s.length : Int) ++ encS (canS s))) := by rw [b1]; simp
  have b3 : b = ([] ++ bytesV (p.length : Int) ++ encP (canP p)) ++ (bytesV (s.length : Int) ++ encS (canS s)) := by rw [b2]; simp
  have b4 : b = ([] ++ bytesV (p.length : Int) ++ encP (canP p) ++ bytesV (s.length : Int)) ++ (encS ((canM s).map (·.2)) ++ []) := by rw [b3, hcm]; simp
  have q1 := rNum_at b1 k1
  have p1 := rP_at b1 k1
  have c1 := prP_at b _ (canP p) _ [] [] b2 (canP_srt h.pk) (by
    intro e he
    have hm := (h.pe e (mget_mem _ _ _ (by rw [← canP_get]; exact mget_of_mem _ _ _ (srt_nodup (canP_srt h.pk)) he)))
    refine ⟨?_, hm.2⟩
    have := hm.1
    cases hx : e.1 with
    | nil => exact absurd hx this
    | cons x l => simp)
  have q3 := rNum_at b3 k2
  have p3 := rP_at b3 k2
  have c4 := prS_at b [] (canM s) _ 0 [] b4 (canM_srt h.sk) (by
    intro e he
    have hm := mget_mem _ _ _ (by rw [← canM_get]; exact mget_of_mem _ _ _ (srt_nodup (canM_srt h.sk)) he : mget s e.1 = some e.2)
    have hg := h.se _ hm
    refine ⟨?_, hg, hv _ hm⟩
    have := hg.2.1.1; simp only at this; omega)
  have hl1 : (canP p).length = p.length := canP_len
  have hl2 : (canM s).length = s.length := by rw [← canS_len s, canS_M, List.length_map]
  rw [hl1] at c1
  rw [hl2] at c4
  have z : ([] : List UInt8).length = 0 := rfl
  rw [z] at q1 p1
  unfold resV
  simp only
  rw [q1, p1]
  simp only [Int.toNat_natCast]
  rw [c1]
  simp only
  rw [q3, p3]
  simp only [Int.toNat_natCast]
  rw [c4]
  simp only [not_true_eq_false, if_false, List.nil_append]
  have hlen : b.length = ([] ++ bytesV (p.length : Int) ++ encP (canP p) ++ bytesV (s.length : Int) ++ encS ((canM s).map fun x : Int × Sess => x.2)).length := by rw [b4]; simp
  simp only [List.nil_append] at hlen
  rw [if_neg (by omega), if_neg (by omega), if_neg (by omega)]
end Go.Proofs.YtdaedoklkmdhcaaGreat
