/- Kv: the program's Restore. Conditions: as each says. -/
import Derived.Test.YtdaedoklkmdhcaaGreatPlKv7
namespace Go.Proofs.YtdaedoklkmdhcaaGreat
set_option linter.unusedVariables false
set_option linter.unusedSimpArgs false
open Go.RowKit
section
variable {b : List UInt8} {k p : Nat}
theorem isP2 (hk : 12 ≤ k) (hb : b.length < 2 ^ 47) (hp : p ≤ b.length) (a : List UInt8) : kv_is_string_kv_reader_pairs_2_kv_reader_pairs_3.f k b (p : Int) 0 0 a 4 = some (isV (rBytes b p 0 64).1 (decide (a < (rBytes b p 0 64).1)) p (rBytes b p 0 64).2.1 (rBytes b p 0 64).2.2 4) :=
  is_text hk hb hp 64 _ rfl (fun x => kv_reader_pairs_3.f x a) (fun x => decide (a < x)) (fun x => by unfold kv_reader_pairs_3.f; rw [gt_iff]) 4 (.inl (by decide))
theorem isP4 (hk : 12 ≤ k) (hb : b.length < 2 ^ 47) (hp : p ≤ b.length) : kv_is_string_kv_reader_pairs_4_kv_reader_pairs_5.f k b (p : Int) 0 0 0 = some (isV (rBytes b p 0 1024).1 true p (rBytes b p 0 1024).2.1 (rBytes b p 0 1024).2.2 0) :=
  is_text hk hb hp 1024 _ rfl (fun x => kv_reader_pairs_5.f x) (fun x => true) (fun x => rfl) 0 (.inr fun _ => rfl)
theorem isP1 (hk : 12 ≤ k) (hb : b.length < 2 ^ 47) (hp : p ≤ b.length) : kv_is_int_wire_Reader_Int_kv_reader_pairs_1.f k b (p : Int) 0 0 23 = some (isV (rNum b p 0).1 (decide ((rNum b p 0).1 ≤ 128)) p (rPos b p 0) (rNum b p 0).2.2 23) :=
  is_int hk hb hp (fun x => kv_reader_pairs_1.f x) (fun x => decide (x ≤ 128)) (fun x => rfl) 23 (by decide)
theorem isC1 (hk : 12 ≤ k) (hb : b.length < 2 ^ 47) (hp : p ≤ b.length) : kv_is_int_wire_Reader_Int_kv_reader_clients_1.f k b (p : Int) 0 0 23 = some (isV (rNum b p 0).1 (decide ((rNum b p 0).1 ≤ 32)) p (rPos b p 0) (rNum b p 0).2.2 23) :=
  is_int hk hb hp (fun x => kv_reader_clients_1.f x) (fun x => decide (x ≤ 32)) (fun x => rfl) 23 (by decide)
theorem isC2 (hk : 12 ≤ k) (hb : b.length < 2 ^ 47) (hp : p ≤ b.length) (a : Int) : kv_is_int_wire_Reader_Int_kv_reader_clients_2.f k b (p : Int) 0 0 a 4 = some (isV (rNum b p 0).1 (decide (a < (rNum b p 0).1)) p (rPos b p 0) (rNum b p 0).2.2 4) :=
  is_int hk hb hp (fun x => kv_reader_clients_2.f x a) (fun x => decide (a < x)) (fun x => rfl) 4 (by decide)
theorem isC3 (hk : 12 ≤ k) (hb : b.length < 2 ^ 47) (hp : p ≤ b.length) : kv_is_int_wire_Reader_Int_kv_reader_clients_3.f k b (p : Int) 0 0 4 = some (isV (rNum b p 0).1 (decide (0 < (rNum b p 0).1)) p (rPos b p 0) (rNum b p 0).2.2 4) :=
  is_int hk hb hp (fun x => kv_reader_clients_3.f x) (fun x => decide (0 < x)) (fun x => rfl) 4 (by decide)
def keptC (x : Int) : Bool := (((decide (x = (1 : Int))) || (decide (x = (2 : Int)))) || (decide (x = (3 : Int)))) || (decide (x = (5 : Int)))
theorem isC4 (hk : 12 ≤ k) (hb : b.length < 2 ^ 47) (hp : p ≤ b.length) : kv_is_int_wire_Reader_Int_kv_kept.f k b (p : Int) 0 0 4 = some (isV (rNum b p 0).1 (keptC (rNum b p 0).1) p (rPos b p 0) (rNum b p 0).2.2 4) :=
  is_int hk hb hp (fun x => kv_kept.f x) keptC (fun x => rfl) 4 (by decide)
def okVal (d : Int) (v : List UInt8) : Bool := (decide (v = ([] : List UInt8))) || (decide (d = (3 : Int)))
theorem isC5 (hk : 12 ≤ k) (hb : b.length < 2 ^ 47) (hp : p ≤ b.length) (c q d : Int) (v : List UInt8) : kv_is_string_kv_reader_clients_4_kv_reader_clients_5.f k b (p : Int) 0 0 c q d v 4 = some (isV (rBytes b p 0 1024).1 (okVal d (rBytes b p 0 1024).1) p (rBytes b p 0 1024).2.1 (rBytes b p 0 1024).2.2 4) :=
  is_text hk hb hp 1024 _ rfl (fun x => kv_reader_clients_5.f x c q d v) (okVal d) (fun x => rfl) 4 (.inl (by decide))
theorem isV_ok {α : Type} {x : α} {m : Bool} {q : Nat} {e er : Int} (he : e = 0) (hm : m = true) : isV x m p q e er = (x, true, (q : Int), 0, 0) := by
  unfold isV; rw [if_pos he, hm]; rfl
theorem isV_no {α : Type} {x : α} {m : Bool} {q : Nat} {e er : Int} (he : e = 0) (hm : m = false) : isV x m p q e er = (x, false, (q : Int), 0, er) := by
  unfold isV; rw [if_pos he, hm]; rfl
theorem isV_err {α : Type} {x : α} {m : Bool} {q : Nat} {e er : Int} (he : ¬ e = 0) : isV x m p q e er = (x, false, (p : Int), e, e) := by
  unfold isV; rw [if_neg he]
theorem pairs_loop (hb : b.length < 2 ^ 47) (S0 : SS) (s2 : Int × Bool × Int × Int × Int) : ∀ (n i k p : Nat) (a : List UInt8) (acc : PP), ((i + n : Nat) : Int) = s2.1 → i + n ≤ 1000 → n + 20 ≤ k → p ≤ b.length → (∀ e ∈ acc, e.1 = a ∨ e.1 < a) →
    ((prP b n p a acc).2.1 = 0 → kv_reader_pairs_s.l0 b S0 s2 k true (i : Int) a (p : Int) 0 0 acc = some (.inl (true, (((prP b n p a acc).1 : Nat) : Int), 0, 0, (prP b n p a acc).2.2)) ∧ (prP b n p a acc).1 ≤ b.length) ∧
    ((prP b n p a acc).2.1 ≠ 0 → ∃ p' re m, kv_reader_pairs_s.l0 b S0 s2 k true (i : Int) a (p : Int) 0 0 acc = some (.inl (false, p', re, (prP b n p a acc).2.1, m)) ∨ kv_reader_pairs_s.l0 b S0 s2 k true (i : Int) a (p : Int) 0 0 acc = some (.inr (false, p', re, (prP b n p a acc).2.1, m, S0)))
  | n, i, 0, p, a, acc, _, _, hk, _, _ => by omega
  | 0, i, k + 1, p, a, acc, hi, _, hk, hp, _ => by
    have hL : kv_reader_pairs_s.l0 b S0 s2 (k + 1) true (i : Int) a (p : Int) 0 0 acc = some (.inl (true, (p : Int), 0, 0, acc)) := by
      simp only [kv_reader_pairs_s.l0]
      rw [if_neg (by simp; omega)]
    rw [hL, show prP b 0 p a acc = (p, 0, acc) from rfl]
    exact ⟨fun _ => ⟨rfl, hp⟩, fun h => absurd rfl h⟩
  | n + 1, i, k + 1, p, a, acc, hi, hi2, hk, hp, hacc => by
    have hp1 := rBytes_le (e := 0) (most := 64) hp
    have hc : (true && (decide ((i : Int) < s2.1))) = true := by simp; omega
    by_cases h1 : (rBytes b p 0 64).2.2 = 0
    · by_cases h2 : a < (rBytes b p 0 64).1
      · have hp2 := rBytes_le (e := 0) (most := 1024) hp1.1
        by_cases h3 : (rBytes b (rBytes b p 0 64).2.1 0 1024).2.2 = 0
        · have hP : prP b (n + 1) p a acc = prP b n (rBytes b (rBytes b p 0 64).2.1 0 1024).2.1 (rBytes b p 0 64).1 (acc ++ [((rBytes b p 0 64).1, (rBytes b (rBytes b p 0 64).2.1 0 1024).1)]) := by
            simp only [prP]; rw [if_pos h1, if_pos h2, if_pos h3]
          have hL : kv_reader_pairs_s.l0 b S0 s2 (k + 1) true (i : Int) a (p : Int) 0 0 acc = kv_reader_pairs_s.l0 b S0 s2 k true ((i + 1 : Nat) : Int) (rBytes b p 0 64).1 (((rBytes b (rBytes b p 0 64).2.1 0 1024).2.1 : Nat) : Int) 0 0 (acc ++ [((rBytes b p 0 64).1, (rBytes b (rBytes b p 0 64).2.1 0 1024).1)]) := by
            simp only [kv_reader_pairs_s.l0]
            rw [if_pos hc, isP2 (by omega) hb hp, Option.bind_some, isV_ok h1 (decide_eq_true h2)]
            simp only [Bool.not_true, Bool.false_eq_true, if_false]
            rw [isP4 (by omega) hb hp1.1, Option.bind_some, isV_ok h3 rfl]
            simp only
            rw [mput_new _ _ _ (mget_none_lt acc a _ hacc h2), inc64 i 2000 (by omega) (by decide)]
          rw [hP, hL]
          exact pairs_loop hb S0 s2 n (i + 1) k _ _ _ (by rw [← hi]; omega) (by omega) (by omega) hp2.1 (acc_le hacc h2)
        · have hP : prP b (n + 1) p a acc = (0, (rBytes b (rBytes b p 0 64).2.1 0 1024).2.2, []) := by
            simp only [prP]; rw [if_pos h1, if_pos h2, if_neg h3]
          rw [hP]
          refine ⟨fun h => absurd h h3, fun _ => ?_⟩
          have hL : ∃ p' re m, kv_reader_pairs_s.l0 b S0 s2 (k + 1) true (i : Int) a (p : Int) 0 0 acc = some (.inl (false, p', re, (rBytes b (rBytes b p 0 64).2.1 0 1024).2.2, m)) := by
            simp only [kv_reader_pairs_s.l0]
            rw [if_pos hc, isP2 (by omega) hb hp, Option.bind_some, isV_ok h1 (decide_eq_true h2)]
            simp only [Bool.not_true, Bool.false_eq_true, if_false]
            rw [isP4 (by omega) hb hp1.1, Option.bind_some, isV_err h3]
            simp only
            cases k with
            | zero => omega
            | succ k =>
              simp only [kv_reader_pairs_s.l0, Bool.false_and, Bool.false_eq_true, if_false]
              exact ⟨_, _, _, rfl⟩
          obtain ⟨p', re, m, hL⟩ := hL
          exact ⟨p', re, m, .inl hL⟩
      · have hP : prP b (n + 1) p a acc = (0, 4, []) := by
          simp only [prP]; rw [if_pos h1, if_neg h2]
        rw [hP]
        refine ⟨fun h => by simp at h, fun _ => ?_⟩
        refine ⟨((rBytes b p 0 64).2.1 : Nat), 0, acc, .inr ?_⟩
        simp only [kv_reader_pairs_s.l0]
        rw [if_pos hc, isP2 (by omega) hb hp, Option.bind_some, isV_no h1 (decide_eq_false h2)]
        rfl
    · have hP : prP b (n + 1) p a acc = (0, (rBytes b p 0 64).2.2, []) := by
        simp only [prP]; rw [if_neg h1]
      rw [hP]
      refine ⟨fun h => absurd h h1, fun _ => ?_⟩
      refine ⟨(p : Int), (rBytes b p 0 64).2.2, acc, .inr ?_⟩
      simp only [kv_reader_pairs_s.l0]
      rw [if_pos hc, isP2 (by omega) hb hp, Option.bind_some, isV_err h1]
      rfl
end
def prS (b : List UInt8) : Nat → Nat → Int → SS → Nat × Int × SS
  | 0, p, a, acc => (p, 0, acc)
  | n + 1, p, a, acc =>
    let c := rNum b p 0
    let p1 := rPos b p 0
    let q := rNum b p1 0
    let p2 := rPos b p1 0
    let d := rNum b p2 0
    let p3 := rPos b p2 0
    let v := rBytes b p3 0 1024
    if ¬ c.2.2 = 0 then (0, c.2.2, []) else if ¬ a < c.1 then (0, 4, []) else
    if ¬ q.2.2 = 0 then (0, q.2.2, []) else if ¬ 0 < q.1 then (0, 4, []) else
    if ¬ d.2.2 = 0 then (0, d.2.2, []) else if keptC d.1 = false then (0, 4, []) else
    if ¬ v.2.2 = 0 then (0, v.2.2, []) else if okVal d.1 v.1 = false then (0, 4, []) else
    prS b n v.2.1 c.1 (acc ++ [(c.1, (c.1, q.1, d.1, v.1))])
theorem clients_stop {b : List UInt8} (s2 : Int × Bool × Int × Int × Int) (k : Nat) (hk : 1 ≤ k) (i a p re er : Int) (m : SS) : kv_reader_clients_s.l0 b s2 k false i a p re er m = some (false, p, re, er, m) := by
  cases k with
  | zero => omega
  | succ k => simp only [kv_reader_clients_s.l0, Bool.false_and, Bool.false_eq_true, if_false]
theorem clients_step {b : List UInt8} (s2 : Int × Bool × Int × Int × Int) (k i p : Nat) (a : Int) (acc : SS) (hc : (true && (decide ((i : Int) < s2.1))) = true) : kv_reader_clients_s.l0 b s2 (k + 1) true (i : Int) a (p : Int) 0 0 acc = ((kv_is_int_wire_Reader_Int_kv_reader_clients_2.f k b (p : Int) 0 0 a (4 : Int)).bind fun s21v => ((if s21v.2.1 = true then ((kv_is_int_wire_Reader_Int_kv_reader_clients_3.f k b s21v.2.2.1 s21v.2.2.2.1 s21v.2.2.2.2 (4 : Int)).bind fun s29v => (some (s29v.2.1, s29v.2.2.1, s29v.2.2.2.1, s29v.2.2.2.2, s29v.1))) else (some (s21v.2.1, s21v.2.2.1, s21v.2.2.2.1, s21v.2.2.2.2, 0))).bind fun s25v => ((if s25v.1 = true then ((kv_is_int_wire_Reader_Int_kv_kept.f k b s25v.2.1 s25v.2.2.1 s25v.2.2.2.1 (4 : Int)).bind fun s37v => (some (s37v.2.1, s37v.2.2.1, s37v.2.2.2.1, s37v.2.2.2.2, s37v.1))) else (some (s25v.1, s25v.2.1, s25v.2.2.1, s25v.2.2.2.1, 0))).bind fun s33v => ((if s33v.1 = true then ((kv_is_string_kv_reader_clients_4_kv_reader_clients_5.f k b s33v.2.1 s33v.2.2.1 s33v.2.2.2.1 s21v.1 s25v.2.2.2.2 s33v.2.2.2.2 ([] : List UInt8) (4 : Int)).bind fun s45v => (some (s45v.2.1, s45v.2.2.1, s45v.2.2.2.1, s45v.2.2.2.2, s45v.1))) else (some (s33v.1, s33v.2.1, s33v.2.2.1, s33v.2.2.2.1, ([] : List UInt8)))).bind fun s41v => (kv_reader_clients_s.l0 b s2 k s41v.1 (IntKind.i64.wrap ((i : Int) + 1)) s21v.1 s41v.2.1 s41v.2.2.1 s41v.2.2.2.1 (mput acc s21v.1 (s21v.1, s25v.2.2.2.2, s33v.2.2.2.2, s41v.2.2.2.2))))))) := by
  simp only [kv_reader_clients_s.l0]
  rw [if_pos hc]
theorem clients_loop {b : List UInt8} (hb : b.length < 2 ^ 47) (s2 : Int × Bool × Int × Int × Int) : ∀ (n i k p : Nat) (a : Int) (acc : SS), ((i + n : Nat) : Int) = s2.1 → i + n ≤ 1000 → n + 20 ≤ k → p ≤ b.length → (∀ e ∈ acc, e.1 = a ∨ e.1 < a) →
    ((prS b n p a acc).2.1 = 0 → kv_reader_clients_s.l0 b s2 k true (i : Int) a (p : Int) 0 0 acc = some (true, (((prS b n p a acc).1 : Nat) : Int), 0, 0, (prS b n p a acc).2.2) ∧ (prS b n p a acc).1 ≤ b.length) ∧
    ((prS b n p a acc).2.1 ≠ 0 → ∃ p' re m, kv_reader_clients_s.l0 b s2 k true (i : Int) a (p : Int) 0 0 acc = some (false, p', re, (prS b n p a acc).2.1, m))
  | n, i, 0, p, a, acc, _, _, hk, _, _ => by omega
  | 0, i, k + 1, p, a, acc, hi, _, hk, hp, _ => by
    have hL : kv_reader_clients_s.l0 b s2 (k + 1) true (i : Int) a (p : Int) 0 0 acc = some (true, (p : Int), 0, 0, acc) := by
      simp only [kv_reader_clients_s.l0]
      rw [if_neg (by simp; omega)]
    rw [hL, show prS b 0 p a acc = (p, 0, acc) from rfl]
    exact ⟨fun _ => ⟨rfl, hp⟩, fun h => absurd rfl h⟩
  | n + 1, i, k + 1, p, a, acc, hi, hi2, hk, hp, hacc => by
    have hp1 := rPos_le (e := 0) hp
    have hp2 := rPos_le (e := 0) hp1
    have hp3 := rPos_le (e := 0) hp2
    have hp4 := rBytes_le (e := 0) (most := 1024) hp3
    have hc : (true && (decide ((i : Int) < s2.1))) = true := by simp; omega
    have hU := clients_step (b := b) s2 k i p a acc hc
    rw [isC2 (by omega) hb hp, Option.bind_some] at hU
    have fin : ∀ (x : Nat × Int × SS), prS b (n + 1) p a acc = x → x.2.1 ≠ 0 → (∃ p' re m, kv_reader_clients_s.l0 b s2 (k + 1) true (i : Int) a (p : Int) 0 0 acc = some (false, p', re, x.2.1, m)) →
        (((prS b (n + 1) p a acc).2.1 = 0 → kv_reader_clients_s.l0 b s2 (k + 1) true (i : Int) a (p : Int) 0 0 acc = some (true, (((prS b (n + 1) p a acc).1 : Nat) : Int), 0, 0, (prS b (n + 1) p a acc).2.2) ∧ (prS b (n + 1) p a acc).1 ≤ b.length) ∧
        ((prS b (n + 1) p a acc).2.1 ≠ 0 → ∃ p' re m, kv_reader_clients_s.l0 b s2 (k + 1) true (i : Int) a (p : Int) 0 0 acc = some (false, p', re, (prS b (n + 1) p a acc).2.1, m))) := by
      intro x hx h0 hm
      rw [hx]
      exact ⟨fun h => absurd h h0, fun _ => hm⟩
    by_cases h1 : (rNum b p 0).2.2 = 0
    · by_cases h2 : a < (rNum b p 0).1
      · rw [isV_ok h1 (decide_eq_true h2)] at hU
        simp only [if_true] at hU
        rw [isC3 (by omega) hb hp1, Option.bind_some, Option.bind_some] at hU
        by_cases h3 : (rNum b (rPos b p 0) 0).2.2 = 0
        · by_cases h4 : 0 < (rNum b (rPos b p 0) 0).1
          · rw [isV_ok h3 (decide_eq_true h4)] at hU
            simp only [if_true] at hU
            rw [isC4 (by omega) hb hp2, Option.bind_some, Option.bind_some] at hU
            by_cases h5 : (rNum b (rPos b (rPos b p 0) 0) 0).2.2 = 0
            · by_cases h6 : keptC (rNum b (rPos b (rPos b p 0) 0) 0).1 = false
              · refine fin (0, 4, []) (by simp only [prS]; rw [if_neg (not_not_intro h1), if_neg (not_not_intro h2), if_neg (not_not_intro h3), if_neg (not_not_intro h4), if_neg (not_not_intro h5), if_pos h6]) (by decide) ?_
                rw [hU, isV_no h5 h6]
                simp only [Bool.false_eq_true, if_false, Option.bind_some]
                rw [clients_stop _ _ (by omega)]
                exact ⟨_, _, _, rfl⟩
              · have h6' : keptC (rNum b (rPos b (rPos b p 0) 0) 0).1 = true := by simpa using h6
                rw [isV_ok h5 h6'] at hU
                simp only [if_true] at hU
                rw [isC5 (by omega) hb hp3, Option.bind_some, Option.bind_some] at hU
                by_cases h7 : (rBytes b (rPos b (rPos b (rPos b p 0) 0) 0) 0 1024).2.2 = 0
                · by_cases h8 : okVal (rNum b (rPos b (rPos b p 0) 0) 0).1 (rBytes b (rPos b (rPos b (rPos b p 0) 0) 0) 0 1024).1 = false
                  · refine fin (0, 4, []) (by simp only [prS]; rw [if_neg (not_not_intro h1), if_neg (not_not_intro h2), if_neg (not_not_intro h3), if_neg (not_not_intro h4), if_neg (not_not_intro h5), if_neg h6, if_neg (not_not_intro h7), if_pos h8]) (by decide) ?_
                    rw [hU, isV_no h7 h8]
                    simp only
                    rw [clients_stop _ _ (by omega)]
                    exact ⟨_, _, _, rfl⟩
                  · have h8' : okVal (rNum b (rPos b (rPos b p 0) 0) 0).1 (rBytes b (rPos b (rPos b (rPos b p 0) 0) 0) 0 1024).1 = true := by simpa using h8
                    have hP : prS b (n + 1) p a acc = prS b n (rBytes b (rPos b (rPos b (rPos b p 0) 0) 0) 0 1024).2.1 (rNum b p 0).1 (acc ++ [((rNum b p 0).1, ((rNum b p 0).1, (rNum b (rPos b p 0) 0).1, (rNum b (rPos b (rPos b p 0) 0) 0).1, (rBytes b (rPos b (rPos b (rPos b p 0) 0) 0) 0 1024).1))]) := by
                      simp only [prS]; rw [if_neg (not_not_intro h1), if_neg (not_not_intro h2), if_neg (not_not_intro h3), if_neg (not_not_intro h4), if_neg (not_not_intro h5), if_neg h6, if_neg (not_not_intro h7), if_neg h8]
                    rw [isV_ok h7 h8'] at hU
                    simp only at hU
                    rw [mput_new _ _ _ (mget_none_lt acc a _ hacc h2), inc64 i 2000 (by omega) (by decide)] at hU
                    rw [hP, hU]
                    exact clients_loop hb s2 n (i + 1) k _ _ _ (by rw [← hi]; omega) (by omega) (by omega) hp4.1 (acc_le hacc h2)
                · refine fin (0, _, []) (by simp only [prS]; rw [if_neg (not_not_intro h1), if_neg (not_not_intro h2), if_neg (not_not_intro h3), if_neg (not_not_intro h4), if_neg (not_not_intro h5), if_neg h6, if_pos h7]) h7 ?_
                  rw [hU, isV_err h7]
                  simp only
                  rw [clients_stop _ _ (by omega)]
                  exact ⟨_, _, _, rfl⟩
            · refine fin (0, _, []) (by simp only [prS]; rw [if_neg (not_not_intro h1), if_neg (not_not_intro h2), if_neg (not_not_intro h3), if_neg (not_not_intro h4), if_pos h5]) h5 ?_
              rw [hU, isV_err h5]
              simp only [Bool.false_eq_true, if_false, Option.bind_some]
              rw [clients_stop _ _ (by omega)]
              exact ⟨_, _, _, rfl⟩
          · refine fin (0, 4, []) (by simp only [prS]; rw [if_neg (not_not_intro h1), if_neg (not_not_intro h2), if_neg (not_not_intro h3), if_pos h4]) (by decide) ?_
            rw [hU, isV_no h3 (decide_eq_false h4)]
            simp only [Bool.false_eq_true, if_false, Option.bind_some]
            rw [clients_stop _ _ (by omega)]
            exact ⟨_, _, _, rfl⟩
        · refine fin (0, _, []) (by simp only [prS]; rw [if_neg (not_not_intro h1), if_neg (not_not_intro h2), if_pos h3]) h3 ?_
          rw [hU, isV_err h3]
          simp only [Bool.false_eq_true, if_false, Option.bind_some]
          rw [clients_stop _ _ (by omega)]
          exact ⟨_, _, _, rfl⟩
      · refine fin (0, 4, []) (by simp only [prS]; rw [if_neg (not_not_intro h1), if_pos h2]) (by decide) ?_
        rw [hU, isV_no h1 (decide_eq_false h2)]
        simp only [Bool.false_eq_true, if_false, Option.bind_some]
        rw [clients_stop _ _ (by omega)]
        exact ⟨_, _, _, rfl⟩
    · refine fin (0, _, []) (by simp only [prS]; rw [if_pos h1]) h1 ?_
      rw [hU, isV_err h1]
      simp only [Bool.false_eq_true, if_false, Option.bind_some]
      rw [clients_stop _ _ (by omega)]
      exact ⟨_, _, _, rfl⟩
def resV (b : List UInt8) : Int × PP × SS :=
  let n := rNum b 0 0
  let r := prP b n.1.toNat (rPos b 0 0) [] []
  let m := rNum b r.1 0
  let t := prS b m.1.toNat (rPos b r.1 0) 0 []
  if ¬ n.2.2 = 0 then (n.2.2, [], []) else if 128 < n.1 then (23, [], []) else
  if ¬ r.2.1 = 0 then (r.2.1, [], []) else
  if ¬ m.2.2 = 0 then (m.2.2, [], []) else if 32 < m.1 then (23, [], []) else
  if ¬ t.2.1 = 0 then (t.2.1, [], []) else
  if t.1 < b.length then (3, [], []) else (0, r.2.2, t.2.2)
theorem Restore_eq {b : List UInt8} (hb : b.length < 2 ^ 46) {k : Nat} (hk : 400 ≤ k) : kv_Restore.f k b = some (decide ((resV b).1 = 0), (resV b).2.1, (resV b).2.2, (resV b).1) := by
  unfold kv_Restore.f wire_NewReader.f kv_New.f
  rw [fresh_eq (by omega), Option.bind_some, Option.bind_some, Option.bind_some]
  simp only
  unfold kv_reader_pairs_s.f resV
  have e0 : (0 : Int) = ((0 : Nat) : Int) := rfl
  have i1 := isP1 (b := b) (k := k) (p := 0) (by omega) (by omega) (by omega)
  rw [show ((0 : Nat) : Int) = 0 from rfl] at i1
  rw [i1, Option.bind_some]
  have hp0 := rPos_le (b := b) (p := 0) (e := 0) (by omega)
  by_cases h1 : (rNum b 0 0).2.2 = 0
  · simp only [if_neg (not_not_intro h1)]
    obtain ⟨n, j, hd, a1, a2, a3⟩ := rNum_ok h1
    have hn1 : (rNum b 0 0).1 = (n : Int) := by rw [hd]
    by_cases h2 : 128 < (rNum b 0 0).1
    · rw [if_pos h2, isV_no h1 (decide_eq_false (by omega))]
      obtain ⟨k', rfl⟩ : ∃ k', k = k' + 1 := ⟨k - 1, by omega⟩
      simp only [kv_reader_pairs_s.l0, Bool.false_and, Bool.false_eq_true, if_false, orR, Option.bind_some, Bool.not_false, if_true]
      rfl
    · rw [if_neg h2, isV_ok h1 (decide_eq_true (by omega))]
      simp only
      have L := pairs_loop (b := b) (by omega) [] ((rNum b 0 0).1, true, ((rPos b 0 0 : Nat) : Int), 0, 0) n 0 k (rPos b 0 0) [] [] (by rw [hn1]; simp) (by omega) (by omega) hp0 (by simp)
      rw [hn1, Int.toNat_natCast]
      rw [hn1, show ((0 : Nat) : Int) = 0 from rfl] at L
      by_cases h3 : (prP b n (rPos b 0 0) [] []).2.1 = 0
      · obtain ⟨e3, hp3⟩ := L.1 h3
        rw [e3, if_neg (not_not_intro h3)]
        simp only [orR, Option.bind_some, Bool.not_true, Bool.false_eq_true, if_false]
        unfold kv_reader_clients_s.f
        rw [isC1 (by omega) (by omega) hp3, Option.bind_some]
        have hp4 := rPos_le (e := 0) hp3
        by_cases h4 : (rNum b (prP b n (rPos b 0 0) [] []).1 0).2.2 = 0
        · rw [if_neg (not_not_intro h4)]
          obtain ⟨m, j2, hd2, c1, c2, c3⟩ := rNum_ok h4
          have hm1 : (rNum b (prP b n (rPos b 0 0) [] []).1 0).1 = (m : Int) := by rw [hd2]
          by_cases h5 : 32 < (rNum b (prP b n (rPos b 0 0) [] []).1 0).1
          · rw [if_pos h5, isV_no h4 (decide_eq_false (by omega))]
            simp only
            rw [clients_stop _ _ (by omega)]
            simp
          · rw [if_neg h5, isV_ok h4 (decide_eq_true (by omega))]
            simp only
            have C := clients_loop (b := b) (by omega) ((rNum b (prP b n (rPos b 0 0) [] []).1 0).1, true, ((rPos b (prP b n (rPos b 0 0) [] []).1 0 : Nat) : Int), 0, 0) m 0 k (rPos b (prP b n (rPos b 0 0) [] []).1 0) 0 [] (by rw [hm1]; simp) (by omega) (by omega) hp4 (by simp)
            rw [hm1, Int.toNat_natCast]
            rw [hm1, show ((0 : Nat) : Int) = 0 from rfl] at C
            by_cases h6 : (prS b m (rPos b (prP b n (rPos b 0 0) [] []).1 0) 0 []).2.1 = 0
            · obtain ⟨e6, hp6⟩ := C.1 h6
              rw [e6, if_neg (not_not_intro h6)]
              simp only [Option.bind_some, Bool.not_true, Bool.false_eq_true, if_false]
              unfold wire_Reader_Done.f wire_Reader_Left.f
              rw [if_pos rfl, Option.bind_some, Option.bind_some, w64 (by omega) (by omega)]
              by_cases h7 : (prS b m (rPos b (prP b n (rPos b 0 0) [] []).1 0) 0 []).1 < b.length
              · rw [if_pos h7, if_pos (by simp; omega)]
                simp
              · rw [if_neg h7, if_neg (by simp; omega)]
                simp
            · obtain ⟨p', re, mm, e6⟩ := C.2 h6
              rw [e6, if_pos h6]
              simp [h6]
        · rw [if_pos h4, isV_err h4]
          simp only
          rw [clients_stop _ _ (by omega)]
          simp [h4]
      · obtain ⟨p', re, mm, e3⟩ := L.2 h3
        rw [if_pos h3]
        rcases e3 with e3 | e3 <;> rw [e3] <;> simp [orR, h3]
  · rw [if_pos h1, isV_err h1]
    obtain ⟨k', rfl⟩ : ∃ k', k = k' + 1 := ⟨k - 1, by omega⟩
    simp [kv_reader_pairs_s.l0, orR, h1]
end Go.Proofs.YtdaedoklkmdhcaaGreat
