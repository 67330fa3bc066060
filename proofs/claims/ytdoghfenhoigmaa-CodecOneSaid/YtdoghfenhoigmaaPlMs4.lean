/- The codec's plain laws: what is read of a message, by the program and by the document. Conditions: as each says. -/
import Derived.Test.YtdoghfenhoigmaaPlMs3
namespace Go.Proofs.Ytdoghfenhoigmaa
set_option linter.unusedVariables false
set_option linter.unusedSimpArgs false
open Go.RowKit
abbrev TupM := Int × Int × Int × Int × Int × Int × Int × Int × Int × Bool × (List (Int × Int × Int × List UInt8)) × Int × Int × List UInt8 × Int
def tupM (m : Msg) (e : Int) : TupM := (m.kd, m.fr, m.to, m.tm, m.ix, m.lt, m.cm, m.hi, m.cx, m.rj, m.es, m.si, m.st, m.sd, e)
def zM : Msg := ⟨0, 0, 0, 0, 0, 0, 0, 0, 0, false, [], 0, 0, []⟩
def rdK (b : List UInt8) (kd fr to tm : Int) (p : Nat) (e : Int) : Msg × Nat × Int :=
  if kd = 1 then
    let a := rI b p e; let c := rI b a.2.1 a.2.2
    (⟨kd, fr, to, tm, a.1, c.1, 0, 0, 0, false, [], 0, 0, []⟩, c.2.1, c.2.2)
  else if kd = 2 then
    let a := rBool b p e
    (⟨kd, fr, to, tm, 0, 0, 0, 0, 0, a.1, [], 0, 0, []⟩, a.2.1, a.2.2)
  else if kd = 3 then
    let a := rI b p e; let c := rI b a.2.1 a.2.2; let d := rI b c.2.1 c.2.2; let n := rI b d.2.1 d.2.2
    if n.2.2 ≠ 0 then (⟨kd, fr, to, tm, a.1, c.1, d.1, 0, 0, false, [], 0, 0, []⟩, n.2.1, n.2.2)
    else if 64 < n.1 then (⟨kd, fr, to, tm, a.1, c.1, d.1, 0, 0, false, [], 0, 0, []⟩, n.2.1, 3)
    else let r := rdEs b n.1.toNat n.2.1; (⟨kd, fr, to, tm, a.1, c.1, d.1, 0, 0, false, r.1, 0, 0, []⟩, r.2.1, r.2.2)
  else if kd = 4 then
    let a := rI b p e; let c := rBool b a.2.1 a.2.2; let d := rI b c.2.1 c.2.2
    (⟨kd, fr, to, tm, a.1, 0, 0, d.1, 0, c.1, [], 0, 0, []⟩, d.2.1, d.2.2)
  else if kd = 5 then
    let a := rI b p e; let c := rI b a.2.1 a.2.2
    (⟨kd, fr, to, tm, 0, 0, a.1, 0, c.1, false, [], 0, 0, []⟩, c.2.1, c.2.2)
  else if kd = 6 then
    let a := rI b p e
    (⟨kd, fr, to, tm, 0, 0, 0, 0, a.1, false, [], 0, 0, []⟩, a.2.1, a.2.2)
  else
    let d := rBytes b p e 1048576
    if d.2.2 ≠ 0 then (⟨kd, fr, to, tm, 0, 0, 0, 0, 0, false, [], 0, 0, []⟩, d.2.1, d.2.2)
    else let s := getP d.1; (⟨kd, fr, to, tm, 0, 0, 0, 0, 0, false, [], s.1, s.2.1, s.2.2.1⟩, d.2.1, s.2.2.2)
def finM (b : List UInt8) (x : Msg × Nat × Int) : Msg × Int :=
  let e := ends (rEnd b x.2.1 x.2.2) (chkM x.1); if e = 0 then (x.1, 0) else (zM, e)
def getM (b : List UInt8) : Msg × Int :=
  let a := rI b 0 0
  if a.2.2 ≠ 0 then (zM, a.2.2) else if ¬ nodeP a.1 then (zM, 6) else
  let f := rI b a.2.1 0; let t := rI b f.2.1 f.2.2; let m := rI b t.2.1 t.2.2
  finM b (rdK b a.1 f.1 t.1 m.1 m.2.1 m.2.2)
section
variable {b : List UInt8} {n p : Nat}
theorem rdEs_d (h : (rBytes b p 0 8192).2.2 ≠ 0) : rdEs b (n + 1) p = ([], (rBytes b p 0 8192).2.1, (rBytes b p 0 8192).2.2) := by
  simp only [rdEs]; rw [if_pos h]
theorem rdEs_x (h : (rBytes b p 0 8192).2.2 = 0) (hx : (getE (rBytes b p 0 8192).1).2.2.2.2 ≠ 0) : rdEs b (n + 1) p = ([], (rBytes b p 0 8192).2.1, (getE (rBytes b p 0 8192).1).2.2.2.2) := by
  simp only [rdEs]; rw [if_neg (not_not_intro h), if_pos hx]
theorem rdEs_r (h : (rBytes b p 0 8192).2.2 = 0) (hx : (getE (rBytes b p 0 8192).1).2.2.2.2 = 0) (hr : (rdEs b n (rBytes b p 0 8192).2.1).2.2 ≠ 0) : rdEs b (n + 1) p = ([], (rdEs b n (rBytes b p 0 8192).2.1).2.1, (rdEs b n (rBytes b p 0 8192).2.1).2.2) := by
  simp only [rdEs]; rw [if_neg (not_not_intro h), if_neg (not_not_intro hx), if_pos hr]
theorem rdEs_ok (h : (rBytes b p 0 8192).2.2 = 0) (hx : (getE (rBytes b p 0 8192).1).2.2.2.2 = 0) (hr : (rdEs b n (rBytes b p 0 8192).2.1).2.2 = 0) :
    rdEs b (n + 1) p = (((getE (rBytes b p 0 8192).1).1, (getE (rBytes b p 0 8192).1).2.1, (getE (rBytes b p 0 8192).1).2.2.1, (getE (rBytes b p 0 8192).1).2.2.2.1) :: (rdEs b n (rBytes b p 0 8192).2.1).1, (rdEs b n (rBytes b p 0 8192).2.1).2.1, 0) := by
  simp only [rdEs]; rw [if_neg (not_not_intro h), if_neg (not_not_intro hx), if_neg (not_not_intro hr)]
theorem rdEs_le : ∀ (n p : Nat), p ≤ b.length → (rdEs b n p).2.1 ≤ b.length
  | 0, p, h => h
  | n + 1, p, h => by
    have h1 := (rBytes_le (e := 0) (most := 8192) h).1
    have h2 := rdEs_le n _ h1
    unfold rdEs
    simp only []
    split
    · exact h1
    · split
      · exact h1
      · split <;> exact h2
end
theorem finM_err {b : List UInt8} {x : Msg × Nat × Int} (h : x.2.2 ≠ 0) : finM b x = (zM, x.2.2) := by
  unfold finM ends; rw [rEnd_err h, if_neg h]; simp only []; rw [if_neg h]
/-! ### The program's -/
section
variable {k : Nat} (hk : 200 ≤ k) {b : List UInt8} (hb : b.length ≤ 100000000)
include hb
theorem movI (hk : 12 ≤ k) {p : Nat} (hp : p ≤ b.length) (e : Int) : codec_moved_int_wire_Reader_Int.f k b (p : Int) e = some ((rI b p e).1, decide ((rI b p e).2.2 = 0), (((rI b p e).2.1 : Nat) : Int), (rI b p e).2.2) := by
  unfold codec_moved_int_wire_Reader_Int.f wire_Reader_At.f
  rw [Option.bind_some, cI hk hb hp, Option.bind_some]; simp only [Option.bind_some]
  rw [rI_moved]
theorem movE (hk : 12 ≤ k) {p : Nat} (hp : p ≤ b.length) (e most : Int) : codec_moved__byte_codec_each_Entry_1.f k b (p : Int) e most = some ((rBytes b p e most).1, decide ((rBytes b p e most).2.2 = 0), (((rBytes b p e most).2.1 : Nat) : Int), (rBytes b p e most).2.2) := by
  unfold codec_moved__byte_codec_each_Entry_1.f codec_each_Entry_1_s.f wire_Reader_At.f
  rw [Option.bind_some, cB hk hb hp, Option.bind_some]; simp only [Option.bind_some]
  rw [rB_moved]
theorem movP (hk : 12 ≤ k) {p : Nat} (hp : p ≤ b.length) (e : Int) : codec_moved__byte_codec_Messages_Get_1.f k b (p : Int) e = some ((rBytes b p e 1048576).1, decide ((rBytes b p e 1048576).2.2 = 0), (((rBytes b p e 1048576).2.1 : Nat) : Int), (rBytes b p e 1048576).2.2) := by
  unfold codec_moved__byte_codec_Messages_Get_1.f codec_Messages_Get_1_s.f wire_Reader_At.f
  rw [Option.bind_some, cB hk hb hp, Option.bind_some]; simp only [Option.bind_some]
  rw [rB_moved]
theorem each_l0 (s : Int × Bool × Int × Int) : ∀ (r k p : Nat) (acc : List EnT), (acc.length : Int) + r = s.1 → s.1 ≤ 64 → r + 20 ≤ k → p ≤ b.length →
    ((rdEs b r p).2.2 = 0 → codec_each_Entry_Entries.l0 b 8192 s k acc (p : Int) 0 = some (.inl (acc ++ (rdEs b r p).1, (((rdEs b r p).2.1 : Nat) : Int), 0))) ∧
    ((rdEs b r p).2.2 ≠ 0 → ∃ (q : Nat) (e : Int), q ≤ b.length ∧ codec_each_Entry_Entries.l0 b 8192 s k acc (p : Int) 0 = some (.inr ([], (rdEs b r p).2.2, (q : Int), e)))
  | r, 0, p, acc, _, _, hk, _ => by omega
  | 0, k + 1, p, acc, h, _, _, hp => by
    simp only [codec_each_Entry_Entries.l0, rdEs]
    rw [if_neg (by omega)]
    simp
  | r + 1, k + 1, p, acc, h, h64, hk, hp => by
    have hq := rBytes_le (b := b) (e := 0) (most := 8192) hp
    simp only [codec_each_Entry_Entries.l0]
    rw [if_pos (by omega), movE hb (by omega) hp, Option.bind_some]
    by_cases hd : (rBytes b p 0 8192).2.2 = 0
    · simp only [hd, decide_true, Bool.not_true, Bool.false_eq_true, if_false]
      rw [cGetE (by omega) (by omega), Option.bind_some]
      by_cases hx : (getE (rBytes b p 0 8192).1).2.2.2.2 = 0
      · rw [if_pos hx, if_pos (by simp only [List.length_singleton]; omega)]
        have ih := each_l0 s r k (rBytes b p 0 8192).2.1 (acc ++ [((getE (rBytes b p 0 8192).1).1, (getE (rBytes b p 0 8192).1).2.1, (getE (rBytes b p 0 8192).1).2.2.1, (getE (rBytes b p 0 8192).1).2.2.2.1)]) (by simp only [List.length_append, List.length_singleton]; omega) h64 (by omega) hq.1
        by_cases hr : (rdEs b r (rBytes b p 0 8192).2.1).2.2 = 0
        · rw [rdEs_ok hd hx hr]
          refine ⟨fun _ => ?_, fun x => absurd rfl x⟩
          rw [ih.1 hr]; simp
        · rw [rdEs_r hd hx hr]
          exact ⟨fun x => absurd x hr, fun _ => ih.2 hr⟩
      · rw [if_neg hx, rdEs_x hd hx]
        exact ⟨fun x => absurd x hx, fun _ => ⟨_, _, hq.1, rfl⟩⟩
    · rw [rdEs_d hd]
      refine ⟨fun x => absurd x hd, fun _ => ⟨(rBytes b p 0 8192).2.1, (rBytes b p 0 8192).2.2, hq.1, ?_⟩⟩
      simp only [hd, decide_false, Bool.not_false, if_true]
      rw [cDone hb hq.1, Option.bind_some, rEnd_err hd]
theorem cLast (hk : 70 ≤ k) {p : Nat} (hp : p ≤ b.length) (e : Int) (m : Msg) :
    codec_last_Message_Messages_c2.f k b (p : Int) e m.kd m.fr m.to m.tm m.ix m.lt m.cm m.hi m.cx m.rj m.es m.si m.st m.sd = some (tupM (finM b (m, p, e)).1 (finM b (m, p, e)).2) := by
  unfold codec_last_Message_Messages_c2.f finM
  have hc := cM hk m
  unfold checkM at hc
  rw [cDone hb hp, Option.bind_some, hc]
  simp only [Option.bind_some, ends_bind]
  split <;> rfl
include hk
theorem cGetM : codec_Messages_Get.f k b = some (tupM (getM b).1 (getM b).2) := by
  have p0 : (0 : Nat) ≤ b.length := Nat.zero_le _
  have p1 := rI_le (e := 0) p0
  unfold codec_Messages_Get.f
  rw [cNew hb, Option.bind_some]; simp only []
  rw [movI hb (by omega) p0, Option.bind_some]; simp only []
  unfold getM
  generalize ha : rI b 0 0 = a at p1 ⊢
  obtain ⟨kd, pa, ea⟩ := a
  simp only [] at p1 ⊢
  have p2 := rI_le (e := ea) p1
  generalize hf : rI b pa ea = f at p2
  have p3 := rI_le (e := f.2.2) p2
  generalize ht : rI b f.2.1 f.2.2 = t at p3
  have p4 := rI_le (e := t.2.2) p3
  generalize hm : rI b t.2.1 t.2.2 = m at p4
  have tail : ∀ (x : Option TupM), (¬ ((decide (kd < (1 : Int))) || (decide ((7 : Int) < kd))) = true ∨ ea ≠ 0) → x = ((if decide (ea = 0) = true then (some ((decide (kd < (1 : Int))) || (decide ((7 : Int) < kd)))) else (some false)).bind fun s => if s = true then some (0, 0, 0, 0, 0, 0, 0, 0, 0, false, [], 0, 0, [], 6) else x) := by
    intro x hx
    by_cases he : ea = 0
    · rw [if_pos (by simpa using he), Option.bind_some, if_neg (by rcases hx with hx | hx; exact hx; exact absurd he hx)]
    · rw [if_neg (by simpa using he), Option.bind_some, if_neg (by simp)]
  by_cases he : ea = 0
  · subst he
    have he0 : ¬ ((0 : Int) ≠ 0) := by simp
    rw [if_neg he0]
    by_cases hn : nodeP kd
    · rw [if_neg (not_not_intro hn)]
      rw [← tail _ (.inl (by have := hn.1; have := hn.2; simp; omega))]
      rw [cI (by omega) hb p1, Option.bind_some]; simp only []
      rw [hf, cI (by omega) hb p2, Option.bind_some]; simp only []
      rw [ht, cI (by omega) hb p3, Option.bind_some]; simp only []
      rw [hm]
      unfold rdK
      have q1 := rI_le (e := m.2.2) p4
      generalize h1 : rI b m.2.1 m.2.2 = a1 at q1
      have q2 := rI_le (e := a1.2.2) q1
      generalize h2 : rI b a1.2.1 a1.2.2 = a2 at q2
      by_cases k1 : kd = 1
      · rw [if_pos k1, if_pos k1, cI (by omega) hb p4, Option.bind_some]; simp only []
        rw [h1, cI (by omega) hb q1, Option.bind_some]; simp only [Option.bind_some, if_true]
        rw [h2]
        have := cLast hb (k := k) (by omega) q2 a2.2.2 ⟨kd, f.1, t.1, m.1, a1.1, a2.1, 0, 0, 0, false, [], 0, 0, []⟩
        simp only [] at this
        rw [this]; rfl
      rw [if_neg k1, if_neg k1]
      by_cases k2 : kd = 2
      · have qb := rBool_le (e := m.2.2) p4
        rw [if_pos k2, if_pos k2, cO (by omega) hb p4, Option.bind_some]; simp only [Option.bind_some, if_true]
        have := cLast hb (k := k) (by omega) qb (rBool b m.2.1 m.2.2).2.2 ⟨kd, f.1, t.1, m.1, 0, 0, 0, 0, 0, (rBool b m.2.1 m.2.2).1, [], 0, 0, []⟩
        simp only [] at this
        rw [this]; rfl
      rw [if_neg k2, if_neg k2]
      by_cases k3 : kd = 3
      · have q3 := rI_le (e := a2.2.2) q2
        generalize h3 : rI b a2.2.1 a2.2.2 = a3 at q3
        rw [if_pos k3, if_pos k3, cI (by omega) hb p4, Option.bind_some]; simp only []
        rw [h1, cI (by omega) hb q1, Option.bind_some]; simp only []
        rw [h2, cI (by omega) hb q2, Option.bind_some]; simp only []
        rw [h3]
        unfold codec_each_Entry_Entries.f
        rw [movI hb (by omega) q3]
        have q4 := rI_le (e := a3.2.2) q3
        have hbad := rI_bad (b := b) (p := a3.2.1) (e := a3.2.2)
        generalize h4 : rI b a3.2.1 a3.2.2 = n at q4 hbad
        obtain ⟨nv, np, ne⟩ := n
        simp only [Option.bind_some] at hbad q4 ⊢
        by_cases hne : ne = 0
        · subst hne
          simp only [decide_true, Bool.true_and, ne_eq, not_true_eq_false, if_false]
          by_cases h64 : 64 < nv
          · rw [if_pos (by simpa using h64), if_pos h64]
            simp only [Option.bind_some]
            rw [if_neg (by decide), finM_err (by simp)]; rfl
          · rw [if_neg (by simpa using h64), if_neg h64]
            have hnn : 0 ≤ nv := by
              have := rNum_cases b a3.2.1 a3.2.2
              unfold rI at h4
              rcases this with ⟨_, n, j, h5, _⟩ | ⟨h5, h6, _⟩
              · rw [h5] at h4; have := congrArg (·.1) h4; simp at this; omega
              · rw [h6] at h4; have := congrArg (·.1) h4; simp at this; omega
            have hl := each_l0 hb (nv, true, (np : Int), 0) nv.toNat k np [] (by simp; omega) (by simp only []; omega) (by omega) q4
            simp only [List.nil_append] at hl
            have q5 := rdEs_le nv.toNat np q4
            by_cases hr : (rdEs b nv.toNat np).2.2 = 0
            · rw [hl.1 hr]
              simp only [orR, Option.bind_some, if_true]
              have := cLast hb (k := k) (by omega) q5 0 ⟨kd, f.1, t.1, m.1, a1.1, a2.1, a3.1, 0, 0, false, (rdEs b nv.toNat np).1, 0, 0, []⟩
              simp only [] at this
              rw [this, hr]; rfl
            · obtain ⟨q, e, hq, h5⟩ := hl.2 hr
              rw [h5]
              simp only [orR, Option.bind_some]
              rw [if_neg hr, finM_err hr]; rfl
        · have hv := hbad hne
          subst hv
          simp only [hne, decide_false, Bool.false_and, Bool.false_eq_true, if_false, ne_eq, not_false_eq_true, if_true]
          obtain ⟨k', rfl⟩ : ∃ k', k = k' + 1 := ⟨k - 1, by omega⟩
          simp only [codec_each_Entry_Entries.l0, List.length_nil, Int.natCast_zero, Int.lt_irrefl, if_false, orR, Option.bind_some, if_true]
          have := cLast hb (k := k' + 1) (by omega) q4 ne ⟨kd, f.1, t.1, m.1, a1.1, a2.1, a3.1, 0, 0, false, [], 0, 0, []⟩
          simp only [] at this
          rw [this]; rfl
      rw [if_neg k3, if_neg k3]
      by_cases k4 : kd = 4
      · have qb := rBool_le (e := a1.2.2) q1
        have qc := rI_le (e := (rBool b a1.2.1 a1.2.2).2.2) qb
        rw [if_pos k4, if_pos k4, cI (by omega) hb p4, Option.bind_some]; simp only []
        rw [h1, cO (by omega) hb q1, Option.bind_some]; simp only []
        rw [cI (by omega) hb qb, Option.bind_some]; simp only [Option.bind_some, if_true]
        have := cLast hb (k := k) (by omega) qc (rI b (rBool b a1.2.1 a1.2.2).2.1 (rBool b a1.2.1 a1.2.2).2.2).2.2 ⟨kd, f.1, t.1, m.1, a1.1, 0, 0, (rI b (rBool b a1.2.1 a1.2.2).2.1 (rBool b a1.2.1 a1.2.2).2.2).1, 0, (rBool b a1.2.1 a1.2.2).1, [], 0, 0, []⟩
        simp only [] at this
        rw [this]; rfl
      rw [if_neg k4, if_neg k4]
      by_cases k5 : kd = 5
      · rw [if_pos k5, if_pos k5, cI (by omega) hb p4, Option.bind_some]; simp only []
        rw [h1, cI (by omega) hb q1, Option.bind_some]; simp only [Option.bind_some, if_true]
        rw [h2]
        have := cLast hb (k := k) (by omega) q2 a2.2.2 ⟨kd, f.1, t.1, m.1, 0, 0, a1.1, 0, a2.1, false, [], 0, 0, []⟩
        simp only [] at this
        rw [this]; rfl
      rw [if_neg k5, if_neg k5]
      by_cases k6 : kd = 6
      · rw [if_pos k6, if_pos k6, cI (by omega) hb p4, Option.bind_some]; simp only [Option.bind_some, if_true]
        rw [h1]
        have := cLast hb (k := k) (by omega) q1 a1.2.2 ⟨kd, f.1, t.1, m.1, 0, 0, 0, 0, a1.1, false, [], 0, 0, []⟩
        simp only [] at this
        rw [this]; rfl
      have k7 : kd = 7 := by have := hn.1; have := hn.2; omega
      have qd := rBytes_le (b := b) (e := m.2.2) (most := 1048576) p4
      rw [if_neg k6, if_neg k6, if_pos k7, movP hb (by omega) p4, Option.bind_some]
      by_cases hd : (rBytes b m.2.1 m.2.2 1048576).2.2 = 0
      · simp only [hd, decide_true, if_true, ne_eq, not_true_eq_false, if_false]
        rw [cGetP (by omega) (by omega), Option.bind_some, Option.bind_some]
        by_cases hs : (getP (rBytes b m.2.1 m.2.2 1048576).1).2.2.2 = 0
        · rw [if_pos hs]
          have := cLast hb (k := k) (by omega) qd.1 0 ⟨kd, f.1, t.1, m.1, 0, 0, 0, 0, 0, false, [], (getP (rBytes b m.2.1 m.2.2 1048576).1).1, (getP (rBytes b m.2.1 m.2.2 1048576).1).2.1, (getP (rBytes b m.2.1 m.2.2 1048576).1).2.2.1⟩
          simp only [] at this
          rw [this, hs]; rfl
        · rw [if_neg hs, finM_err hs]; rfl
      · simp only [hd, decide_false, Bool.false_eq_true, if_false, ne_eq, not_false_eq_true, if_true, Option.bind_some]
        have := cLast hb (k := k) (by omega) qd.1 (rBytes b m.2.1 m.2.2 1048576).2.2 ⟨kd, f.1, t.1, m.1, 0, 0, 0, 0, 0, false, [], 0, 0, []⟩
        simp only [] at this
        rw [this]; rfl
    · rw [if_pos hn]
      have : ((decide (kd < (1 : Int))) || (decide ((7 : Int) < kd))) = true := by
        have : ¬ (1 ≤ kd ∧ kd ≤ 7) := hn
        simp; omega
      rw [this]; rfl
  · have hv := rI_bad (b := b) (p := 0) (e := 0) (by rw [ha]; exact he)
    rw [ha] at hv
    simp only [] at hv
    subst hv
    rw [if_pos he, ← tail _ (.inr he)]
    have hf' : f = (0, pa, ea) := by rw [← hf, rI_err he]
    subst hf'
    simp only [] at ht
    have ht' : t = (0, pa, ea) := by rw [← ht, rI_err he]
    subst ht'
    simp only [] at hm
    have hm' : m = (0, pa, ea) := by rw [← hm, rI_err he]
    subst hm'
    rw [cI (by omega) hb p1, Option.bind_some]; simp only []
    rw [hf]; simp only []
    rw [cI (by omega) hb p1, Option.bind_some]; simp only []
    rw [hf]; simp only []
    rw [cI (by omega) hb p1, Option.bind_some]; simp only []
    rw [hf]; simp only [Int.reduceEq, if_false, Option.bind_some, if_true]
    have := cLast hb (k := k) (by omega) p1 ea zM
    unfold zM at this
    simp only [] at this
    rw [this, finM_err he]; rfl
end
end Go.Proofs.Ytdoghfenhoigmaa
