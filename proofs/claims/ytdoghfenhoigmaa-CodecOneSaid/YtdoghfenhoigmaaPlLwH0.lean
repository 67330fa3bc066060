/- What the laws of messages share: slight, room. Conditions: as each says. -/
import Derived.Test.YtdoghfenhoigmaaPlMs6
import Derived.Test.YtdoghfenhoigmaaPlMsR0
import Derived.Test.YtdoghfenhoigmaaPlCdF
namespace Go.Proofs.Ytdoghfenhoigmaa
set_option linter.unusedVariables false
set_option linter.unusedSimpArgs false
open Go.RowKit
theorem slight_loop (l : List EnT) (hl : l.length < 2 ^ 60) (hb : ∀ e ∈ l, e.2.2.2.length < 2 ^ 60) : ∀ (d i k : Nat) (n : Int), i + d = l.length → d + 1 ≤ k → 0 ≤ n → ∃ r, synodlaw3_slight.l0 l k n (i : Int) = some r
  | d, i, 0, n, _, hk, _ => by omega
  | 0, i, k + 1, n, h, _, _ => by
    simp only [synodlaw3_slight.l0]
    rw [if_neg (by simp; omega)]
    exact ⟨_, rfl⟩
  | d + 1, i, k + 1, n, h, hk, hn => by
    have hi : i < l.length := by omega
    have hm : l.getD i dEnT ∈ l := by rw [getD_at' _ _ _ hi]; exact List.getElem_mem hi
    have hme := hb _ hm
    simp only [synodlaw3_slight.l0]
    by_cases hc : n ≤ 20000
    · rw [if_pos (by simp; omega), if_pos (by omega), wi1 (by omega)]
      refine slight_loop l hl hb d (i + 1) k _ (by omega) (by omega) ?_
      simp only [Int.toNat_natCast]
      rw [w64 (by omega) (by omega)]
      omega
    · rw [if_neg (by simp; omega)]
      exact ⟨_, rfl⟩
theorem slight_k {k : Nat} {m : Msg} (hR : Room k m) : ∃ r, synodlaw3_slight.f k m.kd m.fr m.to m.tm m.ix m.lt m.cm m.hi m.cx m.rj m.es m.si m.st m.sd = some r := by
  have h1 := hR.kl
  obtain ⟨r, hr⟩ := slight_loop m.es hR.l hR.b m.es.length 0 k (m.sd.length : Int) (by omega) (by omega) (by omega)
  rw [Int.natCast_zero] at hr
  unfold synodlaw3_slight.f
  rw [hr]
  exact ⟨_, rfl⟩
theorem mem_sum {α : Type} (f : α → Nat) : ∀ {l : List α} {x : α}, x ∈ l → f x ≤ (l.map f).sum
  | y :: l, x, h => by
    rcases List.mem_cons.1 h with rfl | h
    · simp
    · have := mem_sum f h; simp; omega
/-- How much room a message wants. -/
def wantM (m : Msg) : Nat := m.es.length + (m.es.map fun e => e.2.2.2.length).sum + m.sd.length + 300
theorem reach60 : reachBytes < 2 ^ 47 := by decide
abbrev OkE (e : EnT) : Prop := okI .i64 e.1 ∧ okI .i64 e.2.1 ∧ okI .i64 e.2.2.1 ∧ e.2.2.2.length ≤ reachBytes
theorem room_arg {k : Nat} {m : Msg} (h1 : m.es.length * 48 ≤ reachBytes ∧ ∀ e ∈ m.es, OkE e) (h2 : m.sd.length ≤ reachBytes) (hk : wantM m ≤ k) : Room k m := by
  have hr := reach60
  unfold wantM at hk
  exact ⟨by omega, fun e he => by have := (h1.2 e he).2.2.2; omega, by omega, by omega, by omega, fun e he => by have := mem_sum (fun e : EnT => e.2.2.2.length) he; omega, by omega⟩
theorem txM_len {m : Msg} (h : chkM m = 0) : (txM m).length ≤ 600000 := (put1M (k := 100) (Nat.le_refl _) (okM h)).2
abbrev OkMg (kd fr to tm ix lt cm hi cx : Int) (rj : Bool) (es : List EnT) (si st : Int) (sd : List UInt8) : Prop :=
  okI .i64 kd ∧ okI .i64 fr ∧ okI .i64 to ∧ okI .i64 tm ∧ okI .i64 ix ∧ okI .i64 lt ∧ okI .i64 cm ∧ okI .i64 hi ∧ okI .i64 cx ∧ True ∧ (es.length * 48 ≤ reachBytes ∧ ∀ e ∈ es, OkE e) ∧ okI .i64 si ∧ okI .i64 st ∧ sd.length ≤ reachBytes
end Go.Proofs.Ytdoghfenhoigmaa
