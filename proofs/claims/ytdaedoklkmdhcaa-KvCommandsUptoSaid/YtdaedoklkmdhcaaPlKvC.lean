/- The plain law KvCommands. Conditions: none. -/
import Derived.Test.YtdaedoklkmdhcaaPlKv1
import Derived.Test.YtdaedoklkmdhcaaRw3
namespace Go.Proofs.Ytdaedoklkmdhcaa
set_option linter.unusedVariables false
set_option linter.unusedSimpArgs false
open Go.RowKit
theorem Get_tot (p : PP) (s : SS) (k : List UInt8) : ∃ r, kv_Store_Get.f p s k = some r := by
  unfold kv_Store_Get.f
  split <;> exact ⟨_, rfl⟩
theorem Copy_eq (p : PP) (s : SS) : kv_Store_Copy.f p s = some (p, s) := by
  unfold kv_Store_Copy.f maps_Clone_map_string_string_string_string.f maps_Clone_Session.f; rfl
theorem commands_loop (l o : List Ty33) (key : List UInt8) (hl : l.length ≤ 1000) : ∀ (d i k : Nat) (p : PP) (s : SS), i + d = l.length → d + 1 ≤ k → Inv p s →
    ∃ p' s', synodlaw11_KvCommands.l0 l o key k (i : Int) p s p s = some (.inl (p', s', p', s')) ∧ Inv p' s'
  | d, i, 0, p, s, _, hk, _ => by omega
  | 0, i, k + 1, p, s, hi, _, h => by
    simp only [synodlaw11_KvCommands.l0]
    rw [if_neg (by omega)]; exact ⟨p, s, rfl, h⟩
  | d + 1, i, k + 1, p, s, hi, hk, h => by
    simp only [synodlaw11_KvCommands.l0]
    rw [if_pos (by omega), if_pos (by omega), Int.toNat_natCast]
    obtain ⟨c, hc⟩ : ∃ c, l.getD i dz33 = c := ⟨_, rfl⟩
    obtain ⟨g, hg⟩ := Get_tot p s key
    simp only [hc]
    rw [Do_eq, Option.bind_some, hg, Option.bind_some, Copy_eq, Option.bind_some]
    have e : (if (i : Int) < (o.length : Int) then (if 0 ≤ (i : Int) ∧ (i : Int) < (o.length : Int) then ((kv_Store_Do.f p s ((o.getD i dz33).1) ((o.getD i dz33).2.1) ((o.getD i dz33).2.2.1) ((o.getD i dz33).2.2.2.1) ((o.getD i dz33).2.2.2.2.1) ((o.getD i dz33).2.2.2.2.2)).bind fun _ => (some ())) else none) else (some ())) = some () := by
      split
      · rw [if_pos ⟨by omega, ‹_›⟩, Do_eq]; rfl
      · rfl
    simp only
    rw [e, Option.bind_some, if_pos (by omega)]
    rw [Option.bind_some, if_neg (by simp), inc64 i 2000 (by omega) (by decide)]
    exact commands_loop l o key hl d (i + 1) k _ _ (by omega) (by omega) (Do_inv h _ _ _ _ _ _)
theorem pure_KvCommands {Q R : Ty33 → Prop} (l : List Ty33) (h : l.length * 72 ≤ reachBytes ∧ ∀ e ∈ l, Q e) (o : List Ty33) (ho : o.length * 72 ≤ reachBytes ∧ ∀ e ∈ o, R e) (key : List UInt8) (hk : key.length ≤ reachBytes) (hu : Mu.mu l + Mu.mu o + Mu.mu key ≤ 1048576) :
    ∃ k, synodlaw11_KvCommands.f k l o key = some true := by
  have hr := reach_lt
  refine ⟨10000000, ?_⟩
  obtain ⟨k, hk0⟩ : ∃ k, k = 10000000 := ⟨_, rfl⟩
  rw [← hk0]
  have hk1 : 1000000 ≤ k := by omega
  clear hk0
  unfold synodlaw11_KvCommands.f
  obtain ⟨b1, e1, -⟩ := few_eq (h := l) (by omega) (k := k) (by omega)
  obtain ⟨b2, e2, -⟩ := few_eq (h := o) (by omega) (k := k) (by omega)
  rw [first_eq, Option.bind_some, e1, Option.bind_some]
  have e : (if b1 = true then ((synodlaw11_few.f k o).bind fun s9v => (some s9v)) else (some false)) = some (b1 && b2) := by cases b1 <;> simp [e2]
  rw [e, Option.bind_some]
  split
  · rfl
  · rename_i hc
    have hl : l.length ≤ 200 := by
      apply Classical.byContradiction; intro h; apply hc; simp; omega
    unfold kv_New.f
    rw [Option.bind_some, Option.bind_some]
    obtain ⟨p, s, eL, hI⟩ := commands_loop l o key (by omega) l.length 0 k [] [] (by omega) (by omega) inv0
    rw [show ((0 : Nat) : Int) = 0 from rfl] at eL
    simp only
    rw [eL]
    show ((kv_Store_Snapshot.f k p s).bind fun a => (kv_Store_Snapshot.f k p s).bind fun b => (synodref_SameBytes.f k a b).bind fun c => some c) = some true
    have hlen := snapV_len hI
    rw [Snapshot_eq hI (by omega), Option.bind_some, Option.bind_some, SameBytes_eq (by omega) (by omega), Option.bind_some]
    simp
end Go.Proofs.Ytdaedoklkmdhcaa
