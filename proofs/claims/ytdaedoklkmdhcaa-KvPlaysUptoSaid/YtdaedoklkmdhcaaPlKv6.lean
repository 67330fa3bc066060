/- Kv: the document's store is asked as the program's. Conditions: as each says. -/
import Derived.Test.YtdaedoklkmdhcaaPlKv5
namespace Go.Proofs.Ytdaedoklkmdhcaa
set_option linter.unusedVariables false
set_option linter.unusedSimpArgs false
open Go.RowKit
theorem refGet_eq {p : PP} {s : SS} (h : Inv p s) (S : List Sess) (ky : List UInt8) {k : Nat} (hk : 3000 ≤ k) : synodref11_Store_Get.f k (canP p) S ky = kv_Store_Get.f p s ky := by
  have hs := canP_srt h.pk
  have hl : (canP p).length = p.length := canP_len
  have hpl := h.pl
  unfold synodref11_Store_Get.f kv_Store_Get.f
  rw [at_eq hs (by omega) S ky (by omega), Option.bind_some, canP_get]
  cases hm : mget p ky with
  | none => rfl
  | some u =>
    have hlow := low_some hs (by rw [canP_get]; exact hm : mget (canP p) ky = some u)
    have hlt := lt_of_get hlow
    simp only [Option.isSome_some, Bool.not_true, Bool.false_eq_true, if_false, Int.toNat_natCast, getD_of hlow, Option.getD_some]
    rw [if_pos (by omega)]
end Go.Proofs.Ytdaedoklkmdhcaa
