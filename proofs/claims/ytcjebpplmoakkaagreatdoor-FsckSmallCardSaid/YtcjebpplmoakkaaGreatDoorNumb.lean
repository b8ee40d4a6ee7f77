/- breviaryworld.Number. -/
import Derived.Test.YtcjebpplmoakkaaGreatDoorErrs
namespace Go.Proofs.YtcjebpplmoakkaaGreatDoor
open Go Go.RowKit
set_option maxRecDepth 100000
set_option linter.unusedSimpArgs false
attribute [local go_sem] giv
theorem numb_any (x k : Int) (hk : 0 < k ∧ k ≤ 4611686018427387904) (w : World) : Calls Tryz.prog 5 #[.int .i64 x, .int .i64 k] w fun e w' => e = .returned (.int .i64 (x % k)) ∧ w = w' := by
  have h1 := Int.emod_nonneg x (b := k) (by omega)
  have h2 := Int.emod_lt_of_pos x (b := k) (by omega)
  have h3 := Int.tmod_eq_emod (a := x) (b := k)
  have h4 : (0 ≤ x.tmod k → x.tmod k = x % k) ∧ (x.tmod k < 0 → x.tmod k + k = x % k) := by
    split at h3 <;> omega
  have h5 : x.tmod k < 0 → wrap64 (x.tmod k + k) = x % k := fun h => by
    rw [h4.2 h]
    unfold wrap64
    omega
  have H4 := Lib.hid h4
  have H5 := Lib.hid h5
  clear h1 h2 h3 h4 h5
  go_enter Tryz.func5, Tryz.ntmps5
  go_wp2
  · go_ret
    exact ⟨ret_int (H5.out (by assumption)), rfl⟩
  · go_ret
    exact ⟨ret_int (H4.out.1 (by assumption)), rfl⟩
end Go.Proofs.YtcjebpplmoakkaaGreatDoor
