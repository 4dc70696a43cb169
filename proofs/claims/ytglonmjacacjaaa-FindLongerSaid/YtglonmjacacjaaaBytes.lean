/-
  The walks of plain and small: a byte as it is, and as a small letter. No condition.
-/
import Derived.Test.YtglonmjacacjaaaPlaces
import Derived.Test.YtglonmjacacjaaaProg
namespace Go.Proofs.Ytglonmjacacjaaa
open Go.RowKit Go.Proofs
set_option linter.unusedVariables false
/-- A byte, a letter as a small one. -/
def smallF (x : Int) : Int := if 65 ≤ x ∧ x ≤ 90 then x + 32 else x
theorem plain_any (x : Int) (w : World) : Calls Try.prog 20 #[.int .u8 x] w fun e w' => e = .returned (.int .u8 x) ∧ w' = w := by
  go_enter Try.func20, Try.ntmps20
  go_wp2_with fail
  go_ret
  exact ⟨rfl, rfl⟩
theorem small_any (x : Int) (w : World) (h0 : 0 ≤ x) (h1 : x ≤ 255) : Calls Try.prog 23 #[.int .u8 x] w fun e w' => e = .returned (.int .u8 (smallF x)) ∧ w' = w := by
  by_cases a : 65 ≤ x
  · by_cases b : x ≤ 90
    · go_enter Try.func23, Try.ntmps23
      go_wp2_with fail
      go_ret
      refine ⟨ret_int ?_, rfl⟩
      unfold smallF
      rw [if_pos ⟨a, b⟩]
      omega
    · have b' : decide (x ≤ 90) = false := decide_eq_false b
      go_enter Try.func23, Try.ntmps23
      go_wp2_with fail
      go_ret
      exact ⟨ret_int (by unfold smallF; rw [if_neg (by omega)]), rfl⟩
  · have a' : decide (65 ≤ x) = false := decide_eq_false a
    go_enter Try.func23, Try.ntmps23
    go_wp2_with fail
    go_ret
    exact ⟨ret_int (by unfold smallF; rw [if_neg (by omega)]), rfl⟩
end Go.Proofs.Ytglonmjacacjaaa
