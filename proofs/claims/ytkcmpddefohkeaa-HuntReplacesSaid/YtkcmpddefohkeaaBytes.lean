/-
  The walks of plain and small: a byte as it is, and as a small letter. No condition.
-/
import Derived.Test.YtkcmpddefohkeaaPlaces
import Derived.Test.YtkcmpddefohkeaaProg
namespace Go.Proofs.Ytkcmpddefohkeaa
open Go.RowKit Go.Proofs
set_option linter.unusedVariables false
/-- A byte, a letter as a small one. -/
def smallF (x : Int) : Int := if 65 ≤ x ∧ x ≤ 90 then x + 32 else x
theorem plain_any (x : Int) (w : World) : Calls Try.prog 28 #[.int .u8 x] w fun e w' => e = .returned (.int .u8 x) ∧ w' = w := by
  go_enter Try.func28, Try.ntmps28
  go_wp2_with fail
  go_ret
  exact ⟨rfl, rfl⟩
end Go.Proofs.Ytkcmpddefohkeaa
