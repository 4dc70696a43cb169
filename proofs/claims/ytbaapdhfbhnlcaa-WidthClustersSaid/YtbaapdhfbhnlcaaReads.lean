/-
  What a rune's cell reads as. No condition.
-/
import Derived.Test.YtbaapdhfbhnlcaaOf
import Derived.Test.YtbaapdhfbhnlcaaFrame
namespace Go.Proofs.Ytbaapdhfbhnlcaa
open Go.ChangeShapes Go.WideShapes Go.ChangeAt Go.RowKit Go.Deep
variable {H : Type} {enc : TypeId × Value → H} {w : World} {base : Nat} {spare : Nat → Bool} {held : Bool}
theorem read_rn {n : Nat} {cs : List Value} {x : DataW H × List MemPlace} (h : DataW.trod enc Try.prog w base spare held n 21 cs = some x) : ∃ a : Int, cs = [rn a] ∧ True := by
  obtain ⟨a, e, _⟩ := read_int Try.underlying21 h
  exact ⟨a, e, trivial⟩
end Go.Proofs.Ytbaapdhfbhnlcaa
