/-
  What a byte's cell reads as; what a rune's cell reads as. No condition.
-/
import Derived.Test.YtlmgglkicdlchaaLawJoins
import Derived.Test.YtlmgglkicdlchaaFrame
namespace Go.Proofs.Ytlmgglkicdlchaa
open Go.ChangeShapes Go.WideShapes Go.ChangeAt Go.RowKit Go.Deep
section
variable {H : Type} {enc : TypeId × Value → H} {w : World} {base : Nat} {spare : Nat → Bool} {held : Bool}
theorem read_b8 {n : Nat} {cs : List Value} {x : DataW H × List MemPlace} (h : DataW.trod enc Try.prog w base spare held n 5 cs = some x) : ∃ a : Int, cs = [b8 a] ∧ IsByte a := by
  obtain ⟨a, e, wf⟩ := read_int Try.underlying5 h
  exact ⟨a, e, bounds_u8 wf⟩
theorem read_r32 {n : Nat} {cs : List Value} {x : DataW H × List MemPlace} (h : DataW.trod enc Try.prog w base spare held n 21 cs = some x) : ∃ a : Int, cs = [r32 a] ∧ True := by
  obtain ⟨a, e, _⟩ := read_int Try.underlying21 h
  exact ⟨a, e, trivial⟩
end
end Go.Proofs.Ytlmgglkicdlchaa
