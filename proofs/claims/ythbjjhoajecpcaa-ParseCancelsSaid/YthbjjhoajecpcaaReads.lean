/-
  What a byte's cell reads as; what a rune's cell reads as. No condition.
-/
import Derived.Test.YthbjjhoajecpcaaRA
import Derived.Test.YthbjjhoajecpcaaFrame
namespace Go.Proofs.Ythbjjhoajecpcaa
open Go.ChangeShapes Go.WideShapes Go.ChangeAt Go.RowKit Go.Deep
section
variable {H : Type} {enc : TypeId × Value → H} {w : World} {base : Nat} {spare : Nat → Bool} {held : Bool}
theorem read_b8 {n : Nat} {cs : List Value} {x : DataW H × List MemPlace} (h : DataW.trod enc Try.prog w base spare held n 5 cs = some x) : ∃ a : Int, cs = [b8 a] ∧ IsByte a := by
  obtain ⟨a, e, wf⟩ := read_int Try.underlying5 h
  exact ⟨a, e, bounds_u8 wf⟩
end
end Go.Proofs.Ythbjjhoajecpcaa
