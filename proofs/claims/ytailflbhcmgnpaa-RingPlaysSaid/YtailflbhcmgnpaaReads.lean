/-
  What an operation's cells read as. No condition.
-/
import Derived.Test.YtailflbhcmgnpaaDoesAll
import Derived.Test.YtailflbhcmgnpaaFrame
namespace Go.Proofs.Ytailflbhcmgnpaa
open Go.ChangeShapes Go.WideShapes Go.ChangeAt Go.RowKit Go.Deep
section
variable {H : Type} {enc : TypeId × Value → H} {w : World} {base : Nat} {spare : Nat → Bool} {held : Bool}
theorem read_op {n : Nat} {cs : List Value} {x : DataW H × List MemPlace} (h : DataW.trod enc Try.prog w base spare held n 55 cs = some x) : ∃ a : Int × Int, cs = opE a ∧ OpQ a := by
  obtain ⟨xs, m, rfl, hx, hl, hxl, hf⟩ := DataW.trod_struct Try.underlying55 h
  have hc : cs.length = 2 := hl.trans (by kernel_rfl)
  obtain ⟨y0, h0⟩ := field_read hxl hf 0 _ rfl (o := 0) (s := 1) rfl rfl (by kernel_rfl)
  obtain ⟨y1, h1⟩ := field_read hxl hf 1 _ rfl (o := 1) (s := 1) rfl rfl (by kernel_rfl)
  obtain ⟨a, e0, f0⟩ := read_int Try.underlying3 h0
  obtain ⟨b, e1, f1⟩ := read_int Try.underlying3 h1
  refine ⟨(a, b), ?_, f0, f1⟩
  match cs, hc with
  | [v0, v1], _ =>
    simp at e0 e1
    subst e0 e1
    rfl
end
end Go.Proofs.Ytailflbhcmgnpaa
