/-
  What a state's cells read as; what a rune's cell reads as. No condition.
-/
import Derived.Test.YtbacobajmmkjeaaAll
import Derived.Test.YtbacobajmmkjeaaFrame
namespace Go.Proofs.Ytbacobajmmkjeaa
open Go.ChangeShapes Go.WideShapes Go.ChangeAt Go.RowKit Go.Deep
/-- A state. -/
structure St where
  a : Int
  b : Int
  c : Int
  d : Int
  u : Int
  o : Int
deriving Inhabited
def stc (s : St) : List Value := [.int .i64 s.a, .int .i64 s.b, .int .i64 s.c, .int .i64 s.d, .int .i64 s.u, .int .i64 s.o]
section
variable {H : Type} {enc : TypeId × Value → H} {w : World} {base : Nat} {spare : Nat → Bool} {held : Bool}
theorem read_four {n : Nat} {cs : List Value} {x : DataW H × List MemPlace} (h : DataW.trod enc Try.prog w base spare held n 22 cs = some x) : ∃ a b c d, cs = [.int .i64 a, .int .i64 b, .int .i64 c, .int .i64 d] := by
  obtain ⟨xs, m, rfl, hx, hl, hxl, hf⟩ := DataW.trod_array Try.underlying22 h
  have hc : cs.length = 4 := hl.trans (by kernel_rfl)
  obtain ⟨y0, h0⟩ := elem_read hxl hf 0 (by omega) (s := 1) (by kernel_rfl) rfl
  obtain ⟨y1, h1⟩ := elem_read hxl hf 1 (by omega) (s := 1) (by kernel_rfl) rfl
  obtain ⟨y2, h2⟩ := elem_read hxl hf 2 (by omega) (s := 1) (by kernel_rfl) rfl
  obtain ⟨y3, h3⟩ := elem_read hxl hf 3 (by omega) (s := 1) (by kernel_rfl) rfl
  obtain ⟨a, e0, _⟩ := read_int Try.underlying3 h0
  obtain ⟨b, e1, _⟩ := read_int Try.underlying3 h1
  obtain ⟨c, e2, _⟩ := read_int Try.underlying3 h2
  obtain ⟨d, e3, _⟩ := read_int Try.underlying3 h3
  refine ⟨a, b, c, d, ?_⟩
  match cs, hc with
  | [v0, v1, v2, v3], _ =>
    simp at e0 e1 e2 e3
    subst e0 e1 e2 e3
    rfl
theorem read_st {n : Nat} {cs : List Value} {x : DataW H × List MemPlace} (h : DataW.trod enc Try.prog w base spare held n 24 cs = some x) : ∃ a : St, cs = stc a ∧ True := by
  obtain ⟨xs, m, rfl, hx, hl, hxl, hf⟩ := DataW.trod_struct Try.underlying24 h
  have hc : cs.length = 6 := hl.trans (by kernel_rfl)
  obtain ⟨y0, h0⟩ := field_read hxl hf 0 _ rfl (o := 0) (s := 4) rfl rfl (by kernel_rfl)
  obtain ⟨y1, h1⟩ := field_read hxl hf 1 _ rfl (o := 4) (s := 1) rfl rfl (by kernel_rfl)
  obtain ⟨y2, h2⟩ := field_read hxl hf 2 _ rfl (o := 5) (s := 1) rfl rfl (by kernel_rfl)
  obtain ⟨a, b, c, d, e0⟩ := read_four h0
  obtain ⟨u, e1, _⟩ := read_int Try.underlying3 h1
  obtain ⟨o, e2, _⟩ := read_int Try.underlying3 h2
  refine ⟨⟨a, b, c, d, u, o⟩, ?_, trivial⟩
  match cs, hc with
  | [v0, v1, v2, v3, v4, v5], _ =>
    simp at e0 e1 e2
    obtain ⟨rfl, rfl, rfl, rfl⟩ := e0
    subst e1 e2
    rfl
theorem read_rn {n : Nat} {cs : List Value} {x : DataW H × List MemPlace} (h : DataW.trod enc Try.prog w base spare held n 21 cs = some x) : ∃ a : Int, cs = [rn a] ∧ (-2147483648 ≤ a ∧ a ≤ 2147483647) := by
  obtain ⟨a, e, wf⟩ := read_int Try.underlying21 h
  exact ⟨a, e, bounds_i32 wf⟩
end
end Go.Proofs.Ytbacobajmmkjeaa
