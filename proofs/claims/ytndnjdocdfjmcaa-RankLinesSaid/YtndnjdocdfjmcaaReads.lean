/-
  What a block's cells read as. No condition.
-/
import Derived.Test.YtndnjdocdfjmcaaLines
import Derived.Test.YtndnjdocdfjmcaaFrame
namespace Go.Proofs.Ytndnjdocdfjmcaa
open Go.ChangeShapes Go.WideShapes Go.ChangeAt Go.RowKit Go.Deep
section
variable {H : Type} {enc : TypeId × Value → H} {w : World} {base : Nat} {spare : Nat → Bool} {held : Bool}
theorem read_pos {n : Nat} {cs : List Value} {x : DataW H × List MemPlace} (h : DataW.trod enc Try.prog w base spare held n 42 cs = some x) : ∃ a b : Int, cs = [.int .i64 a, .int .i64 b] := by
  obtain ⟨xs, m, rfl, hx, hl, hxl, hf⟩ := DataW.trod_struct Try.underlying42 h
  have hc : cs.length = 2 := hl.trans (by kernel_rfl)
  obtain ⟨y0, h0⟩ := field_read hxl hf 0 _ rfl (o := 0) (s := 1) rfl rfl (by kernel_rfl)
  obtain ⟨y1, h1⟩ := field_read hxl hf 1 _ rfl (o := 1) (s := 1) rfl rfl (by kernel_rfl)
  obtain ⟨a, e0, _⟩ := read_int Try.underlying3 h0
  obtain ⟨b, e1, _⟩ := read_int Try.underlying3 h1
  refine ⟨a, b, ?_⟩
  match cs, hc with
  | [v0, v1], _ =>
    simp at e0 e1
    subst e0 e1
    rfl
theorem read_br {n : Nat} {cs : List Value} {x : DataW H × List MemPlace} (h : DataW.trod enc Try.prog w base spare held n 44 cs = some x) : ∃ a : BRow, cs = brE a ∧ a.line.size ≤ maxLen := by
  obtain ⟨xs, m, rfl, hx, hl, hxl, hf⟩ := DataW.trod_struct Try.underlying44 h
  have hc : cs.length = 17 := hl.trans (by kernel_rfl)
  obtain ⟨y0, h0⟩ := field_read hxl hf 0 _ rfl (o := 0) (s := 1) rfl rfl (by kernel_rfl)
  obtain ⟨y1, h1⟩ := field_read hxl hf 1 _ rfl (o := 1) (s := 1) rfl rfl (by kernel_rfl)
  obtain ⟨y2, h2⟩ := field_read hxl hf 2 _ rfl (o := 2) (s := 2) rfl rfl (by kernel_rfl)
  obtain ⟨y3, h3⟩ := field_read hxl hf 3 _ rfl (o := 4) (s := 2) rfl rfl (by kernel_rfl)
  obtain ⟨y4, h4⟩ := field_read hxl hf 4 _ rfl (o := 6) (s := 2) rfl rfl (by kernel_rfl)
  obtain ⟨y5, h5⟩ := field_read hxl hf 5 _ rfl (o := 8) (s := 2) rfl rfl (by kernel_rfl)
  obtain ⟨y6, h6⟩ := field_read hxl hf 6 _ rfl (o := 10) (s := 2) rfl rfl (by kernel_rfl)
  obtain ⟨y7, h7⟩ := field_read hxl hf 7 _ rfl (o := 12) (s := 1) rfl rfl (by kernel_rfl)
  obtain ⟨y8, h8⟩ := field_read hxl hf 8 _ rfl (o := 13) (s := 1) rfl rfl (by kernel_rfl)
  obtain ⟨y9, h9⟩ := field_read hxl hf 9 _ rfl (o := 14) (s := 1) rfl rfl (by kernel_rfl)
  obtain ⟨y10, h10⟩ := field_read hxl hf 10 _ rfl (o := 15) (s := 1) rfl rfl (by kernel_rfl)
  obtain ⟨y11, h11⟩ := field_read hxl hf 11 _ rfl (o := 16) (s := 1) rfl rfl (by kernel_rfl)
  obtain ⟨b0, e0, _⟩ := read_int Try.underlying40 h0
  obtain ⟨b1, e1, _⟩ := read_int Try.underlying3 h1
  obtain ⟨b2, c2, e2⟩ := read_pos h2
  obtain ⟨b3, c3, e3⟩ := read_pos h3
  obtain ⟨b4, c4, e4⟩ := read_pos h4
  obtain ⟨b5, c5, e5⟩ := read_pos h5
  obtain ⟨b6, c6, e6⟩ := read_pos h6
  obtain ⟨b7, e7, _⟩ := read_int Try.underlying3 h7
  obtain ⟨b8, e8⟩ := read_bool Try.underlying4 h8
  obtain ⟨b9, e9⟩ := read_bool Try.underlying4 h9
  obtain ⟨b10, e10, z10⟩ := read_string Try.underlying9 h10
  obtain ⟨b11, e11, z11⟩ := read_string Try.underlying9 h11
  refine ⟨⟨b0, b1, b2, c2, b3, c3, b4, c4, b5, c5, b6, c6, b7, b8, b9, b10, b11⟩, ?_, z11⟩
  match cs, hc with
  | [v0, v1, v2, v3, v4, v5, v6, v7, v8, v9, v10, v11, v12, v13, v14, v15, v16], _ =>
    simp at e0 e1 e2 e3 e4 e5 e6 e7 e8 e9 e10 e11
    subst e0
    subst e1
    obtain ⟨rfl, rfl⟩ := e2
    obtain ⟨rfl, rfl⟩ := e3
    obtain ⟨rfl, rfl⟩ := e4
    obtain ⟨rfl, rfl⟩ := e5
    obtain ⟨rfl, rfl⟩ := e6
    subst e7
    subst e8
    subst e9
    subst e10
    subst e11
    rfl
end
end Go.Proofs.Ytndnjdocdfjmcaa
