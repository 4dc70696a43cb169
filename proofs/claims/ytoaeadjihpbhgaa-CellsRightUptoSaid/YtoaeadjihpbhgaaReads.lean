/-
  What the structs of this seat read as. No condition.
-/
import Derived.Test.YtoaeadjihpbhgaaLawB
import Derived.Test.YtoaeadjihpbhgaaFrameD
namespace Go.Proofs.Ytoaeadjihpbhgaa
open Go.ChangeShapes Go.WideShapes Go.ChangeAt Go.RowKit Go.Deep
section
variable {H : Type} {enc : TypeId × Value → H} {w : World} {base : Nat} {spare : Nat → Bool} {held : Bool}
theorem read_col {n : Nat} {cs : List Value} {x : DataW H × List MemPlace} (h : DataW.trod enc Try.prog w base spare held n 23 cs = some x) : ∃ a : Int × Int, cs = colE a ∧ True := by
  obtain ⟨xs, m, rfl, hx, hl, hxl, hf⟩ := DataW.trod_struct Try.underlying23 h
  have hc : cs.length = 2 := hl.trans (by kernel_rfl)
  obtain ⟨y0, h0⟩ := field_read hxl hf 0 _ rfl (o := 0) (s := 1) rfl rfl (by kernel_rfl)
  obtain ⟨y1, h1⟩ := field_read hxl hf 1 _ rfl (o := 1) (s := 1) rfl rfl (by kernel_rfl)
  obtain ⟨a, e0, _⟩ := read_int Try.underlying3 h0
  obtain ⟨b, e1, _⟩ := read_int Try.underlying3 h1
  refine ⟨(a, b), ?_, trivial⟩
  match cs, hc with
  | [v0, v1], _ =>
    simp at e0 e1
    subst e0 e1
    rfl
theorem read_att {n : Nat} {cs : List Value} {x : DataW H × List MemPlace} (h : DataW.trod enc Try.prog w base spare held n 32 cs = some x) : ∃ a : At8, cs = atE a ∧ True := by
  obtain ⟨xs, m, rfl, hx, hl, hxl, hf⟩ := DataW.trod_struct Try.underlying32 h
  have hc : cs.length = 5 := hl.trans (by kernel_rfl)
  obtain ⟨y0, h0⟩ := field_read hxl hf 0 _ rfl (o := 0) (s := 2) rfl rfl (by kernel_rfl)
  obtain ⟨y1, h1⟩ := field_read hxl hf 1 _ rfl (o := 2) (s := 2) rfl rfl (by kernel_rfl)
  obtain ⟨y2, h2⟩ := field_read hxl hf 2 _ rfl (o := 4) (s := 1) rfl rfl (by kernel_rfl)
  obtain ⟨⟨a, b⟩, e0, _⟩ := read_col h0
  obtain ⟨⟨c, d⟩, e1, _⟩ := read_col h1
  obtain ⟨f, e2, _⟩ := read_int Try.underlying3 h2
  refine ⟨⟨a, b, c, d, f⟩, ?_, trivial⟩
  match cs, hc with
  | [v0, v1, v2, v3, v4], _ =>
    simp [colE] at e0 e1 e2
    obtain ⟨rfl, rfl⟩ := e0
    obtain ⟨rfl, rfl⟩ := e1
    subst e2
    rfl
theorem read_op {n : Nat} {cs : List Value} {x : DataW H × List MemPlace} (h : DataW.trod enc Try.prog w base spare held n 34 cs = some x) : ∃ a : Op9, cs = opE a ∧ True := by
  obtain ⟨xs, m, rfl, hx, hl, hxl, hf⟩ := DataW.trod_struct Try.underlying34 h
  have hc : cs.length = 9 := hl.trans (by kernel_rfl)
  obtain ⟨y0, h0⟩ := field_read hxl hf 0 _ rfl (o := 0) (s := 1) rfl rfl (by kernel_rfl)
  obtain ⟨y1, h1⟩ := field_read hxl hf 1 _ rfl (o := 1) (s := 1) rfl rfl (by kernel_rfl)
  obtain ⟨y2, h2⟩ := field_read hxl hf 2 _ rfl (o := 2) (s := 1) rfl rfl (by kernel_rfl)
  obtain ⟨y3, h3⟩ := field_read hxl hf 3 _ rfl (o := 3) (s := 1) rfl rfl (by kernel_rfl)
  obtain ⟨y4, h4⟩ := field_read hxl hf 4 _ rfl (o := 4) (s := 5) rfl rfl (by kernel_rfl)
  obtain ⟨a, e0, _⟩ := read_int Try.underlying3 h0
  obtain ⟨b, e1, _⟩ := read_int Try.underlying3 h1
  obtain ⟨c, e2, _⟩ := read_int Try.underlying3 h2
  obtain ⟨d, e3, _⟩ := read_int Try.underlying21 h3
  obtain ⟨f, e4, _⟩ := read_att h4
  refine ⟨⟨a, b, c, d, f⟩, ?_, trivial⟩
  match cs, hc with
  | [v0, v1, v2, v3, v4, v5, v6, v7, v8], _ =>
    simp [atE] at e0 e1 e2 e3 e4
    subst e0 e1 e2 e3
    obtain ⟨rfl, rfl, rfl, rfl, rfl⟩ := e4
    rfl
/-- A cell's datum: its text is the second part. -/
def CellR (d : DataW H) (c : Cell) : Prop := ∃ ps, d = .agg ps ∧ ps[1]? = some (.lit (.string c.more.data.toList))
theorem read_cell {n : Nat} {cs : List Value} {x : DataW H × List MemPlace} (h : DataW.trod enc Try.prog w base spare held n 40 cs = some x) : ∃ c : Cell, cs = cellE c ∧ CellR x.1 c := by
  obtain ⟨xs, m, rfl, hx, hl, hxl, hf⟩ := DataW.trod_struct Try.underlying40 h
  have hc : cs.length = 8 := hl.trans (by kernel_rfl)
  obtain ⟨y0, h0⟩ := field_read hxl hf 0 _ rfl (o := 0) (s := 1) rfl rfl (by kernel_rfl)
  obtain ⟨y2, h2⟩ := field_read hxl hf 2 _ rfl (o := 2) (s := 1) rfl rfl (by kernel_rfl)
  obtain ⟨y3, h3⟩ := field_read hxl hf 3 _ rfl (o := 3) (s := 5) rfl rfl (by kernel_rfl)
  have hx1 : 1 < xs.length := by rw [hxl]; decide
  have h1 := hf 1 _ rfl
  rw [List.getElem?_eq_getElem hx1] at h1
  obtain ⟨a, e0, _⟩ := read_int Try.underlying21 h0
  obtain ⟨s, e1, hs, _⟩ := DataW.trod_string Try.underlying9 h1
  obtain ⟨b, e2, _⟩ := read_int Try.underlying3 h2
  obtain ⟨f, e3, _⟩ := read_att h3
  refine ⟨⟨a, s, b, f⟩, ?_, xs.map (·.1), by rw [hx], ?_⟩
  · have ec : Try.prog.cellsOf 9 = 1 := by kernel_rfl
    have e1' : List.take 1 (List.drop 1 cs) = [Value.string s] := by rw [← ec]; exact e1
    match cs, hc with
    | [v0, v1, v2, v3, v4, v5, v6, v7], _ =>
      simp [atE] at e0 e1' e2 e3
      subst e0 e1' e2
      obtain ⟨rfl, rfl, rfl, rfl, rfl⟩ := e3
      rfl
  · rw [List.getElem?_map, List.getElem?_eq_getElem hx1, hs]; rfl
end
end Go.Proofs.Ytoaeadjihpbhgaa
