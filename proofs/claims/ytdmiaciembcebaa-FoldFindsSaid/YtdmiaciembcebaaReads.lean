/-
  What an item's cells read as; what a fold's cells read as. No condition.
-/
import Derived.Test.YtdmiaciembcebaaItems
import Derived.Test.YtdmiaciembcebaaFrame
namespace Go.Proofs.Ytdmiaciembcebaa
open Go.ChangeShapes Go.WideShapes Go.ChangeAt Go.RowKit Go.Deep
section
variable {H : Type} {enc : TypeId × Value → H} {w : World} {base : Nat} {spare : Nat → Bool} {held : Bool}
theorem read_it' {n : Nat} {cs : List Value} {x : DataW H × List MemPlace} (h : DataW.trod enc Try.prog w base spare held n 47 cs = some x) : ∃ a : It, cs = itc a ∧ (Lit.int .i64 a.1).wf = true ∧ (Lit.int .u64 a.2.1).wf = true ∧ (Lit.int .i64 a.2.2).wf = true := by
  obtain ⟨xs, m, rfl, hx, hl, hxl, hf⟩ := DataW.trod_struct Try.underlying47 h
  have hc : cs.length = 3 := hl.trans (by kernel_rfl)
  obtain ⟨y0, h0⟩ := field_read hxl hf 0 _ rfl (o := 0) (s := 1) rfl rfl (by kernel_rfl)
  obtain ⟨y1, h1⟩ := field_read hxl hf 1 _ rfl (o := 1) (s := 1) rfl rfl (by kernel_rfl)
  obtain ⟨y2, h2⟩ := field_read hxl hf 2 _ rfl (o := 2) (s := 1) rfl rfl (by kernel_rfl)
  obtain ⟨a, e0, w0⟩ := read_int Try.underlying3 h0
  obtain ⟨b, e1, w1⟩ := read_int Try.underlying40 h1
  obtain ⟨c, e2, w2⟩ := read_int Try.underlying3 h2
  refine ⟨(a, b, c), ?_, w0, w1, w2⟩
  match cs, hc with
  | [v0, v1, v2], _ =>
    simp at e0 e1 e2
    subst e0 e1 e2
    rfl
theorem read_it {n : Nat} {cs : List Value} {x : DataW H × List MemPlace} (h : DataW.trod enc Try.prog w base spare held n 47 cs = some x) : ∃ a : It, cs = itc a ∧ True := by
  obtain ⟨a, h1, _⟩ := read_it' h
  exact ⟨a, h1, trivial⟩
theorem read_fd' {n : Nat} {cs : List Value} {x : DataW H × List MemPlace} (h : DataW.trod enc Try.prog w base spare held n 42 cs = some x) : ∃ a : Fd, cs = fdc a ∧ (Lit.int .i64 a.1).wf = true ∧ (Lit.int .i64 a.2.1).wf = true ∧ (Lit.int .u64 a.2.2).wf = true := by
  obtain ⟨xs, m, rfl, hx, hl, hxl, hf⟩ := DataW.trod_struct Try.underlying42 h
  have hc : cs.length = 3 := hl.trans (by kernel_rfl)
  obtain ⟨y0, h0⟩ := field_read hxl hf 0 _ rfl (o := 0) (s := 1) rfl rfl (by kernel_rfl)
  obtain ⟨y1, h1⟩ := field_read hxl hf 1 _ rfl (o := 1) (s := 1) rfl rfl (by kernel_rfl)
  obtain ⟨y2, h2⟩ := field_read hxl hf 2 _ rfl (o := 2) (s := 1) rfl rfl (by kernel_rfl)
  obtain ⟨a, e0, w0⟩ := read_int Try.underlying3 h0
  obtain ⟨b, e1, w1⟩ := read_int Try.underlying3 h1
  obtain ⟨c, e2, w2⟩ := read_int Try.underlying40 h2
  refine ⟨(a, b, c), ?_, w0, w1, w2⟩
  match cs, hc with
  | [v0, v1, v2], _ =>
    simp at e0 e1 e2
    subst e0 e1 e2
    rfl
theorem read_fd {n : Nat} {cs : List Value} {x : DataW H × List MemPlace} (h : DataW.trod enc Try.prog w base spare held n 42 cs = some x) : ∃ a : Fd, cs = fdc a ∧ True := by
  obtain ⟨a, h1, _⟩ := read_fd' h
  exact ⟨a, h1, trivial⟩
theorem read_it2 {n : Nat} {cs : List Value} {x : DataW H × List MemPlace} (h : DataW.trod enc Try.prog w base spare held n 47 cs = some x) : ∃ a : It, cs = itc a ∧ -9223372036854775808 ≤ a.1 := by
  obtain ⟨a, h1, h2, _⟩ := read_it' h
  exact ⟨a, h1, (bounds_i64 h2).1⟩
end
end Go.Proofs.Ytdmiaciembcebaa
