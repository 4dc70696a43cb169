/-
  '==' of an aggregate with itself: the states, the reference's, the four sets. No condition.
-/
import Derived.Test.YtbacobajmmkjeaaMap
namespace Go.Proofs.Ytbacobajmmkjeaa
open Go.RowKit Go.Proofs
set_option linter.unusedVariables false

theorem same22 (D a b c d : Int) (n : Nat) (w : World) : (Op.equalIn (n + 2) 22 (.agg #[.int .i64 a, .int .i64 b, .int .i64 c, .int .i64 d]) (.agg #[.int .i64 a, .int .i64 b, .int .i64 c, .int .i64 d])).run Try.prog w = .ok true w := by
  have u3 := Try.underlying3
  have a3 := Try.isAgg3
  have z3 := Try.sizeOf3
  rw [Op.equalIn]
  simp only [Sem.run_bind, run_underlying Try.underlying22, Result.andThen_ok]
  simp only [Std.Legacy.Range.forIn_eq_forIn_range', Std.Legacy.Range.size, Nat.sub_zero, Nat.add_sub_cancel, Nat.div_one, List.range'_succ, List.range'_zero, List.forIn_cons, List.forIn_nil]
  go_simp
theorem same24 (a b c d u o : Int) (w : World) : (Op.equalIn 10000 24 (.agg #[.int .i64 a, .int .i64 b, .int .i64 c, .int .i64 d, .int .i64 u, .int .i64 o]) (.agg #[.int .i64 a, .int .i64 b, .int .i64 c, .int .i64 d, .int .i64 u, .int .i64 o])).run Try.prog w = .ok true w := by
  have u3 := Try.underlying3
  have a3 := Try.isAgg3
  have z3 := Try.sizeOf3
  have a22 := Try.isAgg22
  have z22 := Try.sizeOf22
  have hS : Try.prog.underlying 24 = some (.struct (Try.prog.fieldsOf 24)) := by kernel_rfl
  have s22 := same22 0 a b c d 9997 w
  rw [show (10000 : Nat) = 9999 + 1 from rfl, run_equalIn_agg w 9999 24 _ _ hS (by kernel_rfl)]
  simp only [Program.fieldsOf, Try.underlying24]
  go_simp
theorem same28 (a b c d u o : Int) (w : World) : (Op.equalIn 10000 28 (.agg #[.int .i64 a, .int .i64 b, .int .i64 c, .int .i64 d, .int .i64 u, .int .i64 o]) (.agg #[.int .i64 a, .int .i64 b, .int .i64 c, .int .i64 d, .int .i64 u, .int .i64 o])).run Try.prog w = .ok true w := by
  have u3 := Try.underlying3
  have a3 := Try.isAgg3
  have z3 := Try.sizeOf3
  have a22 := Try.isAgg22
  have z22 := Try.sizeOf22
  have hS : Try.prog.underlying 28 = some (.struct (Try.prog.fieldsOf 28)) := by kernel_rfl
  have s22 := same22 0 a b c d 9997 w
  rw [show (10000 : Nat) = 9999 + 1 from rfl, run_equalIn_agg w 9999 28 _ _ hS (by kernel_rfl)]
  simp only [Program.fieldsOf, Try.underlying28]
  go_simp
theorem same22' (a b c d : Int) (w : World) : (Op.equalIn 10000 22 (.agg #[.int .i64 a, .int .i64 b, .int .i64 c, .int .i64 d]) (.agg #[.int .i64 a, .int .i64 b, .int .i64 c, .int .i64 d])).run Try.prog w = .ok true w := same22 0 a b c d 9998 w
theorem same22'' (a b c d : Int) (w : World) : (Op.equalIn 9999 22 (.agg #[.int .i64 a, .int .i64 b, .int .i64 c, .int .i64 d]) (.agg #[.int .i64 a, .int .i64 b, .int .i64 c, .int .i64 d])).run Try.prog w = .ok true w := same22 0 a b c d 9997 w
attribute [go_sem] same28 same24 same22' same22''
theorem mapPost {a b c d u o r v : Int} {w w2 : World} {e : Ending} (hv : v = shownF (setAt (usedF u o) a b c d) r) (h : MapPost a b c d u o r w e w2) : e = .returned (.tuple #[.int .i32 v, .agg #[.int .i64 a, .int .i64 b, .int .i64 c, .int .i64 d, .int .i64 u, .int .i64 0]]) ∧ Below w.heap.size w w2 := by
  rw [hv]; exact h
theorem below_in {B : Nat} {w w1 w2 : World} (h : Below B w w1) (h2 : Below w1.heap.size w1 w2) (hB : B ≤ w.heap.size) : Below B w w2 := h.trans (h2.mono (Nat.le_trans hB h.size))
end Go.Proofs.Ytbacobajmmkjeaa
