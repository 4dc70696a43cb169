/-
  The walk of awake, the document's example.
-/
import Derived.Test.YtbacobajmmkjeaaSame
namespace Go.Proofs.Ytbacobajmmkjeaa
open Go.RowKit Go.Proofs
set_option linter.unusedVariables false

theorem namePost0 {w w2 : World} {e : Ending} (h : NamePost 66 66 66 66 0 0 48 (⟨#[40]⟩ : ByteArray).toList w e w2) : e = .returned (.agg #[.int .i64 48, .int .i64 66, .int .i64 66, .int .i64 66, .int .i64 0, .int .i64 0]) ∧ Below w.heap.size w w2 := by
  have t : (⟨#[40]⟩ : ByteArray).toList = [40] := by rw [ByteArray.toList_eq]
  rw [t] at h
  simpa [NamePost, setF, placeF] using h
theorem mapPost0 {w w2 : World} {e : Ending} (h : MapPost 48 66 66 66 0 0 113 w e w2) : e = .returned (.tuple #[.int .i32 9472, .agg #[.int .i64 48, .int .i64 66, .int .i64 66, .int .i64 66, .int .i64 0, .int .i64 0]]) ∧ Below w.heap.size w w2 := by
  simpa [MapPost, setAt, usedF, shownF, drawnL] using h

set_option maxHeartbeats 4000000 in
theorem awake_any (w : World) : Calls Try.prog 11 #[] w fun e w' => e = .returned (.bool true) ∧ Below w.heap.size w w' := by
  have N := hide (fun w => new_any w)
  have M := hide (fun w => name_any 66 66 66 66 0 0 48 ⟨#[40]⟩ w (by omega) (by omega))
  have P := hide (fun w => map_any 48 66 66 66 0 0 113 w (by omega) (by omega))
  go_enter Try.func11, Try.ntmps11
  go_wp2_with (first | (go_at_call 20; go_must (refine (N.out _).mono ?_; rintro e w1 ⟨rfl, hb⟩)) | (go_at_call 15; go_must (refine (M.out _).mono ?_; rintro e w2 h; have h' := namePost0 h; obtain ⟨rfl, hb2⟩ := h')) | (go_at_call 8; go_must (refine (P.out _).mono ?_; rintro e w3 h; have h' := mapPost0 h; obtain ⟨rfl, hb3⟩ := h')))
  go_ret
  exact ⟨rfl, (hb.trans (hb2.mono hb.size)).trans ((hb3.mono (Nat.le_trans hb.size hb2.size)).alloc (Nat.le_trans (Nat.le_trans hb.size hb2.size) hb3.size) _)⟩
end Go.Proofs.Ytbacobajmmkjeaa
