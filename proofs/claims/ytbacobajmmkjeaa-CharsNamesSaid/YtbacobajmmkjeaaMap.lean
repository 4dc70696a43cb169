/-
  The walks of Map and of the reference's Map. No condition but what the arguments' kinds bear.
-/
import Derived.Test.YtbacobajmmkjeaaChars3
namespace Go.Proofs.Ytbacobajmmkjeaa
open Go.RowKit Go.Proofs
set_option linter.unusedVariables false

/-- The kind of the set k. -/
def setAt (k a b c d : Int) : Int := if k = 1 then b else if k = 2 then c else if k = 3 then d else a
def MapPost (a b c d u o r : Int) (w : World) (e : Ending) (w' : World) : Prop :=
  e = .returned (.tuple #[.int .i32 (shownF (setAt (usedF u o) a b c d) r), .agg #[.int .i64 a, .int .i64 b, .int .i64 c, .int .i64 d, .int .i64 u, .int .i64 0]]) ∧ Below w.heap.size w w'
theorem used_cases (u o : Int) : usedF u o = 0 ∨ usedF u o = 1 ∨ usedF u o = 2 ∨ usedF u o = 3 := by
  unfold usedF
  (repeat' split) <;> omega

theorem blk6 {w : World} {g : Nat} {t : TypeId} {a b c d e f : Value} (h : Blk w g t #[a, b, c, d, e, f]) :
    w.cell? ⟨g, 0, none⟩ = some a ∧ w.cell? ⟨g, 1, none⟩ = some b ∧ w.cell? ⟨g, 2, none⟩ = some c ∧ w.cell? ⟨g, 3, none⟩ = some d ∧ w.cell? ⟨g, 4, none⟩ = some e ∧ w.cell? ⟨g, 5, none⟩ = some f ∧
    w.frozen? ⟨g, 0, none⟩ = false ∧ w.frozen? ⟨g, 1, none⟩ = false ∧ w.frozen? ⟨g, 2, none⟩ = false ∧ w.frozen? ⟨g, 3, none⟩ = false ∧ w.frozen? ⟨g, 4, none⟩ = false ∧ w.frozen? ⟨g, 5, none⟩ = false :=
  ⟨h.cell 0, h.cell 1, h.cell 2, h.cell 3, h.cell 4, h.cell 5, h.frozen 0, h.frozen 1, h.frozen 2, h.frozen 3, h.frozen 4, h.frozen 5⟩

set_option maxHeartbeats 4000000 in
theorem map_any (a b c d u o r : Int) (w : World) (h0 : -2147483648 ≤ r) (h1 : r ≤ 2147483647) :
    Calls Try.prog 8 #[.agg #[.int .i64 a, .int .i64 b, .int .i64 c, .int .i64 d, .int .i64 u, .int .i64 o], .int .i32 r] w (MapPost a b c d u o r w) := by
  unfold MapPost
  have U0 := fun w => used_any a b c d u o w
  have hc := used_cases u o
  generalize usedF u o = q at U0 hc
  have U := hide U0
  clear U0
  have S := hide (fun k w => shown_any k r w h0 h1)
  rcases hc with rfl | rfl | rfl | rfl
  · go_enter Try.func8, Try.ntmps8
    go_wp2_with (first | (go_at_call 24; go_must (refine (U.out _).mono ?_; rintro e w1 ⟨rfl, hb⟩; have hs := hb.size; have g1 := ((Blk.new w 24 #[.int .i64 a, .int .i64 b, .int .i64 c, .int .i64 d, .int .i64 u, .int .i64 o]).alloc (.cells #[.int .i64 0, .int .i64 0, .int .i64 0, .int .i64 0, .int .i64 0, .int .i64 0] 24)).below hb (by simp; omega); have g2 : Blk w1 (w.heap.size + 1) 24 #[.int .i64 0, .int .i64 0, .int .i64 0, .int .i64 0, .int .i64 0, .int .i64 0] := (Blk.new' (by simp) _ _).below hb (by simp); have c1 := g1.cell 0)) | (go_at_call 23; go_must (refine (S.out _ _).mono ?_; rintro e w2 ⟨rfl, hb2⟩; have k1 := g1.below hb2 (by simp at hs; omega); have k2 := g2.below hb2 (by simp at hs; omega); obtain ⟨d0, d1, d2, d3, d4, d5, f0, f1, f2, f3, f4, f5⟩ := blk6 k1; obtain ⟨q0, q1, q2, q3, q4, q5, p0, p1, p2, p3, p4, p5⟩ := blk6 k2)))
    have HB : Below w.heap.size w w2 := ((below2 w _ _ (Nat.le_refl _)).trans (hb.mono (by simp; omega))).trans (hb2.mono (by simp at hs; omega))
    go_region
    all_goals
      go_wp2_with fail
      exact bodyPost_ret (v := .tuple #[.int .i32 (shownF a r), .agg #[.int .i64 a, .int .i64 b, .int .i64 c, .int .i64 d, .int .i64 u, .int .i64 0]]) (by simp [results, Try.results8, go_sem, *]) rfl
        ⟨rfl, (((((((HB.setCell (p := ⟨w.heap.size, 5, none⟩) (Nat.le_refl _) _).setCell (p := ⟨w.heap.size + 1, 0, none⟩) (Nat.le_succ _) _).setCell (p := ⟨w.heap.size + 1, 1, none⟩) (Nat.le_succ _) _).setCell (p := ⟨w.heap.size + 1, 2, none⟩) (Nat.le_succ _) _).setCell (p := ⟨w.heap.size + 1, 3, none⟩) (Nat.le_succ _) _).setCell (p := ⟨w.heap.size + 1, 4, none⟩) (Nat.le_succ _) _).setCell (p := ⟨w.heap.size + 1, 5, none⟩) (Nat.le_succ _) _).drew⟩
  · go_enter Try.func8, Try.ntmps8
    go_wp2_with (first | (go_at_call 24; go_must (refine (U.out _).mono ?_; rintro e w1 ⟨rfl, hb⟩; have hs := hb.size; have g1 := ((Blk.new w 24 #[.int .i64 a, .int .i64 b, .int .i64 c, .int .i64 d, .int .i64 u, .int .i64 o]).alloc (.cells #[.int .i64 0, .int .i64 0, .int .i64 0, .int .i64 0, .int .i64 0, .int .i64 0] 24)).below hb (by simp; omega); have g2 : Blk w1 (w.heap.size + 1) 24 #[.int .i64 0, .int .i64 0, .int .i64 0, .int .i64 0, .int .i64 0, .int .i64 0] := (Blk.new' (by simp) _ _).below hb (by simp); have c1 := g1.cell 1)) | (go_at_call 23; go_must (refine (S.out _ _).mono ?_; rintro e w2 ⟨rfl, hb2⟩; have k1 := g1.below hb2 (by simp at hs; omega); have k2 := g2.below hb2 (by simp at hs; omega); obtain ⟨d0, d1, d2, d3, d4, d5, f0, f1, f2, f3, f4, f5⟩ := blk6 k1; obtain ⟨q0, q1, q2, q3, q4, q5, p0, p1, p2, p3, p4, p5⟩ := blk6 k2)))
    have HB : Below w.heap.size w w2 := ((below2 w _ _ (Nat.le_refl _)).trans (hb.mono (by simp; omega))).trans (hb2.mono (by simp at hs; omega))
    go_region
    all_goals
      go_wp2_with fail
      exact bodyPost_ret (v := .tuple #[.int .i32 (shownF b r), .agg #[.int .i64 a, .int .i64 b, .int .i64 c, .int .i64 d, .int .i64 u, .int .i64 0]]) (by simp [results, Try.results8, go_sem, *]) rfl
        ⟨rfl, (((((((HB.setCell (p := ⟨w.heap.size, 5, none⟩) (Nat.le_refl _) _).setCell (p := ⟨w.heap.size + 1, 0, none⟩) (Nat.le_succ _) _).setCell (p := ⟨w.heap.size + 1, 1, none⟩) (Nat.le_succ _) _).setCell (p := ⟨w.heap.size + 1, 2, none⟩) (Nat.le_succ _) _).setCell (p := ⟨w.heap.size + 1, 3, none⟩) (Nat.le_succ _) _).setCell (p := ⟨w.heap.size + 1, 4, none⟩) (Nat.le_succ _) _).setCell (p := ⟨w.heap.size + 1, 5, none⟩) (Nat.le_succ _) _).drew⟩
  · go_enter Try.func8, Try.ntmps8
    go_wp2_with (first | (go_at_call 24; go_must (refine (U.out _).mono ?_; rintro e w1 ⟨rfl, hb⟩; have hs := hb.size; have g1 := ((Blk.new w 24 #[.int .i64 a, .int .i64 b, .int .i64 c, .int .i64 d, .int .i64 u, .int .i64 o]).alloc (.cells #[.int .i64 0, .int .i64 0, .int .i64 0, .int .i64 0, .int .i64 0, .int .i64 0] 24)).below hb (by simp; omega); have g2 : Blk w1 (w.heap.size + 1) 24 #[.int .i64 0, .int .i64 0, .int .i64 0, .int .i64 0, .int .i64 0, .int .i64 0] := (Blk.new' (by simp) _ _).below hb (by simp); have c1 := g1.cell 2)) | (go_at_call 23; go_must (refine (S.out _ _).mono ?_; rintro e w2 ⟨rfl, hb2⟩; have k1 := g1.below hb2 (by simp at hs; omega); have k2 := g2.below hb2 (by simp at hs; omega); obtain ⟨d0, d1, d2, d3, d4, d5, f0, f1, f2, f3, f4, f5⟩ := blk6 k1; obtain ⟨q0, q1, q2, q3, q4, q5, p0, p1, p2, p3, p4, p5⟩ := blk6 k2)))
    have HB : Below w.heap.size w w2 := ((below2 w _ _ (Nat.le_refl _)).trans (hb.mono (by simp; omega))).trans (hb2.mono (by simp at hs; omega))
    go_region
    all_goals
      go_wp2_with fail
      exact bodyPost_ret (v := .tuple #[.int .i32 (shownF c r), .agg #[.int .i64 a, .int .i64 b, .int .i64 c, .int .i64 d, .int .i64 u, .int .i64 0]]) (by simp [results, Try.results8, go_sem, *]) rfl
        ⟨rfl, (((((((HB.setCell (p := ⟨w.heap.size, 5, none⟩) (Nat.le_refl _) _).setCell (p := ⟨w.heap.size + 1, 0, none⟩) (Nat.le_succ _) _).setCell (p := ⟨w.heap.size + 1, 1, none⟩) (Nat.le_succ _) _).setCell (p := ⟨w.heap.size + 1, 2, none⟩) (Nat.le_succ _) _).setCell (p := ⟨w.heap.size + 1, 3, none⟩) (Nat.le_succ _) _).setCell (p := ⟨w.heap.size + 1, 4, none⟩) (Nat.le_succ _) _).setCell (p := ⟨w.heap.size + 1, 5, none⟩) (Nat.le_succ _) _).drew⟩
  · go_enter Try.func8, Try.ntmps8
    go_wp2_with (first | (go_at_call 24; go_must (refine (U.out _).mono ?_; rintro e w1 ⟨rfl, hb⟩; have hs := hb.size; have g1 := ((Blk.new w 24 #[.int .i64 a, .int .i64 b, .int .i64 c, .int .i64 d, .int .i64 u, .int .i64 o]).alloc (.cells #[.int .i64 0, .int .i64 0, .int .i64 0, .int .i64 0, .int .i64 0, .int .i64 0] 24)).below hb (by simp; omega); have g2 : Blk w1 (w.heap.size + 1) 24 #[.int .i64 0, .int .i64 0, .int .i64 0, .int .i64 0, .int .i64 0, .int .i64 0] := (Blk.new' (by simp) _ _).below hb (by simp); have c1 := g1.cell 3)) | (go_at_call 23; go_must (refine (S.out _ _).mono ?_; rintro e w2 ⟨rfl, hb2⟩; have k1 := g1.below hb2 (by simp at hs; omega); have k2 := g2.below hb2 (by simp at hs; omega); obtain ⟨d0, d1, d2, d3, d4, d5, f0, f1, f2, f3, f4, f5⟩ := blk6 k1; obtain ⟨q0, q1, q2, q3, q4, q5, p0, p1, p2, p3, p4, p5⟩ := blk6 k2)))
    have HB : Below w.heap.size w w2 := ((below2 w _ _ (Nat.le_refl _)).trans (hb.mono (by simp; omega))).trans (hb2.mono (by simp at hs; omega))
    go_region
    all_goals
      go_wp2_with fail
      exact bodyPost_ret (v := .tuple #[.int .i32 (shownF d r), .agg #[.int .i64 a, .int .i64 b, .int .i64 c, .int .i64 d, .int .i64 u, .int .i64 0]]) (by simp [results, Try.results8, go_sem, *]) rfl
        ⟨rfl, (((((((HB.setCell (p := ⟨w.heap.size, 5, none⟩) (Nat.le_refl _) _).setCell (p := ⟨w.heap.size + 1, 0, none⟩) (Nat.le_succ _) _).setCell (p := ⟨w.heap.size + 1, 1, none⟩) (Nat.le_succ _) _).setCell (p := ⟨w.heap.size + 1, 2, none⟩) (Nat.le_succ _) _).setCell (p := ⟨w.heap.size + 1, 3, none⟩) (Nat.le_succ _) _).setCell (p := ⟨w.heap.size + 1, 4, none⟩) (Nat.le_succ _) _).setCell (p := ⟨w.heap.size + 1, 5, none⟩) (Nat.le_succ _) _).drew⟩
end Go.Proofs.Ytbacobajmmkjeaa
