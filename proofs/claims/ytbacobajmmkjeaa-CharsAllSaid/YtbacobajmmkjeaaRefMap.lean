/-
  The walk of the reference's Map. No condition but what the arguments' kinds bear.
-/
import Derived.Test.YtbacobajmmkjeaaMap
import Derived.Deep.RegionWith
namespace Go.Proofs.Ytbacobajmmkjeaa
open Go.RowKit Go.Proofs
set_option linter.unusedVariables false

theorem refmap_cases (u o : Int) : (o = 2 ∧ usedF u o = 2) ∨ (o = 3 ∧ usedF u o = 3) ∨ (((o : Int) == 2) = false ∧ ((o : Int) == 3) = false ∧ u = 0 ∧ usedF u o = 0) ∨ (((o : Int) == 2) = false ∧ ((o : Int) == 3) = false ∧ u = 1 ∧ usedF u o = 1) ∨
    (((o : Int) == 2) = false ∧ ((o : Int) == 3) = false ∧ u = 2 ∧ usedF u o = 2) ∨ (((o : Int) == 2) = false ∧ ((o : Int) == 3) = false ∧ u = 3 ∧ usedF u o = 3) ∨
    (((o : Int) == 2) = false ∧ ((o : Int) == 3) = false ∧ u < 0 ∧ usedF u o = 0) ∨ (((o : Int) == 2) = false ∧ ((o : Int) == 3) = false ∧ ¬ u < 0 ∧ 3 < u ∧ usedF u o = 0) := by
  by_cases h2 : o = 2
  · subst h2; exact .inl ⟨rfl, by simp [usedF]⟩
  by_cases h3 : o = 3
  · subst h3; exact .inr (.inl ⟨rfl, by simp [usedF]⟩)
  have n2 : ((o : Int) == 2) = false := by simpa using h2
  have n3 : ((o : Int) == 3) = false := by simpa using h3
  have e : usedF u o = if 0 ≤ u ∧ u ≤ 3 then u else 0 := by simp [usedF, h2, h3]
  rw [e]
  rcases (by omega : u = 0 ∨ u = 1 ∨ u = 2 ∨ u = 3 ∨ u < 0 ∨ (¬ u < 0 ∧ 3 < u)) with rfl | rfl | rfl | rfl | hu | ⟨hu, hv⟩
  · exact .inr (.inr (.inl ⟨n2, n3, rfl, rfl⟩))
  · exact .inr (.inr (.inr (.inl ⟨n2, n3, rfl, rfl⟩)))
  · exact .inr (.inr (.inr (.inr (.inl ⟨n2, n3, rfl, rfl⟩))))
  · exact .inr (.inr (.inr (.inr (.inr (.inl ⟨n2, n3, rfl, rfl⟩)))))
  · exact .inr (.inr (.inr (.inr (.inr (.inr (.inl ⟨n2, n3, hu, by rw [if_neg (by omega)]⟩))))))
  · exact .inr (.inr (.inr (.inr (.inr (.inr (.inr ⟨n2, n3, hu, hv, by rw [if_neg (by omega)]⟩))))))

set_option maxHeartbeats 4000000 in
theorem refmap_any (a b c d u o r : Int) (w : World) (h0 : -2147483648 ≤ r) (h1 : r ≤ 2147483647) :
    Calls Try.prog 9 #[.agg #[.int .i64 a, .int .i64 b, .int .i64 c, .int .i64 d, .int .i64 u, .int .i64 o], .int .i32 r] w (MapPost a b c d u o r w) := by
  unfold MapPost
  have hc := refmap_cases u o
  generalize usedF u o = q at hc
  have S := hide (fun k w => prints_any k r w h0 h1)
  rcases hc with ⟨rfl, rfl⟩ | ⟨rfl, rfl⟩ | ⟨o2, o3, rfl, rfl⟩ | ⟨o2, o3, rfl, rfl⟩ | ⟨o2, o3, rfl, rfl⟩ | ⟨o2, o3, rfl, rfl⟩ | ⟨o2, o3, u1, rfl⟩ | ⟨o2, o3, u1, u2, rfl⟩
  · go_enter Try.func9, Try.ntmps9
    go_wp2_with fail
    obtain ⟨w1, hw1⟩ : ∃ w1, w1 = (w.alloc (.cells #[.int .i64 a, .int .i64 b, .int .i64 c, .int .i64 d, .int .i64 u, .int .i64 0] 28)).alloc (.cells #[.int .i64 0, .int .i64 0, .int .i64 0, .int .i64 0, .int .i64 0, .int .i64 0] 28) := ⟨_, rfl⟩
    have g1 : Blk w1 w.heap.size 28 #[.int .i64 a, .int .i64 b, .int .i64 c, .int .i64 d, .int .i64 u, .int .i64 0] := by rw [hw1]; exact (Blk.new w 28 _).alloc _
    have g2 : Blk w1 (w.heap.size + 1) 28 #[.int .i64 0, .int .i64 0, .int .i64 0, .int .i64 0, .int .i64 0, .int .i64 0] := by rw [hw1]; exact Blk.new' (by simp) _ _
    have s2 : w.heap.size + 2 ≤ w1.heap.size := by rw [hw1]; simp
    have HB : Below w.heap.size w w1 := by rw [hw1]; exact below2 w _ _ (Nat.le_refl _)
    obtain ⟨d0, d1, d2, d3, d4, d5, f0, f1, f2, f3, f4, f5⟩ := blk6 g1
    obtain ⟨q0, q1, q2, q3, q4, q5, p0, p1, p2, p3, p4, p5⟩ := blk6 g2
    simp only [← hw1]
    clear hw1
    go_region_with (go_at_call 22; go_must (refine (S.out _ _).mono ?_; rintro e w2 ⟨rfl, hb2⟩; have k1 := g1.drew.below hb2 (show w.heap.size < w1.heap.size by omega); have k2 := g2.drew.below hb2 (show w.heap.size + 1 < w1.heap.size by omega); have HB2 : Below w.heap.size w w2 := HB.drew.trans (hb2.mono (show w.heap.size ≤ w1.heap.size by omega)); obtain ⟨d0, d1, d2, d3, d4, d5, f0, f1, f2, f3, f4, f5⟩ := blk6 k1; obtain ⟨q0, q1, q2, q3, q4, q5, p0, p1, p2, p3, p4, p5⟩ := blk6 k2))
    all_goals
      go_wp2_with fail
      exact bodyPost_ret (v := .tuple #[.int .i32 (shownF c r), .agg #[.int .i64 a, .int .i64 b, .int .i64 c, .int .i64 d, .int .i64 u, .int .i64 0]]) (by simp [results, Try.results9, go_sem, *]) rfl
        ⟨rfl, (((((HB2.setCell (p := ⟨w.heap.size + 1, 0, none⟩) (Nat.le_succ _) _).setCell (p := ⟨w.heap.size + 1, 1, none⟩) (Nat.le_succ _) _).setCell (p := ⟨w.heap.size + 1, 2, none⟩) (Nat.le_succ _) _).setCell (p := ⟨w.heap.size + 1, 3, none⟩) (Nat.le_succ _) _).setCell (p := ⟨w.heap.size + 1, 4, none⟩) (Nat.le_succ _) _).setCell (p := ⟨w.heap.size + 1, 5, none⟩) (Nat.le_succ _) _⟩
  · go_enter Try.func9, Try.ntmps9
    go_wp2_with fail
    obtain ⟨w1, hw1⟩ : ∃ w1, w1 = (w.alloc (.cells #[.int .i64 a, .int .i64 b, .int .i64 c, .int .i64 d, .int .i64 u, .int .i64 0] 28)).alloc (.cells #[.int .i64 0, .int .i64 0, .int .i64 0, .int .i64 0, .int .i64 0, .int .i64 0] 28) := ⟨_, rfl⟩
    have g1 : Blk w1 w.heap.size 28 #[.int .i64 a, .int .i64 b, .int .i64 c, .int .i64 d, .int .i64 u, .int .i64 0] := by rw [hw1]; exact (Blk.new w 28 _).alloc _
    have g2 : Blk w1 (w.heap.size + 1) 28 #[.int .i64 0, .int .i64 0, .int .i64 0, .int .i64 0, .int .i64 0, .int .i64 0] := by rw [hw1]; exact Blk.new' (by simp) _ _
    have s2 : w.heap.size + 2 ≤ w1.heap.size := by rw [hw1]; simp
    have HB : Below w.heap.size w w1 := by rw [hw1]; exact below2 w _ _ (Nat.le_refl _)
    obtain ⟨d0, d1, d2, d3, d4, d5, f0, f1, f2, f3, f4, f5⟩ := blk6 g1
    obtain ⟨q0, q1, q2, q3, q4, q5, p0, p1, p2, p3, p4, p5⟩ := blk6 g2
    simp only [← hw1]
    clear hw1
    go_region_with (go_at_call 22; go_must (refine (S.out _ _).mono ?_; rintro e w2 ⟨rfl, hb2⟩; have k1 := g1.drew.below hb2 (show w.heap.size < w1.heap.size by omega); have k2 := g2.drew.below hb2 (show w.heap.size + 1 < w1.heap.size by omega); have HB2 : Below w.heap.size w w2 := HB.drew.trans (hb2.mono (show w.heap.size ≤ w1.heap.size by omega)); obtain ⟨d0, d1, d2, d3, d4, d5, f0, f1, f2, f3, f4, f5⟩ := blk6 k1; obtain ⟨q0, q1, q2, q3, q4, q5, p0, p1, p2, p3, p4, p5⟩ := blk6 k2))
    all_goals
      go_wp2_with fail
      exact bodyPost_ret (v := .tuple #[.int .i32 (shownF d r), .agg #[.int .i64 a, .int .i64 b, .int .i64 c, .int .i64 d, .int .i64 u, .int .i64 0]]) (by simp [results, Try.results9, go_sem, *]) rfl
        ⟨rfl, (((((HB2.setCell (p := ⟨w.heap.size + 1, 0, none⟩) (Nat.le_succ _) _).setCell (p := ⟨w.heap.size + 1, 1, none⟩) (Nat.le_succ _) _).setCell (p := ⟨w.heap.size + 1, 2, none⟩) (Nat.le_succ _) _).setCell (p := ⟨w.heap.size + 1, 3, none⟩) (Nat.le_succ _) _).setCell (p := ⟨w.heap.size + 1, 4, none⟩) (Nat.le_succ _) _).setCell (p := ⟨w.heap.size + 1, 5, none⟩) (Nat.le_succ _) _⟩
  · go_enter Try.func9, Try.ntmps9
    go_wp2_with fail
    obtain ⟨w1, hw1⟩ : ∃ w1, w1 = (w.alloc (.cells #[.int .i64 a, .int .i64 b, .int .i64 c, .int .i64 d, .int .i64 0, .int .i64 0] 28)).alloc (.cells #[.int .i64 0, .int .i64 0, .int .i64 0, .int .i64 0, .int .i64 0, .int .i64 0] 28) := ⟨_, rfl⟩
    have g1 : Blk w1 w.heap.size 28 #[.int .i64 a, .int .i64 b, .int .i64 c, .int .i64 d, .int .i64 0, .int .i64 0] := by rw [hw1]; exact (Blk.new w 28 _).alloc _
    have g2 : Blk w1 (w.heap.size + 1) 28 #[.int .i64 0, .int .i64 0, .int .i64 0, .int .i64 0, .int .i64 0, .int .i64 0] := by rw [hw1]; exact Blk.new' (by simp) _ _
    have s2 : w.heap.size + 2 ≤ w1.heap.size := by rw [hw1]; simp
    have HB : Below w.heap.size w w1 := by rw [hw1]; exact below2 w _ _ (Nat.le_refl _)
    obtain ⟨d0, d1, d2, d3, d4, d5, f0, f1, f2, f3, f4, f5⟩ := blk6 g1
    obtain ⟨q0, q1, q2, q3, q4, q5, p0, p1, p2, p3, p4, p5⟩ := blk6 g2
    simp only [← hw1]
    clear hw1
    go_region_with (go_at_call 22; go_must (refine (S.out _ _).mono ?_; rintro e w2 ⟨rfl, hb2⟩; have k1 := g1.drew.below hb2 (show w.heap.size < w1.heap.size by omega); have k2 := g2.drew.below hb2 (show w.heap.size + 1 < w1.heap.size by omega); have HB2 : Below w.heap.size w w2 := HB.drew.trans (hb2.mono (show w.heap.size ≤ w1.heap.size by omega)); obtain ⟨d0, d1, d2, d3, d4, d5, f0, f1, f2, f3, f4, f5⟩ := blk6 k1; obtain ⟨q0, q1, q2, q3, q4, q5, p0, p1, p2, p3, p4, p5⟩ := blk6 k2))
    all_goals
      go_wp2_with fail
      exact bodyPost_ret (v := .tuple #[.int .i32 (shownF a r), .agg #[.int .i64 a, .int .i64 b, .int .i64 c, .int .i64 d, .int .i64 0, .int .i64 0]]) (by simp [results, Try.results9, go_sem, *]) rfl
        ⟨rfl, (((((HB2.setCell (p := ⟨w.heap.size + 1, 0, none⟩) (Nat.le_succ _) _).setCell (p := ⟨w.heap.size + 1, 1, none⟩) (Nat.le_succ _) _).setCell (p := ⟨w.heap.size + 1, 2, none⟩) (Nat.le_succ _) _).setCell (p := ⟨w.heap.size + 1, 3, none⟩) (Nat.le_succ _) _).setCell (p := ⟨w.heap.size + 1, 4, none⟩) (Nat.le_succ _) _).setCell (p := ⟨w.heap.size + 1, 5, none⟩) (Nat.le_succ _) _⟩
  · go_enter Try.func9, Try.ntmps9
    go_wp2_with fail
    obtain ⟨w1, hw1⟩ : ∃ w1, w1 = (w.alloc (.cells #[.int .i64 a, .int .i64 b, .int .i64 c, .int .i64 d, .int .i64 1, .int .i64 0] 28)).alloc (.cells #[.int .i64 0, .int .i64 0, .int .i64 0, .int .i64 0, .int .i64 0, .int .i64 0] 28) := ⟨_, rfl⟩
    have g1 : Blk w1 w.heap.size 28 #[.int .i64 a, .int .i64 b, .int .i64 c, .int .i64 d, .int .i64 1, .int .i64 0] := by rw [hw1]; exact (Blk.new w 28 _).alloc _
    have g2 : Blk w1 (w.heap.size + 1) 28 #[.int .i64 0, .int .i64 0, .int .i64 0, .int .i64 0, .int .i64 0, .int .i64 0] := by rw [hw1]; exact Blk.new' (by simp) _ _
    have s2 : w.heap.size + 2 ≤ w1.heap.size := by rw [hw1]; simp
    have HB : Below w.heap.size w w1 := by rw [hw1]; exact below2 w _ _ (Nat.le_refl _)
    obtain ⟨d0, d1, d2, d3, d4, d5, f0, f1, f2, f3, f4, f5⟩ := blk6 g1
    obtain ⟨q0, q1, q2, q3, q4, q5, p0, p1, p2, p3, p4, p5⟩ := blk6 g2
    simp only [← hw1]
    clear hw1
    go_region_with (go_at_call 22; go_must (refine (S.out _ _).mono ?_; rintro e w2 ⟨rfl, hb2⟩; have k1 := g1.drew.below hb2 (show w.heap.size < w1.heap.size by omega); have k2 := g2.drew.below hb2 (show w.heap.size + 1 < w1.heap.size by omega); have HB2 : Below w.heap.size w w2 := HB.drew.trans (hb2.mono (show w.heap.size ≤ w1.heap.size by omega)); obtain ⟨d0, d1, d2, d3, d4, d5, f0, f1, f2, f3, f4, f5⟩ := blk6 k1; obtain ⟨q0, q1, q2, q3, q4, q5, p0, p1, p2, p3, p4, p5⟩ := blk6 k2))
    all_goals
      go_wp2_with fail
      exact bodyPost_ret (v := .tuple #[.int .i32 (shownF b r), .agg #[.int .i64 a, .int .i64 b, .int .i64 c, .int .i64 d, .int .i64 1, .int .i64 0]]) (by simp [results, Try.results9, go_sem, *]) rfl
        ⟨rfl, (((((HB2.setCell (p := ⟨w.heap.size + 1, 0, none⟩) (Nat.le_succ _) _).setCell (p := ⟨w.heap.size + 1, 1, none⟩) (Nat.le_succ _) _).setCell (p := ⟨w.heap.size + 1, 2, none⟩) (Nat.le_succ _) _).setCell (p := ⟨w.heap.size + 1, 3, none⟩) (Nat.le_succ _) _).setCell (p := ⟨w.heap.size + 1, 4, none⟩) (Nat.le_succ _) _).setCell (p := ⟨w.heap.size + 1, 5, none⟩) (Nat.le_succ _) _⟩
  · go_enter Try.func9, Try.ntmps9
    go_wp2_with fail
    obtain ⟨w1, hw1⟩ : ∃ w1, w1 = (w.alloc (.cells #[.int .i64 a, .int .i64 b, .int .i64 c, .int .i64 d, .int .i64 2, .int .i64 0] 28)).alloc (.cells #[.int .i64 0, .int .i64 0, .int .i64 0, .int .i64 0, .int .i64 0, .int .i64 0] 28) := ⟨_, rfl⟩
    have g1 : Blk w1 w.heap.size 28 #[.int .i64 a, .int .i64 b, .int .i64 c, .int .i64 d, .int .i64 2, .int .i64 0] := by rw [hw1]; exact (Blk.new w 28 _).alloc _
    have g2 : Blk w1 (w.heap.size + 1) 28 #[.int .i64 0, .int .i64 0, .int .i64 0, .int .i64 0, .int .i64 0, .int .i64 0] := by rw [hw1]; exact Blk.new' (by simp) _ _
    have s2 : w.heap.size + 2 ≤ w1.heap.size := by rw [hw1]; simp
    have HB : Below w.heap.size w w1 := by rw [hw1]; exact below2 w _ _ (Nat.le_refl _)
    obtain ⟨d0, d1, d2, d3, d4, d5, f0, f1, f2, f3, f4, f5⟩ := blk6 g1
    obtain ⟨q0, q1, q2, q3, q4, q5, p0, p1, p2, p3, p4, p5⟩ := blk6 g2
    simp only [← hw1]
    clear hw1
    go_region_with (go_at_call 22; go_must (refine (S.out _ _).mono ?_; rintro e w2 ⟨rfl, hb2⟩; have k1 := g1.drew.below hb2 (show w.heap.size < w1.heap.size by omega); have k2 := g2.drew.below hb2 (show w.heap.size + 1 < w1.heap.size by omega); have HB2 : Below w.heap.size w w2 := HB.drew.trans (hb2.mono (show w.heap.size ≤ w1.heap.size by omega)); obtain ⟨d0, d1, d2, d3, d4, d5, f0, f1, f2, f3, f4, f5⟩ := blk6 k1; obtain ⟨q0, q1, q2, q3, q4, q5, p0, p1, p2, p3, p4, p5⟩ := blk6 k2))
    all_goals
      go_wp2_with fail
      exact bodyPost_ret (v := .tuple #[.int .i32 (shownF c r), .agg #[.int .i64 a, .int .i64 b, .int .i64 c, .int .i64 d, .int .i64 2, .int .i64 0]]) (by simp [results, Try.results9, go_sem, *]) rfl
        ⟨rfl, (((((HB2.setCell (p := ⟨w.heap.size + 1, 0, none⟩) (Nat.le_succ _) _).setCell (p := ⟨w.heap.size + 1, 1, none⟩) (Nat.le_succ _) _).setCell (p := ⟨w.heap.size + 1, 2, none⟩) (Nat.le_succ _) _).setCell (p := ⟨w.heap.size + 1, 3, none⟩) (Nat.le_succ _) _).setCell (p := ⟨w.heap.size + 1, 4, none⟩) (Nat.le_succ _) _).setCell (p := ⟨w.heap.size + 1, 5, none⟩) (Nat.le_succ _) _⟩
  · go_enter Try.func9, Try.ntmps9
    go_wp2_with fail
    obtain ⟨w1, hw1⟩ : ∃ w1, w1 = (w.alloc (.cells #[.int .i64 a, .int .i64 b, .int .i64 c, .int .i64 d, .int .i64 3, .int .i64 0] 28)).alloc (.cells #[.int .i64 0, .int .i64 0, .int .i64 0, .int .i64 0, .int .i64 0, .int .i64 0] 28) := ⟨_, rfl⟩
    have g1 : Blk w1 w.heap.size 28 #[.int .i64 a, .int .i64 b, .int .i64 c, .int .i64 d, .int .i64 3, .int .i64 0] := by rw [hw1]; exact (Blk.new w 28 _).alloc _
    have g2 : Blk w1 (w.heap.size + 1) 28 #[.int .i64 0, .int .i64 0, .int .i64 0, .int .i64 0, .int .i64 0, .int .i64 0] := by rw [hw1]; exact Blk.new' (by simp) _ _
    have s2 : w.heap.size + 2 ≤ w1.heap.size := by rw [hw1]; simp
    have HB : Below w.heap.size w w1 := by rw [hw1]; exact below2 w _ _ (Nat.le_refl _)
    obtain ⟨d0, d1, d2, d3, d4, d5, f0, f1, f2, f3, f4, f5⟩ := blk6 g1
    obtain ⟨q0, q1, q2, q3, q4, q5, p0, p1, p2, p3, p4, p5⟩ := blk6 g2
    simp only [← hw1]
    clear hw1
    go_region_with (go_at_call 22; go_must (refine (S.out _ _).mono ?_; rintro e w2 ⟨rfl, hb2⟩; have k1 := g1.drew.below hb2 (show w.heap.size < w1.heap.size by omega); have k2 := g2.drew.below hb2 (show w.heap.size + 1 < w1.heap.size by omega); have HB2 : Below w.heap.size w w2 := HB.drew.trans (hb2.mono (show w.heap.size ≤ w1.heap.size by omega)); obtain ⟨d0, d1, d2, d3, d4, d5, f0, f1, f2, f3, f4, f5⟩ := blk6 k1; obtain ⟨q0, q1, q2, q3, q4, q5, p0, p1, p2, p3, p4, p5⟩ := blk6 k2))
    all_goals
      go_wp2_with fail
      exact bodyPost_ret (v := .tuple #[.int .i32 (shownF d r), .agg #[.int .i64 a, .int .i64 b, .int .i64 c, .int .i64 d, .int .i64 3, .int .i64 0]]) (by simp [results, Try.results9, go_sem, *]) rfl
        ⟨rfl, (((((HB2.setCell (p := ⟨w.heap.size + 1, 0, none⟩) (Nat.le_succ _) _).setCell (p := ⟨w.heap.size + 1, 1, none⟩) (Nat.le_succ _) _).setCell (p := ⟨w.heap.size + 1, 2, none⟩) (Nat.le_succ _) _).setCell (p := ⟨w.heap.size + 1, 3, none⟩) (Nat.le_succ _) _).setCell (p := ⟨w.heap.size + 1, 4, none⟩) (Nat.le_succ _) _).setCell (p := ⟨w.heap.size + 1, 5, none⟩) (Nat.le_succ _) _⟩
  · go_enter Try.func9, Try.ntmps9
    go_wp2_with fail
    obtain ⟨w1, hw1⟩ : ∃ w1, w1 = (w.alloc (.cells #[.int .i64 a, .int .i64 b, .int .i64 c, .int .i64 d, .int .i64 u, .int .i64 0] 28)).alloc (.cells #[.int .i64 0, .int .i64 0, .int .i64 0, .int .i64 0, .int .i64 0, .int .i64 0] 28) := ⟨_, rfl⟩
    have g1 : Blk w1 w.heap.size 28 #[.int .i64 a, .int .i64 b, .int .i64 c, .int .i64 d, .int .i64 u, .int .i64 0] := by rw [hw1]; exact (Blk.new w 28 _).alloc _
    have g2 : Blk w1 (w.heap.size + 1) 28 #[.int .i64 0, .int .i64 0, .int .i64 0, .int .i64 0, .int .i64 0, .int .i64 0] := by rw [hw1]; exact Blk.new' (by simp) _ _
    have s2 : w.heap.size + 2 ≤ w1.heap.size := by rw [hw1]; simp
    have HB : Below w.heap.size w w1 := by rw [hw1]; exact below2 w _ _ (Nat.le_refl _)
    obtain ⟨d0, d1, d2, d3, d4, d5, f0, f1, f2, f3, f4, f5⟩ := blk6 g1
    obtain ⟨q0, q1, q2, q3, q4, q5, p0, p1, p2, p3, p4, p5⟩ := blk6 g2
    simp only [← hw1]
    clear hw1
    go_region_with (go_at_call 22; go_must (refine (S.out _ _).mono ?_; rintro e w2 ⟨rfl, hb2⟩; have k1 := g1.drew.below hb2 (show w.heap.size < w1.heap.size by omega); have k2 := g2.drew.below hb2 (show w.heap.size + 1 < w1.heap.size by omega); have HB2 : Below w.heap.size w w2 := HB.drew.trans (hb2.mono (show w.heap.size ≤ w1.heap.size by omega)); obtain ⟨d0, d1, d2, d3, d4, d5, f0, f1, f2, f3, f4, f5⟩ := blk6 k1; obtain ⟨q0, q1, q2, q3, q4, q5, p0, p1, p2, p3, p4, p5⟩ := blk6 k2))
    all_goals
      go_wp2_with fail
      exact bodyPost_ret (v := .tuple #[.int .i32 (shownF a r), .agg #[.int .i64 a, .int .i64 b, .int .i64 c, .int .i64 d, .int .i64 u, .int .i64 0]]) (by simp [results, Try.results9, go_sem, *]) rfl
        ⟨rfl, (((((HB2.setCell (p := ⟨w.heap.size + 1, 0, none⟩) (Nat.le_succ _) _).setCell (p := ⟨w.heap.size + 1, 1, none⟩) (Nat.le_succ _) _).setCell (p := ⟨w.heap.size + 1, 2, none⟩) (Nat.le_succ _) _).setCell (p := ⟨w.heap.size + 1, 3, none⟩) (Nat.le_succ _) _).setCell (p := ⟨w.heap.size + 1, 4, none⟩) (Nat.le_succ _) _).setCell (p := ⟨w.heap.size + 1, 5, none⟩) (Nat.le_succ _) _⟩
  · go_enter Try.func9, Try.ntmps9
    go_wp2_with fail
    obtain ⟨w1, hw1⟩ : ∃ w1, w1 = (w.alloc (.cells #[.int .i64 a, .int .i64 b, .int .i64 c, .int .i64 d, .int .i64 u, .int .i64 0] 28)).alloc (.cells #[.int .i64 0, .int .i64 0, .int .i64 0, .int .i64 0, .int .i64 0, .int .i64 0] 28) := ⟨_, rfl⟩
    have g1 : Blk w1 w.heap.size 28 #[.int .i64 a, .int .i64 b, .int .i64 c, .int .i64 d, .int .i64 u, .int .i64 0] := by rw [hw1]; exact (Blk.new w 28 _).alloc _
    have g2 : Blk w1 (w.heap.size + 1) 28 #[.int .i64 0, .int .i64 0, .int .i64 0, .int .i64 0, .int .i64 0, .int .i64 0] := by rw [hw1]; exact Blk.new' (by simp) _ _
    have s2 : w.heap.size + 2 ≤ w1.heap.size := by rw [hw1]; simp
    have HB : Below w.heap.size w w1 := by rw [hw1]; exact below2 w _ _ (Nat.le_refl _)
    obtain ⟨d0, d1, d2, d3, d4, d5, f0, f1, f2, f3, f4, f5⟩ := blk6 g1
    obtain ⟨q0, q1, q2, q3, q4, q5, p0, p1, p2, p3, p4, p5⟩ := blk6 g2
    simp only [← hw1]
    clear hw1
    go_region_with (go_at_call 22; go_must (refine (S.out _ _).mono ?_; rintro e w2 ⟨rfl, hb2⟩; have k1 := g1.drew.below hb2 (show w.heap.size < w1.heap.size by omega); have k2 := g2.drew.below hb2 (show w.heap.size + 1 < w1.heap.size by omega); have HB2 : Below w.heap.size w w2 := HB.drew.trans (hb2.mono (show w.heap.size ≤ w1.heap.size by omega)); obtain ⟨d0, d1, d2, d3, d4, d5, f0, f1, f2, f3, f4, f5⟩ := blk6 k1; obtain ⟨q0, q1, q2, q3, q4, q5, p0, p1, p2, p3, p4, p5⟩ := blk6 k2))
    all_goals
      go_wp2_with fail
      exact bodyPost_ret (v := .tuple #[.int .i32 (shownF a r), .agg #[.int .i64 a, .int .i64 b, .int .i64 c, .int .i64 d, .int .i64 u, .int .i64 0]]) (by simp [results, Try.results9, go_sem, *]) rfl
        ⟨rfl, (((((HB2.setCell (p := ⟨w.heap.size + 1, 0, none⟩) (Nat.le_succ _) _).setCell (p := ⟨w.heap.size + 1, 1, none⟩) (Nat.le_succ _) _).setCell (p := ⟨w.heap.size + 1, 2, none⟩) (Nat.le_succ _) _).setCell (p := ⟨w.heap.size + 1, 3, none⟩) (Nat.le_succ _) _).setCell (p := ⟨w.heap.size + 1, 4, none⟩) (Nat.le_succ _) _).setCell (p := ⟨w.heap.size + 1, 5, none⟩) (Nat.le_succ _) _⟩
end Go.Proofs.Ytbacobajmmkjeaa
