/-
  CharsMaps, walked. No condition but what the arguments' kinds bear.
-/
import Derived.Test.YtbacobajmmkjeaaAwake
import Derived.Test.YtbacobajmmkjeaaRefMap
import Derived.Deep.RegionWith
namespace Go.Proofs.Ytbacobajmmkjeaa
open Go.RowKit Go.Proofs
set_option linter.unusedVariables false

set_option maxHeartbeats 4000000 in
theorem lawmaps_walk (w : World) (a b c d u o r : Int) (h0 : -2147483648 ≤ r) (h1 : r ≤ 2147483647) :
    Calls Try.prog 3 #[.agg #[.int .i64 a, .int .i64 b, .int .i64 c, .int .i64 d, .int .i64 u, .int .i64 o], .int .i32 r] w fun e w' => e = .returned (.bool true) ∧ Below w.heap.size w w' := by
  obtain ⟨v, hv⟩ : ∃ v, v = shownF (setAt (usedF u o) a b c d) r := ⟨_, rfl⟩
  have M := hide (fun w => (map_any a b c d u o r w h0 h1).mono fun _ _ h => mapPost hv h)
  have R := hide (fun w => (refmap_any a b c d u o r w h0 h1).mono fun _ _ h => mapPost hv h)
  have F1 := hide (fun w => of_any a b c d u o w)
  have F2 := hide (fun w => of_any a b c d u 0 w)
  have A := hide (fun w => awake_any w)
  clear hv
  go_enter Try.func3, Try.ntmps3
  go_upto_region 2 with (go_at_call 8; go_must (refine (M.out _).mono ?_; rintro e w1 ⟨rfl, hb⟩))
  have k1 := (Blk.new w 24 #[.int .i64 a, .int .i64 b, .int .i64 c, .int .i64 d, .int .i64 u, .int .i64 o]).below hb (by simp)
  have n1 : w.heap.size + 1 ≤ w1.heap.size := by have := hb.size; simpa using this
  have H1 : Below w.heap.size w w1 := below_in ((Below.refl _ _).alloc (Nat.le_refl _) _) hb (Nat.le_refl _)
  obtain ⟨w3, hw3⟩ : ∃ w3, w3 = w1.alloc (.cells #[.int .i64 a, .int .i64 b, .int .i64 c, .int .i64 d, .int .i64 u, .int .i64 0] 24) := ⟨_, rfl⟩
  have B0 : Blk w3 w.heap.size 24 #[.int .i64 a, .int .i64 b, .int .i64 c, .int .i64 d, .int .i64 u, .int .i64 o] := by rw [hw3]; exact k1.alloc _
  have B1 : Blk w3 w1.heap.size 24 #[.int .i64 a, .int .i64 b, .int .i64 c, .int .i64 d, .int .i64 u, .int .i64 0] := by rw [hw3]; exact Blk.new _ _ _
  have H3 : Below w.heap.size w w3 := by rw [hw3]; exact H1.alloc (by omega) _
  have n3 : w1.heap.size + 1 = w3.heap.size := by rw [hw3]; simp
  simp only [← hw3]
  clear hw3 H1 k1 hb
  obtain ⟨d0, d1, d2, d3, d4, d5, df0, df1, df2, df3, df4, df5⟩ := blk6 B0
  go_upto_region 3 with (first | (go_at_call 10; go_must (refine (F1.out _).mono ?_; rintro e w4 ⟨rfl, hb4⟩)) | (go_at_call 9; go_must (refine (R.out _).mono ?_; rintro e w5 ⟨rfl, hb5⟩)))
  have n4 := hb4.size
  have n5 := hb5.size
  have C1 := (B1.below hb4 (by omega)).below hb5 (by omega)
  have H5 := below_in (below_in H3 hb4 (Nat.le_refl _)) hb5 (Nat.le_refl _)
  obtain ⟨w7, hw7⟩ : ∃ w7, w7 = w5.alloc (.cells #[.int .i64 a, .int .i64 b, .int .i64 c, .int .i64 d, .int .i64 u, .int .i64 0] 28) := ⟨_, rfl⟩
  have E1 : Blk w7 w1.heap.size 24 #[.int .i64 a, .int .i64 b, .int .i64 c, .int .i64 d, .int .i64 u, .int .i64 0] := by rw [hw7]; exact C1.alloc _
  have E2 : Blk w7 w5.heap.size 28 #[.int .i64 a, .int .i64 b, .int .i64 c, .int .i64 d, .int .i64 u, .int .i64 0] := by rw [hw7]; exact Blk.new _ _ _
  have H7 : Below w.heap.size w w7 := by rw [hw7]; exact H5.alloc (by omega) _
  have n7 : w5.heap.size + 1 = w7.heap.size := by rw [hw7]; simp
  simp only [← hw7]
  clear hw7 H3 C1 H5 hb4 hb5 B0 B1 d0 d1 d2 d3 d4 d5 df0 df1 df2 df3 df4 df5
  obtain ⟨p0, p1, p2, p3, p4, p5, pf0, pf1, pf2, pf3, pf4, pf5⟩ := blk6 E1
  obtain ⟨q0, q1, q2, q3, q4, q5, qf0, qf1, qf2, qf3, qf4, qf5⟩ := blk6 E2
  go_region_with (first | (go_at_call 10; go_must (refine (F2.out _).mono ?_; rintro e w8 ⟨rfl, hb8⟩; have G2 := E2.drew.below hb8 (show w5.heap.size < w7.heap.size by omega); have H8 : Below w.heap.size w w8 := H7.drew.trans (hb8.mono (show w.heap.size ≤ w7.heap.size by omega)); obtain ⟨x0, x1, x2, x3, x4, x5, xf0, xf1, xf2, xf3, xf4, xf5⟩ := blk6 G2)) | (go_at_call 11; go_must (refine (A.out _).mono ?_; rintro e w9 ⟨rfl, hb9⟩; have H9 := below_in H8 hb9 (Nat.le_refl _))))
  all_goals go_wp2_with fail
  all_goals go_ret
  all_goals exact ⟨rfl, H9⟩
end Go.Proofs.Ytbacobajmmkjeaa
