/-
  CharsOnce, walked. No condition but what the arguments' kinds bear.
-/
import Derived.Test.YtbacobajmmkjeaaAwake
import Derived.Deep.RegionWith
namespace Go.Proofs.Ytbacobajmmkjeaa
open Go.RowKit Go.Proofs
set_option linter.unusedVariables false

set_option maxHeartbeats 4000000 in
theorem lawonce_walk (w : World) (a b c d u o r q : Int) (h0 : -2147483648 ≤ r) (h1 : r ≤ 2147483647) (h2 : -2147483648 ≤ q) (h3 : q ≤ 2147483647) :
    Calls Try.prog 5 #[.agg #[.int .i64 a, .int .i64 b, .int .i64 c, .int .i64 d, .int .i64 u, .int .i64 o], .int .i32 r, .int .i32 q] w fun e w' => e = .returned (.bool true) ∧ Below w.heap.size w w' := by
  obtain ⟨x, hx⟩ : ∃ x, x = shownF (setAt (usedF u 2) a b c d) r := ⟨_, rfl⟩
  have hx' : x = shownF (setAt (usedF 2 0) a b c d) r := hx
  obtain ⟨y, hy⟩ : ∃ y, y = shownF (setAt (usedF u 0) a b c d) q := ⟨_, rfl⟩
  have L := hide (fun w => lock_any a b c d u 0 78 w)
  have M1 := hide (fun w => (map_any a b c d u 2 r w h0 h1).mono fun _ _ h => mapPost hx h)
  have M2 := hide (fun w => (map_any a b c d u 0 q w h2 h3).mono fun _ _ h => mapPost hy h)
  have M3 := hide (fun w => (map_any a b c d 2 0 r w h0 h1).mono fun _ _ h => mapPost hx' h)
  have A := hide (fun w => awake_any w)
  clear hx hx' hy
  go_enter Try.func5, Try.ntmps5
  go_upto_region 3 with (first | (go_at_call 14; go_must (refine (L.out _).mono ?_; rintro e w1 ⟨rfl, hb⟩; have k1 := (Blk.new w 24 #[.int .i64 a, .int .i64 b, .int .i64 c, .int .i64 d, .int .i64 u, .int .i64 0]).below hb (by simp); have s1 := hb.size)) | (go_at_call 8; go_must (refine (M1.out _).mono ?_; rintro e w2 ⟨rfl, hb2⟩; have k2 := k1.below hb2 (by simp at s1; omega))))
  have n1 : w.heap.size < w2.heap.size := by have := hb2.size; simp at s1; omega
  have H2 : Below w.heap.size w w2 := below_in (((Below.refl _ _).alloc (Nat.le_refl _) _).trans (hb.mono (by simp))) hb2 (Nat.le_refl _)
  obtain ⟨w3, hw3⟩ : ∃ w3, w3 = w2.alloc (.cells #[.int .i64 a, .int .i64 b, .int .i64 c, .int .i64 d, .int .i64 u, .int .i64 0] 24) := ⟨_, rfl⟩
  have B0 : Blk w3 w.heap.size 24 #[.int .i64 a, .int .i64 b, .int .i64 c, .int .i64 d, .int .i64 u, .int .i64 0] := by rw [hw3]; exact k2.alloc _
  have B1 : Blk w3 w2.heap.size 24 #[.int .i64 a, .int .i64 b, .int .i64 c, .int .i64 d, .int .i64 u, .int .i64 0] := by rw [hw3]; exact Blk.new _ _ _
  have H3 : Below w.heap.size w w3 := by rw [hw3]; exact H2.alloc (Nat.le_of_lt n1) _
  have n3 : w2.heap.size + 1 = w3.heap.size := by rw [hw3]; simp
  simp only [← hw3]
  clear hw3 H2 hb2 k2 k1 s1 hb
  obtain ⟨d0, d1, d2, d3, d4, d5, f0, f1, f2, f3, f4, f5⟩ := blk6 B1
  go_upto_region 4 with (go_at_call 8; go_must (refine (M2.out _).mono ?_; rintro e w4 ⟨rfl, hb4⟩))
  have C0 := B0.below hb4 (by omega)
  have C1 := B1.below hb4 (by omega)
  have H4 := below_in H3 hb4 (Nat.le_refl _)
  have n4 := hb4.size
  clear d0 d1 d2 d3 d4 d5 f0 f1 f2 f3 f4 f5 hb4 B0 B1 H3
  obtain ⟨w5, hw5⟩ : ∃ w5, w5 = w4.alloc (.cells #[.int .i64 a, .int .i64 b, .int .i64 c, .int .i64 d, .int .i64 u, .int .i64 0] 24) := ⟨_, rfl⟩
  have B0 : Blk w5 w.heap.size 24 #[.int .i64 a, .int .i64 b, .int .i64 c, .int .i64 d, .int .i64 u, .int .i64 0] := by rw [hw5]; exact C0.alloc _
  have B1 : Blk w5 w2.heap.size 24 #[.int .i64 a, .int .i64 b, .int .i64 c, .int .i64 d, .int .i64 u, .int .i64 0] := by rw [hw5]; exact C1.alloc _
  have B2 : Blk w5 w4.heap.size 24 #[.int .i64 a, .int .i64 b, .int .i64 c, .int .i64 d, .int .i64 u, .int .i64 0] := by rw [hw5]; exact Blk.new _ _ _
  have H5 : Below w.heap.size w w5 := by rw [hw5]; exact H4.alloc (by omega) _
  have n5 : w4.heap.size + 1 = w5.heap.size := by rw [hw5]; simp
  simp only [← hw5]
  clear hw5 H4 C0 C1
  obtain ⟨d0, d1, d2, d3, d4, d5, f0, f1, f2, f3, f4, f5⟩ := blk6 B0
  go_upto_region 5 with (go_at_call 8; go_must (refine (M2.out _).mono ?_; rintro e w6 ⟨rfl, hb6⟩))
  have C0 := B0.below hb6 (by omega)
  have C1 := B1.below hb6 (by omega)
  have C2 := B2.below hb6 (by omega)
  have H6 := below_in H5 hb6 (Nat.le_refl _)
  have n6 := hb6.size
  clear d0 d1 d2 d3 d4 d5 f0 f1 f2 f3 f4 f5 hb6 B0 B1 B2 H5
  obtain ⟨w7, hw7⟩ : ∃ w7, w7 = w6.alloc (.cells #[.int .i64 a, .int .i64 b, .int .i64 c, .int .i64 d, .int .i64 u, .int .i64 0] 24) := ⟨_, rfl⟩
  have B0 : Blk w7 w.heap.size 24 #[.int .i64 a, .int .i64 b, .int .i64 c, .int .i64 d, .int .i64 u, .int .i64 0] := by rw [hw7]; exact C0.alloc _
  have B1 : Blk w7 w2.heap.size 24 #[.int .i64 a, .int .i64 b, .int .i64 c, .int .i64 d, .int .i64 u, .int .i64 0] := by rw [hw7]; exact C1.alloc _
  have B2 : Blk w7 w4.heap.size 24 #[.int .i64 a, .int .i64 b, .int .i64 c, .int .i64 d, .int .i64 u, .int .i64 0] := by rw [hw7]; exact C2.alloc _
  have H7 : Below w.heap.size w w7 := by rw [hw7]; exact H6.alloc (by omega) _
  have n7 : w6.heap.size + 1 = w7.heap.size := by rw [hw7]; simp
  simp only [← hw7]
  clear hw7 H6 C0 C1 C2
  obtain ⟨d0, d1, d2, d3, d4, d5, f0, f1, f2, f3, f4, f5⟩ := blk6 B0
  go_upto_region 8 with (go_at_call 8; go_must (refine (M3.out _).mono ?_; rintro e w8 ⟨rfl, hb8⟩))
  have m7 : (w7.alloc (.cells #[.int .i64 a, .int .i64 b, .int .i64 c, .int .i64 d, .int .i64 2, .int .i64 0] 24)).heap.size = w7.heap.size + 1 := by simp
  have C0 := (B0.alloc (.cells #[.int .i64 a, .int .i64 b, .int .i64 c, .int .i64 d, .int .i64 2, .int .i64 0] 24)).below hb8 (by omega)
  have C1 := (B1.alloc (.cells #[.int .i64 a, .int .i64 b, .int .i64 c, .int .i64 d, .int .i64 2, .int .i64 0] 24)).below hb8 (by omega)
  have C2 := (B2.alloc (.cells #[.int .i64 a, .int .i64 b, .int .i64 c, .int .i64 d, .int .i64 2, .int .i64 0] 24)).below hb8 (by omega)
  have H8 := below_in (H7.alloc (by omega) (.cells #[.int .i64 a, .int .i64 b, .int .i64 c, .int .i64 d, .int .i64 2, .int .i64 0] 24)) hb8 (Nat.le_refl _)
  have n8 := hb8.size
  clear d0 d1 d2 d3 d4 d5 f0 f1 f2 f3 f4 f5 hb8 B0 B1 B2 H7
  obtain ⟨w9, hw9⟩ : ∃ w9, w9 = w8.alloc (.cells #[.int .i64 a, .int .i64 b, .int .i64 c, .int .i64 d, .int .i64 2, .int .i64 0] 24) := ⟨_, rfl⟩
  have B0 : Blk w9 w.heap.size 24 #[.int .i64 a, .int .i64 b, .int .i64 c, .int .i64 d, .int .i64 u, .int .i64 0] := by rw [hw9]; exact C0.alloc _
  have B1 : Blk w9 w2.heap.size 24 #[.int .i64 a, .int .i64 b, .int .i64 c, .int .i64 d, .int .i64 u, .int .i64 0] := by rw [hw9]; exact C1.alloc _
  have B2 : Blk w9 w4.heap.size 24 #[.int .i64 a, .int .i64 b, .int .i64 c, .int .i64 d, .int .i64 u, .int .i64 0] := by rw [hw9]; exact C2.alloc _
  have H9 : Below w.heap.size w w9 := by rw [hw9]; exact H8.alloc (by omega) _
  simp only [← hw9]
  clear hw9 H8 C0 C1 C2 n8
  obtain ⟨d0, d1, d2, d3, d4, d5, df0, df1, df2, df3, df4, df5⟩ := blk6 B0
  obtain ⟨p0, p1, p2, p3, p4, p5, pf0, pf1, pf2, pf3, pf4, pf5⟩ := blk6 B1
  obtain ⟨q0, q1, q2, q3, q4, q5, qf0, qf1, qf2, qf3, qf4, qf5⟩ := blk6 B2
  go_wp2_with (go_at_call 11; go_must (refine (A.out _).mono ?_; rintro e w10 ⟨rfl, hb10⟩))
  go_ret
  exact ⟨rfl, below_in H9 hb10 (Nat.le_refl _)⟩
end Go.Proofs.Ytbacobajmmkjeaa
