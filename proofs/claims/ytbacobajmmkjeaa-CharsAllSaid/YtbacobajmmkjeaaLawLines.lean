/-
  CharsLines, walked: by the set and by the kind. No condition but what the arguments' kinds bear.
-/
import Derived.Test.YtbacobajmmkjeaaLawOnce
namespace Go.Proofs.Ytbacobajmmkjeaa
open Go.RowKit Go.Proofs
set_option linter.unusedVariables false

theorem below_six {B g : Nat} {w w1 : World} (h : Below B w w1) (hg : B ≤ g) (a b c d e f : Value) : Below B w ((((((w1.setCell ⟨g, 0, none⟩ a).setCell ⟨g, 1, none⟩ b).setCell ⟨g, 2, none⟩ c).setCell ⟨g, 3, none⟩ d).setCell ⟨g, 4, none⟩ e).setCell ⟨g, 5, none⟩ f) :=
  (((((h.setCell (p := ⟨g, 0, none⟩) hg _).setCell (p := ⟨g, 1, none⟩) hg _).setCell (p := ⟨g, 2, none⟩) hg _).setCell (p := ⟨g, 3, none⟩) hg _).setCell (p := ⟨g, 4, none⟩) hg _).setCell (p := ⟨g, 5, none⟩) hg _
theorem blk_six {g : Nat} {t : TypeId} {w : World} {v0 v1 v2 v3 v4 v5 : Value} (h : Blk w g t #[v0, v1, v2, v3, v4, v5]) (a b c d e f : Value) :
    Blk ((((((w.setCell ⟨g, 0, none⟩ a).setCell ⟨g, 1, none⟩ b).setCell ⟨g, 2, none⟩ c).setCell ⟨g, 3, none⟩ d).setCell ⟨g, 4, none⟩ e).setCell ⟨g, 5, none⟩ f) g t #[a, b, c, d, e, f] :=
  (((((h.set_ 0 a).set_ 1 b).set_ 2 c).set_ 3 d).set_ 4 e).set_ 5 f
theorem kind3 (x : Int) : x = 65 ∨ x = 48 ∨ (((x : Int) == 65) = false ∧ ((x : Int) == 48) = false) := by
  simp only [beq_eq_false_iff_ne]; omega
/-- The kind that the law reckons. -/
def kindF (x : Int) : Int := if x = 65 ∨ x = 48 then x else 66
theorem setF66 (i : Int) (l : List UInt8) (x : Int) : setF i l x 66 = if placeF l = i then kindF x else 66 := by
  unfold setF kindF
  (repeat' split) <;> omega

theorem nm0 {w w2 : World} {e : Ending} {x n : Int} (hn : n = kindF x) (h : NamePost 66 66 66 66 0 0 x ((⟨#[40, 41, 42, 43]⟩ : ByteArray).extract 0 1).toList w e w2) : e = .returned (.agg #[.int .i64 n, .int .i64 66, .int .i64 66, .int .i64 66, .int .i64 0, .int .i64 0]) ∧ Below w.heap.size w w2 := by
  unfold NamePost at h
  rw [cut0, setF66, setF66, setF66, setF66, ← hn] at h
  exact h

set_option maxHeartbeats 8000000 in
theorem lines0 (w : World) (k x r : Int) (hk : k.tmod 4 = 0) (x0 : 0 ≤ x) (x1 : x ≤ 255) (h0 : -2147483648 ≤ r) (h1 : r ≤ 2147483647) :
    Calls Try.prog 7 #[.int .u8 k, .int .u8 x, .int .i32 r] w fun e w' => e = .returned (.bool true) ∧ Below w.heap.size w w' := by
  obtain ⟨n, hn⟩ : ∃ n, n = kindF x := ⟨_, rfl⟩
  obtain ⟨v, hv⟩ : ∃ v, v = shownF n r := ⟨_, rfl⟩
  have N := hide (fun w => new_any w)
  have M := hide (fun w => (name_any 66 66 66 66 0 0 x ((⟨#[40, 41, 42, 43]⟩ : ByteArray).extract 0 1) w x0 x1).mono fun _ _ h => nm0 hn h)
  have hv' : v = shownF (setAt (usedF 0 0) n 66 66 66) r := by rw [hv]; rfl
  have P := hide (fun w => (map_any n 66 66 66 0 0 r w h0 h1).mono fun _ _ h => mapPost hv' h)
  have Q := hide (fun w => hv ▸ prints_any n r w h0 h1)
  have A := hide (fun w => awake_any w)
  have Hn := hide hn
  clear hv hv' hn
  go_enter Try.func7, Try.ntmps7
  go_upto_region 2 with fail
  go_cut [8] (fun s wx => ∃ g, s = .pointer (some ⟨g, 0, none⟩) ∧ w.heap.size ≤ g ∧ Blk wx g 24 #[.int .i64 n, .int .i64 66, .int .i64 66, .int .i64 66, .int .i64 0, .int .i64 0] ∧ Below w.heap.size w wx)
  case first =>
    go_region_with (first | (go_at_call 20; go_must (refine (N.out _).mono ?_; rintro e w1 ⟨rfl, hb⟩; first | (have g0 : Blk w1 w.heap.size 24 #[.int .i64 0, .int .i64 0, .int .i64 0, .int .i64 0, .int .i64 0, .int .i64 0] := (Blk.new w.drew 24 #[.int .i64 0, .int .i64 0, .int .i64 0, .int .i64 0, .int .i64 0, .int .i64 0]).below hb (by simp); have H1 : Below w.heap.size w w1 := below_in ((Below.refl _ w).drew.alloc (Nat.le_refl _) _) hb (Nat.le_refl _)) | (have H1 : Below w.heap.size w w1 := below_in (Below.refl _ w).drew hb (Nat.le_refl _)))) | (go_at_call 15; go_must (refine (M.out _).mono ?_; rintro e w2 ⟨rfl, hb2⟩; have z1 := H1.size; first | (have k0 := g0.below hb2 (by have := g0.lt; omega); have H2 : Below w.heap.size w w2 := below_in H1 hb2 (Nat.le_refl _); obtain ⟨x0, x1, x2, x3, x4, x5, xf0, xf1, xf2, xf3, xf4, xf5⟩ := blk6 k0) | (have k0 : Blk w2 w1.heap.size 24 #[.int .i64 0, .int .i64 0, .int .i64 0, .int .i64 0, .int .i64 0, .int .i64 0] := (Blk.new w1 24 #[.int .i64 0, .int .i64 0, .int .i64 0, .int .i64 0, .int .i64 0, .int .i64 0]).below hb2 (by simp); have H2 : Below w.heap.size w w2 := below_in (H1.alloc z1 _) hb2 (Nat.le_refl _); obtain ⟨x0, x1, x2, x3, x4, x5, xf0, xf1, xf2, xf3, xf4, xf5⟩ := blk6 k0) | (have H2 : Below w.heap.size w w2 := below_in H1 hb2 (Nat.le_refl _)))))
    all_goals go_wp2_with fail
    all_goals go_meet
    all_goals with_reducible first
      | exact ⟨_, rfl, H2.size, Blk.new _ _ _, H2.alloc H2.size _⟩
      | exact ⟨_, rfl, Nat.le_refl _, blk_six k0 _ _ _ _ _ _, below_six H2 (Nat.le_refl _) _ _ _ _ _ _⟩
      | exact ⟨_, rfl, H1.size, blk_six k0 _ _ _ _ _ _, below_six H2 H1.size _ _ _ _ _ _⟩
  case rest =>
    obtain ⟨g, rfl, hg, B0, H0⟩ := hcut
    obtain ⟨d0, d1, d2, d3, d4, d5, df0, df1, df2, df3, df4, df5⟩ := blk6 B0
    have gl := B0.lt
    rcases kind3 x with rfl | rfl | ⟨q1, q2⟩
    · obtain rfl : n = 65 := Hn.out
      go_wp2_with (first | (go_at_call 8; go_must (refine (P.out _).mono ?_; rintro e w4 ⟨rfl, hb4⟩; have H4 : Below w.heap.size w w4 := below_in (H0) hb4 (Nat.le_refl _))) | (go_at_call 22; go_must (refine (Q.out _).mono ?_; rintro e w5 ⟨rfl, hb5⟩)) | (go_at_call 11; go_must (refine (A.out _).mono ?_; rintro e w6 ⟨rfl, hb6⟩)))
      go_ret
      exact ⟨rfl, below_in (below_in (H4.alloc H4.size _) hb5 (Nat.le_refl _)) hb6 (Nat.le_refl _)⟩
    · obtain rfl : n = 48 := Hn.out
      go_wp2_with (first | (go_at_call 8; go_must (refine (P.out _).mono ?_; rintro e w4 ⟨rfl, hb4⟩; have H4 : Below w.heap.size w w4 := below_in (H0) hb4 (Nat.le_refl _))) | (go_at_call 22; go_must (refine (Q.out _).mono ?_; rintro e w5 ⟨rfl, hb5⟩)) | (go_at_call 11; go_must (refine (A.out _).mono ?_; rintro e w6 ⟨rfl, hb6⟩)))
      go_ret
      exact ⟨rfl, below_in (below_in (H4.alloc H4.size _) hb5 (Nat.le_refl _)) hb6 (Nat.le_refl _)⟩
    · obtain rfl : n = 66 := by rw [Hn.out, kindF, if_neg (by simp only [beq_eq_false_iff_ne] at q1 q2; omega)]
      go_wp2_with (first | (go_at_call 8; go_must (refine (P.out _).mono ?_; rintro e w4 ⟨rfl, hb4⟩; have H4 : Below w.heap.size w w4 := below_in (H0) hb4 (Nat.le_refl _))) | (go_at_call 22; go_must (refine (Q.out _).mono ?_; rintro e w5 ⟨rfl, hb5⟩)) | (go_at_call 11; go_must (refine (A.out _).mono ?_; rintro e w6 ⟨rfl, hb6⟩)))
      go_ret
      exact ⟨rfl, below_in (below_in (H4.alloc H4.size _) hb5 (Nat.le_refl _)) hb6 (Nat.le_refl _)⟩

theorem nm1 {w w2 : World} {e : Ending} {x n : Int} (hn : n = kindF x) (h : NamePost 66 66 66 66 0 0 x ((⟨#[40, 41, 42, 43]⟩ : ByteArray).extract 1 2).toList w e w2) : e = .returned (.agg #[.int .i64 66, .int .i64 n, .int .i64 66, .int .i64 66, .int .i64 0, .int .i64 0]) ∧ Below w.heap.size w w2 := by
  unfold NamePost at h
  rw [cut1, setF66, setF66, setF66, setF66, ← hn] at h
  exact h

set_option maxHeartbeats 8000000 in
theorem lines1 (w : World) (k x r : Int) (hk : k.tmod 4 = 1) (x0 : 0 ≤ x) (x1 : x ≤ 255) (h0 : -2147483648 ≤ r) (h1 : r ≤ 2147483647) :
    Calls Try.prog 7 #[.int .u8 k, .int .u8 x, .int .i32 r] w fun e w' => e = .returned (.bool true) ∧ Below w.heap.size w w' := by
  obtain ⟨n, hn⟩ : ∃ n, n = kindF x := ⟨_, rfl⟩
  obtain ⟨v, hv⟩ : ∃ v, v = shownF n r := ⟨_, rfl⟩
  have N := hide (fun w => new_any w)
  have M := hide (fun w => (name_any 66 66 66 66 0 0 x ((⟨#[40, 41, 42, 43]⟩ : ByteArray).extract 1 2) w x0 x1).mono fun _ _ h => nm1 hn h)
  have T := hide (fun w => take_any 66 n 66 66 0 0 14 w)
  have hv' : v = shownF (setAt (usedF 1 0) 66 n 66 66) r := by rw [hv]; rfl
  have P := hide (fun w => (map_any 66 n 66 66 1 0 r w h0 h1).mono fun _ _ h => mapPost hv' h)
  have Q := hide (fun w => hv ▸ prints_any n r w h0 h1)
  have A := hide (fun w => awake_any w)
  have Hn := hide hn
  clear hv hv' hn
  go_enter Try.func7, Try.ntmps7
  go_upto_region 2 with fail
  go_cut [8] (fun s wx => ∃ g, s = .pointer (some ⟨g, 0, none⟩) ∧ w.heap.size ≤ g ∧ Blk wx g 24 #[.int .i64 66, .int .i64 n, .int .i64 66, .int .i64 66, .int .i64 0, .int .i64 0] ∧ Below w.heap.size w wx)
  case first =>
    go_region_with (first | (go_at_call 20; go_must (refine (N.out _).mono ?_; rintro e w1 ⟨rfl, hb⟩; first | (have g0 : Blk w1 w.heap.size 24 #[.int .i64 0, .int .i64 0, .int .i64 0, .int .i64 0, .int .i64 0, .int .i64 0] := (Blk.new w.drew 24 #[.int .i64 0, .int .i64 0, .int .i64 0, .int .i64 0, .int .i64 0, .int .i64 0]).below hb (by simp); have H1 : Below w.heap.size w w1 := below_in ((Below.refl _ w).drew.alloc (Nat.le_refl _) _) hb (Nat.le_refl _)) | (have H1 : Below w.heap.size w w1 := below_in (Below.refl _ w).drew hb (Nat.le_refl _)))) | (go_at_call 15; go_must (refine (M.out _).mono ?_; rintro e w2 ⟨rfl, hb2⟩; have z1 := H1.size; first | (have k0 := g0.below hb2 (by have := g0.lt; omega); have H2 : Below w.heap.size w w2 := below_in H1 hb2 (Nat.le_refl _); obtain ⟨x0, x1, x2, x3, x4, x5, xf0, xf1, xf2, xf3, xf4, xf5⟩ := blk6 k0) | (have k0 : Blk w2 w1.heap.size 24 #[.int .i64 0, .int .i64 0, .int .i64 0, .int .i64 0, .int .i64 0, .int .i64 0] := (Blk.new w1 24 #[.int .i64 0, .int .i64 0, .int .i64 0, .int .i64 0, .int .i64 0, .int .i64 0]).below hb2 (by simp); have H2 : Below w.heap.size w w2 := below_in (H1.alloc z1 _) hb2 (Nat.le_refl _); obtain ⟨x0, x1, x2, x3, x4, x5, xf0, xf1, xf2, xf3, xf4, xf5⟩ := blk6 k0) | (have H2 : Below w.heap.size w w2 := below_in H1 hb2 (Nat.le_refl _)))))
    all_goals go_wp2_with fail
    all_goals go_meet
    all_goals with_reducible first
      | exact ⟨_, rfl, H2.size, Blk.new _ _ _, H2.alloc H2.size _⟩
      | exact ⟨_, rfl, Nat.le_refl _, blk_six k0 _ _ _ _ _ _, below_six H2 (Nat.le_refl _) _ _ _ _ _ _⟩
      | exact ⟨_, rfl, H1.size, blk_six k0 _ _ _ _ _ _, below_six H2 H1.size _ _ _ _ _ _⟩
  case rest =>
    obtain ⟨g, rfl, hg, B0, H0⟩ := hcut
    obtain ⟨d0, d1, d2, d3, d4, d5, df0, df1, df2, df3, df4, df5⟩ := blk6 B0
    rcases kind3 x with rfl | rfl | ⟨q1, q2⟩
    · obtain rfl : n = 65 := Hn.out
      go_wp2_with (first | (go_at_call 17; go_must (refine (T.out _).mono ?_; rintro e w3 ⟨rfl, hb3⟩; have k1 := B0.below hb3 B0.lt; have H3 : Below w.heap.size w w3 := below_in H0 hb3 (Nat.le_refl _); obtain ⟨y0, y1, y2, y3, y4, y5, yf0, yf1, yf2, yf3, yf4, yf5⟩ := blk6 k1)) | (go_at_call 8; go_must (refine (P.out _).mono ?_; rintro e w4 ⟨rfl, hb4⟩; have H4 : Below w.heap.size w w4 := below_in (below_six H3 hg _ _ _ _ _ _) hb4 (Nat.le_refl _))) | (go_at_call 22; go_must (refine (Q.out _).mono ?_; rintro e w5 ⟨rfl, hb5⟩)) | (go_at_call 11; go_must (refine (A.out _).mono ?_; rintro e w6 ⟨rfl, hb6⟩)))
      go_ret
      exact ⟨rfl, below_in (below_in (H4.alloc H4.size _) hb5 (Nat.le_refl _)) hb6 (Nat.le_refl _)⟩
    · obtain rfl : n = 48 := Hn.out
      go_wp2_with (first | (go_at_call 17; go_must (refine (T.out _).mono ?_; rintro e w3 ⟨rfl, hb3⟩; have k1 := B0.below hb3 B0.lt; have H3 : Below w.heap.size w w3 := below_in H0 hb3 (Nat.le_refl _); obtain ⟨y0, y1, y2, y3, y4, y5, yf0, yf1, yf2, yf3, yf4, yf5⟩ := blk6 k1)) | (go_at_call 8; go_must (refine (P.out _).mono ?_; rintro e w4 ⟨rfl, hb4⟩; have H4 : Below w.heap.size w w4 := below_in (below_six H3 hg _ _ _ _ _ _) hb4 (Nat.le_refl _))) | (go_at_call 22; go_must (refine (Q.out _).mono ?_; rintro e w5 ⟨rfl, hb5⟩)) | (go_at_call 11; go_must (refine (A.out _).mono ?_; rintro e w6 ⟨rfl, hb6⟩)))
      go_ret
      exact ⟨rfl, below_in (below_in (H4.alloc H4.size _) hb5 (Nat.le_refl _)) hb6 (Nat.le_refl _)⟩
    · obtain rfl : n = 66 := by rw [Hn.out, kindF, if_neg (by simp only [beq_eq_false_iff_ne] at q1 q2; omega)]
      go_wp2_with (first | (go_at_call 17; go_must (refine (T.out _).mono ?_; rintro e w3 ⟨rfl, hb3⟩; have k1 := B0.below hb3 B0.lt; have H3 : Below w.heap.size w w3 := below_in H0 hb3 (Nat.le_refl _); obtain ⟨y0, y1, y2, y3, y4, y5, yf0, yf1, yf2, yf3, yf4, yf5⟩ := blk6 k1)) | (go_at_call 8; go_must (refine (P.out _).mono ?_; rintro e w4 ⟨rfl, hb4⟩; have H4 : Below w.heap.size w w4 := below_in (below_six H3 hg _ _ _ _ _ _) hb4 (Nat.le_refl _))) | (go_at_call 22; go_must (refine (Q.out _).mono ?_; rintro e w5 ⟨rfl, hb5⟩)) | (go_at_call 11; go_must (refine (A.out _).mono ?_; rintro e w6 ⟨rfl, hb6⟩)))
      go_ret
      exact ⟨rfl, below_in (below_in (H4.alloc H4.size _) hb5 (Nat.le_refl _)) hb6 (Nat.le_refl _)⟩

theorem nm2 {w w2 : World} {e : Ending} {x n : Int} (hn : n = kindF x) (h : NamePost 66 66 66 66 0 0 x ((⟨#[40, 41, 42, 43]⟩ : ByteArray).extract 2 3).toList w e w2) : e = .returned (.agg #[.int .i64 66, .int .i64 66, .int .i64 n, .int .i64 66, .int .i64 0, .int .i64 0]) ∧ Below w.heap.size w w2 := by
  unfold NamePost at h
  rw [cut2, setF66, setF66, setF66, setF66, ← hn] at h
  exact h

set_option maxHeartbeats 8000000 in
theorem lines2 (w : World) (k x r : Int) (hk : k.tmod 4 = 2) (x0 : 0 ≤ x) (x1 : x ≤ 255) (h0 : -2147483648 ≤ r) (h1 : r ≤ 2147483647) :
    Calls Try.prog 7 #[.int .u8 k, .int .u8 x, .int .i32 r] w fun e w' => e = .returned (.bool true) ∧ Below w.heap.size w w' := by
  obtain ⟨n, hn⟩ : ∃ n, n = kindF x := ⟨_, rfl⟩
  obtain ⟨v, hv⟩ : ∃ v, v = shownF n r := ⟨_, rfl⟩
  have N := hide (fun w => new_any w)
  have M := hide (fun w => (name_any 66 66 66 66 0 0 x ((⟨#[40, 41, 42, 43]⟩ : ByteArray).extract 2 3) w x0 x1).mono fun _ _ h => nm2 hn h)
  have T := hide (fun w => lock_any 66 66 n 66 0 0 110 w)
  have hv' : v = shownF (setAt (usedF 2 0) 66 66 n 66) r := by rw [hv]; rfl
  have P := hide (fun w => (map_any 66 66 n 66 2 0 r w h0 h1).mono fun _ _ h => mapPost hv' h)
  have Q := hide (fun w => hv ▸ prints_any n r w h0 h1)
  have A := hide (fun w => awake_any w)
  have Hn := hide hn
  clear hv hv' hn
  go_enter Try.func7, Try.ntmps7
  go_upto_region 2 with fail
  go_cut [8] (fun s wx => ∃ g, s = .pointer (some ⟨g, 0, none⟩) ∧ w.heap.size ≤ g ∧ Blk wx g 24 #[.int .i64 66, .int .i64 66, .int .i64 n, .int .i64 66, .int .i64 0, .int .i64 0] ∧ Below w.heap.size w wx)
  case first =>
    go_region_with (first | (go_at_call 20; go_must (refine (N.out _).mono ?_; rintro e w1 ⟨rfl, hb⟩; first | (have g0 : Blk w1 w.heap.size 24 #[.int .i64 0, .int .i64 0, .int .i64 0, .int .i64 0, .int .i64 0, .int .i64 0] := (Blk.new w.drew 24 #[.int .i64 0, .int .i64 0, .int .i64 0, .int .i64 0, .int .i64 0, .int .i64 0]).below hb (by simp); have H1 : Below w.heap.size w w1 := below_in ((Below.refl _ w).drew.alloc (Nat.le_refl _) _) hb (Nat.le_refl _)) | (have H1 : Below w.heap.size w w1 := below_in (Below.refl _ w).drew hb (Nat.le_refl _)))) | (go_at_call 15; go_must (refine (M.out _).mono ?_; rintro e w2 ⟨rfl, hb2⟩; have z1 := H1.size; first | (have k0 := g0.below hb2 (by have := g0.lt; omega); have H2 : Below w.heap.size w w2 := below_in H1 hb2 (Nat.le_refl _); obtain ⟨x0, x1, x2, x3, x4, x5, xf0, xf1, xf2, xf3, xf4, xf5⟩ := blk6 k0) | (have k0 : Blk w2 w1.heap.size 24 #[.int .i64 0, .int .i64 0, .int .i64 0, .int .i64 0, .int .i64 0, .int .i64 0] := (Blk.new w1 24 #[.int .i64 0, .int .i64 0, .int .i64 0, .int .i64 0, .int .i64 0, .int .i64 0]).below hb2 (by simp); have H2 : Below w.heap.size w w2 := below_in (H1.alloc z1 _) hb2 (Nat.le_refl _); obtain ⟨x0, x1, x2, x3, x4, x5, xf0, xf1, xf2, xf3, xf4, xf5⟩ := blk6 k0) | (have H2 : Below w.heap.size w w2 := below_in H1 hb2 (Nat.le_refl _)))))
    all_goals go_wp2_with fail
    all_goals go_meet
    all_goals with_reducible first
      | exact ⟨_, rfl, H2.size, Blk.new _ _ _, H2.alloc H2.size _⟩
      | exact ⟨_, rfl, Nat.le_refl _, blk_six k0 _ _ _ _ _ _, below_six H2 (Nat.le_refl _) _ _ _ _ _ _⟩
      | exact ⟨_, rfl, H1.size, blk_six k0 _ _ _ _ _ _, below_six H2 H1.size _ _ _ _ _ _⟩
  case rest =>
    obtain ⟨g, rfl, hg, B0, H0⟩ := hcut
    obtain ⟨d0, d1, d2, d3, d4, d5, df0, df1, df2, df3, df4, df5⟩ := blk6 B0
    rcases kind3 x with rfl | rfl | ⟨q1, q2⟩
    · obtain rfl : n = 65 := Hn.out
      go_wp2_with (first | (go_at_call 14; go_must (refine (T.out _).mono ?_; rintro e w3 ⟨rfl, hb3⟩; have k1 := B0.below hb3 B0.lt; have H3 : Below w.heap.size w w3 := below_in H0 hb3 (Nat.le_refl _); obtain ⟨y0, y1, y2, y3, y4, y5, yf0, yf1, yf2, yf3, yf4, yf5⟩ := blk6 k1)) | (go_at_call 8; go_must (refine (P.out _).mono ?_; rintro e w4 ⟨rfl, hb4⟩; have H4 : Below w.heap.size w w4 := below_in (below_six H3 hg _ _ _ _ _ _) hb4 (Nat.le_refl _))) | (go_at_call 22; go_must (refine (Q.out _).mono ?_; rintro e w5 ⟨rfl, hb5⟩)) | (go_at_call 11; go_must (refine (A.out _).mono ?_; rintro e w6 ⟨rfl, hb6⟩)))
      go_ret
      exact ⟨rfl, below_in (below_in (H4.alloc H4.size _) hb5 (Nat.le_refl _)) hb6 (Nat.le_refl _)⟩
    · obtain rfl : n = 48 := Hn.out
      go_wp2_with (first | (go_at_call 14; go_must (refine (T.out _).mono ?_; rintro e w3 ⟨rfl, hb3⟩; have k1 := B0.below hb3 B0.lt; have H3 : Below w.heap.size w w3 := below_in H0 hb3 (Nat.le_refl _); obtain ⟨y0, y1, y2, y3, y4, y5, yf0, yf1, yf2, yf3, yf4, yf5⟩ := blk6 k1)) | (go_at_call 8; go_must (refine (P.out _).mono ?_; rintro e w4 ⟨rfl, hb4⟩; have H4 : Below w.heap.size w w4 := below_in (below_six H3 hg _ _ _ _ _ _) hb4 (Nat.le_refl _))) | (go_at_call 22; go_must (refine (Q.out _).mono ?_; rintro e w5 ⟨rfl, hb5⟩)) | (go_at_call 11; go_must (refine (A.out _).mono ?_; rintro e w6 ⟨rfl, hb6⟩)))
      go_ret
      exact ⟨rfl, below_in (below_in (H4.alloc H4.size _) hb5 (Nat.le_refl _)) hb6 (Nat.le_refl _)⟩
    · obtain rfl : n = 66 := by rw [Hn.out, kindF, if_neg (by simp only [beq_eq_false_iff_ne] at q1 q2; omega)]
      go_wp2_with (first | (go_at_call 14; go_must (refine (T.out _).mono ?_; rintro e w3 ⟨rfl, hb3⟩; have k1 := B0.below hb3 B0.lt; have H3 : Below w.heap.size w w3 := below_in H0 hb3 (Nat.le_refl _); obtain ⟨y0, y1, y2, y3, y4, y5, yf0, yf1, yf2, yf3, yf4, yf5⟩ := blk6 k1)) | (go_at_call 8; go_must (refine (P.out _).mono ?_; rintro e w4 ⟨rfl, hb4⟩; have H4 : Below w.heap.size w w4 := below_in (below_six H3 hg _ _ _ _ _ _) hb4 (Nat.le_refl _))) | (go_at_call 22; go_must (refine (Q.out _).mono ?_; rintro e w5 ⟨rfl, hb5⟩)) | (go_at_call 11; go_must (refine (A.out _).mono ?_; rintro e w6 ⟨rfl, hb6⟩)))
      go_ret
      exact ⟨rfl, below_in (below_in (H4.alloc H4.size _) hb5 (Nat.le_refl _)) hb6 (Nat.le_refl _)⟩

theorem nm3 {w w2 : World} {e : Ending} {x n : Int} (hn : n = kindF x) (h : NamePost 66 66 66 66 0 0 x ((⟨#[40, 41, 42, 43]⟩ : ByteArray).extract 3 4).toList w e w2) : e = .returned (.agg #[.int .i64 66, .int .i64 66, .int .i64 66, .int .i64 n, .int .i64 0, .int .i64 0]) ∧ Below w.heap.size w w2 := by
  unfold NamePost at h
  rw [cut3, setF66, setF66, setF66, setF66, ← hn] at h
  exact h

set_option maxHeartbeats 8000000 in
theorem lines3 (w : World) (k x r : Int) (hk : k.tmod 4 = 3) (x0 : 0 ≤ x) (x1 : x ≤ 255) (h0 : -2147483648 ≤ r) (h1 : r ≤ 2147483647) :
    Calls Try.prog 7 #[.int .u8 k, .int .u8 x, .int .i32 r] w fun e w' => e = .returned (.bool true) ∧ Below w.heap.size w w' := by
  obtain ⟨n, hn⟩ : ∃ n, n = kindF x := ⟨_, rfl⟩
  obtain ⟨v, hv⟩ : ∃ v, v = shownF n r := ⟨_, rfl⟩
  have N := hide (fun w => new_any w)
  have M := hide (fun w => (name_any 66 66 66 66 0 0 x ((⟨#[40, 41, 42, 43]⟩ : ByteArray).extract 3 4) w x0 x1).mono fun _ _ h => nm3 hn h)
  have T := hide (fun w => lock_any 66 66 66 n 0 0 111 w)
  have hv' : v = shownF (setAt (usedF 3 0) 66 66 66 n) r := by rw [hv]; rfl
  have P := hide (fun w => (map_any 66 66 66 n 3 0 r w h0 h1).mono fun _ _ h => mapPost hv' h)
  have Q := hide (fun w => hv ▸ prints_any n r w h0 h1)
  have A := hide (fun w => awake_any w)
  have Hn := hide hn
  clear hv hv' hn
  go_enter Try.func7, Try.ntmps7
  go_upto_region 2 with fail
  go_cut [8] (fun s wx => ∃ g, s = .pointer (some ⟨g, 0, none⟩) ∧ w.heap.size ≤ g ∧ Blk wx g 24 #[.int .i64 66, .int .i64 66, .int .i64 66, .int .i64 n, .int .i64 0, .int .i64 0] ∧ Below w.heap.size w wx)
  case first =>
    go_region_with (first | (go_at_call 20; go_must (refine (N.out _).mono ?_; rintro e w1 ⟨rfl, hb⟩; first | (have g0 : Blk w1 w.heap.size 24 #[.int .i64 0, .int .i64 0, .int .i64 0, .int .i64 0, .int .i64 0, .int .i64 0] := (Blk.new w.drew 24 #[.int .i64 0, .int .i64 0, .int .i64 0, .int .i64 0, .int .i64 0, .int .i64 0]).below hb (by simp); have H1 : Below w.heap.size w w1 := below_in ((Below.refl _ w).drew.alloc (Nat.le_refl _) _) hb (Nat.le_refl _)) | (have H1 : Below w.heap.size w w1 := below_in (Below.refl _ w).drew hb (Nat.le_refl _)))) | (go_at_call 15; go_must (refine (M.out _).mono ?_; rintro e w2 ⟨rfl, hb2⟩; have z1 := H1.size; first | (have k0 := g0.below hb2 (by have := g0.lt; omega); have H2 : Below w.heap.size w w2 := below_in H1 hb2 (Nat.le_refl _); obtain ⟨x0, x1, x2, x3, x4, x5, xf0, xf1, xf2, xf3, xf4, xf5⟩ := blk6 k0) | (have k0 : Blk w2 w1.heap.size 24 #[.int .i64 0, .int .i64 0, .int .i64 0, .int .i64 0, .int .i64 0, .int .i64 0] := (Blk.new w1 24 #[.int .i64 0, .int .i64 0, .int .i64 0, .int .i64 0, .int .i64 0, .int .i64 0]).below hb2 (by simp); have H2 : Below w.heap.size w w2 := below_in (H1.alloc z1 _) hb2 (Nat.le_refl _); obtain ⟨x0, x1, x2, x3, x4, x5, xf0, xf1, xf2, xf3, xf4, xf5⟩ := blk6 k0) | (have H2 : Below w.heap.size w w2 := below_in H1 hb2 (Nat.le_refl _)))))
    all_goals go_wp2_with fail
    all_goals go_meet
    all_goals with_reducible first
      | exact ⟨_, rfl, H2.size, Blk.new _ _ _, H2.alloc H2.size _⟩
      | exact ⟨_, rfl, Nat.le_refl _, blk_six k0 _ _ _ _ _ _, below_six H2 (Nat.le_refl _) _ _ _ _ _ _⟩
      | exact ⟨_, rfl, H1.size, blk_six k0 _ _ _ _ _ _, below_six H2 H1.size _ _ _ _ _ _⟩
  case rest =>
    obtain ⟨g, rfl, hg, B0, H0⟩ := hcut
    obtain ⟨d0, d1, d2, d3, d4, d5, df0, df1, df2, df3, df4, df5⟩ := blk6 B0
    rcases kind3 x with rfl | rfl | ⟨q1, q2⟩
    · obtain rfl : n = 65 := Hn.out
      go_wp2_with (first | (go_at_call 14; go_must (refine (T.out _).mono ?_; rintro e w3 ⟨rfl, hb3⟩; have k1 := B0.below hb3 B0.lt; have H3 : Below w.heap.size w w3 := below_in H0 hb3 (Nat.le_refl _); obtain ⟨y0, y1, y2, y3, y4, y5, yf0, yf1, yf2, yf3, yf4, yf5⟩ := blk6 k1)) | (go_at_call 8; go_must (refine (P.out _).mono ?_; rintro e w4 ⟨rfl, hb4⟩; have H4 : Below w.heap.size w w4 := below_in (below_six H3 hg _ _ _ _ _ _) hb4 (Nat.le_refl _))) | (go_at_call 22; go_must (refine (Q.out _).mono ?_; rintro e w5 ⟨rfl, hb5⟩)) | (go_at_call 11; go_must (refine (A.out _).mono ?_; rintro e w6 ⟨rfl, hb6⟩)))
      go_ret
      exact ⟨rfl, below_in (below_in (H4.alloc H4.size _) hb5 (Nat.le_refl _)) hb6 (Nat.le_refl _)⟩
    · obtain rfl : n = 48 := Hn.out
      go_wp2_with (first | (go_at_call 14; go_must (refine (T.out _).mono ?_; rintro e w3 ⟨rfl, hb3⟩; have k1 := B0.below hb3 B0.lt; have H3 : Below w.heap.size w w3 := below_in H0 hb3 (Nat.le_refl _); obtain ⟨y0, y1, y2, y3, y4, y5, yf0, yf1, yf2, yf3, yf4, yf5⟩ := blk6 k1)) | (go_at_call 8; go_must (refine (P.out _).mono ?_; rintro e w4 ⟨rfl, hb4⟩; have H4 : Below w.heap.size w w4 := below_in (below_six H3 hg _ _ _ _ _ _) hb4 (Nat.le_refl _))) | (go_at_call 22; go_must (refine (Q.out _).mono ?_; rintro e w5 ⟨rfl, hb5⟩)) | (go_at_call 11; go_must (refine (A.out _).mono ?_; rintro e w6 ⟨rfl, hb6⟩)))
      go_ret
      exact ⟨rfl, below_in (below_in (H4.alloc H4.size _) hb5 (Nat.le_refl _)) hb6 (Nat.le_refl _)⟩
    · obtain rfl : n = 66 := by rw [Hn.out, kindF, if_neg (by simp only [beq_eq_false_iff_ne] at q1 q2; omega)]
      go_wp2_with (first | (go_at_call 14; go_must (refine (T.out _).mono ?_; rintro e w3 ⟨rfl, hb3⟩; have k1 := B0.below hb3 B0.lt; have H3 : Below w.heap.size w w3 := below_in H0 hb3 (Nat.le_refl _); obtain ⟨y0, y1, y2, y3, y4, y5, yf0, yf1, yf2, yf3, yf4, yf5⟩ := blk6 k1)) | (go_at_call 8; go_must (refine (P.out _).mono ?_; rintro e w4 ⟨rfl, hb4⟩; have H4 : Below w.heap.size w w4 := below_in (below_six H3 hg _ _ _ _ _ _) hb4 (Nat.le_refl _))) | (go_at_call 22; go_must (refine (Q.out _).mono ?_; rintro e w5 ⟨rfl, hb5⟩)) | (go_at_call 11; go_must (refine (A.out _).mono ?_; rintro e w6 ⟨rfl, hb6⟩)))
      go_ret
      exact ⟨rfl, below_in (below_in (H4.alloc H4.size _) hb5 (Nat.le_refl _)) hb6 (Nat.le_refl _)⟩

theorem lawlines_walk (w : World) (k x r : Int) (k0 : 0 ≤ k) (k1 : k ≤ 255) (x0 : 0 ≤ x) (x1 : x ≤ 255) (h0 : -2147483648 ≤ r) (h1 : r ≤ 2147483647) :
    Calls Try.prog 7 #[.int .u8 k, .int .u8 x, .int .i32 r] w fun e w' => e = .returned (.bool true) ∧ Below w.heap.size w w' := by
  have e : k.tmod 4 = k % 4 := by rw [Int.tmod_eq_emod_of_nonneg k0]
  rcases (by omega : k % 4 = 0 ∨ k % 4 = 1 ∨ k % 4 = 2 ∨ k % 4 = 3) with h | h | h | h
  · exact lines0 w k x r (e.trans h) x0 x1 h0 h1
  · exact lines1 w k x r (e.trans h) x0 x1 h0 h1
  · exact lines2 w k x r (e.trans h) x0 x1 h0 h1
  · exact lines3 w k x r (e.trans h) x0 x1 h0 h1
end Go.Proofs.Ytbacobajmmkjeaa
