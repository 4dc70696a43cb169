/-
  fine, walked. No condition but bounds.
-/
import Derived.Test.YtoaeadjihpbhgaaMarks
namespace Go.Proofs.Ytoaeadjihpbhgaa
open Go.RowKit Go.Proofs
set_option linter.unusedVariables false
def fineW (h : Int) : Int := if h = 1 ∨ h = 2 then 2 else if h = 0 then 1 else 0
/-- Is a cell right by itself? -/
def fineB (c : Cell) : Bool := if c.r = 0 then decide (c.more.toList = []) && decide (fineW c.half ≠ 2) else decide (0 < fineW c.half) && decide (widOf c.r = fineW c.half) && marksB c.more
theorem half_class (h : Int) : h = 1 ∨ h = 2 ∨ h = 0 ∨ ((h == 1) = false ∧ (h == 2) = false ∧ (h == 0) = false ∧ fineW h = 0) := by
  by_cases h1 : h = 1
  · exact .inl h1
  · by_cases h2 : h = 2
    · exact .inr (.inl h2)
    · by_cases h0 : h = 0
      · exact .inr (.inr (.inl h0))
      · refine .inr (.inr (.inr ⟨by simpa using h1, by simpa using h2, by simpa using h0, ?_⟩))
        unfold fineW; rw [if_neg (by omega), if_neg h0]
set_option maxRecDepth 100000 in
set_option maxHeartbeats 4000000 in
theorem fine_any (c : Cell) (w : World) : Calls Try.prog 41 #[.agg #[.int .i32 c.r, .string c.more, .int .i64 c.half, .int .i64 c.a.fk, .int .i64 c.a.fn, .int .i64 c.a.bk, .int .i64 c.a.bn, .int .i64 c.a.fl]] w fun e w' => e = .returned (.bool (fineB c)) ∧ Below w.heap.size w w' := by
  obtain ⟨r, more, hh, a⟩ := c
  have OF := hide (fun (W : World) => of_any r W)
  have MK := hide (fun (W : World) => mk_any more W)
  have KB := hide (fun (w1 : World) (b1 : Below (w.alloc (.cells #[.int .i32 r, .string more, .int .i64 hh, .int .i64 a.fk, .int .i64 a.fn, .int .i64 a.bk, .int .i64 a.bn, .int .i64 a.fl] 40)).heap.size (w.alloc (.cells #[.int .i32 r, .string more, .int .i64 hh, .int .i64 a.fk, .int .i64 a.fn, .int .i64 a.bk, .int .i64 a.bn, .int .i64 a.fl] 40)) w1) =>
    (Blk.new w 40 #[.int .i32 r, .string more, .int .i64 hh, .int .i64 a.fk, .int .i64 a.fn, .int .i64 a.bk, .int .i64 a.bn, .int .i64 a.fl]).below b1 (by simp))
  have BB := hide (show Below w.heap.size w (w.alloc (.cells #[.int .i32 r, .string more, .int .i64 hh, .int .i64 a.fk, .int .i64 a.fn, .int .i64 a.bk, .int .i64 a.bn, .int .i64 a.fl] 40)) from (Below.refl _ _).alloc (Nat.le_refl _) _)
  by_cases hr0 : r = 0
  · subst hr0
    by_cases hm : more.toList = []
    · have m1 : (more.toList == []) = true := by simpa using hm
      have m2 : more.toList.isEmpty = true := by simpa using hm
      rcases half_class hh with rfl | rfl | rfl | ⟨e1, e2, e3, e4⟩
      · have HF := hide (show fineB ⟨0, more, 1, a⟩ = false by unfold fineB fineW; simp)
        go_enter Try.func41, Try.ntmps41
        go_wp2
        go_ret
        rw [HF.out]
        exact ⟨rfl, BB.out⟩
      · have HF := hide (show fineB ⟨0, more, 2, a⟩ = false by unfold fineB fineW; simp)
        go_enter Try.func41, Try.ntmps41
        go_wp2
        go_ret
        rw [HF.out]
        exact ⟨rfl, BB.out⟩
      · have HF := hide (show fineB ⟨0, more, 0, a⟩ = true by unfold fineB fineW; simp [hm])
        go_enter Try.func41, Try.ntmps41
        go_wp2
        go_ret
        rw [HF.out]
        exact ⟨rfl, BB.out⟩
      · have HF := hide (show fineB ⟨0, more, hh, a⟩ = true by unfold fineB; simp [hm, e4])
        clear e4
        go_enter Try.func41, Try.ntmps41
        go_wp2
        go_ret
        rw [HF.out]
        exact ⟨rfl, BB.out⟩
    · have m1 : (more.toList == []) = false := by simpa using hm
      have m2 : more.toList.isEmpty = false := by simpa using hm
      have HF := hide (show fineB ⟨0, more, hh, a⟩ = false by unfold fineB; simp [hm])
      rcases half_class hh with rfl | rfl | rfl | ⟨e1, e2, e3, e4⟩
      · skip
        go_enter Try.func41, Try.ntmps41
        go_wp2
        go_ret
        rw [HF.out]
        exact ⟨rfl, BB.out⟩
      · skip
        go_enter Try.func41, Try.ntmps41
        go_wp2
        go_ret
        rw [HF.out]
        exact ⟨rfl, BB.out⟩
      · skip
        go_enter Try.func41, Try.ntmps41
        go_wp2
        go_ret
        rw [HF.out]
        exact ⟨rfl, BB.out⟩
      · clear e4
        go_enter Try.func41, Try.ntmps41
        go_wp2
        go_ret
        rw [HF.out]
        exact ⟨rfl, BB.out⟩
  · have d0 : (r == 0) = false := by simpa using hr0
    obtain ⟨wd, hwd⟩ : ∃ wd, widOf r = wd := ⟨_, rfl⟩
    rw [hwd] at OF
    have HW := hide hwd
    obtain ⟨mb, hmb⟩ : ∃ mb, marksB more = mb := ⟨_, rfl⟩
    rw [hmb] at MK
    have HB := hide hmb
    clear hwd hmb
    rcases half_class hh with rfl | rfl | rfl | ⟨e1, e2, e3, e4⟩
    · by_cases hk : wd = 2
      · subst hk
        cases mb with
        | true =>
          have HF := hide (show fineB ⟨r, more, 1, a⟩ = true by unfold fineB fineW; simp [hr0, HW.out, HB.out])
          clear hr0
          go_enter Try.func41, Try.ntmps41
          go_wp2_with (first
            | (go_at_call 47; go_must (refine (OF.out _).mono ?_; rintro e w1 ⟨rfl, b1⟩; obtain ⟨⟨q0, q1, q2, q3, q4, q5, q6, q7⟩, _⟩ := blk8 (KB.out w1 b1); have B1 := hide (below_in BB.out b1 (Nat.le_refl _)); clear b1))
            | (go_at_call 59; go_must (refine (MK.out _).mono ?_; rintro e w2 ⟨rfl, b2⟩; have B2 := hide (below_in B1.out b2 (Nat.le_refl _)); clear b2)))
          go_ret
          rw [HF.out]
          exact ⟨rfl, B2.out⟩
        | false =>
          have HF := hide (show fineB ⟨r, more, 1, a⟩ = false by unfold fineB fineW; simp [hr0, HW.out, HB.out])
          clear hr0
          go_enter Try.func41, Try.ntmps41
          go_wp2_with (first
            | (go_at_call 47; go_must (refine (OF.out _).mono ?_; rintro e w1 ⟨rfl, b1⟩; obtain ⟨⟨q0, q1, q2, q3, q4, q5, q6, q7⟩, _⟩ := blk8 (KB.out w1 b1); have B1 := hide (below_in BB.out b1 (Nat.le_refl _)); clear b1))
            | (go_at_call 59; go_must (refine (MK.out _).mono ?_; rintro e w2 ⟨rfl, b2⟩; have B2 := hide (below_in B1.out b2 (Nat.le_refl _)); clear b2)))
          go_ret
          rw [HF.out]
          exact ⟨rfl, B2.out⟩
      · have d1 : (wd == 2) = false := by simpa using hk
        have HF := hide (show fineB ⟨r, more, 1, a⟩ = false by unfold fineB fineW; simp [hr0, HW.out, hk])
        clear hr0 hk
        go_enter Try.func41, Try.ntmps41
        go_wp2_with (first
          | (go_at_call 47; go_must (refine (OF.out _).mono ?_; rintro e w1 ⟨rfl, b1⟩; obtain ⟨⟨q0, q1, q2, q3, q4, q5, q6, q7⟩, _⟩ := blk8 (KB.out w1 b1); have B1 := hide (below_in BB.out b1 (Nat.le_refl _)); clear b1))
          | (go_at_call 59; go_must (refine (MK.out _).mono ?_; rintro e w2 ⟨rfl, b2⟩; have B2 := hide (below_in B1.out b2 (Nat.le_refl _)); clear b2)))
        go_ret
        rw [HF.out]
        exact ⟨rfl, B1.out⟩
    · by_cases hk : wd = 2
      · subst hk
        cases mb with
        | true =>
          have HF := hide (show fineB ⟨r, more, 2, a⟩ = true by unfold fineB fineW; simp [hr0, HW.out, HB.out])
          clear hr0
          go_enter Try.func41, Try.ntmps41
          go_wp2_with (first
            | (go_at_call 47; go_must (refine (OF.out _).mono ?_; rintro e w1 ⟨rfl, b1⟩; obtain ⟨⟨q0, q1, q2, q3, q4, q5, q6, q7⟩, _⟩ := blk8 (KB.out w1 b1); have B1 := hide (below_in BB.out b1 (Nat.le_refl _)); clear b1))
            | (go_at_call 59; go_must (refine (MK.out _).mono ?_; rintro e w2 ⟨rfl, b2⟩; have B2 := hide (below_in B1.out b2 (Nat.le_refl _)); clear b2)))
          go_ret
          rw [HF.out]
          exact ⟨rfl, B2.out⟩
        | false =>
          have HF := hide (show fineB ⟨r, more, 2, a⟩ = false by unfold fineB fineW; simp [hr0, HW.out, HB.out])
          clear hr0
          go_enter Try.func41, Try.ntmps41
          go_wp2_with (first
            | (go_at_call 47; go_must (refine (OF.out _).mono ?_; rintro e w1 ⟨rfl, b1⟩; obtain ⟨⟨q0, q1, q2, q3, q4, q5, q6, q7⟩, _⟩ := blk8 (KB.out w1 b1); have B1 := hide (below_in BB.out b1 (Nat.le_refl _)); clear b1))
            | (go_at_call 59; go_must (refine (MK.out _).mono ?_; rintro e w2 ⟨rfl, b2⟩; have B2 := hide (below_in B1.out b2 (Nat.le_refl _)); clear b2)))
          go_ret
          rw [HF.out]
          exact ⟨rfl, B2.out⟩
      · have d1 : (wd == 2) = false := by simpa using hk
        have HF := hide (show fineB ⟨r, more, 2, a⟩ = false by unfold fineB fineW; simp [hr0, HW.out, hk])
        clear hr0 hk
        go_enter Try.func41, Try.ntmps41
        go_wp2_with (first
          | (go_at_call 47; go_must (refine (OF.out _).mono ?_; rintro e w1 ⟨rfl, b1⟩; obtain ⟨⟨q0, q1, q2, q3, q4, q5, q6, q7⟩, _⟩ := blk8 (KB.out w1 b1); have B1 := hide (below_in BB.out b1 (Nat.le_refl _)); clear b1))
          | (go_at_call 59; go_must (refine (MK.out _).mono ?_; rintro e w2 ⟨rfl, b2⟩; have B2 := hide (below_in B1.out b2 (Nat.le_refl _)); clear b2)))
        go_ret
        rw [HF.out]
        exact ⟨rfl, B1.out⟩
    · by_cases hk : wd = 1
      · subst hk
        cases mb with
        | true =>
          have HF := hide (show fineB ⟨r, more, 0, a⟩ = true by unfold fineB fineW; simp [hr0, HW.out, HB.out])
          clear hr0
          go_enter Try.func41, Try.ntmps41
          go_wp2_with (first
            | (go_at_call 47; go_must (refine (OF.out _).mono ?_; rintro e w1 ⟨rfl, b1⟩; obtain ⟨⟨q0, q1, q2, q3, q4, q5, q6, q7⟩, _⟩ := blk8 (KB.out w1 b1); have B1 := hide (below_in BB.out b1 (Nat.le_refl _)); clear b1))
            | (go_at_call 59; go_must (refine (MK.out _).mono ?_; rintro e w2 ⟨rfl, b2⟩; have B2 := hide (below_in B1.out b2 (Nat.le_refl _)); clear b2)))
          go_ret
          rw [HF.out]
          exact ⟨rfl, B2.out⟩
        | false =>
          have HF := hide (show fineB ⟨r, more, 0, a⟩ = false by unfold fineB fineW; simp [hr0, HW.out, HB.out])
          clear hr0
          go_enter Try.func41, Try.ntmps41
          go_wp2_with (first
            | (go_at_call 47; go_must (refine (OF.out _).mono ?_; rintro e w1 ⟨rfl, b1⟩; obtain ⟨⟨q0, q1, q2, q3, q4, q5, q6, q7⟩, _⟩ := blk8 (KB.out w1 b1); have B1 := hide (below_in BB.out b1 (Nat.le_refl _)); clear b1))
            | (go_at_call 59; go_must (refine (MK.out _).mono ?_; rintro e w2 ⟨rfl, b2⟩; have B2 := hide (below_in B1.out b2 (Nat.le_refl _)); clear b2)))
          go_ret
          rw [HF.out]
          exact ⟨rfl, B2.out⟩
      · have d1 : (wd == 1) = false := by simpa using hk
        have HF := hide (show fineB ⟨r, more, 0, a⟩ = false by unfold fineB fineW; simp [hr0, HW.out, hk])
        clear hr0 hk
        go_enter Try.func41, Try.ntmps41
        go_wp2_with (first
          | (go_at_call 47; go_must (refine (OF.out _).mono ?_; rintro e w1 ⟨rfl, b1⟩; obtain ⟨⟨q0, q1, q2, q3, q4, q5, q6, q7⟩, _⟩ := blk8 (KB.out w1 b1); have B1 := hide (below_in BB.out b1 (Nat.le_refl _)); clear b1))
          | (go_at_call 59; go_must (refine (MK.out _).mono ?_; rintro e w2 ⟨rfl, b2⟩; have B2 := hide (below_in B1.out b2 (Nat.le_refl _)); clear b2)))
        go_ret
        rw [HF.out]
        exact ⟨rfl, B1.out⟩
    · have HF := hide (show fineB ⟨r, more, hh, a⟩ = false by unfold fineB; simp [hr0, e4])
      clear e4 hr0
      go_enter Try.func41, Try.ntmps41
      go_wp2
      go_ret
      rw [HF.out]
      exact ⟨rfl, BB.out⟩
end Go.Proofs.Ytoaeadjihpbhgaa
