/-
  RingNone, walked. No condition but what the arguments' kinds bear.
-/
import Derived.Test.YtailflbhcmgnpaaHold
import Derived.Test.YtailflbhcmgnpaaFrame
namespace Go.Proofs.Ytailflbhcmgnpaa
open Go.RowKit Go.Proofs
set_option linter.unusedVariables false
theorem fill_none (A : Option Addr) (n c : Nat) (w : World) : Calls Try.prog 22 #[.pointer none, .slice A n c] w fun e w' => e = .returned (.int .i64 0) ∧ w = w' := by
  go_enter Try.func22, Try.ntmps22
  go_wp2
  go_ret
  exact ⟨rfl, rfl⟩
theorem clear_none (w : World) : Calls Try.prog 23 #[.pointer none] w fun e w' => e = .returned (.int .i64 0) ∧ w = w' := by
  have LN := hide len_none
  go_enter Try.func23, Try.ntmps23
  go_wp2_with (go_at_call 13; go_must (refine (LN.out _).mono ?_; rintro e w' ⟨rfl, rfl⟩))
  go_ret
  exact ⟨rfl, rfl⟩
theorem ok_form {R : Row} {b : Bool} {w w' : World} {e : Ending} (h : RowOkPost any R b w e w') : ∃ A m c k, e = .returned (.tuple #[.agg #[.slice A m c, .bool k], .bool b]) ∧ Below w.heap.size w w' := by
  obtain ⟨v1, v2, h1, h2, h3⟩ := h
  obtain ⟨A, m, c, k, rfl, rfl⟩ := row_form h2
  exact ⟨A, m, c, k, h1, h3⟩
theorem row_form2 {R : Row} {w w' : World} {e : Ending} (h : RowPost any R w e w') : ∃ A m c k, e = .returned (.agg #[.slice A m c, .bool k]) ∧ RowV any w' (.slice A m c, .bool k) R ∧ Below w.heap.size w w' := by
  obtain ⟨v1, v2, h1, h2, h3⟩ := h
  obtain ⟨A, m, c, k, rfl, rfl⟩ := row_form h2
  exact ⟨A, m, c, k, h1, h2, h3⟩
set_option maxHeartbeats 4000000 in
theorem lawnone_bad (w : World) (a i : Int) (hbad : a < 0 ∨ 100000 < a) : Calls Try.prog 7 #[.int .i64 a, .int .i64 i] w fun e w' => e = .returned (.bool true) ∧ Below w.heap.size w w' := by
  have N := hide (new_bad a w hbad)
  have RW := hide (fun (W : World) => row_any any 1 W (by omega) (by omega) (fun _ _ => trivial))
  have PN := hide (fun v1 v2 R W h => push_none any v1 v2 R W h)
  have PO := hide (fun W => pop_none any W)
  have AT := hide (fun W => at_none any i W)
  have LN := hide len_none
  have RN := hide room_none
  have GN := hide gone_none
  have AL := hide (fun W => all_none any W)
  have FN := hide fill_none
  have CN := hide clear_none
  have SN := hide (fun v1 v2 R W h => set_none any i v1 v2 R W h)
  have AW := hide awake_any
  by_cases h0 : a < 0
  · skip
    have B0 := Below.refl w.heap.size w
    go_enter Try.func7, Try.ntmps7
    go_upto_region 8 with (go_at_call 9; go_must (refine N.out.mono ?_; rintro e w0 ⟨rfl, rfl⟩))
    go_upto_region 11 with (first
      | (go_at_call 11; go_must (refine (RW.out _).mono ?_; rintro e w1 hr; obtain ⟨A1, m1, c1, k1, rfl, r1, b1⟩ := row_form2 hr))
      | (go_at_call 10; go_must (refine (PN.out _ _ _ _ r1).mono ?_; rintro e w2 hr; obtain ⟨A2, m2, c2, k2, rfl, b2⟩ := ok_form hr))
      | (go_at_call 17; go_must (refine (PO.out _).mono ?_; rintro e w3 hr; obtain ⟨A3, m3, c3, k3, rfl, b3⟩ := ok_form hr))
      | (go_at_call 15; go_must (refine (AT.out _).mono ?_; rintro e w4 hr; obtain ⟨A4, m4, c4, k4, rfl, b4⟩ := ok_form hr)))
    go_name_world W5 hW5
    have B5 : Below w.heap.size w W5 := by
      rw [← hW5]
      have C1 := below_in (below_in B0 b1 (Nat.le_refl _)) b2 (Nat.le_refl _)
      have C2 := below_in (C1.alloc C1.size _) b3 (Nat.le_refl _)
      have C3 := below_in (C2.alloc C2.size _) b4 (Nat.le_refl _)
      exact C3.alloc C3.size _
    clear hW5 b1 b2 b3 b4 r1
    go_wp2_with (first
      | (go_at_call 13; go_must (refine (LN.out _).mono ?_; rintro e w6 ⟨rfl, rfl⟩))
      | (go_at_call 21; go_must (refine (RN.out _).mono ?_; rintro e w6 ⟨rfl, rfl⟩))
      | (go_at_call 14; go_must (refine (GN.out _).mono ?_; rintro e w6 ⟨rfl, rfl⟩))
      | (go_at_call 16; go_must (refine (AL.out _).mono ?_; rintro e w6 ⟨A6, c6, rs6, rfl, _, _, b6⟩; have C := below_in B5 b6 (Nat.le_refl _)))
      | (go_at_call 22; go_must (refine (FN.out _ _ _ _).mono ?_; rintro e w8 ⟨rfl, rfl⟩))
      | (go_at_call 23; go_must (refine (CN.out _).mono ?_; rintro e w8 ⟨rfl, rfl⟩))
      | (go_at_call 24; go_must (refine (SN.out _ _ _ _ r7).mono ?_; rintro e w9 ⟨rfl, b9⟩))
      | (go_at_call 8; go_must (refine (AW.out _).mono ?_; rintro e wa ⟨rfl, ba⟩))
      | (go_at_call 11; go_must (refine (RW.out _).mono ?_; rintro e w7 hr; obtain ⟨A7, m7, c7, k7, rfl, r7, b7⟩ := row_form2 hr; have C : Below w.heap.size w w7 := (by first | (exact below_in C b7 (Nat.le_refl _)) | (exact below_in (C.alloc C.size _) b7 (Nat.le_refl _))))))
    go_ret
    exact ⟨rfl, below_in (below_in C b9 (Nat.le_refl _)) ba (Nat.le_refl _)⟩
  · have h1 : 100000 < a := by omega
    have d : decide (a < 0) = false := by simp; omega
    have B0 := Below.refl w.heap.size w
    go_enter Try.func7, Try.ntmps7
    go_upto_region 8 with (go_at_call 9; go_must (refine N.out.mono ?_; rintro e w0 ⟨rfl, rfl⟩))
    go_upto_region 11 with (first
      | (go_at_call 11; go_must (refine (RW.out _).mono ?_; rintro e w1 hr; obtain ⟨A1, m1, c1, k1, rfl, r1, b1⟩ := row_form2 hr))
      | (go_at_call 10; go_must (refine (PN.out _ _ _ _ r1).mono ?_; rintro e w2 hr; obtain ⟨A2, m2, c2, k2, rfl, b2⟩ := ok_form hr))
      | (go_at_call 17; go_must (refine (PO.out _).mono ?_; rintro e w3 hr; obtain ⟨A3, m3, c3, k3, rfl, b3⟩ := ok_form hr))
      | (go_at_call 15; go_must (refine (AT.out _).mono ?_; rintro e w4 hr; obtain ⟨A4, m4, c4, k4, rfl, b4⟩ := ok_form hr)))
    go_name_world W5 hW5
    have B5 : Below w.heap.size w W5 := by
      rw [← hW5]
      have C1 := below_in (below_in B0 b1 (Nat.le_refl _)) b2 (Nat.le_refl _)
      have C2 := below_in (C1.alloc C1.size _) b3 (Nat.le_refl _)
      have C3 := below_in (C2.alloc C2.size _) b4 (Nat.le_refl _)
      exact C3.alloc C3.size _
    clear hW5 b1 b2 b3 b4 r1
    go_wp2_with (first
      | (go_at_call 13; go_must (refine (LN.out _).mono ?_; rintro e w6 ⟨rfl, rfl⟩))
      | (go_at_call 21; go_must (refine (RN.out _).mono ?_; rintro e w6 ⟨rfl, rfl⟩))
      | (go_at_call 14; go_must (refine (GN.out _).mono ?_; rintro e w6 ⟨rfl, rfl⟩))
      | (go_at_call 16; go_must (refine (AL.out _).mono ?_; rintro e w6 ⟨A6, c6, rs6, rfl, _, _, b6⟩; have C := below_in B5 b6 (Nat.le_refl _)))
      | (go_at_call 22; go_must (refine (FN.out _ _ _ _).mono ?_; rintro e w8 ⟨rfl, rfl⟩))
      | (go_at_call 23; go_must (refine (CN.out _).mono ?_; rintro e w8 ⟨rfl, rfl⟩))
      | (go_at_call 24; go_must (refine (SN.out _ _ _ _ r7).mono ?_; rintro e w9 ⟨rfl, b9⟩))
      | (go_at_call 8; go_must (refine (AW.out _).mono ?_; rintro e wa ⟨rfl, ba⟩))
      | (go_at_call 11; go_must (refine (RW.out _).mono ?_; rintro e w7 hr; obtain ⟨A7, m7, c7, k7, rfl, r7, b7⟩ := row_form2 hr; have C : Below w.heap.size w w7 := (by first | (exact below_in C b7 (Nat.le_refl _)) | (exact below_in (C.alloc C.size _) b7 (Nat.le_refl _))))))
    go_ret
    exact ⟨rfl, below_in (below_in C b9 (Nat.le_refl _)) ba (Nat.le_refl _)⟩
set_option maxHeartbeats 4000000 in
theorem lawnone_good (w : World) (i : Int) (room : Nat) (hgood : room ≤ 100000) : Calls Try.prog 7 #[.int .i64 room, .int .i64 i] w fun e w' => e = .returned (.bool true) ∧ Below w.heap.size w w' := by
  have N := hide (new_any room w hgood)
  have hN := hide (held_new any room w hgood)
  have RW := hide (fun (W : World) => row_any any 1 W (by omega) (by omega) (fun _ _ => trivial))
  have PN := hide (fun v1 v2 R W h => push_none any v1 v2 R W h)
  have PO := hide (fun W => pop_none any W)
  have AT := hide (fun W => at_none any i W)
  have LN := hide len_none
  have RN := hide room_none
  have GN := hide gone_none
  have AL := hide (fun W => all_none any W)
  have FN := hide fill_none
  have CN := hide clear_none
  have SN := hide (fun v1 v2 R W h => set_none any i v1 v2 R W h)
  have AW := hide awake_any
  have B0 := (Below.refl w.heap.size w).alloc (Nat.le_refl _) (.cells (ringC none 0 room 0 0 0) 62)
  have L1 := hide (len_h any w.heap.size w.heap.size none [] room 0 0 _ hN.out rfl)
  have R1 := hide (room_h any w.heap.size w.heap.size none [] room 0 _ hN.out)
  have G1 := hide (gone_h any w.heap.size w.heap.size none [] room 0 _ hN.out)
  have d : decide (100000 < room) = false := by simp; omega
  have d2 : decide (100000 < (room : Int)) = false := by simp; omega
  · skip
    go_enter Try.func7, Try.ntmps7
    go_upto_region 8 with (first
      | (go_at_call 9; go_must (refine N.out.mono ?_; rintro e w0 ⟨rfl, rfl⟩))
      | (go_at_call 21; go_must (refine R1.out.mono ?_; rintro e w0 ⟨rfl, rfl⟩))
      | (go_at_call 13; go_must (refine L1.out.mono ?_; rintro e w0 ⟨rfl, rfl⟩))
      | (go_at_call 14; go_must (refine G1.out.mono ?_; rintro e w0 ⟨rfl, rfl⟩)))
    go_upto_region 11 with (first
      | (go_at_call 11; go_must (refine (RW.out _).mono ?_; rintro e w1 hr; obtain ⟨A1, m1, c1, k1, rfl, r1, b1⟩ := row_form2 hr))
      | (go_at_call 10; go_must (refine (PN.out _ _ _ _ r1).mono ?_; rintro e w2 hr; obtain ⟨A2, m2, c2, k2, rfl, b2⟩ := ok_form hr))
      | (go_at_call 17; go_must (refine (PO.out _).mono ?_; rintro e w3 hr; obtain ⟨A3, m3, c3, k3, rfl, b3⟩ := ok_form hr))
      | (go_at_call 15; go_must (refine (AT.out _).mono ?_; rintro e w4 hr; obtain ⟨A4, m4, c4, k4, rfl, b4⟩ := ok_form hr)))
    go_name_world W5 hW5
    have B5 : Below w.heap.size w W5 := by
      rw [← hW5]
      have C1 := below_in (below_in B0 b1 (Nat.le_refl _)) b2 (Nat.le_refl _)
      have C2 := below_in (C1.alloc C1.size _) b3 (Nat.le_refl _)
      have C3 := below_in (C2.alloc C2.size _) b4 (Nat.le_refl _)
      exact C3.alloc C3.size _
    clear hW5 b1 b2 b3 b4 r1
    go_wp2_with (first
      | (go_at_call 13; go_must (refine (LN.out _).mono ?_; rintro e w6 ⟨rfl, rfl⟩))
      | (go_at_call 21; go_must (refine (RN.out _).mono ?_; rintro e w6 ⟨rfl, rfl⟩))
      | (go_at_call 14; go_must (refine (GN.out _).mono ?_; rintro e w6 ⟨rfl, rfl⟩))
      | (go_at_call 16; go_must (refine (AL.out _).mono ?_; rintro e w6 ⟨A6, c6, rs6, rfl, _, _, b6⟩; have C := below_in B5 b6 (Nat.le_refl _)))
      | (go_at_call 22; go_must (refine (FN.out _ _ _ _).mono ?_; rintro e w8 ⟨rfl, rfl⟩))
      | (go_at_call 23; go_must (refine (CN.out _).mono ?_; rintro e w8 ⟨rfl, rfl⟩))
      | (go_at_call 24; go_must (refine (SN.out _ _ _ _ r7).mono ?_; rintro e w9 ⟨rfl, b9⟩))
      | (go_at_call 8; go_must (refine (AW.out _).mono ?_; rintro e wa ⟨rfl, ba⟩))
      | (go_at_call 11; go_must (refine (RW.out _).mono ?_; rintro e w7 hr; obtain ⟨A7, m7, c7, k7, rfl, r7, b7⟩ := row_form2 hr; have C : Below w.heap.size w w7 := (by first | (exact below_in C b7 (Nat.le_refl _)) | (exact below_in (C.alloc C.size _) b7 (Nat.le_refl _))))))
    go_ret
    exact ⟨rfl, below_in (below_in C b9 (Nat.le_refl _)) ba (Nat.le_refl _)⟩
theorem ringNone_walk (w : World) (a : Int) (wa : (Lit.int .i64 a).wf = true) (i : Int) (wi : (Lit.int .i64 i).wf = true) :
    Calls Try.prog 7 #[.int .i64 a, .int .i64 i] w fun e w' => e = .returned (.bool true) ∧ Below w.heap.size w w' := by
  by_cases h : a < 0 ∨ 100000 < a
  · exact lawnone_bad w a i h
  · obtain ⟨a', rfl⟩ : ∃ a' : Nat, a = a' := ⟨a.toNat, by omega⟩
    exact lawnone_good w i a' (by omega)
end Go.Proofs.Ytailflbhcmgnpaa
