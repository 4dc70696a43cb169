/-
  The walks of the reference's width. No condition but what the kind bears.
-/
import Derived.Test.YtoaeadjihpbhgaaOf
namespace Go.Proofs.Ytoaeadjihpbhgaa
open Go.RowKit Go.Proofs
set_option linter.unusedVariables false
set_option maxHeartbeats 1000000 in
theorem in_any (l : List (Int × Int)) (r : Int) (h n c : Nat) (A : Option Addr) (w : World) (hn : h * 2 = n) (hl : Rd w w.heap.size 2 A h (l.flatMap pr)) (hh : h ≤ 100000) :
    Calls Try.prog 60 #[.slice A n c, .int .i32 r] w fun e w' => e = .returned (.bool (inR l r)) ∧ Below w.heap.size w w' := by
  have HL := hide (hl.len pr_len (by omega))
  have hn' := hide hn
  have hn2 : n ≤ 200000 := by omega
  clear hn
  go_enter Try.func60, Try.ntmps60
  go_wp2
  go_loopg [5] h (fun gg s5 wr => ∃ k q : Nat, k + gg = h ∧ s5 = .int .i64 q ∧ Hid (q = k * 2) ∧ Hid (inR (l.take k) r = false) ∧ Rd wr wr.heap.size 2 A h (l.flatMap pr) ∧ Below w.heap.size w wr)
  case atStart => exact ⟨0, 0, by omega, rfl, rfl, rfl, hl, Below.refl _ _⟩
  case round =>
    clear hl
    obtain ⟨k, q, hkg, rfl, HQ, HI, hl, hb⟩ := hrel
    by_cases hlt : k < h
    · obtain ⟨b, off, x0, x1, rfl, hbB, hx, c0, c1⟩ := prs_at hl hlt
      have hs := any_take_snoc (f := fun x : Int × Int => decide (x.1 ≤ r ∧ r ≤ x.2)) hx
      have HS := hide (show inR (l.take (k + 1)) r = (inR (l.take k) r || inX (x0, x1) r) from hs)
      have hmem := hide (List.mem_of_getElem? hx)
      rw [← HQ.out] at c0 c1
      have c2 : wr.cell? ⟨b, off + (q + 1), none⟩ = some (.int .i32 x1) := c1
      have hqn : q < n := by have := HQ.out; have := hn'.out; omega
      have hqn2 : q + 1 < n := by have := HQ.out; have := hn'.out; omega
      have hqn3 : (q : Int) + 1 < n := by omega
      have hqn4 : (q : Int) < n := by omega
      clear hs hx
      by_cases h1 : x0 ≤ r
      · by_cases h2 : r ≤ x1
        · have hX := hide (show inX (x0, x1) r = true by unfold inX; simp; omega)
          go_wp2_with fail
          go_ret
          exact ⟨ret_bool (by unfold inR; symm; rw [List.any_eq_true]; exact ⟨_, hmem.out, hX.out⟩), hb⟩
        · have hX := hide (show inX (x0, x1) r = false by unfold inX; simp; omega)
          have d : decide (r ≤ x1) = false := by simp; omega
          go_wp2_with fail
          go_roundg (h - (k + 1))
          case measure => omega
          case rel => exact ⟨k + 1, q + 2, by omega, by go_num, by show _ = _; have := HQ.out; omega, by show _ = _; rw [HS.out, HI.out, hX.out]; rfl, hl, hb⟩
      · have hX := hide (show inX (x0, x1) r = false by unfold inX; simp; omega)
        have d : decide (x0 ≤ r) = false := by simp; omega
        go_wp2_with fail
        go_roundg (h - (k + 1))
        case measure => omega
        case rel => exact ⟨k + 1, q + 2, by omega, by go_num, by show _ = _; have := HQ.out; omega, by show _ = _; rw [HS.out, HI.out, hX.out]; rfl, hl, hb⟩
    · obtain rfl : h = k := by omega
      obtain rfl : n = q := by have := HQ.out; have := hn'.out; omega
      go_wp2_with fail
      go_ret
      have := HI.out
      rw [List.take_of_length_le (by rw [HL.out]; exact Nat.le_refl _)] at this
      exact ⟨ret_bool this.symm, hb⟩
set_option maxHeartbeats 2000000 in
theorem rof_any (r : Int) (w : World) : Calls Try.prog 42 #[.int .i32 r] w fun e w' => e = .returned (.int .i64 (widOf r)) ∧ Below w.heap.size w w' := by
  have M := hide (fun W => rmarks_any W)
  have D := hide (fun W => rwides_any W)
  have AM := hide (fun (A : Option Addr) (W : World) (hl : Rd W W.heap.size 2 A 19 (marksL.flatMap pr)) => in_any marksL r 19 38 38 A W rfl hl (by omega))
  have AD := hide (fun (A : Option Addr) (W : World) (hl : Rd W W.heap.size 2 A 22 (widesL.flatMap pr)) => in_any widesL r 22 44 44 A W rfl hl (by omega))
  obtain ⟨mB, hmB⟩ : ∃ b, inR marksL r = b := ⟨_, rfl⟩
  obtain ⟨dB, hdB⟩ : ∃ b, inR widesL r = b := ⟨_, rfl⟩
  have AM' := AM.out
  have AD' := AD.out
  rw [hmB] at AM'
  rw [hdB] at AD'
  have AM := hide AM'
  have AD := hide AD'
  go_enter Try.func42, Try.ntmps42
  go_upto_region 1 with (fail)
  go_cut [24] (fun v wc => v = .bool (noneB r) ∧ w = wc)
  case first =>
    clear AM' AD' hmB hdB
    rcases (show r < 32 ∨ (32 ≤ r ∧ r < 127) ∨ (127 ≤ r ∧ r < 160) ∨ (160 ≤ r ∧ r < 55296) ∨ (55296 ≤ r ∧ r < 57344) ∨ (57344 ≤ r ∧ r < 1114112) ∨ 1114112 ≤ r by omega) with h | h | h | h | h | h | h
    · have hr := hide (show noneB r = true by unfold noneB; simp; omega)
      have d0 : decide (r < 32) = true := by simp; omega
      have d1 : decide (126 < r) = false := by simp; omega
      have d2 : decide (r < 160) = true := by simp; omega
      have d3 : decide (55295 < r) = false := by simp; omega
      have d4 : decide (r < 57344) = true := by simp; omega
      have d5 : decide (1114111 < r) = false := by simp; omega
      clear h
      go_wp2_with fail
      go_meet
      exact ⟨by rw [hr.out], rfl⟩
    · have hr := hide (show noneB r = false by unfold noneB; simp; omega)
      have d0 : decide (r < 32) = false := by simp; omega
      have d1 : decide (126 < r) = false := by simp; omega
      have d2 : decide (r < 160) = true := by simp; omega
      have d3 : decide (55295 < r) = false := by simp; omega
      have d4 : decide (r < 57344) = true := by simp; omega
      have d5 : decide (1114111 < r) = false := by simp; omega
      clear h
      go_wp2_with fail
      go_meet
      exact ⟨by rw [hr.out], rfl⟩
    · have hr := hide (show noneB r = true by unfold noneB; simp; omega)
      have d0 : decide (r < 32) = false := by simp; omega
      have d1 : decide (126 < r) = true := by simp; omega
      have d2 : decide (r < 160) = true := by simp; omega
      have d3 : decide (55295 < r) = false := by simp; omega
      have d4 : decide (r < 57344) = true := by simp; omega
      have d5 : decide (1114111 < r) = false := by simp; omega
      clear h
      go_wp2_with fail
      go_meet
      exact ⟨by rw [hr.out], rfl⟩
    · have hr := hide (show noneB r = false by unfold noneB; simp; omega)
      have d0 : decide (r < 32) = false := by simp; omega
      have d1 : decide (126 < r) = true := by simp; omega
      have d2 : decide (r < 160) = false := by simp; omega
      have d3 : decide (55295 < r) = false := by simp; omega
      have d4 : decide (r < 57344) = true := by simp; omega
      have d5 : decide (1114111 < r) = false := by simp; omega
      clear h
      go_wp2_with fail
      go_meet
      exact ⟨by rw [hr.out], rfl⟩
    · have hr := hide (show noneB r = true by unfold noneB; simp; omega)
      have d0 : decide (r < 32) = false := by simp; omega
      have d1 : decide (126 < r) = true := by simp; omega
      have d2 : decide (r < 160) = false := by simp; omega
      have d3 : decide (55295 < r) = true := by simp; omega
      have d4 : decide (r < 57344) = true := by simp; omega
      have d5 : decide (1114111 < r) = false := by simp; omega
      clear h
      go_wp2_with fail
      go_meet
      exact ⟨by rw [hr.out], rfl⟩
    · have hr := hide (show noneB r = false by unfold noneB; simp; omega)
      have d0 : decide (r < 32) = false := by simp; omega
      have d1 : decide (126 < r) = true := by simp; omega
      have d2 : decide (r < 160) = false := by simp; omega
      have d3 : decide (55295 < r) = true := by simp; omega
      have d4 : decide (r < 57344) = false := by simp; omega
      have d5 : decide (1114111 < r) = false := by simp; omega
      clear h
      go_wp2_with fail
      go_meet
      exact ⟨by rw [hr.out], rfl⟩
    · have hr := hide (show noneB r = true by unfold noneB; simp; omega)
      have d0 : decide (r < 32) = false := by simp; omega
      have d1 : decide (126 < r) = true := by simp; omega
      have d2 : decide (r < 160) = false := by simp; omega
      have d3 : decide (55295 < r) = true := by simp; omega
      have d4 : decide (r < 57344) = false := by simp; omega
      have d5 : decide (1114111 < r) = true := by simp; omega
      clear h
      go_wp2_with fail
      go_meet
      exact ⟨by rw [hr.out], rfl⟩
  case rest =>
    obtain ⟨rfl, rfl⟩ := hcut
    obtain ⟨nB, hnB⟩ : ∃ b, noneB r = b := ⟨_, rfl⟩
    rw [hnB]
    have HW := hide (show noneB r = nB ∧ inR marksL r = mB ∧ inR widesL r = dB from ⟨hnB, hmB, hdB⟩)
    clear AM' AD' hnB hmB hdB
    cases nB with
    | true =>
      go_wp2_with fail
      go_ret
      exact ⟨ret_int (by unfold widOf; rw [HW.out.1]; rfl), Below.refl _ _⟩
    | false =>
      cases mB with
      | true =>
        go_wp2_with (first
          | (go_at_call 61; go_must (refine (M.out _).mono ?_; rintro e w1 ⟨rfl, r1, b1⟩))
          | (go_at_call 60; go_must (refine (AM.out _ _ r1).mono ?_; rintro e w2 ⟨rfl, b2⟩)))
        go_ret
        exact ⟨ret_int (by unfold widOf; rw [HW.out.1, HW.out.2.1]; rfl), below_in b1 b2 (Nat.le_refl _)⟩
      | false =>
        cases dB with
        | true =>
          go_wp2_with (first
            | (go_at_call 61; go_must (refine (M.out _).mono ?_; rintro e w1 ⟨rfl, r1, b1⟩))
            | (go_at_call 62; go_must (refine (D.out _).mono ?_; rintro e w3 ⟨rfl, r3, b3⟩))
            | (go_at_call_of 60 (38 : Nat); go_must (refine (AM.out _ _ r1).mono ?_; rintro e w2 ⟨rfl, b2⟩))
            | (go_at_call_of 60 (44 : Nat); go_must (refine (AD.out _ _ r3).mono ?_; rintro e w4 ⟨rfl, b4⟩)))
          go_ret
          exact ⟨ret_int (by unfold widOf; rw [HW.out.1, HW.out.2.1, HW.out.2.2]; rfl), below_in (below_in (below_in b1 b2 (Nat.le_refl _)) b3 (Nat.le_refl _)) b4 (Nat.le_refl _)⟩
        | false =>
          go_wp2_with (first
            | (go_at_call 61; go_must (refine (M.out _).mono ?_; rintro e w1 ⟨rfl, r1, b1⟩))
            | (go_at_call 62; go_must (refine (D.out _).mono ?_; rintro e w3 ⟨rfl, r3, b3⟩))
            | (go_at_call_of 60 (38 : Nat); go_must (refine (AM.out _ _ r1).mono ?_; rintro e w2 ⟨rfl, b2⟩))
            | (go_at_call_of 60 (44 : Nat); go_must (refine (AD.out _ _ r3).mono ?_; rintro e w4 ⟨rfl, b4⟩)))
          go_ret
          exact ⟨ret_int (by unfold widOf; rw [HW.out.1, HW.out.2.1, HW.out.2.2]; rfl), below_in (below_in (below_in b1 b2 (Nat.le_refl _)) b3 (Nat.le_refl _)) b4 (Nat.le_refl _)⟩
end Go.Proofs.Ytoaeadjihpbhgaa
