/-
  FindAll, walked. No condition but that the strings' lengths are lengths.
-/
import Derived.Test.YtglonmjacacjaaaAwake
namespace Go.Proofs.Ytglonmjacacjaaa
open Go.RowKit Go.Proofs
set_option linter.unusedVariables false
theorem placesF_len (T N : List Int) : (placesF T N).length ≤ T.length + 1 := by
  unfold placesF
  split
  · simp
  · have := placesTo_len (T := T) (N := N) (T.length + 1 - N.length); omega
set_option maxHeartbeats 2000000 in
theorem findAll_walk (w : World) (t : ByteArray) (ht : t.size ≤ maxLen) (s : ByteArray) (hs : s.size ≤ maxLen) :
    Calls Try.prog 6 #[.string t, .string s] w fun e w' => e = .returned (.bool true) ∧ Below w.heap.size w w' := by
  unfold maxLen at ht hs
  have AW := hide awake_any
  by_cases h1 : t.size ≤ 400
  · by_cases h2 : s.size ≤ 100
    · obtain ⟨P, hP⟩ : ∃ P, placesF (bytesOf plainF t) (bytesOf plainF s) = P := ⟨_, rfl⟩
      obtain ⟨S, hS⟩ : ∃ S, placesF (bytesOf smallF t) (bytesOf smallF s) = S := ⟨_, rfl⟩
      have lP := placesF_len (bytesOf plainF t) (bytesOf plainF s)
      have lS := placesF_len (bytesOf smallF t) (bytesOf smallF s)
      rw [hP, bytesOf_len] at lP
      rw [hS, bytesOf_len] at lS
      have C1 := hide (fun W => (ref20 t s _ _ W rfl rfl h1 (by omega)).mono fun _ _ h => by rw [hP] at h; exact h.rd)
      have C2 := hide (fun W => (call12 t s W h1 (by omega)).mono fun _ _ h => by rw [hP] at h; exact h.rd)
      have C3 := hide (fun W => (ref23 t s _ _ W rfl rfl h1 (by omega)).mono fun _ _ h => by rw [hS] at h; exact h.rd)
      have C4 := hide (fun W => (call14 t s W h1 (by omega)).mono fun _ _ h => by rw [hS] at h; exact h.rd)
      have C5 := hide (fun W => (count_any t s W h1 (by omega)).mono fun e w' h => show e = .returned (.int .i64 P.length) ∧ Below W.heap.size W w' by rw [hP] at h; exact h)
      have IP := hide (fun (A A' : Option Addr) (c c' : Nat) (W : World) (h : Rd W W.heap.size 1 A P.length (P.map nI)) (h' : Rd W W.heap.size 1 A' P.length (P.map nI)) => ints_same P A A' c c' W h h' (by omega))
      have IS := hide (fun (A A' : Option Addr) (c c' : Nat) (W : World) (h : Rd W W.heap.size 1 A S.length (S.map nI)) (h' : Rd W W.heap.size 1 A' S.length (S.map nI)) => ints_same S A A' c c' W h h' (by omega))
      clear hP hS
      go_enter Try.func6, Try.ntmps6
      go_wp2_with (first
        | (go_at_call_of 9 (Value.bool false); go_must (refine (C1.out _).mono ?_; rintro e w1 ⟨a1, c1, rfl, r1, _, b1⟩))
        | (go_at_call 12; go_must (refine (C2.out _).mono ?_; rintro e w2 ⟨a2, c2, rfl, r2, _, b2⟩; have r1' := rd_call r1 b2))
        | (go_at_call_of 9 (Value.bool true); go_must (refine (C3.out _).mono ?_; rintro e w5 ⟨a5, c5, rfl, r5, _, b5⟩; have r4' := rd_call r4 b5))
        | (go_at_call 14; go_must (refine (C4.out _).mono ?_; rintro e w4 ⟨a4, c4, rfl, r4, _, b4⟩))
        | (go_at_call_of 10 a5; go_must (refine (IS.out _ _ _ _ _ r4' r5).mono ?_; rintro e w6 ⟨rfl, b6⟩))
        | (go_at_call_of 10 a1; go_must (refine (IP.out _ _ _ _ _ r2 r1').mono ?_; rintro e w3 ⟨rfl, b3⟩))
        | (go_at_call 15; go_must (refine (C5.out _).mono ?_; rintro e w7 ⟨rfl, b7⟩))
        | (go_at_call 8; go_must (refine (AW.out _).mono ?_; rintro e w8 ⟨rfl, b8⟩)))
      go_ret
      have B := below_in (below_in (below_in (below_in (below_in (below_in (below_in b1 b2 (Nat.le_refl _)) b3 (Nat.le_refl _)) b4 (Nat.le_refl _)) b5 (Nat.le_refl _)) b6 (Nat.le_refl _)) b7 (Nat.le_refl _)) b8 (Nat.le_refl _)
      exact ⟨rfl, B⟩
    · have d1 : decide (400 < t.size) = false := by simpa using h1
      have d2 : decide (400 < (t.size : Int)) = false := by simp; omega
      go_enter Try.func6, Try.ntmps6
      go_wp2_with (go_at_call 8; go_must (refine (AW.out _).mono ?_; rintro e w8 ⟨rfl, b8⟩))
      all_goals first | (go_ret; exact ⟨rfl, b8⟩) | (exfalso; omega)
  · go_enter Try.func6, Try.ntmps6
    go_wp2_with (go_at_call 8; go_must (refine (AW.out _).mono ?_; rintro e w8 ⟨rfl, b8⟩))
    all_goals first | (go_ret; exact ⟨rfl, b8⟩) | (exfalso; omega)
end Go.Proofs.Ytglonmjacacjaaa
