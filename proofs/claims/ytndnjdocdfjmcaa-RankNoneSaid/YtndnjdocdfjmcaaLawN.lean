/-
  RankNone, walked. No condition but the arguments' kinds.
-/
import Derived.Test.YtndnjdocdfjmcaaAwake
namespace Go.Proofs.Ytndnjdocdfjmcaa
open Go.RowKit Go.Proofs
set_option linter.unusedVariables false
set_option maxHeartbeats 4000000 in
theorem rankNone_walk (w : World) (m : Int) (wm : (Lit.int .i64 m).wf = true) (t : ByteArray) (wt : t.size ≤ maxLen) :
    Calls Try.prog 8 #[.int .i64 m, .string t] w fun e w' => e = .returned (.bool true) ∧ Below w.heap.size w w' := by
  have UN := hide (fun (W : World) => use_nil W t)
  have ON := hide (fun (W : World) => of_nil W t)
  have LN := hide (fun (W : World) => len_nil W)
  have TN := hide (fun (W : World) => top_nil W 3)
  have BN := hide (fun (W : World) => begins_nil W ⟨#[]⟩ 3)
  have FN := hide (fun (W : World) => forget_nil W t)
  unfold entA zeroE at ON
  by_cases hv : 1 ≤ m ∧ m ≤ 10000
  · obtain ⟨k, rfl⟩ : ∃ k : Nat, m = k := ⟨m.toNat, by omega⟩
    have N1 := hide (new_any k w (by omega) (by omega))
    have d1 : decide ((1 : Int) ≤ k) = true := by simp; omega
    have d2 : decide ((k : Int) ≤ 10000) = true := by simp; omega
    have d3 : decide (1 ≤ k) = true := by simp; omega
    have d4 : decide (k ≤ 10000) = true := by simp; omega
    clear hv wm
    go_enter Try.func8, Try.ntmps8
    go_wp2_with (first
      | (go_at_call 11; go_must (refine (N1.out).mono ?_; rintro e w1 ⟨rfl, l1, b1⟩; have B1 := hide b1; clear l1 b1))
      | (go_at_call 12; go_must (refine (UN.out _).mono ?_; rintro e w2 ⟨rfl, rfl⟩))
      | (go_at_call 13; go_must (refine (ON.out _).mono ?_; rintro e w3 ⟨rfl, b3⟩; have B3 := hide ((below_in B1.out b3 (Nat.le_refl _)).alloc (Nat.le_trans B1.out.size b3.size) (.cells (entC zeroE) 31)); clear b3))
      | (go_at_call 14; go_must (refine (LN.out _).mono ?_; rintro e w4 ⟨rfl, rfl⟩))
      | (go_at_call 15; go_must (refine (TN.out _).mono ?_; rintro e w5 ⟨rfl, rfl⟩))
      | (go_at_call 22; go_must (refine (BN.out _).mono ?_; rintro e w6 ⟨rfl, b6⟩; have B6 := hide (below_in B3.out b6 (Nat.le_refl _)); clear b6))
      | (go_at_call 20; go_must (refine (FN.out _).mono ?_; rintro e w7 ⟨rfl, b7⟩; have B7 := hide (below_in B6.out b7 (Nat.le_refl _)); clear b7))
      | (go_at_call 10; go_must (refine (awake_any _).mono ?_; rintro e w8 ⟨rfl, b8⟩; have B8 := hide (below_in B7.out b8 (Nat.le_refl _)); clear b8)))
    go_ret
    exact ⟨rfl, B8.out⟩
  · have N1 := hide (new_bad m w (by omega))
    have key : ((1 : Int) ≤ m ∧ decide (m ≤ 10000) = false) ∨ ¬ (1 : Int) ≤ m := by
      by_cases h : (1 : Int) ≤ m
      · exact .inl ⟨h, by simp; omega⟩
      · exact .inr h
    clear hv wm
    rcases key with ⟨h1, d2⟩ | h1
    · have d1 : decide ((1 : Int) ≤ m) = true := by simpa using h1
      go_enter Try.func8, Try.ntmps8
      go_wp2_with (first
        | (go_at_call 11; go_must (refine (N1.out).mono ?_; rintro e w1 ⟨rfl, rfl⟩))
        | (go_at_call 12; go_must (refine (UN.out _).mono ?_; rintro e w2 ⟨rfl, rfl⟩))
        | (go_at_call 13; go_must (refine (ON.out _).mono ?_; rintro e w3 ⟨rfl, b3⟩; have B3 := hide (b3.alloc b3.size (.cells (entC zeroE) 31)); clear b3))
        | (go_at_call 14; go_must (refine (LN.out _).mono ?_; rintro e w4 ⟨rfl, rfl⟩))
        | (go_at_call 15; go_must (refine (TN.out _).mono ?_; rintro e w5 ⟨rfl, rfl⟩))
        | (go_at_call 22; go_must (refine (BN.out _).mono ?_; rintro e w6 ⟨rfl, b6⟩; have B6 := hide (below_in B3.out b6 (Nat.le_refl _)); clear b6))
        | (go_at_call 20; go_must (refine (FN.out _).mono ?_; rintro e w7 ⟨rfl, b7⟩; have B7 := hide (below_in B6.out b7 (Nat.le_refl _)); clear b7))
        | (go_at_call 10; go_must (refine (awake_any _).mono ?_; rintro e w8 ⟨rfl, b8⟩; have B8 := hide (below_in B7.out b8 (Nat.le_refl _)); clear b8)))
      go_ret
      exact ⟨rfl, B8.out⟩
    · have d1 : decide ((1 : Int) ≤ m) = false := by simpa using h1
      go_enter Try.func8, Try.ntmps8
      go_wp2_with (first
        | (go_at_call 11; go_must (refine (N1.out).mono ?_; rintro e w1 ⟨rfl, rfl⟩))
        | (go_at_call 12; go_must (refine (UN.out _).mono ?_; rintro e w2 ⟨rfl, rfl⟩))
        | (go_at_call 13; go_must (refine (ON.out _).mono ?_; rintro e w3 ⟨rfl, b3⟩; have B3 := hide (b3.alloc b3.size (.cells (entC zeroE) 31)); clear b3))
        | (go_at_call 14; go_must (refine (LN.out _).mono ?_; rintro e w4 ⟨rfl, rfl⟩))
        | (go_at_call 15; go_must (refine (TN.out _).mono ?_; rintro e w5 ⟨rfl, rfl⟩))
        | (go_at_call 22; go_must (refine (BN.out _).mono ?_; rintro e w6 ⟨rfl, b6⟩; have B6 := hide (below_in B3.out b6 (Nat.le_refl _)); clear b6))
        | (go_at_call 20; go_must (refine (FN.out _).mono ?_; rintro e w7 ⟨rfl, b7⟩; have B7 := hide (below_in B6.out b7 (Nat.le_refl _)); clear b7))
        | (go_at_call 10; go_must (refine (awake_any _).mono ?_; rintro e w8 ⟨rfl, b8⟩; have B8 := hide (below_in B7.out b8 (Nat.le_refl _)); clear b8)))
      go_ret
      exact ⟨rfl, B8.out⟩
end Go.Proofs.Ytndnjdocdfjmcaa
