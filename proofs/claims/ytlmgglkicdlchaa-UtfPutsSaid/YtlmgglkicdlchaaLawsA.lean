/-
  The laws UtfAll, UtfSizes, UtfNone, UtfPuts, walked. No condition but what the arguments' kinds bear.
-/
import Derived.Test.YtlmgglkicdlchaaAwake
import Derived.Test.YtlmgglkicdlchaaFrame
namespace Go.Proofs.Ytlmgglkicdlchaa
open Go.RowKit Go.Proofs
set_option linter.unusedVariables false
/-- Two equal lists of scalars are the same. -/
theorem same_true (xs : List Int) (A A' : Option Addr) (n n' c c' B B' : Nat) (W : World) (ha : Rd W B 1 A n (xs.map r32)) (hb : Rd W B' 1 A' n' (xs.map r32)) (hn : n ≤ 1000000) : Calls Try.prog 11 #[.slice A n c, .slice A' n' c'] W (RetB true W) := by
  have := same_any xs xs A A' n n' c c' W ha hb hn
  rwa [show (xs == xs) = true by simp] at this
theorem utfAll_walk (w : World) (A : Option Addr) (n c : Nat) (l : List Int) (hl : l.length = n) (hnc : n ≤ c) (hcm : c ≤ maxLen) (hrd : Rd w w.heap.size 1 A n (l.map b8)) (hq : ∀ x ∈ l, IsByte x) :
    Calls Try.prog 3 #[.slice A n c] w fun e w' => e = .returned (.bool true) ∧ Below w.heap.size w w' := by
  have AW := hide awake_any
  by_cases hbig : 300 < n
  · have d1 : decide (300 < n) = true := by simpa using hbig
    have d2 : decide (300 < (n : Int)) = true := by simp; omega
    clear hrd hq hl hcm
    go_enter Try.func3, Try.ntmps3
    go_wp2_with (go_at_call 10; go_must (refine (AW.out _).mono ?_; rintro e w1 ⟨rfl, b1⟩))
    go_ret
    exact ⟨rfl, b1⟩
  · have d1 : decide (300 < n) = false := by simpa using hbig
    have d2 : decide (300 < (n : Int)) = false := by simp; omega
    have A1 := hide (all_any l A n c w hrd hq (by omega))
    have A2 := hide (fun (W : World) (h : Below w.heap.size w W) => rall_any l A n c w.heap.size W (hrd.below h) h.size hq (by omega) hnc)
    have hlen := allF_len n l (by omega)
    obtain ⟨m, hm⟩ : ∃ m, (allF l).length = m := ⟨_, rfl⟩
    have HM := hide hm
    have hm2 : m ≤ 1000000 := by omega
    clear hrd hq hl hcm hlen hm
    go_enter Try.func3, Try.ntmps3
    go_wp2_with (first
      | (go_at_call 12; go_must (refine A1.out.mono ?_; intro e w1 h; obtain ⟨B1, k1, rfl, hown1, _, b1⟩ := ret_n h HM.out; have b1 := hide b1))
      | (go_at_call 13; go_must (refine (A2.out _ b1.out).mono ?_; intro e w2 h; obtain ⟨B2, k2, rfl, hown2, _, b2⟩ := ret_n h HM.out; have o1 := own_call hown1 b2; have b2 := hide (below_in b1.out b2 (Nat.le_refl _))))
      | (go_at_call 11; go_must (refine (same_true (allF l) _ _ _ _ _ _ _ _ _ (Rd.of_own o1) (Rd.of_own hown2) hm2).mono ?_; rintro e w3 ⟨rfl, b3⟩; have b3 := hide (below_in b2.out b3 (Nat.le_refl _))))
      | (go_at_call 10; go_must (refine (AW.out _).mono ?_; rintro e w4 ⟨rfl, b4⟩)))
    go_ret
    exact ⟨rfl, below_in b3.out b4 (Nat.le_refl _)⟩
theorem utfNone_walk (w : World) (c : Int) (hc : (Lit.int .u8 c).wf = true) :
    Calls Try.prog 7 #[.int .u8 c] w fun e w' => e = .returned (.bool true) ∧ Below w.heap.size w w' := by
  have AW := hide awake_any
  clear hc
  go_enter Try.func7, Try.ntmps7
  go_wp2_with (first
    | (go_at_call 17; go_must (refine (step_none _ _).mono ?_; rintro e w1 ⟨rfl, rfl⟩))
    | (go_at_call 19; go_must (refine (left_none _).mono ?_; rintro e w1 ⟨rfl, rfl⟩))
    | (go_at_call 20; go_must (refine (end_none _).mono ?_; rintro e w1 ⟨rfl, rfl⟩))
    | (go_at_call 10; go_must (refine (AW.out _).mono ?_; rintro e w4 ⟨rfl, b4⟩)))
  go_ret
  exact ⟨rfl, b4⟩
set_option maxRecDepth 100000 in
set_option maxHeartbeats 4000000 in
theorem utfSizes_walk (w : World) (c : Int) (hc : (Lit.int .u8 c).wf = true) :
    Calls Try.prog 4 #[.int .u8 c] w fun e w' => e = .returned (.bool true) ∧ Below w.heap.size w w' := by
  have hb := bounds_u8 hc
  have AW := hide awake_any
  have SZ := hide (fun W => size_any c W (by omega) (by omega))
  have hq : ∀ x ∈ [c], IsByte x := by intro x hx; simp at hx; subst hx; exact ⟨by omega, by omega⟩
  have IS := hide (fun (W : World) (g : Nat) (hg : g = W.heap.size) => is_any [c] _ 1 1 _ _ (rd_lit b8 [c] (n := 1) (cs := #[.int .u8 c]) rfl rfl W 5 g hg) (Nat.le_refl _) hq (by omega))
  have BE := hide (fun (W : World) (g : Nat) (hg : g = W.heap.size) => begins_any [c] _ 1 1 _ _ (rd_lit b8 [c] (n := 1) (cs := #[.int .u8 c]) rfl rfl W 5 g hg) (Nat.le_refl _) hq (by omega) (by omega))
  have hs := sizeF_le c
  have hi : isB [c] = decide (sizeF c = 1) := rfl
  have hbe : begB [c] = decide (2 ≤ sizeF c) := rfl
  have hs4 : sizeF c = 0 ∨ sizeF c = 1 ∨ sizeF c = 2 ∨ sizeF c = 3 ∨ sizeF c = 4 := by omega
  have hb1 := hb.1
  rcases hs4 with e | e | e | e | e
  all_goals
    rw [e] at SZ hi hbe
    first
      | (rw [hi] at IS; rw [hbe] at BE)
  · have IS := hide (show ∀ (W : World) (g : Nat) (hg : g = W.heap.size), Calls Try.prog 14 #[.slice (some ⟨g, 0, none⟩) 1 1] (W.alloc (.cells #[.int .u8 c] 5)) (RetB false (W.alloc (.cells #[.int .u8 c] 5))) from IS.out)
    have BE := hide (show ∀ (W : World) (g : Nat) (hg : g = W.heap.size), Calls Try.prog 15 #[.slice (some ⟨g, 0, none⟩) 1 1] (W.alloc (.cells #[.int .u8 c] 5)) (RetB false (W.alloc (.cells #[.int .u8 c] 5))) from BE.out)
    clear hi hbe hs e hq hc hb
    go_enter Try.func4, Try.ntmps4
    go_wp2_with (first
      | (go_at_call 14; go_must (refine (IS.out _ _ rfl).mono ?_; rintro e w1 ⟨rfl, b1⟩; have b1 := hide (below_in ((Below.refl w.heap.size w).alloc (Nat.le_refl _) _) b1 (Nat.le_refl _))))
      | (go_at_call 15; go_must (refine (BE.out _ _ rfl).mono ?_; rintro e w2 ⟨rfl, b2⟩; have b2 := hide (below_in (b1.out.alloc b1.out.size _) b2 (Nat.le_refl _))))
      | (go_at_call 16; go_must (refine (SZ.out _).mono ?_; rintro e w3 ⟨rfl, rfl⟩))
      | (go_at_call 10; go_must (refine (AW.out _).mono ?_; rintro e w4 ⟨rfl, b4⟩)))
    go_ret
    exact ⟨rfl, below_in b2.out b4 (Nat.le_refl _)⟩
  · have IS := hide (show ∀ (W : World) (g : Nat) (hg : g = W.heap.size), Calls Try.prog 14 #[.slice (some ⟨g, 0, none⟩) 1 1] (W.alloc (.cells #[.int .u8 c] 5)) (RetB true (W.alloc (.cells #[.int .u8 c] 5))) from IS.out)
    clear hi hbe hs e hq hc hb BE
    go_enter Try.func4, Try.ntmps4
    go_wp2_with (first
      | (go_at_call 14; go_must (refine (IS.out _ _ rfl).mono ?_; rintro e w1 ⟨rfl, b1⟩; have b1 := hide (below_in ((Below.refl w.heap.size w).alloc (Nat.le_refl _) _) b1 (Nat.le_refl _))))
      | (go_at_call 16; go_must (refine (SZ.out _).mono ?_; rintro e w3 ⟨rfl, rfl⟩))
      | (go_at_call 10; go_must (refine (AW.out _).mono ?_; rintro e w4 ⟨rfl, b4⟩)))
    go_ret
    exact ⟨rfl, below_in b1.out b4 (Nat.le_refl _)⟩
  all_goals
    have IS := hide (show ∀ (W : World) (g : Nat) (hg : g = W.heap.size), Calls Try.prog 14 #[.slice (some ⟨g, 0, none⟩) 1 1] (W.alloc (.cells #[.int .u8 c] 5)) (RetB false (W.alloc (.cells #[.int .u8 c] 5))) from IS.out)
    have BE := hide (show ∀ (W : World) (g : Nat) (hg : g = W.heap.size), Calls Try.prog 15 #[.slice (some ⟨g, 0, none⟩) 1 1] (W.alloc (.cells #[.int .u8 c] 5)) (RetB true (W.alloc (.cells #[.int .u8 c] 5))) from BE.out)
    have hcs := size_cases (c := c) (by omega) (by omega) (by omega)
    have d1 : decide (224 ≤ c) = true ∨ decide (224 ≤ c) = false := by cases decide (224 ≤ c) <;> simp
    have e1 : (decide (224 ≤ c) = true) ↔ 3 ≤ sizeF c := by rw [decide_eq_true_iff, size_ge3]; omega
    have e2 : (decide (240 ≤ c) = true) ↔ 4 ≤ sizeF c := by rw [decide_eq_true_iff, size_ge4]; omega
    rw [e] at e1 e2
    simp only [Nat.reduceLeDiff, iff_true, iff_false, Bool.not_eq_true] at e1 e2
    clear hi hbe hs e hq hc hb hcs d1
    go_enter Try.func4, Try.ntmps4
    go_wp2_with (first
      | (go_at_call 14; go_must (refine (IS.out _ _ rfl).mono ?_; rintro e w1 ⟨rfl, b1⟩; have b1 := hide (below_in ((Below.refl w.heap.size w).alloc (Nat.le_refl _) _) b1 (Nat.le_refl _))))
      | (go_at_call 15; go_must (refine (BE.out _ _ rfl).mono ?_; rintro e w2 ⟨rfl, b2⟩; have b2 := hide (below_in (b1.out.alloc b1.out.size _) b2 (Nat.le_refl _))))
      | (go_at_call 16; go_must (refine (SZ.out _).mono ?_; rintro e w3 ⟨rfl, rfl⟩))
      | (go_at_call 10; go_must (refine (AW.out _).mono ?_; rintro e w4 ⟨rfl, b4⟩)))
    go_ret
    exact ⟨rfl, below_in b2.out b4 (Nat.le_refl _)⟩
end Go.Proofs.Ytlmgglkicdlchaa
