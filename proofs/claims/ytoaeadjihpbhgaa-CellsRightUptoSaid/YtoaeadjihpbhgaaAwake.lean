/-
  awake, walked. No condition.
-/
import Derived.Test.YtoaeadjihpbhgaaAlone
namespace Go.Proofs.Ytoaeadjihpbhgaa
open Go.RowKit Go.Proofs
set_option linter.unusedVariables false
/-- The document's example. -/
def AW : List Cell := mendF (putIn 1 12354 ⟨0, 0, 0, 0, 0⟩ (mendF (List.replicate 5 (blankC 0 0))))
theorem AW_text : rowTextF AW = [32, 227, 129, 130] := by decide +kernel
theorem AW_used : usedF (mendF (eraseIn 2 3 0 0 (mendF AW))) = 0 := by decide +kernel
theorem AW_more : ∀ c ∈ AW, c.more.size ≤ 3000000 := by
  have h : AW.all (fun c => decide (c.more.size ≤ 3000000)) = true := by decide +kernel
  rw [List.all_eq_true] at h
  exact fun c hc => by simpa using h c hc
set_option maxRecDepth 100000 in
set_option maxHeartbeats 4000000 in
theorem awake_any (w : World) : Calls Try.prog 8 #[] w fun e w' => e = .returned (.bool true) ∧ Below w.heap.size w w' := by
  have C1 := hide (fun (W : World) => blanks_any 5 0 0 5 (by decide) W)
  have C2 := hide (fun (A : Option Addr) (c : Nat) (W : World) (h : Rd W W.heap.size 8 A 5 ((List.replicate 5 (blankC 0 0)).flatMap cellE)) => show Calls Try.prog 22 #[.slice A 5 c, .int .i64 1, .int .i32 12354, .agg #[.int .i64 0, .int .i64 0, .int .i64 0, .int .i64 0, .int .i64 0]] W (RetRow AW 5 W) from putc_any _ 5 c W.heap.size A 1 12354 ⟨0, 0, 0, 0, 0⟩ W h (Nat.le_refl _) (by omega))
  have C3 := hide (fun (A : Option Addr) (c : Nat) (W : World) (h : Rd W W.heap.size 8 A 5 (AW.flatMap cellE)) (hc : 5 ≤ c) => text_any AW 5 c W.heap.size A W h (Nat.le_refl _) (by omega) hc AW_more)
  have C4 := hide (fun (A : Option Addr) (c : Nat) (W : World) (h : Rd W W.heap.size 8 A 5 (AW.flatMap cellE)) => erasec_any AW 5 c W.heap.size A 2 3 0 0 W h (Nat.le_refl _) (by omega))
  have C5 := hide (fun (A : Option Addr) (c : Nat) (W : World) (h : Rd W W.heap.size 8 A 5 ((mendF (eraseIn 2 3 0 0 (mendF AW))).flatMap cellE)) => used_any _ 5 c W.heap.size A W h (Nat.le_refl _) (by omega))
  rw [AW_text] at C3
  rw [AW_used] at C5
  go_enter Try.func8, Try.ntmps8
  go_wp2_with (first
    | (go_at_call 9; go_must (refine (C1.out _).mono ?_; rintro e w1 ⟨A1, c1, rfl, o1, h1, b1⟩; have B1 := hide b1; have D2 := hide (C2.out A1 c1 w1 (Rd.of_own o1)); clear b1 o1))
    | (go_at_call 22; go_must (refine (D2.out).mono ?_; rintro e w2 ⟨A2, c2, rfl, o2, h2, b2⟩; have B2 := hide (below_in B1.out b2 (Nat.le_refl _)); have R2 := hide (Rd.of_own o2); have D3 := hide (C3.out A2 c2 w2 R2.out h2); clear b2 o2))
    | (go_at_call 13; go_must (refine (D3.out).mono ?_; rintro e w3 ⟨rfl, b3⟩; have B3 := hide (below_in B2.out b3 (Nat.le_refl _)); have D4 := hide (C4.out A2 c2 w3 (rd_call R2.out b3)); clear b3))
    | (go_at_call 23; go_must (refine (D4.out).mono ?_; rintro e w4 ⟨A4, c4, rfl, o4, h4, b4⟩; have B4 := hide (below_in B3.out b4 (Nat.le_refl _)); have D5 := hide (C5.out A4 c4 w4 (Rd.of_own o4)); clear b4 o4))
    | (go_at_call 15; go_must (refine (D5.out).mono ?_; rintro e w5 ⟨rfl, rfl⟩)))
  go_ret
  exact ⟨rfl, B4.out⟩
end Go.Proofs.Ytoaeadjihpbhgaa
