/-
  awake, WidthOf, WidthText, WidthClusters, walked. No condition but what the arguments' kinds bear.
-/
import Derived.Test.YtbaapdhfbhnlcaaClu
import Derived.Test.YtbaapdhfbhnlcaaFrame
namespace Go.Proofs.Ytbaapdhfbhnlcaa
open Go.RowKit Go.Proofs
set_option linter.unusedVariables false
def exL : List Int := [97, 769, 12354]
theorem ex_nb1 : nb exL 1 = false := by decide
theorem ex_nb2 : nb exL 2 = true := by decide
theorem ex_end : endF exL 0 = 2 := by
  unfold endF
  rw [nextB_miss (by decide) ex_nb1, nextB_hit (by decide) ex_nb2]
theorem ex_fits {r : Nat} (h : Fits exL 2 r) : r = 2 := by
  obtain ⟨h1, h2, _, h4⟩ := h
  obtain ⟨h5, h6⟩ := h4 (by omega)
  have hl : exL.length = 3 := rfl
  rw [hl] at h1 h2 h6
  match r, h1 with
  | 0, _ =>
    rw [ex_end] at h6
    have : textF (exL.take 2) = 1 := by decide
    omega
  | 1, _ => rw [ex_nb1] at h2; simp at h2
  | 2, _ => rfl
  | 3, _ => have : textF (exL.take 3) = 3 := by decide
            omega
set_option maxHeartbeats 1000000 in
theorem awake_any (w : World) : Calls Try.prog 11 #[] w fun e w' => e = .returned (.bool true) ∧ Below w.heap.size w w' := by
  have T := hide (fun (W : World) => (text_any exL 3 3 (some ⟨W.heap.size, 0, none⟩) (W.alloc (.cells #[.int .i32 97, .int .i32 769, .int .i32 12354] 21)) (by have := rd_built rn exL W 21; simpa [exL, rn] using this) (by omega)).mono fun e w' h => show e = .returned (.int .i64 3) ∧ Below (W.alloc (.cells #[.int .i32 97, .int .i32 769, .int .i32 12354] 21)).heap.size _ w' by rw [show textF exL = 3 by decide] at h; exact h)
  have F := hide (fun (W : World) => (fit_any exL 2 3 3 (some ⟨W.heap.size, 0, none⟩) (W.alloc (.cells #[.int .i32 97, .int .i32 769, .int .i32 12354] 21)) (by have := rd_built rn exL W 21; simpa [exL, rn] using this) (by omega) (by omega) (by omega)).mono fun e w' h => show e = .returned (.int .i64 2) ∧ Below (W.alloc (.cells #[.int .i32 97, .int .i32 769, .int .i32 12354] 21)).heap.size _ w' by obtain ⟨r, he, hf, hb⟩ := h; rw [ex_fits hf] at he; exact ⟨he, hb⟩)
  have C := hide (fun (W : World) => (clus_any exL 3 3 (some ⟨W.heap.size, 0, none⟩) (W.alloc (.cells #[.int .i32 97, .int .i32 769, .int .i32 12354] 21)) (by have := rd_built rn exL W 21; simpa [exL, rn] using this) (by omega) (by omega)).mono fun e w' h => show (∃ A c, e = .returned (.slice A 2 c)) ∧ Below (W.alloc (.cells #[.int .i32 97, .int .i32 769, .int .i32 12354] 21)).heap.size _ w' by
    obtain ⟨A, c, cells, he, _, _, hb⟩ := h
    rw [show (clF exL 3).length = 2 by rw [clF_len]; decide] at he
    exact ⟨⟨A, c, he⟩, hb⟩)
  go_enter Try.func11, Try.ntmps11
  go_wp2_with (first
    | (go_at_call 12; go_must (refine (T.out _).mono ?_; rintro e w1 ⟨rfl, b1⟩))
    | (go_at_call 17; go_must (refine (F.out _).mono ?_; rintro e w2 ⟨rfl, b2⟩))
    | (go_at_call 14; go_must (refine (C.out _).mono ?_; rintro e w3 ⟨⟨A, c, rfl⟩, b3⟩)))
  go_ret
  have h1 := below_in ((Below.refl w.heap.size w).alloc (Nat.le_refl _) _) b1 (Nat.le_refl _)
  have h2 := below_in (h1.alloc h1.size _) b2 (Nat.le_refl _)
  exact ⟨rfl, below_in (h2.alloc h2.size _) b3 (Nat.le_refl _)⟩
theorem widthOf_walk (w : World) (r : Int) (wr : (Lit.int .i32 r).wf = true) :
    Calls Try.prog 3 #[.int .i32 r] w fun e w' => e = .returned (.bool true) ∧ Below w.heap.size w w' := by
  have A := hide awake_any
  have O := hide (fun W => of_any r W)
  have R := hide (fun W => rof_any r W)
  clear wr
  go_enter Try.func3, Try.ntmps3
  go_wp2_with (first
    | (go_at_call 9; go_must (refine (O.out _).mono ?_; rintro e w1 ⟨rfl, b1⟩))
    | (go_at_call 10; go_must (refine (R.out _).mono ?_; rintro e w2 ⟨rfl, b2⟩))
    | (go_at_call 11; go_must (refine (A.out _).mono ?_; rintro e w3 ⟨rfl, b3⟩)))
  go_ret
  exact ⟨rfl, below_in (below_in b1 b2 (Nat.le_refl _)) b3 (Nat.le_refl _)⟩
set_option maxHeartbeats 1000000 in
theorem widthText_walk (w : World) (A : Option Addr) (n c : Nat) (l : List Int) (e : l.length = n) (f : n ≤ c) (g : c ≤ maxLen) (h : Rd w w.heap.size 1 A n (l.map rn)) (q : ∀ x ∈ l, True) :
    Calls Try.prog 4 #[.slice A n c] w fun e w' => e = .returned (.bool true) ∧ Below w.heap.size w w' := by
  have W := hide awake_any
  unfold maxLen at g
  clear q e
  by_cases hn : n ≤ 200
  · have T := hide (fun W h => text_any l n c A W h (by omega))
    have R := hide (fun W h => rtext_any l n c A W h (by omega))
    go_enter Try.func4, Try.ntmps4
    go_wp2_with (first
      | (go_at_call 12; go_must (refine (T.out _ h).mono ?_; rintro e w1 ⟨rfl, b1⟩; have h1 := rd_call h b1))
      | (go_at_call 13; go_must (refine (R.out _ h1).mono ?_; rintro e w2 ⟨rfl, b2⟩))
      | (go_at_call 11; go_must (refine (W.out _).mono ?_; rintro e w3 ⟨rfl, b3⟩)))
    go_ret
    exact ⟨rfl, below_in (below_in b1 b2 (Nat.le_refl _)) b3 (Nat.le_refl _)⟩
  · go_enter Try.func4, Try.ntmps4
    go_wp2_with (go_at_call 11; go_must (refine (W.out _).mono ?_; rintro e w3 ⟨rfl, b3⟩))
    all_goals first | (go_ret; exact ⟨rfl, b3⟩) | (exfalso; omega)
end Go.Proofs.Ytbaapdhfbhnlcaa
