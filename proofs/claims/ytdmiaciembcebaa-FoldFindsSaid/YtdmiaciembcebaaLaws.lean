/-
  The walks of awake and of FoldWindows. No condition but what the arguments' kinds bear.
-/
import Derived.Test.YtdmiaciembcebaaLay2
import Derived.OpenShut
namespace Go.Proofs.Ytdmiaciembcebaa
open Go.RowKit Go.Proofs

theorem lay_example : layF 5 0 [(1, 4, 7)] = [(0, 0, 0), (1, 7, 3), (4, 0, 0)] := by decide
theorem right_example : rightF 5 0 [(1, 4, 7)] = true := by decide

set_option maxHeartbeats 1000000 in
theorem awake_any (w : World) : Calls Try.prog 8 #[] w fun e w' => e = .returned (.bool true) ∧ Below w.heap.size w w' := by
  have r0 : Rd (w.alloc (.cells #[.int .i64 1, .int .i64 4, .int .u64 7] 43)) (w.heap.size + 1) 3 (some ⟨w.heap.size, 0, none⟩) 1 ([((1, 4, 7) : Fd)].flatMap fdc) := rd_new rfl
  have L := hide (lay_right _ _ 1 5 [(1, 4, 7)] (w.alloc (.cells #[.int .i64 1, .int .i64 4, .int .u64 7] 43)) (by simpa using r0) (by omega) (by omega) (by omega) right_example)
  go_enter Try.func8, Try.ntmps8
  go_wp2_with (first
    | (go_at_call 13; go_must (refine L.out.mono ?_; intro e w1 PP; obtain ⟨v, N, rfl, own, hb⟩ := PP; obtain ⟨A, c, rfl⟩ := own_slice own; rw [lay_example] at own; have own' := own; have hN := own_len itc_len (by omega) own; have hz := hb.size; obtain rfl : N = 3 := hN))
    | (go_at_call 11; go_must (refine (same_any A _ 3 3 c 3 (w1.heap.size) (w1.heap.size + 1) [(0, 0, 0), (1, 7, 3), (4, 0, 0)] [(0, 0, 0), (1, 7, 3), (4, 0, 0)] _ ((Rd.of_own own).alloc (Nat.le_refl _) _) (rd_news (n := 3) (s := 3) rfl) (by omega) (by omega)).mono ?_; rintro e w2 ⟨rfl, k, rfl⟩)))
  go_ret
  exact ⟨ret_bool (by decide), below_drewN' ((((Below.refl _ _).alloc (Nat.le_refl _) _).trans (hb.mono (by simp))).alloc (by simp at hz; omega) _) _⟩

theorem winOf_len (l : List It) (top height : Int) : (winOf l top height).length ≤ l.length := by
  unfold winOf
  rw [List.length_take, List.length_drop]
  omega

set_option maxHeartbeats 1000000 in
theorem foldWindows_walk (w : World) (A : Option Addr) (n c : Nat) (l : List It) (hl : l.length = n) (hnc : n ≤ c) (_ : c ≤ maxLen) (ha : Rd w w.heap.size 3 A n (l.flatMap itc)) (_ : ∀ x ∈ l, True)
    (top : Int) (wt : (Lit.int .i64 top).wf = true) (height : Int) (wh : (Lit.int .i64 height).wf = true) :
    Calls Try.prog 3 #[.slice A n c, .int .i64 top, .int .i64 height] w fun e w' => e = .returned (.bool true) ∧ Below w.heap.size w w' := by
  by_cases h : 200 < n
  · have h' : decide ((200 : Int) < (n : Int)) = true := by simp; omega
    clear ha
    go_enter Try.func3, Try.ntmps3
    go_wp2_with (go_at_call 8; go_must (refine (awake_any _).mono ?_; rintro e w1 ⟨rfl, hb⟩))
    go_ret
    exact ⟨rfl, hb⟩
  · have h' : decide ((200 : Int) < (n : Int)) = false := by simp; omega
    have bt := bounds_i64 wt
    have bh := bounds_i64 wh
    have hW : (winOf l top height).length ≤ 200 := by have := winOf_len l top height; omega
    obtain ⟨t1, t2⟩ := bt
    obtain ⟨t3, t4⟩ := bh
    clear wt wh
    go_enter Try.func3, Try.ntmps3
    go_wp2_with (first
      | (go_at_call 8; go_must (refine (awake_any _).mono ?_; rintro e w1 ⟨rfl, hb1⟩; have z1 := hb1.size))
      | (go_at_call 9; go_must (refine (window_any A n c top height l w1 ((ha.below hb1).more z1) (by omega) hnc t1 t2 t3 t4).mono ?_; rintro e w2 ⟨v2, rfl, own2, hb2⟩; obtain ⟨A2, c2, rfl⟩ := own_slice own2; have z2 := hb2.size))
      | (go_at_call 10; go_must (refine (refwindow_any A n c top height l w2 (((ha.below hb1).more z1).below hb2 |>.more z2) (by omega) t1 t2 t3 t4).mono ?_; rintro e w3 ⟨v3, rfl, own3, hb3⟩; obtain ⟨A3, c3, rfl⟩ := own_slice own3; have z3 := hb3.size))
      | (go_at_call 11; go_must (refine (same_any A2 A3 _ _ c2 c3 w2.heap.size w3.heap.size _ _ w3 ((Rd.of_own own2).below hb3) (Rd.of_own own3) (by omega) (by omega)).mono ?_; rintro e w4 ⟨rfl, k, rfl⟩)))
    go_ret
    exact ⟨ret_bool (by simp), below_drewN' (((hb1.trans (hb2.mono z1)).trans (hb3.mono (by omega)))) _⟩
end Go.Proofs.Ytdmiaciembcebaa
