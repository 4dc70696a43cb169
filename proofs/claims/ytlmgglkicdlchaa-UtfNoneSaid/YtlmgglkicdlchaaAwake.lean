/-
  awake, walked. No condition.
-/
import Derived.Test.YtlmgglkicdlchaaAllU
namespace Go.Proofs.Ytlmgglkicdlchaa
open Go.RowKit Go.Proofs
set_option linter.unusedVariables false
theorem ret_n {α : Type} {f : α → Value} {l : List α} {e : TypeId} {w w' : World} {en : Ending} {n : Nat} (h : RetSlice e 1 (l.map f) w en w') (hn : l.length = n) : ∃ A c, en = .returned (.slice A n c) ∧ w'.ownsRow w.heap.size e 1 (.slice A n c) n (l.map f) ∧ n ≤ c ∧ Below w.heap.size w w' := by
  obtain ⟨A, N, c, rfl, hown, hb⟩ := h
  obtain rfl : N = l.length := own_len1 hown
  subst hn
  exact ⟨A, c, rfl, hown, (own_cap hown).1, hb⟩
/-- A slice just built, to be read. -/
theorem rd_lit {α : Type} (f : α → Value) (l : List α) {n : Nat} {cs : Array Value} (hn : l.length = n) (hc : cs = (l.map f).toArray) (W : World) (e : TypeId) (g : Nat) (hg : g = W.heap.size) : Rd (W.alloc (.cells cs e)) (W.alloc (.cells cs e)).heap.size 1 (some ⟨g, 0, none⟩) n (l.map f) := by
  subst hn hc hg
  have := rd_built f l W e
  rwa [World.size_alloc]
theorem all_lit (l : List Int) {n : Nat} {cs : Array Value} (hn : l.length = n) (hc : cs = (l.map b8).toArray) (hq : ∀ x ∈ l, IsByte x) (h1 : n ≤ 1000000) (W : World) (g : Nat) (hg : g = W.heap.size) :
    Calls Try.prog 12 #[.slice (some ⟨g, 0, none⟩) n n] (W.alloc (.cells cs 5)) (RetSlice 21 1 ((allF l).map r32) (W.alloc (.cells cs 5))) :=
  all_any l _ n n _ (rd_lit b8 l hn hc W 5 g hg) hq h1
set_option maxRecDepth 100000 in
set_option maxHeartbeats 4000000 in
theorem awake_any (w : World) : Calls Try.prog 10 #[] w fun e w' => e = .returned (.bool true) ∧ Below w.heap.size w w' := by
  have a1 : allF [226, 130, 65] = [65533, 65] := by decide
  have a2 : allF [240, 159, 152, 128] = [128512] := by decide
  have A1 := all_lit [226, 130, 65] (n := 3) rfl (cs := #[.int .u8 226, .int .u8 130, .int .u8 65]) rfl (by unfold IsByte; decide) (by omega)
  have A2 := all_lit [240, 159, 152, 128] (n := 4) rfl (cs := #[.int .u8 240, .int .u8 159, .int .u8 152, .int .u8 128]) rfl (by unfold IsByte; decide) (by omega)
  rw [a1] at A1
  rw [a2] at A2
  have A1 := hide A1
  have A2 := hide A2
  clear a1 a2
  have R1 := hide (fun W g hg => rd_lit r32 [65533, 65] (n := 2) (cs := #[.int .i32 65533, .int .i32 65]) rfl rfl W 21 g hg)
  have R2 := hide (fun W g hg => rd_lit r32 [128512] (n := 1) (cs := #[.int .i32 128512]) rfl rfl W 21 g hg)
  have SA := hide (fun (xs : List Int) (A A' : Option Addr) (n n' c c' B B' : Nat) (W : World) (ha : Rd W B 1 A n (xs.map r32)) (hb : Rd W B' 1 A' n' (xs.map r32)) (hn : n ≤ 1000000) => show Calls Try.prog 11 #[.slice A n c, .slice A' n' c'] W fun e w' => e = .returned (.bool true) ∧ Below W.heap.size W w' by
    have := same_any xs xs A A' n n' c c' W ha hb hn
    rwa [show (xs == xs) = true by simp] at this)
  go_enter Try.func10, Try.ntmps10
  go_wp2_with (first
    | (go_at_call_of 12 (3 : Nat); (with_reducible refine (A1.out _ _ (by simp)).mono ?_); intro e w1 h; obtain ⟨B1, k1, rfl, hown1, _, b1⟩ := ret_n (n := 2) h rfl; have b1 := hide (below_in ((Below.refl w.heap.size w).alloc (Nat.le_refl _) _) b1 (Nat.le_refl _)))
    | (go_at_call_of 11 (2 : Nat); (with_reducible refine (SA.out _ _ _ 2 2 _ _ _ _ _ ((Rd.of_own hown1).alloc (Nat.le_refl _) _) (R1.out w1 _ (by simp)) (by omega)).mono ?_); rintro e w2 ⟨rfl, b2⟩; have b2 := hide (below_in (b1.out.alloc b1.out.size _) b2 (Nat.le_refl _)))
    | (go_at_call_of 12 (4 : Nat); (with_reducible refine (A2.out _ _ (by simp)).mono ?_); intro e w3 h; obtain ⟨B3, k3, rfl, hown3, _, b3⟩ := ret_n (n := 1) h rfl; have b3 := hide (below_in (b2.out.alloc b2.out.size _) b3 (Nat.le_refl _)))
    | (go_at_call_of 11 (1 : Nat); (with_reducible refine (SA.out _ _ _ 1 1 _ _ _ _ _ ((Rd.of_own hown3).alloc (Nat.le_refl _) _) (R2.out w3 _ (by simp)) (by omega)).mono ?_); rintro e w4 ⟨rfl, b4⟩))
  go_ret
  exact ⟨rfl, below_in (b3.out.alloc b3.out.size _) b4 (Nat.le_refl _)⟩
end Go.Proofs.Ytlmgglkicdlchaa
