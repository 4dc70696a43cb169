/-
  The walks of both Sames and of one, over rows that are the same. No condition but bounds.
-/
import Derived.Test.YtailflbhcmgnpaaRing
import Derived.BigQuiet
namespace Go.Proofs.Ytailflbhcmgnpaa
open Go.RowKit Go.Proofs
set_option linter.unusedVariables false
theorem cell_neq (k : Int) (w : World) : (binOp .neq 45 (.agg #[.int .i32 k, .string ByteArray.empty, .int .i64 0, .int .i64 0, .int .i64 0, .int .i64 0, .int .i64 0, .int .i64 0]) (.agg #[.int .i32 k, .string ByteArray.empty, .int .i64 0, .int .i64 0, .int .i64 0, .int .i64 0, .int .i64 0, .int .i64 0])).run Try.prog w = .ok (.bool false) w := by
  simp [go_sem]
theorem same7_none (w : World) : Calls Try.prog 32 #[.slice none 0 0, .slice none 0 0] w fun e w' => e = .returned (.bool true) ∧ ∃ q, w' = w.drewN q := by
  go_enter Try.func32, Try.ntmps32
  go_wp2
  refine wp_loop_rounds 1 ?_
  rw [rounds_succ]
  go_wp2
  go_ret
  exact ⟨rfl, 0, rfl⟩
theorem cells8 {w : World} {b : Nat} {cs : Array Value} {k : Int} (h : Blk w b 45 cs) (ht : cs.toList.take 8 = cellK k) :
    w.cell? ⟨b, 0, none⟩ = some (.int .i32 k) ∧ w.cell? ⟨b, 1, none⟩ = some (.string ByteArray.empty) ∧ w.cell? ⟨b, 2, none⟩ = some (.int .i64 0) ∧ w.cell? ⟨b, 3, none⟩ = some (.int .i64 0) ∧ w.cell? ⟨b, 4, none⟩ = some (.int .i64 0) ∧ w.cell? ⟨b, 5, none⟩ = some (.int .i64 0) ∧ w.cell? ⟨b, 6, none⟩ = some (.int .i64 0) ∧ w.cell? ⟨b, 7, none⟩ = some (.int .i64 0) := by
  have hc : ∀ (i : Nat) (v : Value), (cellK k)[i]? = some v → w.cell? ⟨b, i, none⟩ = some v := fun i v hv => by
    rw [h.cell]
    rw [← ht, List.getElem?_take] at hv
    split at hv
    · simpa using hv
    · cases hv
  exact ⟨hc 0 _ rfl, hc 1 _ rfl, hc 2 _ rfl, hc 3 _ rfl, hc 4 _ rfl, hc 5 _ rfl, hc 6 _ rfl, hc 7 _ rfl⟩
set_option maxHeartbeats 1000000 in
theorem same7_some (b b' c c' : Nat) (cs cs' : Array Value) (k : Int) (w : World) (h : Blk w b 45 cs) (ht : cs.toList.take 8 = cellK k) (h' : Blk w b' 45 cs') (ht' : cs'.toList.take 8 = cellK k) :
    Calls Try.prog 32 #[.slice (some ⟨b, 0, none⟩) 1 c, .slice (some ⟨b', 0, none⟩) 1 c'] w fun e w' => e = .returned (.bool true) ∧ ∃ q, w' = w.drewN q := by
  obtain ⟨x0, x1, x2, x3, x4, x5, x6, x7⟩ := cells8 h ht
  obtain ⟨y0, y1, y2, y3, y4, y5, y6, y7⟩ := cells8 h' ht'
  have hne := cell_neq k
  clear ht ht'
  go_enter Try.func32, Try.ntmps32
  go_wp2
  refine wp_loop_rounds 2 ?_
  rw [rounds_succ]
  go_wp2
  go_quiet (fail)
  go_wp2
  rw [rounds_succ]
  go_wp2
  go_ret
  exact ⟨rfl, nq, rfl⟩
end Go.Proofs.Ytailflbhcmgnpaa
