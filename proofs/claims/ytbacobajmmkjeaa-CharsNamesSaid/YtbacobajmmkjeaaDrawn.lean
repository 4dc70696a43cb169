/-
  The tables of chars and of its reference. No condition.
-/
import Derived.Test.YtbacobajmmkjeaaBase
import Derived.Test.YtbacobajmmkjeaaWide
import Derived.Test.YtbacobajmmkjeaaProg
namespace Go.Proofs.Ytbacobajmmkjeaa
open Go.RowKit Go.Proofs
set_option linter.unusedVariables false

def drawnL : List Int := [9670, 9618, 9225, 9228, 9229, 9226, 176, 177, 9252, 9227, 9496, 9488, 9484, 9492, 9532, 9146, 9147, 9472, 9148, 9149, 9500, 9508, 9524, 9516, 9474, 8804, 8805, 960, 8800, 163, 183]
/-- The table as a value: kept closed. -/
def drawnV : Array Value := #[.int .i32 9670, .int .i32 9618, .int .i32 9225, .int .i32 9228, .int .i32 9229, .int .i32 9226, .int .i32 176, .int .i32 177, .int .i32 9252, .int .i32 9227, .int .i32 9496, .int .i32 9488, .int .i32 9484, .int .i32 9492, .int .i32 9532, .int .i32 9146, .int .i32 9147, .int .i32 9472, .int .i32 9148, .int .i32 9149, .int .i32 9500, .int .i32 9508, .int .i32 9524, .int .i32 9516, .int .i32 9474, .int .i32 8804, .int .i32 8805, .int .i32 960, .int .i32 8800, .int .i32 163, .int .i32 183]
theorem drawnV_one : ∀ v ∈ drawnV.toList, v.oneCell' = true := by
  intro v hv
  have h : ∀ x ∈ drawnV.toList, (match x with | .int _ _ => true | _ => false) = true := by decide
  have := h v hv
  cases v <;> simp_all [Value.oneCell']
theorem drawnV_get (n : Nat) (h : n < 31) : drawnV[n]? = some (.int .i32 (drawnL.getD n 0)) := by
  have e : drawnV = (drawnL.map (Value.int .i32)).toArray := rfl
  have hl : drawnL.length = 31 := rfl
  rw [e, List.getElem?_toArray, List.getElem?_map, List.getElem?_eq_getElem (by omega), List.getD_eq_getElem?_getD, List.getElem?_eq_getElem (by omega)]
  rfl
theorem drawn_at (k : Int) (h0 : 0 ≤ k) (h1 : k < 31) (w : World) : (Instr.index 52 (.agg drawnV) (.int .i32 k)).run Try.prog w = .ok (.int .i32 (drawnL.getD k.toNat 0)) w := by
  obtain ⟨n, rfl⟩ := Int.eq_ofNat_of_zero_le h0
  have hn : n < 31 := by omega
  have e : drawnV = (drawnL.map (Value.int .i32)).toArray := rfl
  have hl : drawnL.length = 31 := rfl
  have hs : drawnV[n]? = some (.int .i32 (drawnL.getD n 0)) := by
    rw [e, List.getElem?_toArray, List.getElem?_map, List.getElem?_eq_getElem (by omega), List.getD_eq_getElem?_getD, List.getElem?_eq_getElem (by omega)]
    rfl
  generalize drawnV = V at hs
  simp [Instr.index, asIntOf, run_underlying Try.underlying52, hn, go_sem]
  rw [hs]
  simp
set_option maxHeartbeats 2000000 in
theorem drawn_any (w : World) : Calls Try.prog 27 #[] w fun e w' => e = .returned (.agg drawnV) ∧ Below w.heap.size w w' := by
  go_enter Try.func27, Try.ntmps27
  go_wp2_with (refine wpList_store_new rfl 52 _ _ rfl drawnV rfl rfl rfl rfl (by kernel_rfl) drawnV_one ?_)
  exact bodyPost_ret (v := .agg drawnV) (results_cell_row rfl _ _ w.heap.size 52 drawnV (0, 0) _ rfl (heap_alloc_new _ _) Try.underlying52 rfl (by kernel_rfl)) rfl ⟨rfl, (Below.refl _ _).alloc (Nat.le_refl _) _⟩
set_option maxHeartbeats 2000000 in
theorem lines_any (w : World) : Calls Try.prog 26 #[] w fun e w' => e = .returned (.slice (some ⟨w.heap.size, 0, none⟩) 31 31) ∧ Blk w' w.heap.size 21 drawnV ∧ Below w.heap.size w w' := by
  go_enter Try.func26, Try.ntmps26
  go_wp2_with fail
  go_ret
  exact ⟨rfl, Blk.new _ _ _, (Below.refl _ _).alloc (Nat.le_refl _) _⟩
end Go.Proofs.Ytbacobajmmkjeaa
