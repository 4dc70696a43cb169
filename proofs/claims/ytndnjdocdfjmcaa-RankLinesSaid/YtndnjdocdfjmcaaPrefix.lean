/-
  HasPrefix; what Top and Begins take, walked. No condition but bounds.
-/
import Derived.Test.YtndnjdocdfjmcaaUse2
namespace Go.Proofs.Ytndnjdocdfjmcaa
open Go.RowKit Go.Proofs
set_option linter.unusedVariables false
/-- Does a text begin so? -/
def pfxB (head t : ByteArray) : Bool := decide (head.size ≤ t.size) && ((t.extract 0 head.size).toList == head.toList)
set_option maxHeartbeats 1000000 in
theorem prefix_any (t head : ByteArray) (w : World) : Calls Try.prog 33 #[.string t, .string head] w fun e w' => e = .returned (.bool (pfxB head t)) ∧ w' = w := by
  obtain ⟨m, hm⟩ : ∃ m, t.size = m := ⟨_, rfl⟩
  obtain ⟨k, hk⟩ : ∃ k, head.size = k := ⟨_, rfl⟩
  have HB := hide (show pfxB head t = (decide (k ≤ m) && ((t.extract 0 k).toList == head.toList)) by unfold pfxB; rw [hm, hk])
  by_cases hle : k ≤ m
  · have d1 : decide (k ≤ m) = true := by simpa using hle
    have d2 : decide ((k : Int) ≤ m) = true := by simp; omega
    obtain ⟨B, hB⟩ : ∃ B, ((t.extract 0 k).toList == head.toList) = B := ⟨_, rfl⟩
    have HR := hide (show pfxB head t = B by rw [HB.out, d1, hB]; rfl)
    go_enter Try.func33, Try.ntmps33
    go_wp2
    go_ret
    exact ⟨by rw [HR.out]; rfl, rfl⟩
  · have d1 : decide (k ≤ m) = false := by simpa using hle
    have d2 : decide ((k : Int) ≤ m) = false := by simp; omega
    have HR := hide (show pfxB head t = false by rw [HB.out, d1]; rfl)
    go_enter Try.func33, Try.ntmps33
    go_wp2
    go_ret
    exact ⟨by rw [HR.out]; rfl, rfl⟩
set_option maxHeartbeats 1000000 in
theorem hasPrefix_any (t head : ByteArray) (w : World) : Calls Try.prog 28 #[.string t, .string head] w fun e w' => e = .returned (.bool (pfxB head t)) ∧ w' = w := by
  have P1 := hide (fun (W : World) => prefix_any t head W)
  go_enter Try.func28, Try.ntmps28
  go_wp2_with (go_at_call 33; go_must (refine (P1.out _).mono ?_; rintro e w1 ⟨rfl, rfl⟩))
  go_ret
  exact ⟨rfl, rfl⟩
set_option maxHeartbeats 1000000 in
theorem takesAll_any (t : ByteArray) (w : World) : Calls Try.prog 25 #[.string t] w fun e w' => e = .returned (.bool true) ∧ w' = w := by
  go_enter Try.func25, Try.ntmps25
  go_wp2
  go_ret
  exact ⟨rfl, rfl⟩
set_option maxHeartbeats 1000000 in
theorem takesPre_any (t head : ByteArray) (bx : Nat) (w : World) (hb : Blk w bx 9 #[.string head]) : Calls Try.prog 27 #[.string t, .pointer (some ⟨bx, 0, none⟩)] w fun e w' => e = .returned (.bool (pfxB head t)) ∧ w' = w := by
  have P1 := hide (fun (W : World) => hasPrefix_any t head W)
  have c0 := hb.cell 0
  simp at c0
  go_enter Try.func27, Try.ntmps27
  go_wp2_with (go_at_call 28; go_must (refine (P1.out _).mono ?_; rintro e w1 ⟨rfl, rfl⟩))
  go_ret
  exact ⟨rfl, rfl⟩
end Go.Proofs.Ytndnjdocdfjmcaa
