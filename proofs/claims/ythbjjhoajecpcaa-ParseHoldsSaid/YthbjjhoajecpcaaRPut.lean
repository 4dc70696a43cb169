/-
  The document's Put, walked. No condition but bounds.
-/
import Derived.Test.YthbjjhoajecpcaaRA
namespace Go.Proofs.Ythbjjhoajecpcaa
open Go.RowKit Go.Proofs
set_option linter.unusedVariables false
/-- A scalar's bytes. -/
def putF (r : Int) : List Int :=
  if scalarB r = false then [] else if r ≤ 127 then [r] else if r ≤ 2047 then [192 + r / 64, 128 + r % 64]
  else if r ≤ 65535 then [224 + r / 64 / 64, 128 + r / 64 % 64, 128 + r % 64]
  else [240 + r / 64 / 64 / 64, 128 + r / 64 / 64 % 64, 128 + r / 64 % 64, 128 + r % 64]
theorem scalarB_bd {r : Int} (h : scalarB r = true) : 0 ≤ r ∧ r ≤ 1114111 ∧ (r < 55296 ∨ 57343 < r) := by
  unfold scalarB at h
  simp at h
  omega
theorem putF_bytes (r : Int) : ∀ x ∈ putF r, IsByte x := by
  intro x hx
  unfold putF at hx
  unfold IsByte
  cases h : scalarB r with
  | false => rw [if_pos h] at hx; cases hx
  | true =>
    have hb := scalarB_bd h
    rw [if_neg (by rw [h]; simp)] at hx
    split at hx
    · simp at hx; omega
    · split at hx
      · simp at hx; omega
      · split at hx
        · simp at hx; omega
        · simp at hx; omega
theorem rd_blk {w : World} {g : Nat} {t : TypeId} {cs : Array Value} (h : Blk w g t cs) : Rd w (g + 1) 1 (some ⟨g, 0, none⟩) cs.size cs.toList :=
  ⟨by simp, fun _ => ⟨g, 0, rfl, by omega, fun j u hu => by rw [h.cell]; simpa using hu⟩⟩
/-- A slice handed back, to be read; memory of the call's own alone has come. -/
theorem ret_blk {w w' : World} {g : Nat} {t : TypeId} (l : List Int) {cs : Array Value} (h : Blk w' g t cs) (hc : cs.toList = l.map b8) (hb : Below w.heap.size w w') {n : Nat} (hn : l.length = n) : RetRd b8 l w (.returned (.slice (some ⟨g, 0, none⟩) n n)) w' := by
  have hs : cs.size = l.length := by have := congrArg List.length hc; simpa using this
  subst hn
  refine ⟨_, _, rfl, ?_, Nat.le_refl _, hb⟩
  have := (rd_blk h).more (Nat.succ_le_of_lt h.lt)
  rw [hs, hc] at this
  exact this
theorem Try.mk2 (w : World) : (Instr.makeSlice 22 (.int .i64 2) (.int .i64 2)).run Try.prog w = .ok (.slice (some ⟨w.heap.size, 0, none⟩) 2 2) (w.alloc (.cells #[.int .u8 0, .int .u8 0] 5)) := by kernel_rfl
theorem Try.mk3 (w : World) : (Instr.makeSlice 22 (.int .i64 3) (.int .i64 3)).run Try.prog w = .ok (.slice (some ⟨w.heap.size, 0, none⟩) 3 3) (w.alloc (.cells #[.int .u8 0, .int .u8 0, .int .u8 0] 5)) := by kernel_rfl
theorem Try.mk4 (w : World) : (Instr.makeSlice 22 (.int .i64 4) (.int .i64 4)).run Try.prog w = .ok (.slice (some ⟨w.heap.size, 0, none⟩) 4 4) (w.alloc (.cells #[.int .u8 0, .int .u8 0, .int .u8 0, .int .u8 0] 5)) := by kernel_rfl
set_option maxRecDepth 100000 in
set_option maxHeartbeats 2000000 in
theorem rput_any (r : Int) (w : World) : Calls Try.prog 60 #[.int .i32 r] w (RetRd b8 (putF r) w) := by
  have SC := hide (fun (W : World) => scalar_any r W)
  cases hs : scalarB r with
  | false =>
    rw [hs] at SC
    have HP := hide (show putF r = [] by unfold putF; rw [if_pos hs])
    clear hs
    go_enter Try.func60, Try.ntmps60
    go_wp2_with (go_at_call 68; go_must (refine (SC.out _).mono ?_; rintro e w1 ⟨rfl, rfl⟩))
    go_ret
    rw [HP.out]
    exact ⟨none, 0, rfl, Rd.nil, Nat.le_refl _, Below.refl _ _⟩
  | true =>
    rw [hs] at SC
    obtain ⟨b0, b1, b2⟩ := scalarB_bd hs
    have b2 := hide b2
    by_cases a1 : r ≤ 127
    · have HP := hide (show putF r = [r] by unfold putF; rw [if_neg (by rw [hs]; simp), if_pos a1])
      clear hs
      go_enter Try.func60, Try.ntmps60
      go_wp2_with (go_at_call 68; go_must (refine (SC.out _).mono ?_; rintro e w1 ⟨rfl, rfl⟩))
      refine wp_loop_rounds 4 ?_
      rw [rounds_succ]
      go_wp2
      rw [rounds_succ]
      go_wp2
      rw [rounds_succ]
      go_wp2
      rw [rounds_succ]
      go_wp2
      go_ret
      rw [HP.out]
      refine ret_blk [r] (Blk.new' (by simp) 5 #[.int .u8 r]) rfl ?_ rfl
      exact ((Below.refl _ _).alloc (Nat.le_refl _) _).alloc (by simp) _
    · by_cases a2 : r ≤ 2047
      · have HP := hide (show putF r = [192 + r / 64, 128 + r % 64] by unfold putF; rw [if_neg (by rw [hs]; simp), if_neg a1, if_pos a2])
        have w1 : IntKind.u8.wrap (192 + r / 64) = 192 + r / 64 := IntWalk.u8_in _ ⟨by omega, by omega⟩
        have w2 : IntKind.u8.wrap (128 + r % 64) = 128 + r % 64 := IntWalk.u8_in _ ⟨by omega, by omega⟩
        have mk := Try.mk2
        clear hs
        go_enter Try.func60, Try.ntmps60
        go_wp2_with (go_at_call 68; go_must (refine (SC.out _).mono ?_; rintro e w1 ⟨rfl, rfl⟩))
        refine wp_loop_rounds 4 ?_
        rw [rounds_succ]
        go_wp2
        rw [rounds_succ]
        go_wp2
        rw [rounds_succ]
        go_wp2
        rw [rounds_succ]
        go_wp2
        refine wp_loop_rounds 2 ?_
        rw [rounds_succ]
        go_wp2
        rw [rounds_succ]
        go_wp2
        go_ret
        rw [HP.out]
        refine ret_blk _ ((Blk.new' (by simp) 5 _).alloc _) rfl ?_ rfl
        exact (((Below.refl _ _).alloc (Nat.le_refl _) _).alloc (by simp) _).alloc (by simp; omega) _
      · by_cases a3 : r ≤ 65535
        · have HP := hide (show putF r = [224 + r / 64 / 64, 128 + r / 64 % 64, 128 + r % 64] by unfold putF; rw [if_neg (by rw [hs]; simp), if_neg a1, if_neg a2, if_pos a3])
          have w1 : IntKind.u8.wrap (224 + r / 64 / 64) = 224 + r / 64 / 64 := IntWalk.u8_in _ ⟨by omega, by omega⟩
          have w2 : IntKind.u8.wrap (128 + r / 64 % 64) = 128 + r / 64 % 64 := IntWalk.u8_in _ ⟨by omega, by omega⟩
          have w3 : IntKind.u8.wrap (128 + r % 64) = 128 + r % 64 := IntWalk.u8_in _ ⟨by omega, by omega⟩
          have mk := Try.mk3
          clear hs
          go_enter Try.func60, Try.ntmps60
          go_wp2_with (go_at_call 68; go_must (refine (SC.out _).mono ?_; rintro e w1 ⟨rfl, rfl⟩))
          refine wp_loop_rounds 4 ?_
          rw [rounds_succ]
          go_wp2
          rw [rounds_succ]
          go_wp2
          rw [rounds_succ]
          go_wp2
          rw [rounds_succ]
          go_wp2
          refine wp_loop_rounds 3 ?_
          rw [rounds_succ]
          go_wp2
          rw [rounds_succ]
          go_wp2
          rw [rounds_succ]
          go_wp2
          go_ret
          rw [HP.out]
          refine ret_blk _ ((Blk.new' (by simp) 5 _).alloc _) rfl ?_ rfl
          exact (((Below.refl _ _).alloc (Nat.le_refl _) _).alloc (by simp) _).alloc (by simp; omega) _
        · have HP := hide (show putF r = [240 + r / 64 / 64 / 64, 128 + r / 64 / 64 % 64, 128 + r / 64 % 64, 128 + r % 64] by unfold putF; rw [if_neg (by rw [hs]; simp), if_neg a1, if_neg a2, if_neg a3])
          have w1 : IntKind.u8.wrap (240 + r / 64 / 64 / 64) = 240 + r / 64 / 64 / 64 := IntWalk.u8_in _ ⟨by omega, by omega⟩
          have w2 : IntKind.u8.wrap (128 + r / 64 / 64 % 64) = 128 + r / 64 / 64 % 64 := IntWalk.u8_in _ ⟨by omega, by omega⟩
          have w3 : IntKind.u8.wrap (128 + r / 64 % 64) = 128 + r / 64 % 64 := IntWalk.u8_in _ ⟨by omega, by omega⟩
          have w4 : IntKind.u8.wrap (128 + r % 64) = 128 + r % 64 := IntWalk.u8_in _ ⟨by omega, by omega⟩
          have mk := Try.mk4
          clear hs
          go_enter Try.func60, Try.ntmps60
          go_wp2_with (go_at_call 68; go_must (refine (SC.out _).mono ?_; rintro e w1 ⟨rfl, rfl⟩))
          refine wp_loop_rounds 4 ?_
          rw [rounds_succ]
          go_wp2
          rw [rounds_succ]
          go_wp2
          rw [rounds_succ]
          go_wp2
          rw [rounds_succ]
          go_wp2
          refine wp_loop_rounds 4 ?_
          rw [rounds_succ]
          go_wp2
          rw [rounds_succ]
          go_wp2
          rw [rounds_succ]
          go_wp2
          rw [rounds_succ]
          go_wp2
          go_ret
          rw [HP.out]
          refine ret_blk _ ((Blk.new' (by simp) 5 _).alloc _) rfl ?_ rfl
          exact (((Below.refl _ _).alloc (Nat.le_refl _) _).alloc (by simp) _).alloc (by simp; omega) _
end Go.Proofs.Ythbjjhoajecpcaa
