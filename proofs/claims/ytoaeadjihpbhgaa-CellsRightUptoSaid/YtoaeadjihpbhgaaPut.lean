/-
  Put, walked. No condition but bounds.
-/
import Derived.Test.YtoaeadjihpbhgaaAll
namespace Go.Proofs.Ytoaeadjihpbhgaa
open Go.RowKit Go.Proofs
set_option linter.unusedVariables false
theorem wrap_u8 (x : Int) : IntKind.u8.wrap x = x % 256 := by simp [IntKind.wrap, IntKind.bits, IntKind.signed]
theorem tail_eq (x : Int) (h0 : 0 ≤ x) : bits .or .u8 128 (bits .and .u8 (x % 256) 63) = 128 + x % 64 := by
  rw [u8_and63 _ (by omega) (by omega), u8_or128 _ (by omega) (by omega)]
  omega
set_option maxHeartbeats 1000000 in
theorem tail0 (r : Int) (g : Nat) (w : World) (h0 : 0 ≤ r) (h1 : r ≤ 1114111) (hc : w.cell? ⟨g, 0, none⟩ = some (.int .i32 r)) : Calls Try.prog 52 #[.int .i64 0, .pointer (some ⟨g, 0, none⟩)] w fun e w' => e = .returned (.int .u8 (128 + r % 64)) ∧ w = w' := by
  have HT := hide (tail_eq r h0)
  go_enter Try.func52, Try.ntmps52
  go_wp2
  go_ret
  exact ⟨rfl, rfl⟩
set_option maxHeartbeats 1000000 in
theorem tail1 (r : Int) (g : Nat) (w : World) (h0 : 0 ≤ r) (h1 : r ≤ 1114111) (hc : w.cell? ⟨g, 0, none⟩ = some (.int .i32 r)) : Calls Try.prog 52 #[.int .i64 1, .pointer (some ⟨g, 0, none⟩)] w fun e w' => e = .returned (.int .u8 (128 + r / 64 % 64)) ∧ w = w' := by
  have HT := hide (tail_eq (r / 64) (by omega))
  go_enter Try.func52, Try.ntmps52
  go_wp2
  go_ret
  exact ⟨rfl, rfl⟩
set_option maxHeartbeats 1000000 in
theorem tail2 (r : Int) (g : Nat) (w : World) (h0 : 0 ≤ r) (h1 : r ≤ 1114111) (hc : w.cell? ⟨g, 0, none⟩ = some (.int .i32 r)) : Calls Try.prog 52 #[.int .i64 2, .pointer (some ⟨g, 0, none⟩)] w fun e w' => e = .returned (.int .u8 (128 + r / 64 / 64 % 64)) ∧ w = w' := by
  have HT := hide (show r / 64 / 64 = r / 4096 by omega)
  rw [HT.out]
  go_enter Try.func52, Try.ntmps52
  go_wp2
  go_ret
  exact ⟨rfl, rfl⟩
theorem conv_new {l : List Int} {n : Nat} (hn : l.length = n) {cs : Array Value} (hc : cs = (l.map b8).toArray) (W : World) (g : Nat) (hg : g = W.heap.size) : (convert 51 9 (.slice (some ⟨g, 0, none⟩) n n)).run Try.prog (W.alloc (.cells cs 5)) = .ok (.string (strOfNums l)) (W.alloc (.cells cs 5)) := by
  subst hn hc hg
  exact conv_str (rd_built b8 l W 5)
theorem conv_newd {l : List Int} {n : Nat} (hn : l.length = n) {cs : Array Value} (hc : cs = (l.map b8).toArray) (W : World) (g : Nat) (hg : g = W.heap.size) : (convert 51 9 (.slice (some ⟨g, 0, none⟩) n n)).run Try.prog ((W.alloc (.cells cs 5)).drew) = .ok (.string (strOfNums l)) ((W.alloc (.cells cs 5)).drew) := by
  subst hn hc hg
  exact conv_str (rd_built b8 l W 5).drew
/-- A string handed back; memory of the call's own alone has come. -/
def RetS (l : List Int) (w : World) (e : Ending) (w' : World) : Prop := e = .returned (.string (strOfNums l)) ∧ Below w.heap.size w w'
set_option maxRecDepth 100000 in
set_option maxHeartbeats 4000000 in
theorem put_any (r : Int) (w : World) : Calls Try.prog 34 #[.int .i32 r] w (RetS (putF r) w) := by
  have SC := hide (fun (W : World) => scalar2_any r W)
  cases hs : scalarB r with
  | false =>
    rw [hs] at SC
    have HP := hide (show putF r = [] by unfold putF; rw [if_pos hs])
    clear hs
    go_enter Try.func34, Try.ntmps34
    go_wp2_with (go_at_call 53; go_must (refine (SC.out _).mono ?_; rintro e w1 ⟨rfl, rfl⟩))
    go_ret
    rw [HP.out]
    exact ⟨rfl, (Below.refl _ _).alloc (Nat.le_refl _) _⟩
  | true =>
    rw [hs] at SC
    obtain ⟨b0, b1, b2⟩ := scalarB_bd hs
    have b2 := hide b2
    by_cases a1 : r ≤ 127
    · have HP := hide (show putF r = [r] by unfold putF; rw [if_neg (by rw [hs]; simp), if_pos a1])
      have cv := conv_new (l := [r]) (n := 1) rfl (cs := #[.int .u8 r]) rfl
      have a2 : r < 128 := by omega
      clear hs
      go_enter Try.func34, Try.ntmps34
      go_wp2_with (go_at_call 53; go_must (refine (SC.out _).mono ?_; rintro e w1 ⟨rfl, rfl⟩))
      go_ret
      rw [HP.out]
      exact ⟨rfl, ((Below.refl _ _).alloc (Nat.le_refl _) _).alloc (by simp) _⟩
    · by_cases a2 : r ≤ 2047
      · have HP := hide (show putF r = [192 + r / 64, 128 + r % 64] by unfold putF; rw [if_neg (by rw [hs]; simp), if_neg a1, if_pos a2])
        have cv := conv_newd (l := [192 + r / 64, 128 + r % 64]) (n := 2) rfl (cs := #[.int .u8 (192 + r / 64), .int .u8 (128 + r % 64)]) rfl
        have d1 : ¬ r < 128 := by omega
        have d2 : r < 2048 := by omega
        have e1 : IntKind.u8.wrap (r / 64) = r / 64 := IntWalk.u8_in _ ⟨by omega, by omega⟩
        have e2 : bits .or .u8 192 (r / 64) = 192 + r / 64 := u8_or192 _ (by omega) (by omega)
        have T0 := hide (fun (W : World) (g : Nat) (h : W.cell? ⟨g, 0, none⟩ = some (.int .i32 r)) => tail0 r g W b0 b1 h)
        clear hs
        go_enter Try.func34, Try.ntmps34
        go_upto_region 7 with (go_at_call 53; go_must (refine (SC.out _).mono ?_; rintro e w1 ⟨rfl, rfl⟩))
        go_region_with (first
          | (go_at_call 52; go_must (refine (T0.out _ _ (by simp)).mono ?_; rintro e w2 ⟨rfl, rfl⟩)))
        all_goals
          go_wp2
          go_ret
          rw [HP.out]
          exact ⟨rfl, (((Below.refl _ _).alloc (Nat.le_refl _) _).alloc (by simp) _).drew⟩
      · by_cases a3 : r ≤ 65535
        · have HP := hide (show putF r = [224 + r / 64 / 64, 128 + r / 64 % 64, 128 + r % 64] by unfold putF; rw [if_neg (by rw [hs]; simp), if_neg a1, if_neg a2, if_pos a3])
          have cv := conv_newd (l := [224 + r / 64 / 64, 128 + r / 64 % 64, 128 + r % 64]) (n := 3) rfl (cs := #[.int .u8 (224 + r / 64 / 64), .int .u8 (128 + r / 64 % 64), .int .u8 (128 + r % 64)]) rfl
          have d1 : ¬ r < 128 := by omega
          have d2 : ¬ r < 2048 := by omega
          have d3 : r < 65536 := by omega
          have e1 : IntKind.u8.wrap (r / 4096) = r / 4096 := IntWalk.u8_in _ ⟨by omega, by omega⟩
          have e2 : bits .or .u8 224 (r / 4096) = 224 + r / 64 / 64 := by rw [u8_or224 _ (by omega) (by omega)]; omega
          have T0 := hide (fun (W : World) (g : Nat) (h : W.cell? ⟨g, 0, none⟩ = some (.int .i32 r)) => tail0 r g W b0 b1 h)
          have T1 := hide (fun (W : World) (g : Nat) (h : W.cell? ⟨g, 0, none⟩ = some (.int .i32 r)) => tail1 r g W b0 b1 h)
          clear hs
          go_enter Try.func34, Try.ntmps34
          go_upto_region 9 with (go_at_call 53; go_must (refine (SC.out _).mono ?_; rintro e w1 ⟨rfl, rfl⟩))
          go_region_with (first
            | (go_at_call_of 52 (1 : Int); (with_reducible refine (T1.out _ _ (by simp)).mono ?_); rintro e w2 ⟨rfl, rfl⟩)
            | (go_at_call_of 52 (0 : Int); (with_reducible refine (T0.out _ _ (by simp)).mono ?_); rintro e w2 ⟨rfl, rfl⟩))
          all_goals
            go_wp2
            go_ret
            rw [HP.out]
            exact ⟨rfl, (((Below.refl _ _).alloc (Nat.le_refl _) _).alloc (by simp) _).drew⟩
        · have HP := hide (show putF r = [240 + r / 64 / 64 / 64, 128 + r / 64 / 64 % 64, 128 + r / 64 % 64, 128 + r % 64] by unfold putF; rw [if_neg (by rw [hs]; simp), if_neg a1, if_neg a2, if_neg a3])
          have cv := conv_newd (l := [240 + r / 64 / 64 / 64, 128 + r / 64 / 64 % 64, 128 + r / 64 % 64, 128 + r % 64]) (n := 4) rfl (cs := #[.int .u8 (240 + r / 64 / 64 / 64), .int .u8 (128 + r / 64 / 64 % 64), .int .u8 (128 + r / 64 % 64), .int .u8 (128 + r % 64)]) rfl
          have d1 : ¬ r < 128 := by omega
          have d2 : ¬ r < 2048 := by omega
          have d3 : ¬ r < 65536 := by omega
          have e1 : IntKind.u8.wrap (r / 262144) = r / 262144 := IntWalk.u8_in _ ⟨by omega, by omega⟩
          have e2 : bits .or .u8 240 (r / 262144) = 240 + r / 64 / 64 / 64 := by rw [u8_or240 _ (by omega) (by omega)]; omega
          have T0 := hide (fun (W : World) (g : Nat) (h : W.cell? ⟨g, 0, none⟩ = some (.int .i32 r)) => tail0 r g W b0 b1 h)
          have T1 := hide (fun (W : World) (g : Nat) (h : W.cell? ⟨g, 0, none⟩ = some (.int .i32 r)) => tail1 r g W b0 b1 h)
          have T2 := hide (fun (W : World) (g : Nat) (h : W.cell? ⟨g, 0, none⟩ = some (.int .i32 r)) => tail2 r g W b0 b1 h)
          clear hs
          go_enter Try.func34, Try.ntmps34
          go_upto_region 10 with (go_at_call 53; go_must (refine (SC.out _).mono ?_; rintro e w1 ⟨rfl, rfl⟩))
          go_region_with (first
            | (go_at_call_of 52 (2 : Int); (with_reducible refine (T2.out _ _ (by simp)).mono ?_); rintro e w2 ⟨rfl, rfl⟩)
            | (go_at_call_of 52 (1 : Int); (with_reducible refine (T1.out _ _ (by simp)).mono ?_); rintro e w2 ⟨rfl, rfl⟩)
            | (go_at_call_of 52 (0 : Int); (with_reducible refine (T0.out _ _ (by simp)).mono ?_); rintro e w2 ⟨rfl, rfl⟩))
          all_goals
            go_wp2
            go_ret
            rw [HP.out]
            exact ⟨rfl, (((Below.refl _ _).alloc (Nat.le_refl _) _).alloc (by simp) _).drew⟩
end Go.Proofs.Ytoaeadjihpbhgaa
