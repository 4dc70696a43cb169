/-
  param's head of digits, ';' and ':' walked. No condition but bounds.
-/
import Derived.Test.YthbjjhoajecpcaaCut
namespace Go.Proofs.Ythbjjhoajecpcaa
open Go.RowKit Go.Proofs
set_option linter.unusedVariables false
theorem f66_any (c : Int) (w : World) (h0 : 48 ≤ c) (h1 : c ≤ 59) : Calls Try.prog 66 #[.int .i32 c] w fun e w' => e = .returned (.bool false) ∧ w = w' := by
  have cs : (48 ≤ c ∧ c ≤ 57) ∨ c = 58 ∨ c = 59 := by omega
  rcases cs with ⟨a1, a2⟩ | rfl | rfl
  · have b1 : decide (c < 48) = false := by simp; omega
    have b2 : decide (57 < c) = false := by simp; omega
    go_enter Try.func66, Try.ntmps66
    go_wp2
    go_ret
    exact ⟨rfl, rfl⟩
  · go_enter Try.func66, Try.ntmps66
    go_wp2
    go_ret
    exact ⟨rfl, rfl⟩
  · go_enter Try.func66, Try.ntmps66
    go_wp2
    go_ret
    exact ⟨rfl, rfl⟩
set_option maxHeartbeats 1000000 in
theorem idxfun_any (l : List Int) (w : World) (n : Nat) (hn : (strOfNums l).size = n) (hl : ∀ x ∈ l, 48 ≤ x ∧ x ≤ 59) : Calls Try.prog 69 #[.string (strOfNums l), .func (.func 66) #[] #[], .bool true] w fun e w' => e = .returned (.int .i64 (-1)) ∧ Below w.heap.size w w' := by
  have HN := hide (show l.length = n by rw [← hn, strOfNums_size])
  have HL := hide hl
  obtain ⟨s, hs⟩ : ∃ s, strOfNums l = s := ⟨_, rfl⟩
  rw [hs] at hn ⊢
  have HS := hide hs
  clear hl hs
  go_enter Try.func69, Try.ntmps69
  go_wp2
  go_loopg [] n (fun g wr => ∃ k : Nat, k + g = n ∧ wr = w.iter s k)
  case atStart => exact ⟨0, by omega, rfl⟩
  case round =>
    obtain ⟨k, hk, rfl⟩ := hrel
    by_cases hlt : k < n
    · have hlt2 : k < s.size := by omega
      obtain ⟨x, hx⟩ : ∃ x, l[k]? = some x := ⟨_, List.getElem?_eq_getElem (by rw [HN.out]; exact hlt)⟩
      have hb := HL.out x (List.mem_of_getElem? hx)
      have hz : ((s[k]'hlt2).toNat : Int) = x := by
        have := so_at l hx (by omega) (by omega) (by rw [HS.out]; exact hlt2)
        rw [← this]
        congr 2
        have hS := HS.out
        subst hS
        rfl
      have hnx : ∀ ty, (Instr.next (.pointer (some ⟨w.heap.size, 0, none⟩)) true ty).run Try.prog (w.iter s k) = .ok (.tuple #[.bool true, .int .i64 k, .int .i32 x]) (w.iter s (k + 1)) := by
        intro ty
        rw [run_next_ascii (P := Try.prog) w s k ty hlt2 (by omega), hz]
      have F := hide (fun W => f66_any x W hb.1 hb.2)
      clear hz hx
      go_wp2_with (go_at_call 66; go_must (refine (F.out _).mono ?_; rintro e w1 ⟨rfl, rfl⟩))
      go_roundg (n - (k + 1))
      case measure => omega
      case rel => exact ⟨k + 1, by omega, rfl⟩
    · have hnx : ∀ ty, (Instr.next (.pointer (some ⟨w.heap.size, 0, none⟩)) true ty).run Try.prog (w.iter s k) = .ok (.tuple #[.bool false]) (w.iter s k) := fun ty => run_next_end (P := Try.prog) w s k ty (by omega)
      go_wp2
      go_ret
      exact ⟨rfl, (Below.refl _ w).alloc (Nat.le_refl _) _⟩
theorem head_any (l : List Int) (w : World) (hl : ∀ x ∈ l, 48 ≤ x ∧ x ≤ 59) : Calls Try.prog 54 #[.string (strOfNums l)] w fun e w' => e = .returned (.bool true) ∧ Below w.heap.size w w' := by
  have I := hide (idxfun_any l w _ rfl hl)
  have J : Calls Try.prog 65 #[.string (strOfNums l), .func (.func 66) #[] #[]] w fun e w' => e = .returned (.int .i64 (-1)) ∧ Below w.heap.size w w' := by
    clear hl
    go_enter Try.func65, Try.ntmps65
    go_wp2_with (go_at_call 69; go_must (refine I.out.mono ?_; rintro e w1 ⟨rfl, hb⟩; have hb := hide hb))
    go_ret
    exact ⟨rfl, hb.out⟩
  have J := hide J
  clear hl I
  go_enter Try.func54, Try.ntmps54
  go_wp2_with (go_at_call 65; go_must (refine J.out.mono ?_; rintro e w1 ⟨rfl, hb⟩; have hb := hide hb))
  go_ret
  exact ⟨rfl, hb.out⟩
def valueF (l : List Int) : Int := if l = [] then -1 else l.foldl (fun n c => min (n * 10 + (c - 48)) 65535) 0
theorem foldl_snoc_take {β : Type} (f : β → Int → β) (l : List Int) (a : β) {k : Nat} {x : Int} (h : l[k]? = some x) : (l.take (k + 1)).foldl f a = f ((l.take k).foldl f a) x := by
  rw [take_snoc h, List.foldl_append]; rfl
set_option maxHeartbeats 1000000 in
theorem value_any (l : List Int) (w : World) (n : Nat) (hn : (strOfNums l).size = n) (hm : n ≤ 100000) (hl : ∀ x ∈ l, 48 ≤ x ∧ x ≤ 57) : Calls Try.prog 58 #[.string (strOfNums l)] w fun e w' => e = .returned (.int .i64 (valueF l)) ∧ w = w' := by
  have HN := hide (show l.length = n by rw [← hn, strOfNums_size])
  have HL := hide hl
  by_cases h0 : l = []
  · subst h0
    have hse : (strOfNums []).toList.isEmpty = true := by rw [so_toList]; rfl
    clear hl HL HN hn hm
    go_enter Try.func58, Try.ntmps58
    go_wp2
    go_ret
    exact ⟨rfl, rfl⟩
  · have hE : (strOfNums l).toList.isEmpty = false := by
      rw [so_toList]
      cases l with
      | nil => exact absurd rfl h0
      | cons x l => rfl
    have HV := hide (show valueF l = l.foldl (fun n c => min (n * 10 + (c - 48)) 65535) 0 by unfold valueF; rw [if_neg h0])
    obtain ⟨s, hs⟩ : ∃ s, strOfNums l = s := ⟨_, rfl⟩
    rw [hs] at hn hE ⊢
    have HS := hide hs
    clear hl hs h0
    go_enter Try.func58, Try.ntmps58
    go_wp2
    go_loopg [3, 4] n (fun g s3 s4 wr => ∃ (k : Nat) (v : Int), k + g = n ∧ s4 = .int .i64 k ∧ s3 = .int .i64 v ∧ 0 ≤ v ∧ v ≤ 65535 ∧ Hid (v = (l.take k).foldl (fun n c => min (n * 10 + (c - 48)) 65535) 0) ∧ wr = w)
    case atStart => exact ⟨0, 0, by omega, rfl, rfl, by omega, by omega, rfl, rfl⟩
    case round =>
      obtain ⟨k, v, hk, rfl, rfl, hv0, hv1, HK, rfl⟩ := hrel
      by_cases hlt : k < n
      · have hlt2 : k < s.size := by omega
        obtain ⟨x, hx⟩ : ∃ x, l[k]? = some x := ⟨_, List.getElem?_eq_getElem (by rw [HN.out]; exact hlt)⟩
        have hb := HL.out x (List.mem_of_getElem? hx)
        have hz : ((s[k]'hlt2).toNat : Int) = x := by
          have := so_at l hx (by omega) (by omega) (by rw [HS.out]; exact hlt2)
          rw [← this]
          congr 2
          have hS := HS.out
          subst hS
          rfl
        have hF := foldl_snoc_take (fun n c => min (n * 10 + (c - 48)) 65535) l 0 hx
        rw [← HK.out] at hF
        obtain ⟨z, hzz⟩ : ∃ z, min (v * 10 + (x - 48)) 65535 = z := ⟨_, rfl⟩
        have hF : (l.take (k + 1)).foldl (fun n c => min (n * 10 + (c - 48)) 65535) 0 = z := hF.trans hzz
        have hF := hide hF
        have e1 : IntKind.u8.wrap (x - 48) = x - 48 := IntWalk.u8_in _ (by omega)
        have e2 : IntKind.i64.wrap (v * 10) = v * 10 := IntWalk.i64_in _ (by omega)
        have e3 : IntKind.i64.wrap (v * 10 + (x - 48)) = v * 10 + (x - 48) := IntWalk.i64_in _ (by omega)
        have e4 : IntKind.i64.wrap (x - 48) = x - 48 := IntWalk.i64_in _ (by omega)
        have mn := fun ts t W => min2_ Try.prog ts t (k := .i64) (x := v * 10 + (x - 48)) (y := 65535) (z := z) hzz.symm W
        have hz0 : 0 ≤ z := by omega
        have hz1 : z ≤ 65535 := by omega
        clear hx hzz
        go_wp2
        go_roundg (n - (k + 1))
        case measure => omega
        case rel => exact ⟨k + 1, z, by omega, by simp, rfl, hz0, hz1, hF.out.symm, rfl⟩
      · go_wp2
        go_ret
        refine ⟨ret_int ?_, rfl⟩
        rw [HK.out, HV.out, List.take_of_length_le (by rw [HN.out]; omega)]
end Go.Proofs.Ythbjjhoajecpcaa
