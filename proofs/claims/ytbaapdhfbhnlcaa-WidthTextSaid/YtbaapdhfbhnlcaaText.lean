/-
  The walks of both texts, of Joins, of a cluster's end, and of Same over equal lists. No condition but bounds.
-/
import Derived.Test.YtbaapdhfbhnlcaaRof
import Derived.BigQuiet
namespace Go.Proofs.Ytbaapdhfbhnlcaa
open Go.RowKit Go.Proofs
set_option linter.unusedVariables false
set_option maxHeartbeats 1000000 in
theorem text_any (l : List Int) (n c : Nat) (A : Option Addr) (w : World) (hl : Rd w w.heap.size 1 A n (l.map rn)) (hn : n ≤ 100000) :
    Calls Try.prog 12 #[.slice A n c] w fun e w' => e = .returned (.int .i64 (textF l)) ∧ Below w.heap.size w w' := by
  have HL := hide hl.len1
  have O := hide (fun r W => of_any r W)
  go_enter Try.func12, Try.ntmps12
  go_wp2
  go_loopg [3, 8] n (fun g s3 s8 wr => ∃ (k : Nat) (S : Int), k + g = n ∧ s8 = .int .i64 k ∧ s3 = .int .i64 S ∧ Hid (textF (l.take k) = S) ∧ Rd wr wr.heap.size 1 A n (l.map rn) ∧ Below w.heap.size w wr)
  case atStart => exact ⟨0, 0, by omega, rfl, rfl, rfl, hl, Below.refl _ _⟩
  case round =>
    clear hl
    obtain ⟨k, S, hkg, rfl, rfl, HS, hl, hb⟩ := hrel
    have hSb : 0 ≤ S ∧ S ≤ 2 * k := by
      have := textF_bounds (l.take k)
      rw [HS.out, List.length_take] at this
      omega
    by_cases hlt : k < n
    · obtain ⟨b, off, x, rfl, hbB, hx, c1⟩ := hl.at1 hlt
      unfold rn at c1
      have hs := textF_snoc hx
      rw [HS.out] at hs
      have hwb := widOf_bounds x
      obtain ⟨v, hv⟩ : ∃ v, widOf x = v := ⟨_, rfl⟩
      obtain ⟨m, hm⟩ : ∃ m, m = max 0 v := ⟨_, rfl⟩
      have e1 := fun W => max2_ Try.prog #[3, 3] 3 (k := .i64) hm W
      have C := hide (O.out x wr)
      have C' := C.out
      rw [hv] at C' hwb hs
      rw [← hm] at hs
      have C := hide C'
      have hs := hide hs
      have hm1 : 0 ≤ m ∧ m ≤ 2 := by omega
      clear C' hv hm hx
      go_wp2_with (go_at_call 9; go_must (refine C.out.mono ?_; rintro e w1 ⟨rfl, b1⟩))
      go_roundg (n - (k + 1))
      case measure => omega
      case rel => exact ⟨k + 1, S + m, by omega, by go_num, rfl, hs.out, rd_call hl b1, below_in hb b1 (Nat.le_refl _)⟩
    · obtain rfl : n = k := by omega
      go_wp2
      go_ret
      have := HS.out
      rw [List.take_of_length_le (by rw [HL.out]; exact Nat.le_refl _)] at this
      exact ⟨ret_int this.symm, hb⟩
set_option maxHeartbeats 1000000 in
theorem rtext_any (l : List Int) (n c : Nat) (A : Option Addr) (w : World) (hl : Rd w w.heap.size 1 A n (l.map rn)) (hn : n ≤ 100000) :
    Calls Try.prog 13 #[.slice A n c] w fun e w' => e = .returned (.int .i64 (textF l)) ∧ Below w.heap.size w w' := by
  have HL := hide hl.len1
  have O := hide (fun r W => rof_any r W)
  go_enter Try.func13, Try.ntmps13
  go_wp2
  go_loopg [3, 4] n (fun g s3 s4 wr => ∃ (k : Nat) (S : Int), k + g = n ∧ s4 = .int .i64 k ∧ s3 = .int .i64 S ∧ Hid (textF (l.take k) = S) ∧ Rd wr wr.heap.size 1 A n (l.map rn) ∧ Below w.heap.size w wr)
  case atStart => exact ⟨0, 0, by omega, rfl, rfl, rfl, hl, Below.refl _ _⟩
  case round =>
    clear hl
    obtain ⟨k, S, hkg, rfl, rfl, HS, hl, hb⟩ := hrel
    have hSb : 0 ≤ S ∧ S ≤ 2 * k := by
      have := textF_bounds (l.take k)
      rw [HS.out, List.length_take] at this
      omega
    by_cases hlt : k < n
    · obtain ⟨b, off, x, rfl, hbB, hx, c1⟩ := hl.at1 hlt
      unfold rn at c1
      have hs := textF_snoc hx
      rw [HS.out] at hs
      have hwb := widOf_bounds x
      obtain ⟨v, hv⟩ : ∃ v, widOf x = v := ⟨_, rfl⟩
      have C' := O.out x
      rw [hv] at C' hwb hs
      have C := hide C'
      clear C' hv hx
      by_cases hv0 : 0 < v
      · have hs := hide (show textF (l.take (k + 1)) = S + v by rw [hs]; omega)
        go_wp2_with (first
          | (go_at_call 10; (with_reducible refine (C.out wr).mono ?_); rintro e w1 ⟨rfl, b1⟩; have c2 := (b1.cell (p := ⟨b, off + k, none⟩) hbB).trans c1)
          | (go_at_call 10; go_must (refine (C.out w1).mono ?_; rintro e w2 ⟨rfl, b2⟩)))
        go_roundg (n - (k + 1))
        case measure => omega
        case rel => exact ⟨k + 1, S + v, by omega, by go_num, rfl, hs.out, rd_call (rd_call hl b1) b2, below_in (below_in hb b1 (Nat.le_refl _)) b2 (Nat.le_refl _)⟩
      · have hs := hide (show textF (l.take (k + 1)) = S by rw [hs]; omega)
        have d : decide (0 < v) = false := by simpa using hv0
        go_wp2_with (go_at_call 10; go_must (refine (C.out _).mono ?_; rintro e w1 ⟨rfl, b1⟩))
        go_roundg (n - (k + 1))
        case measure => omega
        case rel => exact ⟨k + 1, S, by omega, by go_num, rfl, hs.out, rd_call hl b1, below_in hb b1 (Nat.le_refl _)⟩
    · obtain rfl : n = k := by omega
      go_wp2
      go_ret
      have := HS.out
      rw [List.take_of_length_le (by rw [HL.out]; exact Nat.le_refl _)] at this
      exact ⟨ret_int this.symm, hb⟩
end Go.Proofs.Ytbaapdhfbhnlcaa
