/-
  WidthFits, walked. No condition but what the arguments' kinds bear.
-/
import Derived.Test.YtbaapdhfbhnlcaaPairs
namespace Go.Proofs.Ytbaapdhfbhnlcaa
open Go.RowKit Go.Proofs
set_option linter.unusedVariables false
theorem rd_front {w : World} {B n : Nat} {A : Option Addr} {l : List Int} (h : Rd w B 1 A n (l.map rn)) {k : Nat} (hk : k ≤ n) : Rd w B 1 A k ((l.take k).map rn) := by
  have := h.front hk
  rw [Nat.mul_one, ← List.map_take] at this
  exact this
set_option maxHeartbeats 4000000 in
theorem lawfits_walk (w : World) (cols : Int) (A : Option Addr) (n c : Nat) (l : List Int) (e : l.length = n) (f : n ≤ c) (g : c ≤ maxLen) (h : Rd w w.heap.size 1 A n (l.map rn)) (hcl : cols ≤ 9223372036854775807) :
    Calls Try.prog 6 #[.int .i64 cols, .slice A n c] w fun e w' => e = .returned (.bool true) ∧ Below w.heap.size w w' := by
  have W := hide awake_any
  unfold maxLen at g
  by_cases hn : n ≤ 200
  · have HL := hide e
    have R := hide (fun W h => rclus_any l n c A W h (by omega))
    have F := hide (fun W h => fit_any l cols n c A W h (by omega) f hcl)
    have T := hide (fun (k : Nat) (W : World) (hk : k ≤ n) (h : Rd W W.heap.size 1 A n (l.map rn)) => rtext_any (l.take k) k c A W (rd_front h hk) (by omega))
    have hd : decide (200 < n) = false := by simpa using hn
    obtain ⟨m, hm⟩ : ∃ m, (bF l n).length = m := ⟨_, rfl⟩
    have hml := bF_len l n
    rw [hm] at hml
    obtain ⟨M, hM⟩ : ∃ M, m + 1 = M := ⟨_, rfl⟩
    have hM2 : M ≤ 201 := by omega
    have HM := hide hm
    have HMM := hide hM
    clear e hm
    by_cases hc0 : 0 ≤ cols
    · go_enter Try.func6, Try.ntmps6
      go_wp2_with (first
        | (go_at_call 11; go_must (refine (W.out _).mono ?_; rintro e w1 ⟨rfl, b1⟩; have h1 := rd_call h b1))
        | (go_at_call 15; go_must (refine (R.out _ h1).mono ?_; rintro e w3 hr; obtain ⟨a3, c3, rfl, r3, k3, b3⟩ := RetSlice.rd hr; have h3 := rd_call h1 b3; rw [List.length_append, List.length_singleton, HM.out, HMM.out] at r3; rw [List.length_append, List.length_singleton, HM.out, HMM.out])))
      have B0 := hide (below_in b1 b3 (Nat.le_refl _))
      clear h1 b1 b3 hM
      go_loopg [5, 7] M (fun gg s5 s7 wr => ∃ (i W : Nat), i + gg = M ∧ s7 = .int .i64 i ∧ s5 = .int .i64 W ∧ Hid (Wn l cols i W) ∧ Below w3.heap.size w3 wr)
      case atStart => exact ⟨0, 0, by omega, rfl, rfl, Wn.start hc0, Below.refl _ _⟩
      case round =>
        obtain ⟨i, W0, hig, rfl, rfl, HW, hb⟩ := hrel
        have h3r := (h3.below hb).more hb.size
        by_cases hlt : i < M
        · obtain ⟨ob, o, x, rfl, obb, hx, c3x⟩ := r3.at1 (k := i) hlt
          unfold nI at c3x
          have c2 := (hb.cell (p := ⟨ob, o + i, none⟩) obb).trans c3x
          have hxn := (bs_mem hx).1
          have hx' : (bF l l.length ++ [l.length])[i]? = some x := by rw [HL.out]; exact hx
          have cu := fun W => cut_h (P := Try.prog) (a := A) (len := n) (cap := c) (s := 1) Try.underlying25 Try.size21 x rfl (by omega) W
          rw [cutA_zero] at cu
          have C := T.out x wr hxn h3r
          obtain ⟨S, hS⟩ : ∃ S, textF (l.take x) = S := ⟨_, rfl⟩
          rw [hS] at C
          have C := hide C
          by_cases hs : S ≤ cols
          · have HY := hide (HW.out.yes hx' (by rw [hS]; exact hs))
            clear hx hx' c3x hS
            go_wp2_with (go_at_call 13; go_must (refine C.out.mono ?_; rintro e w4 ⟨rfl, b4⟩; have c5 := (b4.cell (p := ⟨ob, o + i, none⟩) (Nat.lt_of_lt_of_le obb hb.size)).trans c2))
            go_roundg (M - (i + 1))
            case measure => omega
            case rel => exact ⟨i + 1, x, by omega, by go_num, rfl, HY.out, below_in hb b4 (Nat.le_refl _)⟩
          · have HY := hide (HW.out.no hx' (by rw [hS]; exact hs))
            have d : decide (S ≤ cols) = false := by simpa using hs
            clear hx hx' c3x hS
            go_wp2_with (go_at_call 13; go_must (refine C.out.mono ?_; rintro e w4 ⟨rfl, b4⟩))
            go_roundg (M - (i + 1))
            case measure => omega
            case rel => exact ⟨i + 1, W0, by omega, by go_num, rfl, HY.out, below_in hb b4 (Nat.le_refl _)⟩
        · obtain rfl : M = i := by omega
          have D := hide (fun r (hf : Fits l cols r) => (show Wn l cols ((bF l l.length).length + 1) W0 by rw [HL.out, HM.out, HMM.out]; exact HW.out).done hc0 hf)
          go_wp2_with (go_at_call 17; go_must (refine (F.out _ h3r).mono ?_; rintro e w4 hr; obtain ⟨r, rfl, hf, b4⟩ := hr; obtain rfl := D.out r hf; have hf := hide hf))
          go_ret
          exact ⟨rfl, below_in (below_in B0.out hb (Nat.le_refl _)) b4 (Nat.le_refl _)⟩
    · have d0 : decide (0 ≤ cols) = false := by simpa using hc0
      have hMp : 0 < M := by omega
      have D := hide (fun r (hf : Fits l cols r) => hf.2.2.1 (by omega))
      clear hM
      go_enter Try.func6, Try.ntmps6
      go_wp2_with (first
        | (go_at_call 11; go_must (refine (W.out _).mono ?_; rintro e w1 ⟨rfl, b1⟩; have h1 := rd_call h b1))
        | (go_at_call 15; go_must (refine (R.out _ h1).mono ?_; rintro e w3 hr; obtain ⟨a3, c3, rfl, r3, k3, b3⟩ := RetSlice.rd hr; have h3 := rd_call h1 b3; rw [List.length_append, List.length_singleton, HM.out, HMM.out] at r3; rw [List.length_append, List.length_singleton, HM.out, HMM.out])))
      have B0 := hide (below_in b1 b3 (Nat.le_refl _))
      clear h1 b1 b3
      go_loopg [5, 7] M (fun gg s5 s7 wr => s7 = .int .i64 0 ∧ s5 = .int .i64 0 ∧ w3 = wr)
      case atStart => exact ⟨rfl, rfl, rfl⟩
      case round =>
        obtain ⟨rfl, rfl, rfl⟩ := hrel
        go_wp2_with (go_at_call 17; go_must (refine (F.out _ h3).mono ?_; rintro e w4 hr; obtain ⟨r, rfl, hf, b4⟩ := hr; obtain rfl := D.out r hf; have hf := hide hf))
        go_ret
        exact ⟨rfl, below_in B0.out b4 (Nat.le_refl _)⟩
  · go_enter Try.func6, Try.ntmps6
    go_wp2_with (go_at_call 11; go_must (refine (W.out _).mono ?_; rintro e w3 ⟨rfl, b3⟩))
    all_goals first | (go_ret; exact ⟨rfl, b3⟩) | (exfalso; omega)
end Go.Proofs.Ytbaapdhfbhnlcaa
