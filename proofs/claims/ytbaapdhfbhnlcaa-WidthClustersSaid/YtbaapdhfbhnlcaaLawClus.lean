/-
  WidthClusters, walked. No condition but what the arguments' kinds bear.
-/
import Derived.Test.YtbaapdhfbhnlcaaPairs
namespace Go.Proofs.Ytbaapdhfbhnlcaa
open Go.RowKit Go.Proofs
set_option linter.unusedVariables false
set_option maxHeartbeats 4000000 in
theorem widthClusters_walk (w : World) (A : Option Addr) (n c : Nat) (l : List Int) (e : l.length = n) (f : n ≤ c) (g : c ≤ maxLen) (h : Rd w w.heap.size 1 A n (l.map rn)) (q : ∀ x ∈ l, True) :
    Calls Try.prog 5 #[.slice A n c] w fun e w' => e = .returned (.bool true) ∧ Below w.heap.size w w' := by
  have W := hide awake_any
  unfold maxLen at g
  clear q
  by_cases hn : n ≤ 200
  · have HL := hide e
    have C := hide (fun W h => clus_any l n c A W h (by omega) f)
    have R := hide (fun W h => rclus_any l n c A W h (by omega))
    have CA := hide (fun (i x y : Nat) => by have := clus_at (l := l) (i := i) (x := x) (y := y); rw [e] at this; exact this)
    have BM := hide (fun (i x : Nat) => bs_mem (l := l) (n := n) (i := i) (x := x))
    have S := hide (fun (s : List Int) (A A' : Option Addr) (m c d : Nat) (W : World) => same_eq (B := W.heap.size) (B' := W.heap.size) s A A' m c d W)
    have hd : decide (200 < n) = false := by simpa using hn
    obtain ⟨m, hm⟩ : ∃ m, (bF l n).length = m := ⟨_, rfl⟩
    have hml := bF_len l n
    obtain ⟨M, hM⟩ : ∃ M, m + 1 = M := ⟨_, rfl⟩
    have hM1 : (M : Int) - 1 = m := by omega
    have hcl := clF_len l n
    rw [hm] at hml hcl
    have HM := hide hm
    have HMM := hide hM
    have C' := C.out
    unfold ClPost at C'
    rw [hcl] at C'
    have C := hide C'
    have HC := hide hcl
    clear C' e hm hcl hM
    go_enter Try.func5, Try.ntmps5
    go_wp2_with (first
      | (go_at_call 11; go_must (refine (W.out _).mono ?_; rintro e w1 ⟨rfl, b1⟩; have h1 := rd_call h b1))
      | (go_at_call 14; go_must (refine (C.out _ h1).mono ?_; rintro e w2 ⟨a2, c2, cells, rfl, r2, in2, b2⟩; have h2 := rd_call h1 b2; have in2 := hide in2))
      | (go_at_call 15; go_must (refine (R.out _ h2).mono ?_; rintro e w3 hr; obtain ⟨a3, c3, rfl, r3, k3, b3⟩ := RetSlice.rd hr; have h3 := rd_call h2 b3; have r2' := rd_call r2 b3; rw [List.length_append, List.length_singleton, HM.out, HMM.out] at r3; rw [List.length_append, List.length_singleton, HM.out, HMM.out])))
    have B0 := hide (below_in (below_in b1 b2 (Nat.le_refl _)) b3 (Nat.le_refl _))
    have b23 := hide b3
    clear h1 h2 r2 b1 b2 b3
    go_loopg [5] m (fun gg s5 wr => ∃ i : Nat, i + gg = m ∧ s5 = .int .i64 i ∧ Below w3.heap.size w3 wr)
    case atStart => exact ⟨0, by omega, rfl, Below.refl _ _⟩
    case round =>
      obtain ⟨i, hig, rfl, hb⟩ := hrel
      by_cases hlt : i < m
      · obtain ⟨o1b, o1, rfl, ob1, oc1⟩ := r2'.2 (by omega)
        obtain ⟨o3b, o3, x, rfl, ob3, hx, c3x⟩ := r3.at1 (k := i) (by have := HMM.out; omega)
        obtain ⟨o4b, o4, y, hA, ob4, hy, c3y⟩ := r3.at1 (k := i + 1) (by have := HMM.out; omega)
        injection hA with hA
        injection hA with hA1 hA2
        subst hA1 hA2
        unfold nI at c3x c3y
        obtain ⟨hL, hxy, hyn⟩ := CA.out i x y (by rw [HM.out]; exact hlt) hx hy
        obtain ⟨Ai, ci, hci, hcap, hri⟩ := in2.out i _ hL
        have hsl : (seg l x y).length = y - x := seg_len (by rw [HL.out]; exact hyn)
        rw [hsl] at hci hri
        have c1 := (hb.cell (p := ⟨o1b, o1 + i, none⟩) ob1).trans (oc1 i _ hci)
        have c2 := (hb.cell (p := ⟨o3b, o3 + i, none⟩) ob3).trans c3x
        have c3 := (hb.cell (p := ⟨o3b, o3 + (i + 1), none⟩) ob3).trans c3y
        have cu := fun W => cut_lh (P := Try.prog) (a := A) (len := n) (cap := c) Try.underlying25 Try.size21 x y rfl rfl hxy (by omega) W
        have hsg := rd_seg h3 (a := x) (e := y) hxy hyn f
        have hri3 := hri.below b23.out
        have SS := hide (fun (W : World) (hW : Below w3.heap.size w3 W) => same_eq (seg l x y) Ai (cutA A c x 1) (y - x) ci (c - x) W ((hri3.more b23.out.size).below hW) (hsg.below hW) (by omega))
        have z3 := hb.size
        have i1 : (i : Int) < m := by omega
        have i2 : (0 : Int) ≤ (i : Int) + 1 := by omega
        have i3 : (i : Int) + 1 < (M : Int) := by have := HMM.out; omega
        have i4 : ((i : Int) + 1).toNat = i + 1 := by omega
        have i5 : IntKind.i64.wrap ((i : Int) + 1) = (i : Int) + 1 := IntWalk.i64_in _ (by omega)
        have i6 : i < M := by have := HMM.out; omega
        have i7 : i + 1 < M := by have := HMM.out; omega
        clear hx hy hL hsl hci hri hri3 hsg hcap c3x c3y oc1
        go_wp2_with fail
        go_region_held3 (fun W => W.cell? ⟨o1b, o1 + i, none⟩ = some (.slice Ai (y - x) ci) ∧ W.cell? ⟨o3b, o3 + i, none⟩ = some (.int .i64 x) ∧ W.cell? ⟨o3b, o3 + (i + 1), none⟩ = some (.int .i64 y))
          (first | (exact ⟨c1, c2, c3⟩) | (exact ⟨(bb.cell (p := ⟨o1b, o1 + i, none⟩) (Nat.lt_of_lt_of_le ob1 z3)).trans (by assumption), (bb.cell (p := ⟨o3b, o3 + i, none⟩) (Nat.lt_of_lt_of_le ob3 z3)).trans (by assumption), (bb.cell (p := ⟨o3b, o3 + (i + 1), none⟩) (Nat.lt_of_lt_of_le ob3 z3)).trans (by assumption)⟩) | go_keep)
          ((go_at_call 16; (refine (SS.out _ hb.drew).mono ?_; rintro e w1 ⟨rfl, bb⟩)))
        go_wp2_with fail
        go_roundg (m - (i + 1))
        case measure => omega
        case rel => exact ⟨i + 1, by omega, by go_num, below_in hb.drew bb (Nat.le_refl _)⟩
      · go_wp2_with fail
        go_ret
        exact ⟨rfl, below_in B0.out hb (Nat.le_refl _)⟩
  · go_enter Try.func5, Try.ntmps5
    go_wp2_with (go_at_call 11; go_must (refine (W.out _).mono ?_; rintro e w3 ⟨rfl, b3⟩))
    all_goals first | (go_ret; exact ⟨rfl, b3⟩) | (exfalso; omega)
end Go.Proofs.Ytbaapdhfbhnlcaa
