/-
  The walks of Joins, of the reference's Clusters, of a cluster's end. No condition but bounds.
-/
import Derived.Test.YtbaapdhfbhnlcaaText
namespace Go.Proofs.Ytbaapdhfbhnlcaa
open Go.RowKit Go.Proofs
set_option linter.unusedVariables false
def jB (a r : Int) : Bool := widOf r == 0 && decide (0 ≤ widOf a)
theorem joins_any (a r : Int) (w : World) : Calls Try.prog 27 #[.int .i32 a, .int .i32 r] w fun e w' => e = .returned (.bool (jB a r)) ∧ Below w.heap.size w w' := by
  obtain ⟨va, hva⟩ : ∃ v, widOf a = v := ⟨_, rfl⟩
  obtain ⟨vr, hvr⟩ : ∃ v, widOf r = v := ⟨_, rfl⟩
  have C1 := fun W => rof_any r W
  have C2 := fun W => rof_any a W
  rw [hvr] at C1
  rw [hva] at C2
  have C1 := hide C1
  have C2 := hide C2
  have HJ := hide (show jB a r = (vr == 0 && decide (0 ≤ va)) by unfold jB; rw [hva, hvr])
  clear hva hvr
  by_cases h1 : vr = 0
  · subst h1
    by_cases h2 : 0 ≤ va
    · go_enter Try.func27, Try.ntmps27
      go_wp2_with (first
        | (go_at_call_of 10 r; (with_reducible refine (C1.out w).mono ?_); rintro e w1 ⟨rfl, b1⟩)
        | (go_at_call_of 10 a; go_must (refine (C2.out w1).mono ?_; rintro e w2 ⟨rfl, b2⟩)))
      go_ret
      exact ⟨ret_bool (by rw [HJ.out]; simp [h2]), below_in b1 b2 (Nat.le_refl _)⟩
    · have d : decide (0 ≤ va) = false := by simpa using h2
      go_enter Try.func27, Try.ntmps27
      go_wp2_with (first
        | (go_at_call_of 10 r; (with_reducible refine (C1.out w).mono ?_); rintro e w1 ⟨rfl, b1⟩)
        | (go_at_call_of 10 a; go_must (refine (C2.out w1).mono ?_; rintro e w2 ⟨rfl, b2⟩)))
      go_ret
      exact ⟨ret_bool (by rw [HJ.out]; simp [d]), below_in b1 b2 (Nat.le_refl _)⟩
  · have d : ((vr : Int) == 0) = false := by simpa using h1
    go_enter Try.func27, Try.ntmps27
    go_wp2_with (go_at_call_of 10 r; go_must (refine (C1.out w).mono ?_; rintro e w1 ⟨rfl, b1⟩))
    go_ret
    exact ⟨ret_bool (by rw [HJ.out, d]; rfl), b1⟩
def nI (p : Nat) : Value := .int .i64 p
theorem one_nI (p : Nat) : ∀ u ∈ #[Value.int .i64 p].toList, u.oneCell' = true := by intro u hu; simp at hu; subst hu; rfl
theorem Try.sl31 : SliceOf Try.prog 31 3 1 8 := SliceOf.mk (z := .int .i64 0) (by kernel_rfl) (by kernel_rfl) (by kernel_rfl) (by omega)
theorem nb_jB {l : List Int} {k : Nat} {x y : Int} (hx : l[k]? = some x) (hy : l[k + 1]? = some y) : nb l (k + 1) = !jB x y := by
  unfold nb jB
  rw [List.getD_eq_getElem?_getD, List.getD_eq_getElem?_getD, hy, Nat.add_sub_cancel, hx]
  simp
set_option maxHeartbeats 4000000 in
theorem rclus_any (l : List Int) (n c : Nat) (A : Option Addr) (w : World) (hl : Rd w w.heap.size 1 A n (l.map rn)) (hn : n ≤ 100000) :
    Calls Try.prog 15 #[.slice A n c] w (RetSlice 3 1 ((bF l n ++ [n]).map nI) w) := by
  have J := hide (fun a r W => joins_any a r W)
  go_enter Try.func15, Try.ntmps15
  go_wp2
  go_loopg [3, 4] n (fun g s3 s4 wr => ∃ k : Nat, k + g = n ∧ s4 = .int .i64 k ∧ wr.ownsRow w.heap.size 3 1 s3 (bF l k).length ((bF l k).map nI) ∧ Rd wr w.heap.size 1 A n (l.map rn) ∧ Below w.heap.size w wr)
  case atStart => exact ⟨0, by omega, rfl, World.ownsRow_nil _ _ _ _, hl, Below.refl _ _⟩
  case round =>
    clear hl
    obtain ⟨k, hkg, rfl, hown, hl, hb⟩ := hrel
    have hbz := hb.size
    obtain ⟨A0, c0, rfl⟩ := own_slice hown
    have hbl := bF_len l k
    have hsucc := hide (bF_succ l k)
    by_cases hlt : k < n
    · cases k with
      | zero =>
        go_wp2_with fail
        go_quiet (fail)
        go_wp2_with (at_builtin; go_must (refine wpList_append1 Try.sl31 rfl _ _ rfl w.heap.size (.slice A0 (bF l 0).length c0) (bF l 0).length ((bF l 0).map nI) #[.int .i64 0] (wr.drewN nq) 1 rfl rfl rfl hown rfl (one_nI 0) (by simp only [maxLen]; omega) (by omega) hbz ?_; intro A1 c1 w2 app))
        go_roundg (n - 1)
        case measure => omega
        case rel =>
          have hB2 : Below w.heap.size wr w2 := app.below (World.ownsRow.alloc (w := wr.drewN nq) hown _) ((below_drewN' (Below.refl _ _) nq).alloc hbz _) (Nat.le_refl _) (by simp; omega)
          exact ⟨1, by omega, rfl, app.own, hl.below hB2, hb.trans hB2⟩
      | succ j =>
        obtain ⟨b, off, x, rfl, hbB, hx, c1⟩ := hl.at1 (k := j) (by omega)
        obtain ⟨b', off', y, hA, hbB', hy, c2⟩ := hl.at1 hlt
        injection hA with hA
        injection hA with hA1 hA2
        subst hA1 hA2
        unfold rn at c1 c2
        have hnb := nb_jB hx hy
        clear hx hy
        have C := J.out x y
        have hj0 : ((j : Int) + 1 == 0) = false := by simp; omega
        have hw1 : IntKind.i64.wrap (j : Int) = j := IntWalk.i64_in _ (by omega)
        have hjn : j < n := by omega
        have hjn2 : (j : Int) + 1 < n := by omega
        have hjn3 : (0 : Int) ≤ (j : Int) + 1 := by omega
        have hjn4 : ((j : Int) + 1).toNat = j + 1 := by omega
        have hbw : b < wr.heap.size := by omega
        cases hjb : jB x y with
        | false =>
          rw [hjb] at C hnb
          have C := hide C
          have hnb := hide hnb
          clear hjb
          go_wp2_with fail
          go_region_held3 (fun W => W.cell? ⟨b, off + j, none⟩ = some (.int .i32 x) ∧ W.cell? ⟨b, off + (j + 1), none⟩ = some (.int .i32 y)) (first | go_keep | (exact ⟨(b1.cell (p := ⟨b, off + j, none⟩) hbw).trans (by assumption), (b1.cell (p := ⟨b, off + (j + 1), none⟩) hbw).trans (by assumption)⟩)) ((go_at_call 27; (refine (C.out _).mono ?_; rintro e w1 ⟨rfl, b1⟩)))
          have own1 := own_call (w := wr.drew) hown b1
          have b2 : Below w.heap.size w w1 := below_in hb.drew b1 (Nat.le_refl _)
          have l1 := hl.drew.below (b1.mono (B' := w.heap.size) hbz)
          have z1 := b2.size
          go_wp2_with (at_builtin; go_must (refine wpList_append1 Try.sl31 rfl _ _ rfl w.heap.size (.slice A0 (bF l (j + 1)).length c0) (bF l (j + 1)).length ((bF l (j + 1)).map nI) #[.int .i64 ((j : Int) + 1)] w1 1 rfl rfl rfl own1 rfl (one_nI (j + 1)) (by simp only [maxLen]; omega) (by omega) z1 ?_; intro A1 c1 w2 app))
          go_roundg (n - (j + 1 + 1))
          case measure => omega
          case rel =>
            have hB2 : Below w.heap.size w1 w2 := app.below (own1.alloc _) ((Below.refl _ _).alloc z1 _) (Nat.le_refl _) (by simp; omega)
            refine ⟨j + 1 + 1, by omega, by go_num, ?_, l1.below hB2, b2.trans hB2⟩
            rw [hsucc.out, hnb.out]
            simp only [Bool.not_false, if_true, List.length_append, List.map_append]
            exact app.own
        | true =>
          rw [hjb] at C hnb
          have C := hide C
          have hnb := hide hnb
          clear hjb
          go_wp2_with fail
          go_region_held3 (fun W => W.cell? ⟨b, off + j, none⟩ = some (.int .i32 x) ∧ W.cell? ⟨b, off + (j + 1), none⟩ = some (.int .i32 y)) (first | go_keep | (exact ⟨(b1.cell (p := ⟨b, off + j, none⟩) hbw).trans (by assumption), (b1.cell (p := ⟨b, off + (j + 1), none⟩) hbw).trans (by assumption)⟩)) ((go_at_call 27; (refine (C.out _).mono ?_; rintro e w1 ⟨rfl, b1⟩)))
          have own1 := own_call (w := wr.drew) hown b1
          have b2 : Below w.heap.size w w1 := below_in hb.drew b1 (Nat.le_refl _)
          have l1 := hl.drew.below (b1.mono (B' := w.heap.size) hbz)
          go_wp2_with fail
          go_roundg (n - (j + 1 + 1))
          case measure => omega
          case rel =>
            refine ⟨j + 1 + 1, by omega, by go_num, ?_, l1, b2⟩
            rw [hsucc.out, hnb.out]
            simp only [Bool.not_true, Bool.false_eq_true, if_false, List.append_nil]
            exact own1
    · obtain rfl : n = k := by omega
      go_wp2_with (at_builtin; go_must (refine wpList_append1 Try.sl31 rfl _ _ rfl w.heap.size (.slice A0 (bF l n).length c0) (bF l n).length ((bF l n).map nI) #[.int .i64 n] wr 1 rfl rfl rfl hown rfl (one_nI n) (by simp only [maxLen]; omega) (by omega) hbz ?_; intro A1 c1 w2 app))
      go_ret
      refine RetSlice.of (N := (bF l n).length + 1) ?_ (app.below (hown.alloc _) (hb.alloc hbz _) (Nat.le_refl _) (by simp; omega))
      exact app.own
end Go.Proofs.Ytbaapdhfbhnlcaa
