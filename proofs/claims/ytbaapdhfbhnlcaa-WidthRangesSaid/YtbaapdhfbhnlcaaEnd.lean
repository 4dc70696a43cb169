/-
  The walks of a cluster's end, of Fit, of Same over equal lists, of Ranges. No condition but bounds.
-/
import Derived.Test.YtbaapdhfbhnlcaaClus
namespace Go.Proofs.Ytbaapdhfbhnlcaa
open Go.RowKit Go.Proofs
set_option linter.unusedVariables false
theorem jB_neg {a r : Int} (h : widOf a < 0) : jB a r = false := by unfold jB; simp; omega
theorem jB_zero {a r : Int} (h : 0 ≤ widOf a) (h2 : widOf r = 0) : jB a r = true := by unfold jB; simp; omega
theorem jB_not {a r : Int} (h2 : widOf r ≠ 0) : jB a r = false := by unfold jB; simp; omega
theorem endF_neg {l : List Int} {i : Nat} {x : Int} (hi : l[i]? = some x) (h : widOf x < 0) : endF l i = i + 1 := by
  have hl := (List.getElem?_eq_some_iff.1 hi).1
  by_cases h1 : i + 1 < l.length
  · exact nextB_hit h1 (by rw [nb_jB hi (List.getElem?_eq_getElem h1), jB_neg h]; rfl)
  · have : endF l i = l.length := nextB_end (by omega)
    omega
set_option maxHeartbeats 1000000 in
theorem end_any (l : List Int) (n c i : Nat) (A : Option Addr) (w : World) (hl : Rd w w.heap.size 1 A n (l.map rn)) (hn : n ≤ 100000) (hi : i < n) :
    Calls Try.prog 26 #[.slice A n c, .int .i64 i] w fun e w' => e = .returned (.int .i64 (endF l i)) ∧ Below w.heap.size w w' := by
  have HL := hide hl.len1
  have O := hide (fun r W => of_any r W)
  obtain ⟨b, off, x, rfl, hbB, hx, c1⟩ := hl.at1 hi
  unfold rn at c1
  obtain ⟨v, hv⟩ : ∃ v, widOf x = v := ⟨_, rfl⟩
  have C := O.out x
  rw [hv] at C
  have C := hide C
  have HV := hide hv
  have HX := hide hx
  clear hv hx
  by_cases hv0 : v < 0
  · have he := hide (endF_neg HX.out (by rw [HV.out]; exact hv0))
    go_enter Try.func26, Try.ntmps26
    go_wp2_with (go_at_call 9; go_must (refine (C.out _).mono ?_; rintro e w1 ⟨rfl, b1⟩))
    go_ret
    exact ⟨ret_int (by rw [he.out]; rfl), b1⟩
  · have d : decide (v < 0) = false := by simpa using hv0
    go_enter Try.func26, Try.ntmps26
    go_wp2_with (go_at_call 9; go_must (refine (C.out _).mono ?_; rintro e w1 ⟨rfl, b1⟩))
    have l1 := rd_call hl b1
    have B1 := hide b1
    clear hl c1 b1
    go_loopg [1] (n - i) (fun g s1 wr => ∃ (k : Nat) (y : Int), k + 1 + g = n + 1 ∧ s1 = .int .i64 ((k : Int) + 1) ∧ k < n ∧ Hid (nextB l (i + 1) = nextB l (k + 1) ∧ l[k]? = some y ∧ 0 ≤ widOf y) ∧ Rd wr wr.heap.size 1 (some ⟨b, off, none⟩) n (l.map rn) ∧ Below w.heap.size w wr)
    case atStart => exact ⟨i, x, by omega, rfl, hi, ⟨rfl, HX.out, by rw [HV.out]; omega⟩, l1, B1.out⟩
    case round =>
      clear l1
      obtain ⟨k, y, hkg, rfl, hkn, HY, hl, hb⟩ := hrel
      by_cases hlt : k + 1 < n
      · obtain ⟨b', off', z, hA, hbB', hz, c2⟩ := hl.at1 hlt
        injection hA with hA
        injection hA with hA1 hA2
        subst hA1 hA2
        unfold rn at c2
        obtain ⟨u, hu⟩ : ∃ u, widOf z = u := ⟨_, rfl⟩
        have C2 := O.out z
        rw [hu] at C2
        have C2 := hide C2
        have HU := hide hu
        have HZ := hide hz
        have hnb := hide (nb_jB HY.out.2.1 HZ.out)
        have h5 : (k : Int) + 1 < n := by omega
        clear hu hz
        by_cases hu0 : u = 0
        · subst hu0
          go_wp2_with (go_at_call 9; go_must (refine (C2.out _).mono ?_; rintro e w2 ⟨rfl, b2⟩))
          go_roundg (n - (k + 1))
          case measure => omega
          case rel =>
            refine ⟨k + 1, z, by omega, by go_num, by omega, ⟨?_, HZ.out, by rw [HU.out]; omega⟩, rd_call hl b2, below_in hb b2 (Nat.le_refl _)⟩
            rw [HY.out.1]
            exact nextB_miss (by rw [HL.out]; exact hlt) (by rw [hnb.out, jB_zero HY.out.2.2 HU.out]; rfl)
        · have d2 : ((u : Int) == 0) = false := by simpa using hu0
          go_wp2_with (go_at_call 9; go_must (refine (C2.out _).mono ?_; rintro e w2 ⟨rfl, b2⟩))
          go_ret
          refine ⟨ret_int ?_, below_in hb b2 (Nat.le_refl _)⟩
          have : endF l i = k + 1 := by
            unfold endF
            rw [HY.out.1]
            exact nextB_hit (by rw [HL.out]; exact hlt) (by rw [hnb.out, jB_not (by rw [HU.out]; exact hu0)]; rfl)
          rw [this]; rfl
      · have h5 : decide ((k : Int) + 1 < n) = false := by simp; omega
        have h6 : decide (k + 1 < n) = false := by simpa using hlt
        go_wp2_with fail
        go_ret
        refine ⟨ret_int ?_, hb⟩
        have : endF l i = k + 1 := by
          unfold endF
          rw [HY.out.1, nextB_end (by rw [HL.out]; omega), HL.out]
          omega
        rw [this]; rfl
set_option maxHeartbeats 1000000 in
theorem same_eq {B B' : Nat} (l : List Int) (A A' : Option Addr) (n c d : Nat) (w : World) (ha : Rd w B 1 A n (l.map rn)) (hb : Rd w B' 1 A' n (l.map rn)) (hl : n ≤ 100000) :
    Calls Try.prog 16 #[.slice A n c, .slice A' n d] w fun e w' => e = .returned (.bool true) ∧ Below w.heap.size w w' := by
  go_enter Try.func16, Try.ntmps16
  go_wp2_with fail
  go_loopg [5] n (fun g s5 wr => ∃ k : Nat, k + g = n ∧ s5 = .int .i64 k ∧ Rd wr B 1 A n (l.map rn) ∧ Rd wr B' 1 A' n (l.map rn) ∧ Below w.heap.size w wr)
  case atStart => exact ⟨0, by omega, rfl, ha, hb, Below.refl _ _⟩
  case round =>
    clear ha hb
    obtain ⟨k, hkg, rfl, ha, hb, hw⟩ := hrel
    by_cases hlt : k < n
    · obtain ⟨b, off, x, rfl, hbB, hx, c1⟩ := ha.at1 hlt
      obtain ⟨b', off', y, rfl, hbB', hy, c1'⟩ := hb.at1 hlt
      obtain rfl : x = y := by rw [hx] at hy; injection hy
      unfold rn at c1 c1'
      clear hx hy
      go_wp2_with fail
      go_quiet (fail)
      go_wp2_with fail
      go_roundg (n - (k + 1))
      case measure => omega
      case rel => exact ⟨k + 1, by omega, by go_num, ha.drewN nq, hb.drewN nq, below_drewN' hw nq⟩
    · go_wp2_with fail
      go_ret
      exact ⟨rfl, hw⟩
end Go.Proofs.Ytbaapdhfbhnlcaa
