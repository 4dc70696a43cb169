/-
  HuntNext, walked. No condition but the arguments' kinds.
-/
import Derived.Test.YtkcmpddefohkeaaLawsB
namespace Go.Proofs.Ytkcmpddefohkeaa
open Go.RowKit Go.Proofs
set_option linter.unusedVariables false
theorem hit_neq0 (w : World) : (binOp .neq 33 (.agg #[.int .i64 0, .int .i64 0]) (.agg #[.int .i64 0, .int .i64 0])).run Try.prog w = .ok (.bool false) w := by
  simp [go_sem]
set_option maxRecDepth 100000 in
set_option maxHeartbeats 4000000 in
theorem huntNext_walk (w : World) (t : ByteArray) (wt : t.size ≤ maxLen) (A : Option Addr) (n c : Nat) (ns : List ByteArray) (hl : ns.length = n) (hnc : n ≤ c) (hcm : c ≤ maxLen) (ha : Rd w w.heap.size 1 A n (ns.map Value.string)) (hq : ∀ x ∈ ns, x.size ≤ maxLen) (q : Int) (wq : (Lit.int .u8 q).wf = true) :
    Calls Try.prog 4 #[.string t, .slice A n c, .int .u8 q] w fun e w' => e = .returned (.bool true) ∧ Below w.heap.size w w' := by
  have GR := hide (great_any t ns A n c w ha wt hq (Nat.le_trans hnc hcm))
  obtain ⟨G, hG⟩ : ∃ G, greatB t ns = G := ⟨_, rfl⟩
  rw [hG] at GR
  cases G with
  | true =>
    clear ha hq hl hG
    go_enter Try.func4, Try.ntmps4
    go_wp2_with (first
      | (go_at_call 9; go_must (refine (GR.out).mono ?_; rintro e w1 ⟨rfl, b1⟩))
      | (go_at_call 10; go_must (refine (awake_any _).mono ?_; rintro e w2 ⟨rfl, b2⟩)))
    go_ret
    exact ⟨rfl, below_in b1 b2 (Nat.le_refl _)⟩
  | false =>
    obtain ⟨g1, g2, g3⟩ := greatB_false hG
    rw [hl] at g2
    have gs : ∀ x ∈ ns, x.size ≤ 400 := fun x hx => by have := g3 x hx; omega
    have hlen : (hitsF (bytesOf plainF t) (needs ns)).length ≤ 40000 := by
      have := hitsF_len (T := bytesOf plainF t) (by rw [bytesOf_len]; omega) (needs ns)
      rw [show (needs ns).length = n by simp [needs, hl]] at this
      omega
    have NW := hide (fun (W : World) (hb : Below w.heap.size w W) => new_any t ns A n c W ((ha.below hb).more hb.size) (by omega) gs (by omega) hnc)
    have RA := hide (fun (W : World) (hb : Below w.heap.size w W) => refAll_any t ns A n c W ((ha.below hb).more hb.size) (by omega) gs (by omega) hnc)
    obtain ⟨hits, hh⟩ : ∃ hits, hitsF (bytesOf plainF t) (needs ns) = hits := ⟨_, rfl⟩
    rw [hh] at NW RA hlen
    obtain ⟨bq1, bq2⟩ := bounds_u8 wq
    obtain ⟨Q, rfl⟩ := Int.eq_ofNat_of_zero_le bq1
    obtain ⟨r, hr⟩ : ∃ r, Q % 9 = r := ⟨_, rfl⟩
    have e9 : (Q : Int).tmod 9 = r := by rw [Int.tmod_eq_emod_of_nonneg (by omega)]; omega
    have hr9 : r < 9 := by omega
    clear ha hq hl hG hh gs g3 wq hr
    go_enter Try.func4, Try.ntmps4
    go_upto_region 5 with (first
      | (go_at_call 9; go_must (refine (GR.out).mono ?_; rintro e w1 ⟨rfl, b1⟩))
      | (go_at_call 10; go_must (refine (awake_any _).mono ?_; rintro e w2 ⟨rfl, b2⟩; have B2 := hide (below_in b1 b2 (Nat.le_refl _))))
      | (go_at_call 14; go_must (refine (NW.out _ B2.out).mono ?_; rintro e w3 ⟨H, rfl, h3, b3⟩; have H3 := hide h3; have B3 := hide (below_in B2.out b3 (Nat.le_refl _)); have Z3 := hide b3.size; clear h3 b3))
      | (go_at_call 13; go_must (refine (RA.out _ B3.out).mono ?_; rintro e w4 ⟨A0, N, c0, rfl, o4, b4⟩; have H4 := hide (H3.out.call b4); have O4 := hide o4; have B4 := hide (below_in B3.out b4 (Nat.le_refl _)); have Z4 := hide (Nat.le_trans Z3.out b4.size); clear o4 b4)))
    have hN : hits.length = N := (own_len hitE_len (by omega) O4.out).symm
    rw [hN] at hlen
    have HN := hide hN
    clear hN
    obtain ⟨M, hM⟩ : ∃ M, N + r = M := ⟨_, rfl⟩
    have hMI : (N : Int) + r = M := by omega
    have HM := hide hM
    have hM5 : M ≤ 50000 := by omega
    have hNM : N ≤ M := by omega
    clear hM
    go_wp2
    go_loopg [9] M (fun g s9 wr => ∃ i : Nat, i + g = M ∧ s9 = .int .i64 i ∧ Hid (HuntAt wr w2.heap.size H (hits.drop i)) ∧ Hid (wr.ownsRow w3.heap.size 33 2 (.slice A0 N c0) N (hits.flatMap hitE)) ∧ Hid (Below w.heap.size w wr) ∧ Hid (w2.heap.size ≤ wr.heap.size))
    case atStart => exact ⟨0, by omega, rfl, H4.out, O4.out, B4.out, Z4.out⟩
    case round =>
      obtain ⟨i, hig, rfl, HH, HO, HB, HZ⟩ := hrel
      by_cases hlt : i < M
      · obtain ⟨y, hy⟩ : ∃ y : Nat, N - i = y := ⟨_, rfl⟩
        have hdl : (hits.drop i).length = y := by rw [List.length_drop, HN.out]; exact hy
        have LE := hide (left_any w2.heap.size H (hits.drop i) wr HH.out)
        rw [hdl] at LE
        have hmx : (y : Int) = max 0 ((N : Int) - i) := by omega
        have em := fun W => max2_ Try.prog #[3, 3] 3 (k := .i64) hmx W
        by_cases hiN : i < N
        · obtain ⟨b, off, x0, x1, rfl, hbl, hx, cx, cy⟩ := hits_at (Rd.of_own HO.out) hiN
          have hdr : hits.drop i = (x0, x1) :: hits.drop (i + 1) := by
            rw [List.drop_eq_getElem_cons (by rw [HN.out]; exact hiN)]
            congr 1
            exact Option.some.inj ((List.getElem?_eq_getElem (by rw [HN.out]; exact hiN)).symm.trans hx)
          have H1 := HH.out
          rw [hdr] at H1
          have NX := hide (next_some w2.heap.size H (hits.drop (i + 1)) (x0, x1) wr H1 HZ.out (by rw [List.length_drop, HN.out]; omega))
          have d1 : decide ((i : Int) < (N : Int)) = true := by simp [hiN]
          have ne := hit_neq
          have HX := hide hx
          clear hx hdr H1 hdl hy hmx cx cy
          go_upto_region 11 with (first
            | (go_at_call 15; go_must (refine (LE.out).mono ?_; rintro e w5 ⟨rfl, rfl⟩))
            | (go_at_call 16; go_must (refine (NX.out).mono ?_; rintro e w6 ⟨rfl, h6, k6, b6⟩; have H6 := hide h6; have O6 := hide (own_keepT HO.out k6 (by decide) (by decide)); have B6 := hide (HB.out.trans (b6.mono B2.out.size)); have Z6 := hide (Nat.le_trans HZ.out b6.size); clear h6 k6 b6)))
          go_name_world W7 hW7
          have D7 := hide (show Below w6.heap.size w6 W7 by rw [← hW7]; exact (Below.refl _ _).alloc (Nat.le_refl _) _)
          have V7 := hide (show Blk W7 w6.heap.size 33 #[.int .i64 x0, .int .i64 x1] by rw [← hW7]; exact Blk.new _ _ _)
          have H7 := hide (H6.out.call D7.out)
          have O7 := hide (own_call O6.out D7.out)
          have B7 := hide (below_in B6.out D7.out (Nat.le_refl _))
          have Z7 := hide (Nat.le_trans Z6.out D7.out.size)
          clear hW7
          have v0 := V7.out.cell 0
          have v1 := V7.out.cell 1
          simp at v0 v1
          obtain ⟨b', off', y0, y1, hA', hbl', hx', cx, cy⟩ := hits_at (Rd.of_own O7.out) hiN
          obtain ⟨rfl, rfl⟩ : b = b' ∧ off = off' := by injection hA' with e9; injection e9 with e8 e7; exact ⟨e8, e7⟩
          obtain ⟨rfl, rfl⟩ : x0 = y0 ∧ x1 = y1 := by have e9 := HX.out.symm.trans hx'; injection e9 with e8; injection e8 with e6 e7; exact ⟨e6, e7⟩
          clear hx' hA'
          go_quiet (fail)
          go_wp2_with fail
          go_roundg (M - (i + 1))
          case measure => omega
          case rel => exact ⟨i + 1, by omega, by go_num, H7.out.call (below_drewN' (Below.refl _ _) nq), own_drewN O7.out _, below_drewN' B7.out _, Z7.out⟩
        · have hdr : hits.drop i = [] := List.drop_of_length_le (by rw [HN.out]; omega)
          have H1 := HH.out
          rw [hdr] at H1
          have NX := hide (next_none w2.heap.size H wr H1 HZ.out)
          have HDR := hide (show hits.drop (i + 1) = [] from List.drop_of_length_le (by rw [HN.out]; omega))
          have d1 : decide ((i : Int) < (N : Int)) = false := by simp; omega
          have ne := hit_neq0
          clear hdr H1 hdl hy hmx
          go_upto_region 11 with (first
            | (go_at_call 15; go_must (refine (LE.out).mono ?_; rintro e w5 ⟨rfl, rfl⟩))
            | (go_at_call 16; go_must (refine (NX.out).mono ?_; rintro e w6 ⟨rfl, h6, k6, b6⟩; have H6 := hide h6; have O6 := hide (own_keepT HO.out k6 (by decide) (by decide)); have B6 := hide (HB.out.trans (b6.mono B2.out.size)); have Z6 := hide (Nat.le_trans HZ.out b6.size); clear h6 k6 b6)))
          go_name_world W7 hW7
          have D7 := hide (show Below w6.heap.size w6 W7 by rw [← hW7]; exact (Below.refl _ _).alloc (Nat.le_refl _) _)
          have V7 := hide (show Blk W7 w6.heap.size 33 #[.int .i64 0, .int .i64 0] by rw [← hW7]; exact Blk.new _ _ _)
          have H7 := hide (H6.out.call D7.out)
          have O7 := hide (own_call O6.out D7.out)
          have B7 := hide (below_in B6.out D7.out (Nat.le_refl _))
          have Z7 := hide (Nat.le_trans Z6.out D7.out.size)
          clear hW7
          have v0 := V7.out.cell 0
          have v1 := V7.out.cell 1
          simp at v0 v1
          go_quiet (fail)
          go_wp2_with fail
          go_roundg (M - (i + 1))
          case measure => omega
          case rel => exact ⟨i + 1, by omega, by go_num, by rw [HDR.out]; exact H7.out.call (below_drewN' (Below.refl _ _) nq), own_drewN O7.out _, below_drewN' B7.out _, Z7.out⟩
      · obtain rfl : i = M := by omega
        go_wp2
        go_ret
        exact ⟨rfl, HB.out⟩
end Go.Proofs.Ytkcmpddefohkeaa
