/-
  HuntFirst, walked. No condition but the arguments' kinds.
-/
import Derived.Test.YtkcmpddefohkeaaLaws
import Derived.OpenShut
namespace Go.Proofs.Ytkcmpddefohkeaa
open Go.RowKit Go.Proofs
set_option linter.unusedVariables false
theorem hit_eql (w : World) : (binOp .eql 33 (.agg #[.int .i64 0, .int .i64 0]) (.agg #[.int .i64 0, .int .i64 0])).run Try.prog w = .ok (.bool true) w := by
  simp [go_sem]
set_option maxHeartbeats 4000000 in
theorem huntFirst_walk (w : World) (t : ByteArray) (wt : t.size ≤ maxLen) (q : Int) (wq : (Lit.int .i64 q).wf = true) (A : Option Addr) (n c : Nat) (ns : List ByteArray) (hl : ns.length = n) (hnc : n ≤ c) (hcm : c ≤ maxLen) (ha : Rd w w.heap.size 1 A n (ns.map Value.string)) (hq : ∀ x ∈ ns, x.size ≤ maxLen) :
    Calls Try.prog 5 #[.string t, .int .i64 q, .slice A n c] w fun e w' => e = .returned (.bool true) ∧ Below w.heap.size w w' := by
  have GR := hide (great_any t ns A n c w ha wt hq (Nat.le_trans hnc hcm))
  obtain ⟨G, hG⟩ : ∃ G, greatB t ns = G := ⟨_, rfl⟩
  rw [hG] at GR
  cases G with
  | true =>
    clear ha hq hl hG
    go_enter Try.func5, Try.ntmps5
    go_wp2_with (first
      | (go_at_call 9; go_must (refine (GR.out).mono ?_; rintro e w1 ⟨rfl, b1⟩))
      | (go_at_call 10; go_must (refine (awake_any _).mono ?_; rintro e w2 ⟨rfl, b2⟩)))
    go_ret
    exact ⟨rfl, below_in b1 b2 (Nat.le_refl _)⟩
  | false =>
    obtain ⟨g1, g2, g3⟩ := greatB_false hG
    rw [hl] at g2
    have gs : ∀ x ∈ ns, x.size ≤ 400 := fun x hx => by have := g3 x hx; omega
    have hlen : (hitsF (bytesOf plainF t) (needs ns)).length ≤ 1000000 := by
      have := hitsF_len (T := bytesOf plainF t) (by rw [bytesOf_len]; omega) (needs ns)
      rw [show (needs ns).length = n by simp [needs, hl]] at this
      omega
    have FI := hide (fun (q : Int) (W : World) (hb : Below w.heap.size w W) => first_any t ns A n c q W ((ha.below hb).more hb.size) (by omega) gs (by omega) hnc)
    have RA := hide (fun (W : World) (hb : Below w.heap.size w W) => refAll_any t ns A n c W ((ha.below hb).more hb.size) (by omega) gs (by omega) hnc)
    obtain ⟨hits, hh⟩ : ∃ hits, hitsF (bytesOf plainF t) (needs ns) = hits := ⟨_, rfl⟩
    rw [hh] at FI RA hlen
    obtain ⟨bq1, bq2⟩ := bounds_i64 wq
    have RA' := hide (fun (W : World) (hb : Below w.heap.size w W) => (show Calls Try.prog 13 #[.string t, .slice A n c] W (fun e w' => ∃ A0 c0, e = .returned (.slice A0 hits.length c0) ∧ Rd w' w'.heap.size 2 A0 hits.length (hits.flatMap hitE) ∧ hits.length ≤ c0 ∧ Below W.heap.size W w') from (RA.out W hb).mono (by
      rintro e w' ⟨A0, N0, c0, rfl, o0, b0⟩
      have e1 := own_len hitE_len (by omega) o0
      subst e1
      refine ⟨A0, c0, rfl, Rd.of_own o0, ?_, b0⟩
      rcases o0.2 with ⟨h1, h2⟩ | ⟨_, cap, _, h1, _, _, h2, _⟩
      · omega
      · injection h1 with _ _ h3; omega)))
    obtain ⟨N, hN⟩ : ∃ N, hits.length = N := ⟨_, rfl⟩
    rw [hN] at RA' hlen
    have HN := hide hN
    clear ha hq hl hG hh gs g3 RA wq hN
    by_cases hq0 : q < 0
    · have d0 : decide (q < 0) = true := by simp [hq0]
      have FI := hide (fun (W : World) (hb : Below w.heap.size w W) => (by have := FI.out 0 W hb; exact this : Calls Try.prog 17 #[.string t, .int .i64 0, .slice A n c] W (RetSlice 33 2 ((hits.take 0).flatMap hitE) W)))
      go_enter Try.func5, Try.ntmps5
      go_upto_region 4 with (first
        | (go_at_call 9; go_must (refine (GR.out).mono ?_; rintro e w1 ⟨rfl, b1⟩))
        | (go_at_call 10; go_must (refine (awake_any _).mono ?_; rintro e w2 ⟨rfl, b2⟩; have B2 := hide (below_in b1 b2 (Nat.le_refl _))))
        | (go_at_call 13; go_must (refine (RA'.out _ B2.out).mono ?_; rintro e w3 ⟨A0, c0, rfl, r0, hc0, b3⟩; have R3 := hide r0; have B3 := hide (below_in B2.out b3 (Nat.le_refl _)); clear r0 b3)))
      by_cases hk : 0 < N
      · have d2 : decide ((0 : Int) < (N : Int)) = true := by simp [hk]
        have sl := fun V => cut_h (P := Try.prog) (t := 26) (a := A0) (len := N) (cap := c0) (s := 2) (e := 33) (by kernel_rfl) (by kernel_rfl) 0 (H := (0 : Int)) rfl (by omega) V
        have R4 : Rd w3 w3.heap.size 2 (cutA A0 c0 0 2) 0 ((hits.take 0).flatMap hitE) := Rd.nil
        obtain ⟨D, hD⟩ : ∃ D, cutA A0 c0 0 2 = D := ⟨_, rfl⟩
        rw [hD] at R4 sl
        have R4 := hide R4
        have hNI : (0 : Int) < N := by omega
        clear hD
        go_upto_region 10 with (go_at_call 16; go_must (refine (next_nil _).mono ?_; rintro e w5 ⟨rfl, b5⟩; have B5 := hide (below_in B3.out b5 (Nat.le_refl _)); have R5 := hide ((R4.out.below b5).more b5.size); clear b5))
        go_name_world W6 hW6
        have D6 := hide (show Below w5.heap.size w5 W6 by rw [← hW6]; exact (Below.refl _ _).alloc (Nat.le_refl _) _)
        have V6 := hide (show Blk W6 w5.heap.size 33 #[.int .i64 0, .int .i64 0] by rw [← hW6]; exact Blk.new _ _ _)
        have B6 := hide (below_in B5.out D6.out (Nat.le_refl _))
        have R6 := hide ((R5.out.below D6.out).more D6.out.size)
        clear hW6
        have HE := hit_eql
        have hz6 := V6.out.lt
        go_wp2_with (first
          | (go_at_call 17; go_must (refine (FI.out _ B6.out).mono ?_; rintro e w7 ⟨A7, N7, c7, rfl, o7, b7⟩; have O7 := hide o7; have R7 := hide ((R6.out.below b7).more b7.size); have B7 := hide (below_in B6.out b7 (Nat.le_refl _)); have V7 := hide (V6.out.below b7 hz6); clear o7 b7))
          | (go_at_call 11; go_must (refine (same_hits _ _ _ _ _ _ _ _ (Rd.of_own O7.out) R7.out (by have := (R7.out).len hitE_len (by omega); have h9 := own_len hitE_len (by omega) O7.out; rw [List.length_take] at h9; have := HN.out; omega)).mono ?_; rintro e w8 ⟨rfl, b8⟩; have B8 := hide (below_in B7.out b8 (Nat.le_refl _)); have V8 := hide (V7.out.below b8 V7.out.lt); have v0 := V8.out.cell 0; have v1 := V8.out.cell 1; simp at v0 v1; clear b8))
          | (go_at_call 15; go_must (refine (left_nil _).mono ?_; rintro e w9 ⟨rfl, rfl⟩)))
        go_ret
        exact ⟨rfl, B8.out⟩
      · have d2 : decide ((0 : Int) < (N : Int)) = false := by simp; omega
        have hNI : ¬ (0 : Int) < N := by omega
        have R4 := R3.out
        rw [← show hits.take 0 = hits from List.take_of_length_le (by rw [HN.out]; omega)] at R4
        have R4 := hide R4
        go_upto_region 10 with (go_at_call 16; go_must (refine (next_nil _).mono ?_; rintro e w5 ⟨rfl, b5⟩; have B5 := hide (below_in B3.out b5 (Nat.le_refl _)); have R5 := hide ((R4.out.below b5).more b5.size); clear b5))
        go_name_world W6 hW6
        have D6 := hide (show Below w5.heap.size w5 W6 by rw [← hW6]; exact (Below.refl _ _).alloc (Nat.le_refl _) _)
        have V6 := hide (show Blk W6 w5.heap.size 33 #[.int .i64 0, .int .i64 0] by rw [← hW6]; exact Blk.new _ _ _)
        have B6 := hide (below_in B5.out D6.out (Nat.le_refl _))
        have R6 := hide ((R5.out.below D6.out).more D6.out.size)
        clear hW6
        have HE := hit_eql
        have hz6 := V6.out.lt
        go_wp2_with (first
          | (go_at_call 17; go_must (refine (FI.out _ B6.out).mono ?_; rintro e w7 ⟨A7, N7, c7, rfl, o7, b7⟩; have O7 := hide o7; have R7 := hide ((R6.out.below b7).more b7.size); have B7 := hide (below_in B6.out b7 (Nat.le_refl _)); have V7 := hide (V6.out.below b7 hz6); clear o7 b7))
          | (go_at_call 11; go_must (refine (same_hits _ _ _ _ _ _ _ _ (Rd.of_own O7.out) R7.out (by have := (R7.out).len hitE_len (by omega); have h9 := own_len hitE_len (by omega) O7.out; rw [List.length_take] at h9; have := HN.out; omega)).mono ?_; rintro e w8 ⟨rfl, b8⟩; have B8 := hide (below_in B7.out b8 (Nat.le_refl _)); have V8 := hide (V7.out.below b8 V7.out.lt); have v0 := V8.out.cell 0; have v1 := V8.out.cell 1; simp at v0 v1; clear b8))
          | (go_at_call 15; go_must (refine (left_nil _).mono ?_; rintro e w9 ⟨rfl, rfl⟩)))
        go_ret
        exact ⟨rfl, B8.out⟩
    · obtain ⟨k, rfl⟩ := Int.eq_ofNat_of_zero_le (show 0 ≤ q by omega)
      have d0 : decide ((k : Int) < 0) = false := by simp
      have FI := hide (fun (W : World) (hb : Below w.heap.size w W) => (by have := FI.out (k : Int) W hb; rwa [Int.toNat_natCast] at this : Calls Try.prog 17 #[.string t, .int .i64 k, .slice A n c] W (RetSlice 33 2 ((hits.take k).flatMap hitE) W)))
      go_enter Try.func5, Try.ntmps5
      go_upto_region 4 with (first
        | (go_at_call 9; go_must (refine (GR.out).mono ?_; rintro e w1 ⟨rfl, b1⟩))
        | (go_at_call 10; go_must (refine (awake_any _).mono ?_; rintro e w2 ⟨rfl, b2⟩; have B2 := hide (below_in b1 b2 (Nat.le_refl _))))
        | (go_at_call 13; go_must (refine (RA'.out _ B2.out).mono ?_; rintro e w3 ⟨A0, c0, rfl, r0, hc0, b3⟩; have R3 := hide r0; have B3 := hide (below_in B2.out b3 (Nat.le_refl _)); clear r0 b3)))
      by_cases hk : k < N
      · have d2 : decide ((k : Int) < (N : Int)) = true := by simp [hk]
        have sl := fun V => cut_h (P := Try.prog) (t := 26) (a := A0) (len := N) (cap := c0) (s := 2) (e := 33) (by kernel_rfl) (by kernel_rfl) k (H := (k : Int)) rfl (by omega) V
        have R4 := R3.out.part (k := 0) (m := k) (cap := c0) (by omega) (by omega) hc0
        rw [Nat.zero_mul, List.drop_zero, Nat.sub_zero, flat_take hitE_len] at R4
        obtain ⟨D, hD⟩ : ∃ D, cutA A0 c0 0 2 = D := ⟨_, rfl⟩
        rw [hD] at R4 sl
        have R4 := hide R4
        have hNI : (k : Int) < N := by omega
        clear hD
        go_upto_region 10 with (go_at_call 16; go_must (refine (next_nil _).mono ?_; rintro e w5 ⟨rfl, b5⟩; have B5 := hide (below_in B3.out b5 (Nat.le_refl _)); have R5 := hide ((R4.out.below b5).more b5.size); clear b5))
        go_name_world W6 hW6
        have D6 := hide (show Below w5.heap.size w5 W6 by rw [← hW6]; exact (Below.refl _ _).alloc (Nat.le_refl _) _)
        have V6 := hide (show Blk W6 w5.heap.size 33 #[.int .i64 0, .int .i64 0] by rw [← hW6]; exact Blk.new _ _ _)
        have B6 := hide (below_in B5.out D6.out (Nat.le_refl _))
        have R6 := hide ((R5.out.below D6.out).more D6.out.size)
        clear hW6
        have HE := hit_eql
        have hz6 := V6.out.lt
        go_wp2_with (first
          | (go_at_call 17; go_must (refine (FI.out _ B6.out).mono ?_; rintro e w7 ⟨A7, N7, c7, rfl, o7, b7⟩; have O7 := hide o7; have R7 := hide ((R6.out.below b7).more b7.size); have B7 := hide (below_in B6.out b7 (Nat.le_refl _)); have V7 := hide (V6.out.below b7 hz6); clear o7 b7))
          | (go_at_call 11; go_must (refine (same_hits _ _ _ _ _ _ _ _ (Rd.of_own O7.out) R7.out (by have := (R7.out).len hitE_len (by omega); have h9 := own_len hitE_len (by omega) O7.out; rw [List.length_take] at h9; have := HN.out; omega)).mono ?_; rintro e w8 ⟨rfl, b8⟩; have B8 := hide (below_in B7.out b8 (Nat.le_refl _)); have V8 := hide (V7.out.below b8 V7.out.lt); have v0 := V8.out.cell 0; have v1 := V8.out.cell 1; simp at v0 v1; clear b8))
          | (go_at_call 15; go_must (refine (left_nil _).mono ?_; rintro e w9 ⟨rfl, rfl⟩)))
        go_ret
        exact ⟨rfl, B8.out⟩
      · have d2 : decide ((k : Int) < (N : Int)) = false := by simp; omega
        have hNI : ¬ (k : Int) < N := by omega
        have R4 := R3.out
        rw [← show hits.take k = hits from List.take_of_length_le (by rw [HN.out]; omega)] at R4
        have R4 := hide R4
        go_upto_region 10 with (go_at_call 16; go_must (refine (next_nil _).mono ?_; rintro e w5 ⟨rfl, b5⟩; have B5 := hide (below_in B3.out b5 (Nat.le_refl _)); have R5 := hide ((R4.out.below b5).more b5.size); clear b5))
        go_name_world W6 hW6
        have D6 := hide (show Below w5.heap.size w5 W6 by rw [← hW6]; exact (Below.refl _ _).alloc (Nat.le_refl _) _)
        have V6 := hide (show Blk W6 w5.heap.size 33 #[.int .i64 0, .int .i64 0] by rw [← hW6]; exact Blk.new _ _ _)
        have B6 := hide (below_in B5.out D6.out (Nat.le_refl _))
        have R6 := hide ((R5.out.below D6.out).more D6.out.size)
        clear hW6
        have HE := hit_eql
        have hz6 := V6.out.lt
        go_wp2_with (first
          | (go_at_call 17; go_must (refine (FI.out _ B6.out).mono ?_; rintro e w7 ⟨A7, N7, c7, rfl, o7, b7⟩; have O7 := hide o7; have R7 := hide ((R6.out.below b7).more b7.size); have B7 := hide (below_in B6.out b7 (Nat.le_refl _)); have V7 := hide (V6.out.below b7 hz6); clear o7 b7))
          | (go_at_call 11; go_must (refine (same_hits _ _ _ _ _ _ _ _ (Rd.of_own O7.out) R7.out (by have := (R7.out).len hitE_len (by omega); have h9 := own_len hitE_len (by omega) O7.out; rw [List.length_take] at h9; have := HN.out; omega)).mono ?_; rintro e w8 ⟨rfl, b8⟩; have B8 := hide (below_in B7.out b8 (Nat.le_refl _)); have V8 := hide (V7.out.below b8 V7.out.lt); have v0 := V8.out.cell 0; have v1 := V8.out.cell 1; simp at v0 v1; clear b8))
          | (go_at_call 15; go_must (refine (left_nil _).mono ?_; rintro e w9 ⟨rfl, rfl⟩)))
        go_ret
        exact ⟨rfl, B8.out⟩
end Go.Proofs.Ytkcmpddefohkeaa
