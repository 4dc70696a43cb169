/-
  The walk of FoldTiles. No condition but what the arguments' kinds bear.
-/
import Derived.Test.YtdmiaciembcebaaPlain
import Derived.Test.YtdmiaciembcebaaLaws
namespace Go.Proofs.Ytdmiaciembcebaa
open Go.RowKit Go.Proofs
set_option linter.unusedVariables false

theorem item_same (a b c : Int) (w : World) : (binOp .neq 47 (.agg #[.int .i64 a, .int .u64 b, .int .i64 c]) (.agg #[.int .i64 a, .int .u64 b, .int .i64 c])).run Try.prog w = .ok (.bool false) w := by
  simp [go_sem]

set_option maxHeartbeats 4000000 in
theorem foldTiles_walk (w : World) (rows : Int) (wr : (Lit.int .u8 rows).wf = true) (A : Option Addr) (n c : Nat) (l : List Fd) (hl : l.length = n) (hnc : n ≤ c) (_ : c ≤ maxLen) (ha : Rd w w.heap.size 3 A n (l.flatMap fdc)) (_ : ∀ x ∈ l, True) :
    Calls Try.prog 7 #[.int .u8 rows, .slice A n c] w fun e w' => e = .returned (.bool true) ∧ Below w.heap.size w w' := by
  obtain ⟨r1, r2⟩ := bounds_u8 wr
  clear wr
  obtain ⟨R, rfl⟩ := Int.eq_ofNat_of_zero_le r1
  by_cases h : 60 < n
  · have h' : decide ((60 : Int) < (n : Int)) = true := by simp; omega
    clear ha
    go_enter Try.func7, Try.ntmps7
    go_wp2_with (go_at_call 8; go_must (refine (awake_any _).mono ?_; rintro e w1 ⟨rfl, hb⟩))
    go_ret
    exact ⟨rfl, hb⟩
  · have h' : decide ((60 : Int) < (n : Int)) = false := by simp; omega
    have HL := hide hl
    clear hl
    have HC := hide (clean_right (rows := (R : Int)) l 0 (by omega))
    have HT := hide (tile_lay (cleanF (R : Int) 0 l) 0 HC.out r1)
    obtain ⟨its, hits⟩ : ∃ its, its = layF (R : Int) 0 (cleanF (R : Int) 0 l) := ⟨_, rfl⟩
    have HG : Hid (∀ x ∈ its, -9223372036854775808 ≤ x.1) := hide (by rw [hits]; intro x hx; have := lay_ge _ _ HC.out x hx; omega)
    have HI := hide hits
    rw [← hits] at HT
    have HLen := hide (lay_len (cleanF (R : Int) 0 l) 0 HC.out r1)
    rw [← hits] at HLen
    clear hits
    go_enter Try.func7, Try.ntmps7
    go_wp2_with (first
      | (go_at_call 8; go_must (refine (awake_any _).mono ?_; rintro e w1 ⟨rfl, hb1⟩; have z1 := hb1.size; have R1 := (ha.below hb1).more z1))
      | (go_at_call 12; go_must (refine (to_any A n c l w1 R1 (by omega)).mono ?_; intro e w2 PP; obtain ⟨A2, N2, c2, rfl, own2, hb2⟩ := PP; have z2 := hb2.size; have S2 := Rd.of_own own2; have hN2 : N2 ≤ 1000 := (by have := own_len fdc_len (by omega) own2; have := HL.out; omega)))
      | (go_at_call 18; go_must (refine (clean_any A2 N2 c2 R l w2 S2 hN2).mono ?_; intro e w3 PP; obtain ⟨A3, N3, c3, rfl, own3, hb3⟩ := PP; have z3 := hb3.size; have S3 := Rd.of_own own3; have hN3 : N3 ≤ 1000 := (by have := own_len fdc_len (by omega) own3; have := clean_len (rows := (R : Int)) l 0; have := HL.out; omega)))
      | (go_at_call 13; go_must (refine (lay_right A3 N3 c3 R _ w3 S3 hN3 r1 (by omega) HC.out).mono ?_; intro e w4 PP; obtain ⟨v4, N4, rfl, own4, hb4⟩ := PP; obtain ⟨A4, c4, rfl⟩ := own_slice own4; have z4 := hb4.size; have S4 := Rd.of_own own4; rw [← HI.out] at S4 own4; have hN4 : (N4 : Int) ≤ 1000 := (by have h1 := own_len itc_len (by omega) own4; have h2 := HLen.out; have h3 := (hid_bound _ 0 (cleanF (R : Int) 0 l).length HC.out (by omega) (by omega)).1; rw [List.take_length] at h3; omega))))
    go_loopw [8, 9] (fun a i wx => ∃ (k : Nat) (q : Int), k ≤ N4 ∧ i = .int .i64 k ∧ a = .int .i64 q ∧ w4 = wx ∧ 0 ≤ q ∧ q ≤ R ∧ Hid (tileF q (its.drop k) = some (R : Int))) (fun _ i _ => N4 - (intOf i).toNat)
    case atStart => exact ⟨0, 0, by omega, rfl, rfl, rfl, by omega, by omega, HT⟩
    case round =>
      obtain ⟨k, q, hk, rfl, rfl, rfl, q0, q1, H⟩ := hrel
      by_cases hlt : k < N4
      · obtain ⟨b, off, x0, x1, x2, rfl, hbB, hx, d1, d2, d3⟩ := items_at S4 hlt
        obtain ⟨t1, t2, t3⟩ := tile_at hx H.out
        simp only at t1 t2 t3
        subst t1
        obtain ⟨y, hy⟩ : ∃ y, y = max 1 x2 := ⟨_, rfl⟩
        have e1 := fun W => max2_ Try.prog #[3, 3] 3 (k := .i64) hy W
        rw [← hy] at t2 t3
        have y1 : 1 ≤ y := by omega
        have T2 := hide t2
        clear hy hx t2
        go_wp2_with fail
        go_roundw
        case rel => exact ⟨k + 1, x0 + y, by omega, by go_num, rfl, by first | rfl | trivial, by omega, by omega, T2⟩
        case measure => simp [intOf]; omega
      · have L0 := hide (lay_right none 0 0 R [] w4 Rd.nil (by omega) r1 (by omega) rfl)
        have hq : q = R := by
          have h1 := H.out
          rw [List.drop_of_length_le (by have := own_len itc_len (by omega) own4; omega)] at h1
          simp [tileF] at h1
          exact h1
        subst hq
        go_wp2_with (go_at_call 13; go_must (refine L0.out.mono ?_; intro e w5 PP; obtain ⟨v5, N5, rfl, own5, hb5⟩ := PP; obtain ⟨A5, c5, rfl⟩ := own_slice own5; have z5 := hb5.size; have S5 := Rd.of_own own5; have T5 := (S4.below hb5).more z5; have e5 := own_len itc_len (by omega) own5; rw [show (layF (R : Int) 0 []).length = R from by rw [show layF (R : Int) 0 [] = rowsFrom 0 R from rfl, rowsFrom_len]; omega] at e5; subst e5))
        have L5 : layF (N5 : Int) 0 [] = rowsFrom 0 N5 := rfl
        rw [L5] at S5
        go_loopw [12] (fun i wx => ∃ (j : Nat), j ≤ N5 ∧ i = .int .i64 j ∧ Below w5.heap.size w5 wx) (fun i _ => N5 - (intOf i).toNat)
        case atStart => exact ⟨0, by omega, rfl, Below.refl _ _⟩
        case round =>
          obtain ⟨j, hj, rfl, hb⟩ := hrel
          have hbz := hb.size
          by_cases hjt : j < N5
          · obtain ⟨b, off, x0, x1, x2, rfl, hbB, hx, d1, d2, d3⟩ := items_at (S5.below hb) hjt
            rw [rows_at (by omega)] at hx
            simp only [Option.some.injEq, Prod.mk.injEq] at hx
            obtain ⟨h0, rfl, rfl⟩ := hx
            rw [← h0, Int.zero_add] at d1
            clear h0
            have hsame := item_same
            obtain ⟨ob, hob⟩ : ∃ ob, ob = (idxF j 0 its).isSome := ⟨_, rfl⟩
            obtain ⟨ov, hov⟩ : ∃ ov, ov = (idxF j 0 its).getD 0 := ⟨_, rfl⟩
            have FF := find_any A4 N4 c4 j its wr w5.heap.size hbz (T5.below hb) (by omega) HG.out
            rw [← hob, ← hov] at FF
            have F' := hide FF
            have hlen := own_len itc_len (by omega) own4
            have hcase : (ob = true ∧ ov < N4) ∨ (ob = false ∧ ((n : Int) == 0) = false) := by
              cases hi : idxF j 0 its with
              | some i =>
                left
                rw [hi] at hob hov
                have := idx_lt its 0 i hi
                exact ⟨hob, by rw [hov, hlen]; simpa using this⟩
              | none =>
                right
                rw [hi] at hob
                refine ⟨hob, ?_⟩
                rw [beq_eq_false_iff_ne]
                intro hn0
                have hl0 : l = [] := List.eq_nil_of_length_eq_zero (by rw [HL.out]; omega)
                have he : its = rowsFrom 0 N5 := by rw [HI.out, hl0]; rfl
                have := rows_found (n := N5) (k := j) (by omega)
                rw [← he, hi] at this
                cases this
            clear hob hov FF hlen
            rcases hcase with ⟨rfl, q1⟩ | ⟨rfl, q1⟩
            all_goals
              go_wp2_with (go_at_call 19; go_must (refine F'.out.mono ?_; rintro e w7 ⟨rfl, hb7⟩; have z7 := hb7.size))
              go_roundw
              case rel => exact ⟨j + 1, by omega, by go_num, hb.trans (hb7.mono hbz)⟩
              case measure => simp [intOf]; omega
          · go_wp2_with fail
            go_ret
            exact ⟨rfl, ((((hb1.trans (hb2.mono z1)).trans (hb3.mono (by omega))).trans (hb4.mono (by omega))).trans (hb5.mono (by omega))).trans (hb.mono (by omega))⟩
end Go.Proofs.Ytdmiaciembcebaa
