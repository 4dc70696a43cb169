/-
  RingKeeps, walked. No condition but what the arguments' kinds bear.
-/
import Derived.Test.YtailflbhcmgnpaaDoesAll
namespace Go.Proofs.Ytailflbhcmgnpaa
open Go.RowKit Go.Proofs
set_option linter.unusedVariables false
theorem pL_last {room : Nat} {L : List Row} (R : Row) (h : L.length ≤ room) (h0 : 0 < room) : 0 < (pL room L R).length ∧ (pL room L R)[(pL room L R).length - 1]? = some R := by
  unfold pL
  by_cases h1 : L.length < room
  · rw [if_pos h1]
    simp
  · rw [if_neg h1]
    have hl : 0 < L.length := by omega
    cases L with
    | nil => simp at hl
    | cons x L => simp
theorem pL_none {L : List Row} (R : Row) (h : L.length ≤ 0) : pL 0 L R = [] := by
  have : L = [] := List.eq_nil_of_length_eq_zero (by omega)
  subst this
  rfl
set_option maxRecDepth 100000 in
set_option maxHeartbeats 8000000 in
theorem ringKeeps_walk (w : World) (a : Int) (ha0 : (Lit.int .u8 a).wf = true) (A : Option Addr) (n c : Nat) (l : List (Int × Int)) (hl : l.length = n) (hnc : n ≤ c) (hcm : c ≤ maxLen) (hrd : Rd w w.heap.size 2 A n (l.flatMap opE)) (hq : ∀ p ∈ l, OpQ p) :
    Calls Try.prog 5 #[.int .u8 a, .slice A n c] w fun e w' => e = .returned (.bool true) ∧ Below w.heap.size w w' := by
  obtain ⟨a, rfl⟩ : ∃ k : Nat, a = k := ⟨a.toNat, by have := bounds_u8 ha0; omega⟩
  have ha : a ≤ 255 := by have := bounds_u8 ha0; omega
  have AW := hide awake_any
  have hnm : n ≤ maxLen := by omega
  unfold maxLen at hnm
  clear ha0
  by_cases hbig : 80 < n
  · have d1 : decide (80 < (n : Int)) = true := by simp; omega
    have d2 : decide (80 < n) = true := by simpa using hbig
    clear hrd hq hl hcm
    go_enter Try.func5, Try.ntmps5
    go_wp2_with (go_at_call 8; go_must (refine (AW.out _).mono ?_; rintro e w1 ⟨rfl, b1⟩))
    go_ret
    exact ⟨rfl, b1⟩
  · have d1 : decide (80 < (n : Int)) = false := by simp; omega
    have d2 : decide (80 < n) = false := by simpa using hbig
    have N := hide (fun (W : World) => new_any a W (by omega))
    have N2 := hide (fun (W : World) => two_new a W (by omega))
    have DO := hide (fun (base g m : Nat) (S : Option Nat) (v : Value) (L : List Row) (gone : Nat) (K N : Int) (W : World) (h : Two base W g m S v L gone L gone a) (hb : base ≤ W.heap.size) (hg : gone ≤ 10000000) (hN : -9223372036854775808 ≤ N ∧ N ≤ 9223372036854775807) => does_any base g m S v L gone a K N W h hb ha hg hN)
    have RW := hide (fun (W : World) => row_any any 5 W (by omega) (by omega) (fun _ _ => trivial))
    have ON := hide (fun (v1 v2 u1 u2 : Value) (R : Row) (W : World) (h : RowV any W (v1, v2) R) (h' : RowV any W (u1, u2) R) => one_any any any v1 v2 u1 u2 R W h h')
    have RD := hide hrd
    have HQ := hide hq
    have hn80 : n ≤ 80 := by omega
    clear hrd hq hl hcm hbig
    go_enter Try.func5, Try.ntmps5
    go_upto_region 7 with (first
      | (go_at_call 8; go_must (refine (AW.out _).mono ?_; rintro e w1 ⟨rfl, b1⟩))
      | (go_at_call 9; go_must (refine (N.out _).mono ?_; rintro e w0 ⟨rfl, rfl⟩)))
    go_name_world W0 hW0
    have B0 : Below w1.heap.size w1 W0 := by rw [← hW0]; exact ((Below.refl _ _).alloc (Nat.le_refl _) _).alloc (by simp) _
    have T0 := hide (show Two w1.heap.size W0 w1.heap.size (w1.heap.size + 1) none (.slice none 0 0) [] 0 [] 0 a by rw [← hW0]; exact N2.out w1)
    have B1 := hide b1
    have HB0 := hide B0
    clear hW0 b1 B0 N N2
    go_wp2_with fail
    go_loopg [8] n (fun gg s8 wr => ∃ (k : Nat) (S : Option Nat) (v : Value) (L : List Row) (gone : Nat), k + gg = n ∧ s8 = .int .i64 k ∧ gone ≤ 301 * k ∧ Hid (Two w1.heap.size wr w1.heap.size (w1.heap.size + 1) S v L gone L gone a) ∧ Hid (Below w1.heap.size w1 wr))
    case atStart => exact ⟨0, none, .slice none 0 0, [], 0, by omega, rfl, by omega, T0, HB0⟩
    case round =>
      clear T0 HB0
      obtain ⟨k, S, v, L, gone, hkg, rfl, hgone, HT, HB⟩ := hrel
      by_cases hlt : k < n
      · have d3 : decide (k < n) = true := by simpa using hlt
        obtain ⟨b, off, K, N, rfl, hbl, e0, e1, hN1, hN2⟩ := opAt RD.out HQ.out hlt
        have BB := hide (B1.out.trans (HB.out.mono B1.out.size))
        have e0 := (BB.out.cell (p := ⟨b, off + k * 2, none⟩) hbl).trans e0
        have e1 := (BB.out.cell (p := ⟨b, off + k * 2 + 1, none⟩) hbl).trans e1
        have DO1 := hide (DO.out w1.heap.size w1.heap.size (w1.heap.size + 1) S v L gone K N wr HT.out HB.out.size (by omega) ⟨hN1, hN2⟩)
        have zr := HB.out.size
        go_upto_region 11 with (go_at_call 18; go_must (refine (DO1.out).mono ?_; rintro e w2 ⟨rfl, S2, v2, L2, gone2, T2, hg2, b2⟩; have HB2 := hide (HB.out.trans b2); have T2 := hide T2))
        have z2 := HB2.out.size
        obtain ⟨n2, hn2⟩ : ∃ n2, L2.length = n2 := ⟨_, rfl⟩
        have hn2a : n2 ≤ a := by have := T2.out.len; omega
        have LN1 := hide (len_t w1.heap.size S2 L2 a gone2 n2 w2 T2.out.ring hn2)
        have PR := hide (fun (v1 v2' : Value) (W : World) (hW : Two w1.heap.size W w1.heap.size (w1.heap.size + 1) S2 v2 L2 gone2 L2 gone2 a) (rv : RowV any W (v1, v2') (some 5)) => push_t w1.heap.size S2 L2 a gone2 v1 v2' _ W hW.ring rv (by omega))
        have PM := hide (fun (S' : Option Nat) (LR : List Row) (gR : Nat) (v1 v2' : Value) (W : World) (hW : Two w1.heap.size W w1.heap.size (w1.heap.size + 1) S' v2 LR gR L2 gone2 a) (rv : RowV any W (v1, v2') (some 5)) (hz : w1.heap.size ≤ W.heap.size) => rpush_t w1.heap.size (w1.heap.size + 1) v2 L2 _ v1 v2' a gone2 n2 W hW.ref rv hn2 (by omega) (by omega) (by omega) hz)
        obtain ⟨L3, hL3⟩ : ∃ L3, pL a L2 (some 5) = L3 := ⟨_, rfl⟩
        obtain ⟨gone3, hg3⟩ : ∃ gone3, pG a L2 gone2 = gone3 := ⟨_, rfl⟩
        have hg3b : gone3 ≤ gone2 + 1 := by rw [← hg3]; unfold pG; split <;> omega
        have HL := hide (pL_last (some 5) (L := L2) (room := a) (by omega))
        have HL0 := hide (show a = 0 → pL a L2 (some 5) = [] from fun e => by subst e; exact pL_none (some 5) (by omega))
        have hl3 := pL_len (some 5) (L := L2) (room := a) (by omega)
        obtain ⟨n3, hn3⟩ : ∃ n3, L3.length = n3 := ⟨_, rfl⟩
        rw [hL3, hg3] at PR PM
        rw [hL3] at HL HL0 hl3
        rw [hn3] at hl3 HL
        have HN3 := hide hn3
        have d4 : decide (a < n2) = false := by simp; omega
        have d5 : decide ((a : Int) < n2) = false := by simp; omega
        clear hn2 hL3 hg3 hn3 e0 e1
        go_upto_region 15 with (first
          | (go_at_call 13; go_must (refine (LN1.out).mono ?_; rintro e w3 ⟨rfl, rfl⟩))
          | (go_at_call 11; (with_reducible refine (RW.out w2).mono ?_); rintro e w4 ⟨v1, v2', rfl, rv, b4⟩; have T4 := hide (T2.out.below b4); have z4 := Nat.le_trans z2 b4.size; have HB4 := hide (below_in HB2.out b4 (by omega)))
          | (go_at_call 10; go_must (refine (PR.out v1 v2' _ T4.out rv).mono ?_; rintro e w5 ⟨u1, u2, S5, rfl, ru, r5, t5⟩; obtain ⟨Ao, mo, co, bo, rfl, rfl⟩ := row_form ru; have T5 := hide (T4.out.turn r5 t5 z4); have b5 := T4.out.base_turn t5 z4; have z5 := Nat.le_trans z4 b5.size; have HB5 := hide (HB4.out.trans b5); have RW5 := hide (RW.out w5); clear ru r5 t5))
          | (go_at_call 11; (with_reducible refine (RW5.out).mono ?_); rintro e w6 ⟨v1, v2', rfl, rv6, b6⟩; have T6 := hide (T5.out.below b6); have z6 := Nat.le_trans z5 b6.size; have HB6 := hide (below_in HB5.out b6 (by omega)))
          | (go_at_call 19; go_must (refine (PM.out _ _ _ v1 v2' _ T6.out rv6 z6).mono ?_; rintro e w7 ⟨p1, p2, v7, rfl, rp, r7, t7⟩; obtain ⟨Ap, mp, cp, bp, rfl, rfl⟩ := row_form rp; have T7 := hide (T6.out.turnM r7 t7 z6); have b7 := T6.out.base_turnM t7 z6; have HB7 := hide (HB6.out.trans b7); clear rp r7 t7)))
        have z7 := Nat.le_trans z6 b7.size
        have LN3 := hide (len_t w1.heap.size S5 L3 a gone3 n3 w7 T7.out.ring HN3.out)
        clear PR PM rv rv6 b4 b5 b6 b7 T4 T5 T6 HB4 HB5 HB6 RW5 DO1 LN1 z4 z5 z6 z2 hn2a d4 d5 T2
        by_cases h0 : a = 0
        · subst h0
          obtain rfl : n3 = 0 := by omega
          have AT := hide (at_t0 w1.heap.size S5 L3 0 gone3 (-1) w7 T7.out.ring (by omega))
          go_upto_region 16 with (first
            | (go_at_call 13; go_must (refine (LN3.out).mono ?_; rintro e w8 ⟨rfl, rfl⟩))
            | (go_at_call 15; go_must (refine (AT.out).mono ?_; rintro e w9 ⟨u1, u2, rfl, ru, b9⟩; obtain ⟨rfl, rfl⟩ := ru)))
          go_name_world W9 hW9
          have n9 : Below w9.heap.size w9 W9 := by rw [← hW9]; exact (Below.refl _ _).alloc (Nat.le_refl _) _
          have T9 := hide (T7.out.below (below_in b9 n9 (Nat.le_refl _)))
          have HB9 := hide (HB7.out.trans ((below_in b9 n9 (Nat.le_refl _)).mono z7))
          clear hW9 n9 b9
          go_quiet (fail)
          go_wp2_with fail
          go_roundg (n - (k + 1))
          case measure => omega
          case rel => exact ⟨k + 1, S5, v7, L3, gone3, by omega, by go_num, by omega, T9.out.below (drewN_below _ _), below_drewN' HB9.out _⟩
        · have hl := HL.out (by omega)
          obtain ⟨q, hq⟩ : ∃ q, n3 - 1 = q := ⟨_, rfl⟩
          have hq2 : (n3 : Int) - 1 = q := by omega
          have hqb : q ≤ 300 := by omega
          have AT := at_t w1.heap.size S5 L3 a gone3 (n3 - 1) (some 5) w7 T7.out.ring hl.2
          rw [hq] at AT
          have AT := hide AT
          have ha1 : decide ((0 : Int) < a) = true := by simp; omega
          have ha2 : decide (0 < a) = true := by simp; omega
          clear hl hq
          go_upto_region 16 with (first
            | (go_at_call 13; go_must (refine (LN3.out).mono ?_; rintro e w8 ⟨rfl, rfl⟩))
            | (go_at_call 15; go_must (refine (AT.out).mono ?_; rintro e w9 ⟨u1, u2, rfl, ru, b9⟩; obtain ⟨At, mt, ct, bt, rfl, rfl⟩ := row_form ru)))
          go_name_world W9 hW9
          have n9 : Below w9.heap.size w9 W9 := by rw [← hW9]; exact (Below.refl _ _).alloc (Nat.le_refl _) _
          have q9 : Blk W9 w9.heap.size 30 #[.slice At mt ct, .bool bt] := by rw [← hW9]; exact Blk.new _ _ _
          have T9 := hide (T7.out.below (below_in b9 n9 (Nat.le_refl _)))
          have HB9 := hide (HB7.out.trans ((below_in b9 n9 (Nat.le_refl _)).mono z7))
          have R9 := hide (ru.keep (Keep45.below n9))
          obtain ⟨y0, y1, _, _⟩ := blk2 q9
          have z9 := q9.lt
          have E0 := hide (show ∀ W, Below W9.heap.size W9 W → W.cell? ⟨w9.heap.size, 0, none⟩ = some (.slice At mt ct) ∧ W.cell? ⟨w9.heap.size, 1, none⟩ = some (.bool bt) from
            fun W hW => ⟨(hW.cell (p := ⟨w9.heap.size, 0, none⟩) z9).trans y0, (hW.cell (p := ⟨w9.heap.size, 1, none⟩) z9).trans y1⟩)
          have ed := E0.out _ (Below.refl _ _)
          have DR := (Below.refl W9.heap.size W9).drew
          clear hW9 n9 b9 ru q9 y0 y1
          go_region_held3 (fun W => W.cell? ⟨w9.heap.size, 0, none⟩ = some (.slice At mt ct) ∧ W.cell? ⟨w9.heap.size, 1, none⟩ = some (.bool bt))
            (first | (exact ed) | (exact E0.out _ C2) | (exact E0.out _ C1) | go_keep)
            (first
              | (go_at_call 11; (refine (RW.out _).mono ?_); rintro e x1 ⟨c1, c2, rfl, rv1, bb⟩; have C1 := below_in DR bb (Nat.le_refl _))
              | (go_at_call 12; (refine (ON.out _ _ _ _ (some 5) _ (R9.out.keep (Keep45.below C1)) rv1).mono ?_); rintro e x2 ⟨rfl, bb2⟩; have C2 := below_in C1 bb2 (Nat.le_refl _)))
          go_wp2_with fail
          go_roundg (n - (k + 1))
          case measure => omega
          case rel => exact ⟨k + 1, S5, v7, L3, gone3, by omega, by go_num, by omega, T9.out.below C2, HB9.out.trans (C2.mono HB9.out.size)⟩
      · have d3 : decide (k < n) = false := by simpa using hlt
        go_wp2_with fail
        go_ret
        exact ⟨rfl, B1.out.trans (HB.out.mono B1.out.size)⟩
end Go.Proofs.Ytailflbhcmgnpaa
