/-
  RingWraps, walked. No condition but what the arguments' kinds bear.
-/
import Derived.Test.YtailflbhcmgnpaaHold
import Derived.Test.YtailflbhcmgnpaaFrame
namespace Go.Proofs.Ytailflbhcmgnpaa
open Go.RowKit Go.Proofs
set_option linter.unusedVariables false
/-- Rows that show the numbers from one on to another. -/
def lst (g n : Nat) : List Row := (List.range' g (n - g)).map fun (j : Nat) => some (j : Int)
theorem lst_len (g n : Nat) : (lst g n).length = n - g := by simp [lst]
theorem lst_snoc {g n : Nat} (h : g ≤ n) : lst g (n + 1) = lst g n ++ [some (n : Int)] := by
  unfold lst
  rw [show n + 1 - g = (n - g) + 1 by omega, List.range'_concat, List.map_append]
  simp
  omega
theorem lst_at {g n i : Nat} (h : g + i < n) : (lst g n)[i]? = some (some ((g + i : Nat) : Int)) := by
  simp [lst, List.getElem?_range' (show i < n - g by omega)]
theorem lst_cons {g n : Nat} (h : g < n) : lst g n = some (g : Int) :: lst (g + 1) n := by
  unfold lst
  rw [show n - g = (n - (g + 1)) + 1 by omega, List.range'_succ]
  rfl
theorem lst_step (room i : Nat) : pL room (lst (i - room) i) (some (i : Int)) = lst (i + 1 - room) (i + 1) ∧ pG room (lst (i - room) i) (i - room) = i + 1 - room ∧ pB room (lst (i - room) i) = decide (room ≤ i) ∧ (room ≤ i → pO room (lst (i - room) i) (some (i : Int)) = some ((i - room : Nat) : Int)) := by
  have hl := lst_len (i - room) i
  unfold pL pG pB pO
  rw [hl]
  by_cases h : i < room
  · rw [if_pos (by omega), if_pos (by omega), show i - room = 0 by omega, show i + 1 - room = 0 by omega, lst_snoc (Nat.zero_le i)]
    exact ⟨rfl, rfl, by simp, fun h2 => by omega⟩
  · rw [if_neg (by omega), if_neg (by omega), if_neg (by omega)]
    rw [← lst_snoc (show i - room ≤ i by omega), lst_cons (show i - room < i + 1 by omega)]
    refine ⟨by rw [show i + 1 - room = i - room + 1 by omega]; rfl, by omega, by simp; omega, fun _ => rfl⟩
set_option maxHeartbeats 4000000 in
theorem lawwraps_walk (w : World) (a b : Nat) (ha : a ≤ 255) (hb : b ≤ 65535) : Calls Try.prog 3 #[.int .u8 a, .int .u16 b] w fun e w' => e = .returned (.bool true) ∧ Below w.heap.size w w' := by
  obtain ⟨room, hroom⟩ : ∃ room, a % 40 = room := ⟨_, rfl⟩
  obtain ⟨n, hn⟩ : ∃ n, b % 300 = n := ⟨_, rfl⟩
  have W := hide (awake_any w)
  have N := hide (fun (W : World) => new_any room W (by omega))
  have RW := hide (fun (k : Int) (W : World) (h0 : -2147483648 ≤ k) (h1 : k ≤ 2147483647) => row_any any k W h0 h1 (fun _ _ => trivial))
  have ON := hide (fun (v1 v2 u1 u2 : Value) (R : Row) (W : World) (h : RowV any W (v1, v2) R) (h' : RowV any W (u1, u2) R) => one_any any any v1 v2 u1 u2 R W h h')
  have hN := hide (fun (W : World) => held_new any room W (by omega))
  have e1 : (a : Int).tmod 40 = room := by rw [Int.tmod_eq_emod_of_nonneg (by omega)]; omega
  have e2 : (b : Int).tmod 300 = n := by rw [Int.tmod_eq_emod_of_nonneg (by omega)]; omega
  have hr40 : room < 40 := by omega
  have hn300 : n < 300 := by omega
  go_enter Try.func3, Try.ntmps3
  go_upto_region 8 with (first
    | (go_at_call 8; go_must (refine W.out.mono ?_; rintro e w1 ⟨rfl, b1⟩))
    | (go_at_call 9; go_must (refine (N.out _).mono ?_; rintro e w0 ⟨rfl, rfl⟩)))
  go_name_world W0 hW0
  have K0 := hide (show Held any w1.heap.size W0 w1.heap.size none [] room 0 by rw [← hW0]; exact hN.out w1)
  have B0 := hide (show Below w1.heap.size w1 W0 by rw [← hW0]; exact (Below.refl _ _).alloc (Nat.le_refl _) _)
  clear hW0 hN N W
  go_wp2_with fail
  go_loopg [8, 9] n (fun gg s8 s9 wr => ∃ (i q : Nat) (S : Option Nat), i + gg = n ∧ s9 = .int .i64 i ∧ s8 = .int .i64 q ∧ Hid (i - room = q) ∧ q ≤ i ∧ Hid (Held any w1.heap.size wr w1.heap.size S (lst q i) room q) ∧ Hid (Below w1.heap.size w1 wr))
  case atStart => exact ⟨0, 0, none, by omega, rfl, rfl, hide (by omega), by omega, K0, B0⟩
  case round =>
    obtain ⟨i, q, S, hig, rfl, rfl, HQ, hqi, HK, HB⟩ := hrel
    by_cases hlt : i < n
    · obtain ⟨st1, st2, st3, st4⟩ := lst_step room i
      rw [HQ.out] at st1 st2 st3 st4
      have PU := hide (fun (v1 v2 : Value) (W : World) (h : Below wr.heap.size wr W) (hv : RowV any W (v1, v2) (some (i : Int))) => push_h any any w1.heap.size w1.heap.size S (lst q i) room q v1 v2 _ W (HK.out.below h) (Nat.le_trans HB.out.size h.size) hv (fun _ _ => trivial) (by omega))
      by_cases hfull : room ≤ i
      · have st3' : pB room (lst q i) = true := by rw [st3]; simpa using hfull
        have PU' := PU.out
        rw [st1, st2, st4 hfull, st3'] at PU'
        have PU := hide PU'
        have eq1 := hide (show i + 1 - room = q + 1 by have := HQ.out; omega)
        clear PU' st1 st2 st3 st4 st3' hfull
        go_upto_region 13 with (first
          | (go_at_call 11; go_must (refine (RW.out i _ (by omega) (by omega)).mono ?_; rintro e w2 ⟨v1, v2, rfl, r2, b2⟩))
          | (go_at_call 10; go_must (refine (PU.out v1 v2 _ b2 r2).mono ?_; rintro e w3 ⟨o1, o2, S3, rfl, ro3, K3, b3, k3⟩; obtain ⟨Ao, mo, co, bo, rfl, rfl⟩ := row_form ro3)))
        have K3 := hide K3
        have C3 := hide ((HB.out.trans (b2.mono HB.out.size)).trans b3)
        go_name_world W4 hW4
        have n4 : Below w3.heap.size w3 W4 := by rw [← hW4]; exact (Below.refl _ _).alloc (Nat.le_refl _) _
        have q4 : Blk W4 w3.heap.size 30 #[.slice Ao mo co, .bool bo] := by rw [← hW4]; exact Blk.new _ _ _
        have K4 := hide (K3.out.below n4)
        have C4 := hide (below_in C3.out n4 (Nat.le_refl _))
        have r4 := hide (ro3.keep (Keep45.below n4))
        obtain ⟨x0, x1, _, _⟩ := blk2 q4
        have z4 := q4.lt
        clear hW4 n4 q4 K3 C3 b2 b3 k3 r2 ro3
        go_region_held3 (fun W => W.cell? ⟨w3.heap.size, 0, none⟩ = some (.slice Ao mo co) ∧ W.cell? ⟨w3.heap.size, 1, none⟩ = some (.bool bo))
          (first | (exact ⟨x0, x1⟩) | (exact ⟨(D2.cell (p := ⟨w3.heap.size, 0, none⟩) z4).trans x0, (D2.cell (p := ⟨w3.heap.size, 1, none⟩) z4).trans x1⟩) | (exact ⟨(D1.cell (p := ⟨w3.heap.size, 0, none⟩) z4).trans x0, (D1.cell (p := ⟨w3.heap.size, 1, none⟩) z4).trans x1⟩) | go_keep)
          (first
            | (go_at_call 11; (refine (RW.out q _ (by omega) (by omega)).mono ?_); rintro e u1 ⟨c1, c2, rfl, rv1, bb⟩; have D1 := below_in (Below.refl W4.heap.size W4).drew bb (Nat.le_refl _))
            | (go_at_call 12; (refine (ON.out _ _ _ _ (some (q : Int)) _ (r4.out.keep (Keep45.below D1)) rv1).mono ?_); rintro e u2 ⟨rfl, bb2⟩; have D2 := below_in D1 bb2 (Nat.le_refl _)))
        go_wp2_with fail
        go_roundg (n - (i + 1))
        case measure => omega
        case rel => exact ⟨i + 1, q + 1, S3, by omega, by go_num, by go_num, eq1, by omega, by have := K4.out.below D2; rw [eq1.out] at this; exact hide this, hide (below_in C4.out D2 (Nat.le_refl _))⟩
      · have st3' : pB room (lst q i) = false := by rw [st3]; simpa using hfull
        have PU' := PU.out
        have q0 : q = 0 := by have := HQ.out; omega
        rw [st1, st2, st3'] at PU'
        have PU := hide PU'
        have eq1 := hide (show i + 1 - room = q by omega)
        clear PU' st1 st2 st3 st4 st3' hfull q0
        go_wp2_with (first
          | (go_at_call 11; go_must (refine (RW.out i _ (by omega) (by omega)).mono ?_; rintro e w2 ⟨v1, v2, rfl, r2, b2⟩))
          | (go_at_call 10; go_must (refine (PU.out v1 v2 _ b2 r2).mono ?_; rintro e w3 ⟨o1, o2, S3, rfl, ro3, K3, b3, k3⟩; obtain ⟨Ao, mo, co, bo, rfl, rfl⟩ := row_form ro3)))
        have C3 := (HB.out.trans (b2.mono HB.out.size)).trans b3
        have n4 : Below w3.heap.size w3 (w3.alloc (.cells #[.slice Ao mo co, .bool bo] 30)) := (Below.refl _ _).alloc (Nat.le_refl _) _
        go_roundg (n - (i + 1))
        case measure => omega
        case rel => exact ⟨i + 1, q, S3, by omega, by go_num, rfl, eq1, by omega, by have := K3.below n4; rw [eq1.out] at this; exact hide this, hide (below_in C3 n4 (Nat.le_refl _))⟩
    · obtain rfl : i = n := by omega
      obtain ⟨k, hk⟩ : ∃ k, min i room = k := ⟨_, rfl⟩
      have hq := HQ.out
      have hkq : q + k = i := by omega
      have hki : (k : Int) = min (i : Int) room := by omega
      have em := fun W => min2_ Try.prog #[3, 3] 3 (k := .i64) hki W
      have e3 : (i : Int) - k = q := by omega
      have LN := hide (len_h any w1.heap.size w1.heap.size S (lst q i) room q k wr HK.out (by rw [lst_len]; omega))
      have GN := hide (gone_h any w1.heap.size w1.heap.size S (lst q i) room q wr HK.out)
      have AT := hide (fun (j : Nat) (W : World) (hj : j < k) (h : Below wr.heap.size wr W) => at_h any any w1.heap.size w1.heap.size S (lst q i) room q j (some ((q + j : Nat) : Int)) W (HK.out.below h) (lst_at (by omega)) (fun _ _ => trivial))
      clear hk hki hq e2
      go_wp2_with (first
        | (go_at_call 13; go_must (refine LN.out.mono ?_; rintro e w2 ⟨rfl, rfl⟩))
        | (go_at_call 14; go_must (refine GN.out.mono ?_; rintro e w2 ⟨rfl, rfl⟩)))
      go_loopg [13] k (fun gg s13 wq => ∃ j : Nat, j + gg = k ∧ s13 = .int .i64 j ∧ Hid (Below wr.heap.size wr wq))
      case atStart => exact ⟨0, by omega, rfl, hide (Below.refl _ _)⟩
      case round =>
        obtain ⟨j, hjg, rfl, HB2⟩ := hrel
        by_cases hlt2 : j < k
        · obtain ⟨m, hm⟩ : ∃ m, q + j = m := ⟨_, rfl⟩
          have hm2 : (q : Int) + j = m := by omega
          have AT1 := AT.out j wr hlt2 HB2.out
          rw [hm] at AT1
          have AT1 := hide AT1
          have hm3 : m < 300 := by omega
          clear hm
          go_upto_region 23 with (go_at_call 15; go_must (refine AT1.out.mono ?_; rintro e w3 ⟨o1, o2, rfl, ro3, b3⟩; obtain ⟨Ao, mo, co, bo, rfl, rfl⟩ := row_form ro3))
          have B3 := hide (below_in HB2.out b3 (Nat.le_refl _))
          go_name_world W4 hW4
          have n4 : Below w3.heap.size w3 W4 := by rw [← hW4]; exact (Below.refl _ _).alloc (Nat.le_refl _) _
          have q4 : Blk W4 w3.heap.size 30 #[.slice Ao mo co, .bool bo] := by rw [← hW4]; exact Blk.new _ _ _
          have C4 := hide (below_in B3.out n4 (Nat.le_refl _))
          have r4 := hide (ro3.keep (Keep45.below n4))
          obtain ⟨x0, x1, _, _⟩ := blk2 q4
          have z4 := q4.lt
          have hm7 : IntKind.i64.wrap (m : Int) = m := IntWalk.i64_in _ ⟨by omega, by omega⟩
          have hmA : -2147483648 ≤ (m : Int) := by omega
          have hmB : (m : Int) ≤ 2147483647 := by omega
          have RW1 := hide (fun W => RW.out m W hmA hmB)
          have hj3 : j < 300 := by omega
          have HJ := hide (And.intro (And.intro hjg hlt2) hj3)
          clear hW4 n4 q4 b3 ro3 hjg e3 hkq em hmA hmB hlt2 hm3 hj3
          go_region_held3 (fun W => W.cell? ⟨w3.heap.size, 0, none⟩ = some (.slice Ao mo co) ∧ W.cell? ⟨w3.heap.size, 1, none⟩ = some (.bool bo))
            (first | (exact ⟨x0, x1⟩) | (exact ⟨(D2.cell (p := ⟨w3.heap.size, 0, none⟩) z4).trans x0, (D2.cell (p := ⟨w3.heap.size, 1, none⟩) z4).trans x1⟩) | (exact ⟨(D1.cell (p := ⟨w3.heap.size, 0, none⟩) z4).trans x0, (D1.cell (p := ⟨w3.heap.size, 1, none⟩) z4).trans x1⟩) | go_keep)
            (first
              | (go_at_call 11; (refine (RW1.out _).mono ?_); rintro e u1 ⟨c1, c2, rfl, rv1, bb⟩; have D1 := below_in (Below.refl W4.heap.size W4).drew bb (Nat.le_refl _))
              | (go_at_call 12; (refine (ON.out _ _ _ _ (some (m : Int)) _ (r4.out.keep (Keep45.below D1)) rv1).mono ?_); rintro e u2 ⟨rfl, bb2⟩; have D2 := below_in D1 bb2 (Nat.le_refl _)))
          obtain ⟨⟨hjg, hlt2⟩, hj3⟩ := HJ.out
          go_wp2_with fail
          go_roundg (k - (j + 1))
          case measure => omega
          case rel => exact ⟨j + 1, by omega, by go_num, hide (below_in C4.out D2 (Nat.le_refl _))⟩
        · go_wp2_with fail
          go_ret
          exact ⟨rfl, (b1.trans (HB.out.mono b1.size)).trans (HB2.out.mono (Nat.le_trans b1.size HB.out.size))⟩
theorem ringWraps_walk (w : World) (a : Int) (wa : (Lit.int .u8 a).wf = true) (b : Int) (wb : (Lit.int .u16 b).wf = true) :
    Calls Try.prog 3 #[.int .u8 a, .int .u16 b] w fun e w' => e = .returned (.bool true) ∧ Below w.heap.size w w' := by
  have ba := bounds_u8 wa
  have bb := bounds_u16 wb
  obtain ⟨a', rfl⟩ : ∃ a' : Nat, a = a' := ⟨a.toNat, by omega⟩
  obtain ⟨b', rfl⟩ : ∃ b' : Nat, b = b' := ⟨b.toNat, by omega⟩
  exact lawwraps_walk w a' b' (by omega) (by omega)
end Go.Proofs.Ytailflbhcmgnpaa
