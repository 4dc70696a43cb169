/-
  Ranges and WidthRanges, walked. No condition but what the arguments' kinds bear.
-/
import Derived.Test.YtbaapdhfbhnlcaaLawGreedy
namespace Go.Proofs.Ytbaapdhfbhnlcaa
open Go.RowKit Go.Proofs
set_option linter.unusedVariables false
theorem ranges_other (x : Int) (w : World) (h0 : x ≠ 0) (h2 : x ≠ 2) : Calls Try.prog 18 #[.int .i64 x] w fun e w' => e = .returned (.slice none 0 0) ∧ w' = w := by
  have d0 : ((x : Int) == 0) = false := by simpa using h0
  have d2 : ((x : Int) == 2) = false := by simpa using h2
  go_enter Try.func18, Try.ntmps18
  go_wp2
  go_ret
  exact ⟨rfl, rfl⟩

theorem ranges0 (w : World) : Calls Try.prog 18 #[.int .i64 0] w fun e w' => e = .returned (.slice (some ⟨w.heap.size, 0, none⟩) 19 19) ∧ Rd w' w'.heap.size 2 (some ⟨w.heap.size, 0, none⟩) 19 (marksL.flatMap pr) ∧ Below w.heap.size w w' := by
  have M := hide (fun W => marks_any W)
  go_enter Try.func18, Try.ntmps18
  go_wp2_with (go_at_call 23; go_must (refine (M.out _).mono ?_; rintro e w1 ⟨rfl, r1, b1⟩))
  go_ret
  exact ⟨rfl, r1, b1⟩
set_option maxHeartbeats 4000000 in
theorem lawranges0 (w : World) (i r : Int) (h0 : 0 ≤ i) (h1 : i ≤ 255) :
    Calls Try.prog 8 #[.int .i64 0, .int .u8 i, .int .i32 r] w fun e w' => e = .returned (.bool true) ∧ Below w.heap.size w w' := by
  have W := hide awake_any
  have G := hide ranges0
  have R := hide (fun W => rmarks_any W)
  have O := hide (fun W => of_any r W)
  have hL : marksL.length = 19 := rfl
  have HL := hide hL
  clear hL
  go_enter Try.func8, Try.ntmps8
  go_wp2_with (first
    | (go_at_call 18; go_must (refine (G.out _).mono ?_; rintro e w1 ⟨rfl, r1, b1⟩))
    | (go_at_call 19; go_must (refine (R.out _).mono ?_; rintro e w2 ⟨rfl, r2, b2⟩; simp only [World.size_alloc] at r2; have r1' := (r1.alloc (Nat.le_refl _) _).below (b2.mono (B' := w1.heap.size) (by simp))))
    | (go_at_call 11; go_must (refine (W.out _).mono ?_; rintro e w3 ⟨rfl, b3⟩)))
  have hb1 := below_in ((below_in b1 (Below.refl _ _) (Nat.le_refl _)).alloc b1.size _) b2 (Nat.le_refl _)
  have z1 : w1.heap.size ≤ w2.heap.size := by have := b2.size; simp at this; omega
  have z2 : w2.heap.size ≤ w3.heap.size := b3.size
  have r13 := (r1'.more z1).below b3
  have r23 := r2.below b3
  have B0 := hide (below_in hb1 b3 (Nat.le_refl _))
  clear r1 r1' r2 b1 b2 b3 hb1
  go_loopg [9] 19 (fun gg s9 wr => ∃ k : Nat, k + gg = 19 ∧ s9 = .int .i64 k ∧ Below w3.heap.size w3 wr)
  case atStart => exact ⟨0, by omega, rfl, Below.refl _ _⟩
  case round =>
    obtain ⟨k, hkg, rfl, hb⟩ := hrel
    have g1 := r13.below (hb.mono z2)
    have g2 := r23.below (hb.mono z2)
    by_cases hlt : k < 19
    · obtain ⟨b, off, x0, x1, hA1, hbB, hx, c0, c1⟩ := prs_at g1 hlt
      obtain ⟨b', off', y0, y1, hA2, hbB', hy, d0, d1⟩ := prs_at g2 hlt
      injection hA1 with hA1
      injection hA1 with hA3 hA4
      injection hA2 with hA2
      injection hA2 with hA5 hA6
      subst hA3 hA4 hA5 hA6
      rw [hx] at hy
      injection hy with hy
      injection hy with hy1 hy2
      subst hy1 hy2
      obtain ⟨q, hq⟩ : ∃ q, k * 2 = q := ⟨_, rfl⟩
      have hq1 : 2 * (k : Int) = q := by omega
      have hqn : q < 38 := by omega
      have hqi : (q : Int) < 38 := by omega
      have hqn2 : q + 1 < 38 := by omega
      have hq5 : (q : Int) + 1 < 38 := by omega
      have hq6 : (0 : Int) ≤ (q : Int) + 1 := by omega
      have hq7 : ((q : Int) + 1).toNat = q + 1 := by omega
      have hq2 : IntKind.i64.wrap (q : Int) = q := IntWalk.i64_in _ (by omega)
      have hq3 : IntKind.i64.wrap ((q : Int) + 1) = (q : Int) + 1 := IntWalk.i64_in _ (by omega)
      rw [hq] at d0 d1
      have d2 : wr.cell? ⟨w1.heap.size + 1, 0 + (q + 1), none⟩ = some (.int .i32 x1) := d1
      simp only [Nat.zero_add] at c0 c1 d0 d2
      clear d1
      clear hx hq
      go_wp2_with fail
      go_quiet (fail)
      go_wp2_with fail
      go_roundg (19 - (k + 1))
      case measure => omega
      case rel => exact ⟨k + 1, by omega, by go_num, below_drewN' hb nq⟩
    · obtain rfl : k = 19 := by omega
      obtain ⟨j, hj⟩ : ∃ j : Nat, i % 19 = j := ⟨(i % 19).toNat, by omega⟩
      have hj19 : j < 19 := by omega
      obtain ⟨b, off, x0, x1, hA1, hbB, hx, c0, c1⟩ := prs_at g1 hj19
      injection hA1 with hA1
      injection hA1 with hA3 hA4
      subst hA3 hA4
      simp only [Nat.zero_add] at c0 c1
      have hwid := hide (fun (h1 : x0 ≤ r) (h2 : r ≤ x1) => marks_wid (List.mem_of_getElem? hx) h1 h2)
      have hjt : i.tmod 19 = j := by rw [Int.tmod_eq_emod_of_nonneg h0]; exact hj
      have hji : (j : Int) < 19 := by omega
      clear hx
      by_cases a1 : r < x0
      · go_wp2_with fail
        go_ret
        exact ⟨rfl, below_in B0.out (hb.alloc hb.size _) (Nat.le_refl _)⟩
      · by_cases a2 : x1 < r
        · have a3 : decide (r < x0) = false := by simpa using a1
          go_wp2_with fail
          go_ret
          exact ⟨rfl, below_in B0.out (hb.alloc hb.size _) (Nat.le_refl _)⟩
        · have a3 : decide (r < x0) = false := by simpa using a1
          have a4 : decide (x1 < r) = false := by simpa using a2
          have OO := O.out
          rw [hwid.out (by omega) (by omega)] at OO
          have OO := hide OO
          go_wp2_with (go_at_call 9; go_must (refine (OO.out _).mono ?_; rintro e w4 ⟨rfl, b4⟩))
          go_ret
          exact ⟨rfl, below_in (below_in B0.out (hb.alloc hb.size _) (Nat.le_refl _)) b4 (Nat.le_refl _)⟩

theorem ranges2 (w : World) : Calls Try.prog 18 #[.int .i64 2] w fun e w' => e = .returned (.slice (some ⟨w.heap.size, 0, none⟩) 22 22) ∧ Rd w' w'.heap.size 2 (some ⟨w.heap.size, 0, none⟩) 22 (widesL.flatMap pr) ∧ Below w.heap.size w w' := by
  have M := hide (fun W => wides_any W)
  go_enter Try.func18, Try.ntmps18
  go_wp2_with (go_at_call 24; go_must (refine (M.out _).mono ?_; rintro e w1 ⟨rfl, r1, b1⟩))
  go_ret
  exact ⟨rfl, r1, b1⟩
set_option maxHeartbeats 4000000 in
theorem lawranges2 (w : World) (i r : Int) (h0 : 0 ≤ i) (h1 : i ≤ 255) :
    Calls Try.prog 8 #[.int .i64 2, .int .u8 i, .int .i32 r] w fun e w' => e = .returned (.bool true) ∧ Below w.heap.size w w' := by
  have W := hide awake_any
  have G := hide ranges2
  have R := hide (fun W => rwides_any W)
  have O := hide (fun W => of_any r W)
  have hL : widesL.length = 22 := rfl
  have HL := hide hL
  clear hL
  go_enter Try.func8, Try.ntmps8
  go_wp2_with (first
    | (go_at_call 18; go_must (refine (G.out _).mono ?_; rintro e w1 ⟨rfl, r1, b1⟩))
    | (go_at_call 20; go_must (refine (R.out _).mono ?_; rintro e w2 ⟨rfl, r2, b2⟩; simp only [World.size_alloc] at r2; have r1' := (r1.alloc (Nat.le_refl _) _).below (b2.mono (B' := w1.heap.size) (by simp))))
    | (go_at_call 11; go_must (refine (W.out _).mono ?_; rintro e w3 ⟨rfl, b3⟩)))
  have hb1 := below_in ((below_in b1 (Below.refl _ _) (Nat.le_refl _)).alloc b1.size _) b2 (Nat.le_refl _)
  have z1 : w1.heap.size ≤ w2.heap.size := by have := b2.size; simp at this; omega
  have z2 : w2.heap.size ≤ w3.heap.size := b3.size
  have r13 := (r1'.more z1).below b3
  have r23 := r2.below b3
  have B0 := hide (below_in hb1 b3 (Nat.le_refl _))
  clear r1 r1' r2 b1 b2 b3 hb1
  go_loopg [9] 22 (fun gg s9 wr => ∃ k : Nat, k + gg = 22 ∧ s9 = .int .i64 k ∧ Below w3.heap.size w3 wr)
  case atStart => exact ⟨0, by omega, rfl, Below.refl _ _⟩
  case round =>
    obtain ⟨k, hkg, rfl, hb⟩ := hrel
    have g1 := r13.below (hb.mono z2)
    have g2 := r23.below (hb.mono z2)
    by_cases hlt : k < 22
    · obtain ⟨b, off, x0, x1, hA1, hbB, hx, c0, c1⟩ := prs_at g1 hlt
      obtain ⟨b', off', y0, y1, hA2, hbB', hy, d0, d1⟩ := prs_at g2 hlt
      injection hA1 with hA1
      injection hA1 with hA3 hA4
      injection hA2 with hA2
      injection hA2 with hA5 hA6
      subst hA3 hA4 hA5 hA6
      rw [hx] at hy
      injection hy with hy
      injection hy with hy1 hy2
      subst hy1 hy2
      obtain ⟨q, hq⟩ : ∃ q, k * 2 = q := ⟨_, rfl⟩
      have hq1 : 2 * (k : Int) = q := by omega
      have hqn : q < 44 := by omega
      have hqi : (q : Int) < 44 := by omega
      have hqn2 : q + 1 < 44 := by omega
      have hq5 : (q : Int) + 1 < 44 := by omega
      have hq6 : (0 : Int) ≤ (q : Int) + 1 := by omega
      have hq7 : ((q : Int) + 1).toNat = q + 1 := by omega
      have hq2 : IntKind.i64.wrap (q : Int) = q := IntWalk.i64_in _ (by omega)
      have hq3 : IntKind.i64.wrap ((q : Int) + 1) = (q : Int) + 1 := IntWalk.i64_in _ (by omega)
      rw [hq] at d0 d1
      have d2 : wr.cell? ⟨w1.heap.size + 1, 0 + (q + 1), none⟩ = some (.int .i32 x1) := d1
      simp only [Nat.zero_add] at c0 c1 d0 d2
      clear d1
      clear hx hq
      go_wp2_with fail
      go_quiet (fail)
      go_wp2_with fail
      go_roundg (22 - (k + 1))
      case measure => omega
      case rel => exact ⟨k + 1, by omega, by go_num, below_drewN' hb nq⟩
    · obtain rfl : k = 22 := by omega
      obtain ⟨j, hj⟩ : ∃ j : Nat, i % 22 = j := ⟨(i % 22).toNat, by omega⟩
      have hj19 : j < 22 := by omega
      obtain ⟨b, off, x0, x1, hA1, hbB, hx, c0, c1⟩ := prs_at g1 hj19
      injection hA1 with hA1
      injection hA1 with hA3 hA4
      subst hA3 hA4
      simp only [Nat.zero_add] at c0 c1
      have hwid := hide (fun (h1 : x0 ≤ r) (h2 : r ≤ x1) => wides_wid (List.mem_of_getElem? hx) h1 h2)
      have hjt : i.tmod 22 = j := by rw [Int.tmod_eq_emod_of_nonneg h0]; exact hj
      have hji : (j : Int) < 22 := by omega
      clear hx
      by_cases a1 : r < x0
      · go_wp2_with fail
        go_ret
        exact ⟨rfl, below_in B0.out (hb.alloc hb.size _) (Nat.le_refl _)⟩
      · by_cases a2 : x1 < r
        · have a3 : decide (r < x0) = false := by simpa using a1
          go_wp2_with fail
          go_ret
          exact ⟨rfl, below_in B0.out (hb.alloc hb.size _) (Nat.le_refl _)⟩
        · have a3 : decide (r < x0) = false := by simpa using a1
          have a4 : decide (x1 < r) = false := by simpa using a2
          have OO := O.out
          rw [hwid.out (by omega) (by omega)] at OO
          have OO := hide OO
          go_wp2_with (go_at_call 9; go_must (refine (OO.out _).mono ?_; rintro e w4 ⟨rfl, b4⟩))
          go_ret
          exact ⟨rfl, below_in (below_in B0.out (hb.alloc hb.size _) (Nat.le_refl _)) b4 (Nat.le_refl _)⟩

set_option maxHeartbeats 1000000 in
theorem lawranges_other (w : World) (x i r : Int) (h0 : x ≠ 0) (h2 : x ≠ 2) :
    Calls Try.prog 8 #[.int .i64 x, .int .u8 i, .int .i32 r] w fun e w' => e = .returned (.bool true) ∧ Below w.heap.size w w' := by
  have W := hide awake_any
  have G := hide (fun W => ranges_other x W h0 h2)
  have d0 : ((x : Int) == 0) = false := by simpa using h0
  have d2 : ((x : Int) == 2) = false := by simpa using h2
  clear h0 h2
  go_enter Try.func8, Try.ntmps8
  go_wp2_with (first
    | (go_at_call 18; go_must (refine (G.out _).mono ?_; rintro e w1 ⟨rfl, rfl⟩))
    | (go_at_call 11; go_must (refine (W.out _).mono ?_; rintro e w3 ⟨rfl, b3⟩)))
  go_loopg [9] 0 (fun gg s9 wr => s9 = .int .i64 0 ∧ w3 = wr)
  case atStart => exact ⟨rfl, rfl⟩
  case round =>
    obtain ⟨rfl, rfl⟩ := hrel
    go_wp2_with fail
    go_ret
    exact ⟨rfl, below_in ((Below.refl _ _).alloc (Nat.le_refl _) _) b3 (Nat.le_refl _)⟩
theorem widthRanges_walk (w : World) (x : Int) (wx : (Lit.int .i64 x).wf = true) (i : Int) (wi : (Lit.int .u8 i).wf = true) (r : Int) (wr : (Lit.int .i32 r).wf = true) :
    Calls Try.prog 8 #[.int .i64 x, .int .u8 i, .int .i32 r] w fun e w' => e = .returned (.bool true) ∧ Below w.heap.size w w' := by
  have b := bounds_u8 wi
  by_cases h0 : x = 0
  · subst h0; exact lawranges0 w i r b.1 b.2
  · by_cases h2 : x = 2
    · subst h2; exact lawranges2 w i r b.1 b.2
    · exact lawranges_other w x i r h0 h2
theorem widthFits_walk (w : World) (x : Int) (wx : (Lit.int .i64 x).wf = true) (A : Option Addr) (n c : Nat) (l : List Int) (e : l.length = n) (f : n ≤ c) (g : c ≤ maxLen) (h : Rd w w.heap.size 1 A n (l.map rn)) (q : ∀ x ∈ l, True) :
    Calls Try.prog 6 #[.int .i64 x, .slice A n c] w fun e w' => e = .returned (.bool true) ∧ Below w.heap.size w w' := lawfits_walk w x A n c l e f g h (bounds_i64 wx).2
theorem widthGreedy_walk (w : World) (x : Int) (wx : (Lit.int .i64 x).wf = true) (A : Option Addr) (n c : Nat) (l : List Int) (e : l.length = n) (f : n ≤ c) (g : c ≤ maxLen) (h : Rd w w.heap.size 1 A n (l.map rn)) (q : ∀ x ∈ l, True) :
    Calls Try.prog 7 #[.int .i64 x, .slice A n c] w fun e w' => e = .returned (.bool true) ∧ Below w.heap.size w w' := lawgreedy_walk w x A n c l e f g h (bounds_i64 wx).2
end Go.Proofs.Ytbaapdhfbhnlcaa
