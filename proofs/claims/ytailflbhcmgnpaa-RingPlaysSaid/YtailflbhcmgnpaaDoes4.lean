/-
  does, walked: Set out of range, At. No condition but bounds.
-/
import Derived.Test.YtailflbhcmgnpaaDoes3
namespace Go.Proofs.Ytailflbhcmgnpaa
open Go.RowKit Go.Proofs
set_option linter.unusedVariables false
set_option maxRecDepth 100000 in
set_option maxHeartbeats 4000000 in
theorem does_set_out (base g m : Nat) (S : Option Nat) (v : Value) (L : List Row) (gone room : Nat) (N : Int) (w : World) (h : Two base w g m S v L gone L gone room) (hb : base ≤ w.heap.size) (hr : room ≤ 255) (hg : gone ≤ 10000000) (hN : N < 0 ∨ (L.length : Int) ≤ N) :
    Calls Try.prog 18 #[.pointer (some ⟨g, 0, none⟩), .pointer (some ⟨m, 0, none⟩), .agg #[.int .i64 2, .int .i64 N]] w (DoesPost base g m room gone w) := by
  have hl := h.len
  have hw0 : Below w.heap.size w (w.alloc (.cells #[.int .i64 2, .int .i64 N] 55)) := (Below.refl _ _).alloc (Nat.le_refl _) _
  have q0 := Blk.new w 55 #[.int .i64 2, .int .i64 N]
  have h0 := hide (h.below hw0)
  have HW0 := hide hw0
  have RW := hide (fun (W : World) => row_any any 7 W (by omega) (by omega) (fun _ _ => trivial))
  have zb := Nat.le_trans hb hw0.size
  obtain ⟨n, hn⟩ : ∃ n, L.length = n := ⟨_, rfl⟩
  have hNN := hN
  rw [hn] at hN
  have ST := hide (fun (v1 v2 : Value) (W : World) (hW : Two base W g m S v L gone L gone room) (rv : RowV any W (v1, v2) (some 7)) => set_t0 g S L room gone N v1 v2 _ W hW.ring rv hNN)
  have HN := hide hn
  have Q0 := hide q0
  obtain ⟨q0, q1, _, _⟩ := blk2 q0
  clear hw0 h hn hl hNN
  go_enter Try.func18, Try.ntmps18
  go_upto_region 14 with fail
  go_name_world W0 hW0
  rw [hW0] at zb
  have T0 := show Two base W0 g m S v L gone L gone room by rw [← hW0]; exact h0.out
  have Q0 := show Blk W0 w.heap.size 55 #[.int .i64 2, .int .i64 N] by rw [← hW0]; exact Q0.out
  have HW0 := hide (show Below w.heap.size w W0 by rw [← hW0]; exact HW0.out)
  clear hW0 q0 q1 h0
  obtain ⟨hB, rows, ho, hrr⟩ := T0.ref
  obtain ⟨A, c, rfl⟩ := own_slice ho
  rw [HN.out] at hB
  obtain ⟨c0, c1, c2, f0, f1, f2⟩ := blk3 hB
  obtain ⟨q0, q1, _, _⟩ := blk2 Q0
  have hql := Q0.lt
  have EF := hide (show ∀ W, Below W0.heap.size W0 W → W.cell? ⟨w.heap.size, 1, none⟩ = some (.int .i64 N) from fun W hW => (hW.cell (p := ⟨w.heap.size, 1, none⟩) hql).trans q1)
  have TT := hide T0
  clear hB ho hrr Q0 T0
  go_cut [13] (fun s wx => s = .bool false ∧ Below W0.heap.size W0 wx)
  case first =>
    rcases hN with hN | hN
    · have d1 : decide (0 ≤ N) = false := by simp; omega
      go_quiet (fail)
      go_wp2_with fail
      go_meet
      exact ⟨rfl, drewN_below W0 nq⟩
    · have d1 : decide (0 ≤ N) = true := by simp; omega
      have d2 : decide (N < (n : Int)) = false := by simp; omega
      go_quiet (fail)
      go_wp2_with fail
      go_meet
      exact ⟨rfl, drewN_below W0 nq⟩
  case rest =>
    obtain ⟨rfl, hwc⟩ := hcut
    have ef2 := EF.out _ hwc
    clear c0 c1 c2 f0 f1 f2 q0 q1
    go_wp2_with fail
    go_region_held3 (fun W => W.cell? ⟨w.heap.size, 1, none⟩ = some (.int .i64 N))
      (first | (exact ef2) | (exact EF.out _ D1) | (exact EF.out _ D2) | go_keep)
      (first
        | (go_at_call 11; (refine (RW.out _).mono ?_); rintro e w3 ⟨u1, u2, rfl, ru3, bb3⟩; have D1 := below_in hwc.drew bb3 (Nat.le_refl _))
        | (go_at_call 24; (refine (ST.out _ _ _ (TT.out.below D1) ru3).mono ?_); rintro e w4 ⟨rfl, bb4⟩; have D2 := below_in D1 bb4 (Nat.le_refl _)))
    go_wp2_with fail
    go_ret
    exact ⟨rfl, S, _, _, _, TT.out.below D2, by omega, (HW0.out.mono hb).trans (D2.mono zb)⟩
set_option maxRecDepth 100000 in
set_option maxHeartbeats 4000000 in
theorem does_at_out (base g m : Nat) (S : Option Nat) (v : Value) (L : List Row) (gone room : Nat) (N : Int) (w : World) (h : Two base w g m S v L gone L gone room) (hb : base ≤ w.heap.size) (hr : room ≤ 255) (hg : gone ≤ 10000000) (hN : N < 0 ∨ (L.length : Int) ≤ N) :
    Calls Try.prog 18 #[.pointer (some ⟨g, 0, none⟩), .pointer (some ⟨m, 0, none⟩), .agg #[.int .i64 3, .int .i64 N]] w (DoesPost base g m room gone w) := by
  have hl := h.len
  have hw0 : Below w.heap.size w (w.alloc (.cells #[.int .i64 3, .int .i64 N] 55)) := (Below.refl _ _).alloc (Nat.le_refl _) _
  have q0 := Blk.new w 55 #[.int .i64 3, .int .i64 N]
  have h0 := hide (h.below hw0)
  have HW0 := hide hw0
  have zb := Nat.le_trans hb hw0.size
  obtain ⟨n, hn⟩ : ∃ n, L.length = n := ⟨_, rfl⟩
  have hNN := hN
  rw [hn] at hN
  have AT := hide (fun (W : World) (hW : Two base W g m S v L gone L gone room) => at_t0 g S L room gone N W hW.ring hNN)
  have HN := hide hn
  have Q0 := hide q0
  obtain ⟨q0, q1, _, _⟩ := blk2 q0
  clear hw0 h hn hl hNN
  go_enter Try.func18, Try.ntmps18
  go_upto_region 20 with (go_at_call 15; go_must (refine (AT.out _ h0.out).mono ?_; rintro e w1 ⟨u1, u2, rfl, ru, b1⟩; obtain ⟨rfl, rfl⟩ := ru; have y1 := hide (Q0.out.below b1 Q0.out.lt); have T1 := h0.out.below b1))
  go_name_world W0 hW0
  have B0 : Below w1.heap.size w1 W0 := by rw [← hW0]; exact (Below.refl _ _).alloc (Nat.le_refl _) _
  have X0 : Blk W0 w1.heap.size 30 #[.slice none 0 0, .bool false] := by rw [← hW0]; exact Blk.new _ _ _
  have T0 := T1.below B0
  have Q0 := y1.out.below B0 y1.out.lt
  have BB0 := hide ((HW0.out.mono hb).trans ((b1.mono zb).trans (B0.mono (Nat.le_trans zb b1.size))))
  clear hW0 q0 q1 h0 T1
  obtain ⟨hB, rows, ho, hrr⟩ := T0.ref
  obtain ⟨A, c, rfl⟩ := own_slice ho
  rw [HN.out] at hB
  obtain ⟨c0, c1, c2, f0, f1, f2⟩ := blk3 hB
  obtain ⟨q0, q1, _, _⟩ := blk2 Q0
  obtain ⟨x0, x1, _, _⟩ := blk2 X0
  have TT := hide T0
  have z0 := Nat.le_trans hb BB0.out.size
  clear hB ho hrr Q0 T0
  have EF := hide (show ∀ W, Below W0.heap.size W0 W → W.cell? ⟨w1.heap.size, 0, none⟩ = some (.slice none 0 0) ∧ W.cell? ⟨w1.heap.size, 1, none⟩ = some (.bool false) from fun W hW => ⟨(hW.cell (p := ⟨w1.heap.size, 0, none⟩) X0.lt).trans x0, (hW.cell (p := ⟨w1.heap.size, 1, none⟩) X0.lt).trans x1⟩)
  go_cut [16] (fun s wx => s = .bool false ∧ Below W0.heap.size W0 wx)
  case first =>
    rcases hN with hN | hN
    · have d1 : decide (0 ≤ N) = false := by simp; omega
      go_quiet (fail)
      go_wp2_with fail
      go_meet
      exact ⟨rfl, drewN_below W0 nq⟩
    · have d1 : decide (0 ≤ N) = true := by simp; omega
      have d2 : decide (N < (n : Int)) = false := by simp; omega
      go_quiet (fail)
      go_wp2_with fail
      go_meet
      exact ⟨rfl, drewN_below W0 nq⟩
  case rest =>
    obtain ⟨rfl, hwc⟩ := hcut
    obtain ⟨x0, x1⟩ := EF.out _ hwc
    clear c0 c1 c2 f0 f1 f2 q0 q1
    go_wp2_with fail
    go_quiet (fail)
    go_wp2_with fail
    go_ret
    exact ⟨rfl, S, _, _, _, TT.out.below (below_drewN' hwc nq), by omega, BB0.out.trans ((below_drewN' hwc nq).mono z0)⟩
set_option maxRecDepth 100000 in
set_option maxHeartbeats 4000000 in
theorem does_at_in (base g m : Nat) (S : Option Nat) (v : Value) (L : List Row) (gone room : Nat) (j : Nat) (w : World) (h : Two base w g m S v L gone L gone room) (hb : base ≤ w.heap.size) (hr : room ≤ 255) (hg : gone ≤ 10000000) (hj : j < L.length) :
    Calls Try.prog 18 #[.pointer (some ⟨g, 0, none⟩), .pointer (some ⟨m, 0, none⟩), .agg #[.int .i64 3, .int .i64 j]] w (DoesPost base g m room gone w) := by
  have hl := h.len
  have hw0 : Below w.heap.size w (w.alloc (.cells #[.int .i64 3, .int .i64 j] 55)) := (Below.refl _ _).alloc (Nat.le_refl _) _
  have q0 := Blk.new w 55 #[.int .i64 3, .int .i64 j]
  have h0 := hide (h.below hw0)
  have HW0 := hide hw0
  have zb := Nat.le_trans hb hw0.size
  obtain ⟨n, hn⟩ : ∃ n, L.length = n := ⟨_, rfl⟩
  have hjn : j < n := by omega
  have hn255 : n ≤ 255 := by omega
  obtain ⟨R, hR⟩ : ∃ R, L[j]? = some R := ⟨_, List.getElem?_eq_getElem hj⟩
  have AT := hide (fun (W : World) (hW : Two base W g m S v L gone L gone room) => at_t g S L room gone j R W hW.ring hR)
  have ON := hide (fun (v1 v2 u1 u2 : Value) (W : World) (h : RowV any W (v1, v2) R) (h' : RowV any W (u1, u2) R) => one_any any any v1 v2 u1 u2 R W h h')
  have HN := hide (And.intro hn hR)
  have Q0 := hide q0
  obtain ⟨q0, q1, _, _⟩ := blk2 q0
  clear hw0 h hn hl hR hj
  go_enter Try.func18, Try.ntmps18
  go_upto_region 20 with (go_at_call 15; go_must (refine (AT.out _ h0.out).mono ?_; rintro e w1 ⟨u1, u2, rfl, ru, b1⟩; obtain ⟨Ao, mo, co, bo, rfl, rfl⟩ := row_form ru; have y1 := hide (Q0.out.below b1 Q0.out.lt); have T1 := h0.out.below b1))
  go_name_world W0 hW0
  have B0 : Below w1.heap.size w1 W0 := by rw [← hW0]; exact (Below.refl _ _).alloc (Nat.le_refl _) _
  have X0 : Blk W0 w1.heap.size 30 #[.slice Ao mo co, .bool bo] := by rw [← hW0]; exact Blk.new _ _ _
  have T0 := T1.below B0
  have Q0 := y1.out.below B0 y1.out.lt
  have BB0 := hide ((HW0.out.mono hb).trans ((b1.mono zb).trans (B0.mono (Nat.le_trans zb b1.size))))
  have ru0 := ru.keep (Keep45.below B0)
  clear hW0 q0 q1 h0 T1 ru
  obtain ⟨hB, rows, ho, hrr⟩ := T0.ref
  obtain ⟨A, c, rfl⟩ := own_slice ho
  rw [HN.out.1] at hB ho
  obtain ⟨g3, A1, n1, cc1, bb1, rfl, hg3, hg3l, e0, e1, _, _, rv⟩ := own_at ho hrr HN.out.2 HN.out.1
  obtain ⟨c0, c1, c2, f0, f1, f2⟩ := blk3 hB
  obtain ⟨q0, q1, _, _⟩ := blk2 Q0
  obtain ⟨x0, x1, _, _⟩ := blk2 X0
  have TT := hide T0
  have z0 := Nat.le_trans hb BB0.out.size
  have hml := hB.lt
  have hql := Q0.lt
  have hxl := X0.lt
  have rr := hide (And.intro ru0 rv)
  have EF := hide (show ∀ W, Below W0.heap.size W0 W → W.cell? ⟨w1.heap.size, 0, none⟩ = some (.slice Ao mo co) ∧ W.cell? ⟨w1.heap.size, 1, none⟩ = some (.bool bo) ∧ W.cell? ⟨m, 1, none⟩ = some (.slice (some ⟨g3, 0, none⟩) n c) ∧ W.cell? ⟨w.heap.size, 1, none⟩ = some (.int .i64 j) ∧ W.cell? ⟨g3, j * 2, none⟩ = some (.slice A1 n1 cc1) ∧ W.cell? ⟨g3, j * 2 + 1, none⟩ = some (.bool bb1) from
    fun W hW => ⟨(hW.cell (p := ⟨w1.heap.size, 0, none⟩) hxl).trans x0, (hW.cell (p := ⟨w1.heap.size, 1, none⟩) hxl).trans x1, (hW.cell (p := ⟨m, 1, none⟩) hml).trans c1, (hW.cell (p := ⟨w.heap.size, 1, none⟩) hql).trans q1, (hW.cell (p := ⟨g3, _, none⟩) hg3l).trans e0, (hW.cell (p := ⟨g3, _, none⟩) hg3l).trans e1⟩)
  have d1 : decide ((j : Int) < n) = true := by simp; omega
  clear hB ho hrr Q0 T0 ru0 rv X0
  go_cut [16] (fun s wx => s = .bool true ∧ Below W0.heap.size W0 wx)
  case first =>
    go_quiet (fail)
    go_wp2_with fail
    go_meet
    exact ⟨rfl, drewN_below W0 nq⟩
  case rest =>
    obtain ⟨rfl, hwc⟩ := hcut
    have ef := EF.out _ hwc
    clear c0 c1 c2 f0 f1 f2 q0 q1 x0 x1 e0 e1
    go_wp2_with fail
    obtain ⟨x0, x1, c1, q1, e0, e1⟩ := ef
    go_still_tail 29, (by kernel_rfl)
    change wpList _ _ _ _ _ wc.drew
    have hwd := hwc.drew
    generalize wc.drew = W5 at hwd ⊢
    go_wp2_with (go_at_call 12; go_must (refine (ON.out _ _ _ _ _ (rr.out.1.keep (Keep45.below hwd)) (rr.out.2.keep (Keep45.below hwd))).mono ?_; rintro e w3 ⟨rfl, bb3⟩; have D1 := below_in hwd bb3 (Nat.le_refl _)))
    go_ret
    exact ⟨rfl, S, _, _, _, TT.out.below D1, by omega, BB0.out.trans (D1.mono z0)⟩
end Go.Proofs.Ytailflbhcmgnpaa
