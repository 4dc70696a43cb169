/-
  RankLines, walked. No condition but the arguments' kinds.
-/
import Derived.Test.YtndnjdocdfjmcaaLines
namespace Go.Proofs.Ytndnjdocdfjmcaa
open Go.RowKit Go.Proofs
set_option linter.unusedVariables false
set_option maxRecDepth 100000 in
set_option maxHeartbeats 4000000 in
theorem rankLines_walk (w : World) (A : Option Addr) (n c : Nat) (L : List BRow) (hl : L.length = n) (hnc : n ≤ c) (hcm : c ≤ maxLen) (ha : Rd w w.heap.size 17 A n (L.flatMap brE)) (hq : ∀ x ∈ L, x.line.size ≤ maxLen) :
    Calls Try.prog 4 #[.slice A n c] w fun e w' => e = .returned (.bool true) ∧ Below w.heap.size w w' := by
  by_cases hg : 100 < n
  · have d1 : decide ((100 : Int) < n) = true := by simp; omega
    have d2 : decide (100 < n) = true := by simpa using hg
    clear ha hq hl
    go_enter Try.func4, Try.ntmps4
    go_wp2_with (go_at_call 10; go_must (refine (awake_any _).mono ?_; rintro e w2 ⟨rfl, b2⟩))
    go_ret
    exact ⟨rfl, b2⟩
  · have d1 : decide ((100 : Int) < n) = false := by simp; omega
    have d2 : decide (100 < n) = false := by simpa using hg
    have LI := hide (lines_any L A n c w ha (by omega))
    have hll := lines_len L
    obtain ⟨G, hG⟩ : ∃ G, linesF L = G := ⟨_, rfl⟩
    rw [hG] at LI hll
    have HR := hide ha
    have HL := hide hl
    have HG := hide hG
    rw [hl] at hll
    have hn : n ≤ 100 := by omega
    clear ha hq hl hG hg
    go_enter Try.func4, Try.ntmps4
    go_wp2_with (go_at_call 16; go_must (refine (LI.out).mono ?_; rintro e w1 ⟨A1, N1, c1, rfl, o1, b1⟩; have O1 := hide o1; have B1 := hide b1; clear o1 b1))
    have HN1 := hide (own_len1 O1.out)
    have hN1 : N1 ≤ 100 := by have := HN1.out; omega
    go_loopg [4, 5] n (fun g s4 s5 wr => ∃ (i k : Nat), i + g = n ∧ s5 = .int .i64 i ∧ s4 = .int .i64 k ∧ k ≤ i ∧ Hid ((linesF (L.take i)).length = k) ∧ Hid (Below w1.heap.size w1 wr))
    case atStart => exact ⟨0, 0, by omega, rfl, rfl, Nat.le_refl _, rfl, Below.refl _ _⟩
    case round =>
      obtain ⟨i, k, hig, rfl, rfl, hk, HK, HB⟩ := hrel
      have BB := hide (B1.out.trans (HB.out.mono B1.out.size))
      by_cases hlt : i < n
      · obtain ⟨b, off, x, rfl, hbB, hx, q0, q1, q2, q3, q4, q5, q6, q7, q8, q9, q10, q11, q12, q13, q14, q15, q16⟩ := br_at (HR.out.below BB.out) hlt
        have HD := lines_snoc hx
        have HX := hide hx
        clear hx q0 q1 q2 q3 q4 q5 q6 q7 q8 q9 q10 q11 q12 q13 q14 q15
        by_cases hx0 : x.line = ⟨#[]⟩
        · have st := str_eq hx0
          have st2 : x.line.toList.isEmpty = true := by rw [hx0, ByteArray.toList_eq]; rfl
          rw [if_pos hx0, List.append_nil] at HD
          have HD := hide HD
          clear hx0
          go_wp2_with fail
          go_roundg (n - (i + 1))
          case measure => omega
          case rel => exact ⟨i + 1, k, by omega, by go_num, rfl, by omega, by rw [HD.out]; exact HK.out, HB.out⟩
        · have st := str_ne hx0
          have st2 := ne_empty hx0
          have hat := lines_at HX.out hx0
          rw [HK.out, HG.out] at hat
          have hkN : k < N1 := by rw [HN1.out]; exact (List.getElem?_eq_some_iff.1 hat).1
          obtain ⟨b2, off2, y, hA, hb2, hy, r0⟩ := (Rd.of_own (own_call O1.out HB.out)).at1 hkN
          obtain rfl : y = x.line := by rw [hat] at hy; injection hy with hy; exact hy.symm
          subst hA
          rw [if_neg hx0] at HD
          have HD := hide HD
          have d3 : decide ((N1 : Int) ≤ k) = false := by simp; omega
          have d4 : decide (N1 ≤ k) = false := by simp; omega
          have st3 : (x.line.toList == x.line.toList) = true := by simp
          have i1 : (0 : Int) ≤ k := by omega
          have i2 : (k : Int) < N1 := by omega
          clear hx0 hat hy
          go_wp2_with fail
          go_quiet (fail)
          go_wp2_with fail
          go_roundg (n - (i + 1))
          case measure => omega
          case rel => exact ⟨i + 1, k + 1, by omega, by go_num, by go_num, by omega, by show List.length _ = _; rw [HD.out, List.length_append, HK.out]; rfl, below_drewN' HB.out _⟩
      · obtain rfl : i = n := by omega
        have hT : L.take i = L := List.take_of_length_le (by rw [HL.out]; exact Nat.le_refl _)
        have hkN : k = N1 := by rw [HN1.out, ← HG.out, ← HK.out, hT]
        subst hkN
        clear hT
        go_wp2_with (go_at_call 10; go_must (refine (awake_any _).mono ?_; rintro e w2 ⟨rfl, b2⟩; have B2 := hide (below_in BB.out b2 (Nat.le_refl _)); clear b2))
        go_ret
        exact ⟨rfl, B2.out⟩
end Go.Proofs.Ytndnjdocdfjmcaa
