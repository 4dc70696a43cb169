/-
  The walk of FoldLays. No condition but what the arguments' kinds bear.
-/
import Derived.Test.YtdmiaciembcebaaPlain
import Derived.Test.YtdmiaciembcebaaLaws
namespace Go.Proofs.Ytdmiaciembcebaa
open Go.RowKit Go.Proofs
set_option linter.unusedVariables false

set_option maxHeartbeats 2000000 in
theorem foldLays_walk (w : World) (rows : Int) (wr : (Lit.int .i64 rows).wf = true) (A : Option Addr) (n c : Nat) (l : List Fd) (hl : l.length = n) (hnc : n ≤ c) (_ : c ≤ maxLen) (ha : Rd w w.heap.size 3 A n (l.flatMap fdc)) (_ : ∀ x ∈ l, True) :
    Calls Try.prog 4 #[.int .i64 rows, .slice A n c] w fun e w' => e = .returned (.bool true) ∧ Below w.heap.size w w' := by
  clear wr
  by_cases h : 60 < n
  · have h' : decide ((60 : Int) < (n : Int)) = true := by simp; omega
    clear ha
    go_enter Try.func4, Try.ntmps4
    go_wp2_with (go_at_call 8; go_must (refine (awake_any _).mono ?_; rintro e w1 ⟨rfl, hb⟩))
    go_ret
    exact ⟨rfl, hb⟩
  · have h' : decide ((60 : Int) < (n : Int)) = false := by simp; omega
    by_cases hs : 400 < rows ∧ rows ≤ 200000
    · obtain ⟨s1, s2⟩ := hs
      clear ha
      go_enter Try.func4, Try.ntmps4
      go_wp2_with (go_at_call 8; go_must (refine (awake_any _).mono ?_; rintro e w1 ⟨rfl, hb⟩))
      go_ret
      exact ⟨rfl, hb⟩
    · by_cases hw : rows < 0 ∨ 200000 < rows ∨ rightF rows 0 l = false
      · have hsplit : rows < 0 ∨ 200000 < rows ∨ (0 ≤ rows ∧ rows ≤ 400 ∧ rightF rows 0 l = false) := by
          rcases hw with h | h | h
          · exact .inl h
          · exact .inr (.inl h)
          · by_cases h1 : rows < 0
            · exact .inl h1
            · by_cases h2 : 200000 < rows
              · exact .inr (.inl h2)
              · exact .inr (.inr ⟨by omega, by omega, h⟩)
        have HW := hide hw
        clear hs hw
        obtain ⟨rb, hrb⟩ : ∃ rb, rb = rightF rows 0 l := ⟨_, rfl⟩
        rw [← hrb] at hsplit
        have HR := hide hrb
        clear hrb
        rcases hsplit with q | q | ⟨q1, q2, q3⟩
        all_goals (try subst q3)
        all_goals
          go_enter Try.func4, Try.ntmps4
          go_wp2_with (first
            | (go_at_call 8; go_must (refine (awake_any _).mono ?_; rintro e w1 ⟨rfl, hb1⟩; have z1 := hb1.size; have R1 := (ha.below hb1).more z1))
            | (go_at_call 12; go_must (refine (to_any A n c l w1 R1 (by omega)).mono ?_; intro e w2 PP; obtain ⟨A2, N2, c2, rfl, own2, hb2⟩ := PP; have z2 := hb2.size; have S2 := Rd.of_own own2; have hN2 : N2 ≤ 1000 := (by have := own_len fdc_len (by omega) own2; omega); have R2 := (R1.below hb2).more z2))
            | (go_at_call 13; go_must (refine (lay_wrong A2 N2 c2 rows l w2 S2 hN2 HW.out).mono ?_; rintro e w3 ⟨rfl, hb3⟩; have z3 := hb3.size; have S3 := (S2.below hb3).more z3; have R3 := (R2.below hb3).more z3))
            | (go_at_call 14; go_must (refine (count_wrong A2 N2 c2 rows l w3 S3 hN2 HW.out).mono ?_; rintro e w4 ⟨rfl, hb4⟩; have z4 := hb4.size; have S4 := (S3.below hb4).more z4; have R4 := (R3.below hb4).more z4))
            | (go_at_call 15; go_must (refine (refright_any A n c rows l w4 R4 (by omega)).mono ?_; rintro e w5 ⟨rfl, k5, rfl⟩; rw [← HR.out]; have S5 := S4.drewN k5))
            | (go_at_call 16; go_must (refine (right_any A2 N2 c2 rows l (w4.drewN k5) S5 hN2).mono ?_; rintro e w6 ⟨rfl, hb6⟩; rw [← HR.out])))
          all_goals (go_ret; exact ⟨rfl, (((hb1.trans (hb2.mono z1)).trans (hb3.mono (by omega))).trans (hb4.mono (by omega))).trans ((drewN_below w4 k5 (B := w.heap.size)).trans (hb6.mono (by simp; omega)))⟩)
      · have r1 : 0 ≤ rows := by omega
        have d1 : decide (rows < (0 : Int)) = false := by simp; omega
        have d2 : decide ((200000 : Int) < rows) = false := by simp; omega
        have r2 : rows ≤ 400 := by omega
        have hr : rightF rows 0 l = true := by
          cases hh : rightF rows 0 l
          · exact absurd (.inr (.inr hh)) hw
          · rfl
        have HR := hide hr
        have HL := hide (lay_refLay hr r1)
        have HC := hide (lay_len l 0 hr r1)
        have HW : ∀ f ∈ l, f.2.1 ≤ 1000000 ∧ 0 ≤ f.1 := by
          intro f hf
          obtain ⟨k, hk⟩ := List.getElem?_of_mem hf
          have := right_at l 0 k f hr (by omega) hk
          omega
        have HW' := hide HW
        clear hs hw hr HW
        go_enter Try.func4, Try.ntmps4
        go_wp2_with (first
          | (go_at_call 8; go_must (refine (awake_any _).mono ?_; rintro e w1 ⟨rfl, hb1⟩; have z1 := hb1.size; have R1 := (ha.below hb1).more z1))
          | (go_at_call 12; go_must (refine (to_any A n c l w1 R1 (by omega)).mono ?_; intro e w2 PP; obtain ⟨A2, N2, c2, rfl, own2, hb2⟩ := PP; have z2 := hb2.size; have S2 := Rd.of_own own2; have hN2 : N2 ≤ 1000 := (by have := own_len fdc_len (by omega) own2; omega); have R2 := (R1.below hb2).more z2))
          | (go_at_call 13; go_must (refine (lay_right A2 N2 c2 rows l w2 S2 hN2 r1 (by omega) HR.out).mono ?_; intro e w3 PP; obtain ⟨v3, N3, rfl, own3, hb3⟩ := PP; obtain ⟨A3, c3, rfl⟩ := own_slice own3; have z3 := hb3.size; have S3 := (S2.below hb3).more z3; have R3 := (R2.below hb3).more z3; have T3 := Rd.of_own own3; rw [HL.out] at T3; have hN3 := hide (own_len itc_len (by omega) own3)))
          | (go_at_call 14; go_must (refine (count_right A2 N2 c2 rows l w3 S3 hN2 r1 (by omega) HR.out).mono ?_; rintro e w4 ⟨rfl, hb4⟩; have z4 := hb4.size; have S4 := (S3.below hb4).more z4; have R4 := (R3.below hb4).more z4; have T4 := (T3.below hb4).more z4))
          | (go_at_call 15; go_must (refine (refright_any A n c rows l w4 R4 (by omega)).mono ?_; rintro e w5 ⟨rfl, k5, rfl⟩; rw [HR.out]; have S5 := S4.drewN k5; have R5 := R4.drewN k5; have T5 := T4.drewN k5))
          | (go_at_call 16; go_must (refine (right_any A2 N2 c2 rows l (w4.drewN k5) S5 hN2).mono ?_; rintro e w6 ⟨rfl, hb6⟩; rw [HR.out]; have z6 := hb6.size; have R6 := (R5.below hb6).more z6; have T6 := (T5.below hb6).more z6))
          | (go_at_call 17; go_must (refine (reflay_any A n c rows l w6 R6 (by omega) (by omega) HW'.out).mono ?_; intro e w7 PP; obtain ⟨A7, N7, c7, rfl, own7, hb7⟩ := PP; have z7 := hb7.size; have T7 := (T6.below hb7).more z7; have hN7 := hide (own_len itc_len (by omega) own7); have b3 : (N3 : Int) ≤ 1000 := (by have := hN3.out; have := HC.out; have := (hid_bound l 0 l.length HR.out (by omega) (by omega)).1; rw [List.take_length] at this; omega); have B7 : Hid (N7 = N3) := hide (by rw [hN7.out, hN3.out, HL.out]); have b7 : (N7 : Int) ≤ 1000 := (by have := B7.out; omega)))
          | (go_at_call 11; go_must (refine (same_any A3 A7 N3 N7 c3 c7 w7.heap.size w7.heap.size (refLay rows l) (refLay rows l) w7 T7 (Rd.of_own own7) (by omega) (by omega)).mono ?_; rintro e w8 ⟨rfl, k8, rfl⟩)))
        go_ret
        have hlen : ((N7 : Nat) : Int) = rows - hidF l := by have h1 := B7.out; have h2 := hN3.out; have h3 := HC.out; omega
        exact ⟨ret_bool (by rw [hlen]; simp), below_drewN' (((((hb1.trans (hb2.mono z1)).trans (hb3.mono (by omega))).trans (hb4.mono (by omega))).trans ((drewN_below w4 k5 (B := w.heap.size)).trans (hb6.mono (by simp; omega)))).trans (hb7.mono (by simp at z6; omega))) _⟩
end Go.Proofs.Ytdmiaciembcebaa
