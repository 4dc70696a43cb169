/-
  RankBegins, walked. No condition but the arguments' kinds.
-/
import Derived.Test.YtndnjdocdfjmcaaLawT
namespace Go.Proofs.Ytndnjdocdfjmcaa
open Go.RowKit Go.Proofs
set_option linter.unusedVariables false
set_option maxRecDepth 100000 in
set_option maxHeartbeats 8000000 in
theorem rankBegins_walk (w : World) (m : Int) (wm : (Lit.int .u8 m).wf = true) (A : Option Addr) (n c : Nat) (ls : List ByteArray) (hl : ls.length = n) (hnc : n ≤ c) (hcm : c ≤ maxLen) (ha : Rd w w.heap.size 1 A n (ls.map Value.string)) (hq : ∀ x ∈ ls, x.size ≤ maxLen) (head : ByteArray) (wh : head.size ≤ maxLen) :
    Calls Try.prog 7 #[.int .u8 m, .slice A n c, .string head] w fun e w' => e = .returned (.bool true) ∧ Below w.heap.size w w' := by
  have bm := bounds_u8 wm
  obtain ⟨m', rfl⟩ : ∃ m' : Nat, m = m' := ⟨m.toNat, by omega⟩
  have GR := hide (fun (W : World) => great_any A n c W)
  by_cases hg : 100 < n
  · have d1 : decide (100 < n) = true := by simpa using hg
    rw [d1] at GR
    clear ha hq hl hg
    go_enter Try.func7, Try.ntmps7
    go_wp2_with (first
      | (go_at_call 9; go_must (refine (GR.out _).mono ?_; rintro e w1 ⟨rfl, hw1⟩; obtain rfl := hw1.symm))
      | (go_at_call 10; go_must (refine (awake_any _).mono ?_; rintro e w2 ⟨rfl, b2⟩)))
    go_ret
    exact ⟨rfl, b2⟩
  · have d1 : decide (100 < n) = false := by simpa using hg
    rw [d1] at GR
    have MD := hide (fun (W : World) (hb : Below w.heap.size w W) => made_any m' (by omega) A n c ls W ((ha.below hb).more hb.size) hq (by omega))
    obtain ⟨k0, hk0⟩ : ∃ k0, 1 + m' % 20 = k0 := ⟨_, rfl⟩
    have hk2 : k0 ≤ 20 := by omega
    rw [hk0] at MD
    clear ha hq hl hg hk0
    go_enter Try.func7, Try.ntmps7
    go_wp2_with (first
      | (go_at_call 9; go_must (refine (GR.out _).mono ?_; rintro e w1 ⟨rfl, hw1⟩; obtain rfl := hw1.symm))
      | (go_at_call 10; go_must (refine (awake_any _).mono ?_; rintro e w2 ⟨rfl, b2⟩; have B2 := hide b2; clear b2))
      | (go_at_call 17; go_must (refine (MD.out _ B2.out).mono ?_; rintro e w3 ⟨X, b, Y, uses, L, rfl, bo, hu, b3⟩; have BO := hide bo; have B3 := hide (below_in B2.out b3 (Nat.le_refl _)); clear bo b3)))
    have hL := BO.out.len
    have LD := hide BO.out.led
    have RF := hide BO.out.ref
    have hL2 := hide hL
    clear hL
    go_loopg [9] 5 (fun g s9 wr => ∃ q : Int, q + (g : Int) = 4 ∧ -1 ≤ q ∧ s9 = .int .i64 q ∧ Hid (Below w3.heap.size w3 wr))
    case atStart => exact ⟨-1, by omega, by omega, rfl, Below.refl _ _⟩
    case round =>
      obtain ⟨q, hqg, hq1, rfl, HB⟩ := hrel
      by_cases hlt : q < 4
      · have d2 : decide (q < 4) = true := by simpa using hlt
        have T1 := hide (fun (W : World) (hW : Below w3.heap.size w3 W) => begins_led W head q (LD.out.call hW) (by have := hL2.out; omega))
        have R1 := hide (fun (W : World) (hW : Below w3.heap.size w3 W) => top_ref W head q (RF.out.call hW) (by have := hL2.out; omega))
        have htl := top_len (pfxB head) q L
        obtain ⟨l1, hl1⟩ : ∃ l1, topF (pfxB head) q L = l1 := ⟨_, rfl⟩
        rw [hl1] at T1 R1 htl
        have S1 := hide (fun (A1 A2 : Option Addr) (n1 n2 c1 c2 B1 B2 : Nat) (W : World) (h1 : Rd W B1 3 A1 n1 (l1.flatMap entE)) (h2 : Rd W B2 3 A2 n2 (l1.flatMap entE)) => same_ents l1 A1 A2 n1 n2 c1 c2 W h1 h2 (by have := h1.len entE_len (by omega); have := hL2.out; omega))
        have HQ := hide (And.intro hlt hqg)
        clear htl hl1
        go_wp2_with (first
          | (go_at_call 22; go_must (refine (T1.out _ HB.out).mono ?_; rintro e u1 ⟨A1, n1, c1, rfl, o1, bb⟩; have D1 := hide (below_in HB.out bb (Nat.le_refl _)); have O1 := hide o1; clear bb o1))
          | (go_at_call 19; go_must (refine (R1.out _ D1.out).mono ?_; rintro e u2 ⟨A2, n2, c2, rfl, o2, bb⟩; have D2 := hide (below_in D1.out bb (Nat.le_refl _)); have O2 := hide o2; have P1 := hide (own_call O1.out bb); clear bb o2))
          | (go_at_call 18; go_must (refine (S1.out A1 A2 n1 n2 c1 c2 _ _ _ (Rd.of_own P1.out) (Rd.of_own O2.out)).mono ?_; rintro e u3 ⟨rfl, bb⟩; have D3 := hide (below_in D2.out bb (Nat.le_refl _)); clear bb)))
        go_roundg (3 - q).toNat
        case measure => have := HQ.out; omega
        case rel => exact ⟨q + 1, by have := HQ.out; omega, by omega, by go_num, D3.out⟩
      · have d2 : decide (q < 4) = false := by simpa using hlt
        go_wp2_with fail
        go_ret
        exact ⟨rfl, below_in B3.out HB.out (Nat.le_refl _)⟩
end Go.Proofs.Ytndnjdocdfjmcaa
