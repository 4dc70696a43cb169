/-
  ParseAll walked: any bytes' events, where one is, how many are held. No condition but bounds.
-/
import Derived.Test.YthbjjhoajecpcaaHand
import Derived.Test.YthbjjhoajecpcaaFrame
namespace Go.Proofs.Ythbjjhoajecpcaa
open Go.RowKit Go.Proofs
set_option linter.unusedVariables false
theorem byte_wf {a : Int} (h : (Lit.int .u8 a).wf = true) : 0 ≤ a ∧ a ≤ 255 := bounds_u8 h
set_option maxRecDepth 100000 in
set_option maxHeartbeats 8000000 in
theorem parseAll_walk (w : World) (A : Option Addr) (n c : Nat) (l : List Int) (hl : l.length = n) (hnc : n ≤ c) (hcm : c ≤ maxLen) (hrd : Rd w w.heap.size 1 A n (l.map b8)) (hq : ∀ x ∈ l, IsByte x) (a : Int) (wa : (Lit.int .u8 a).wf = true) :
    Calls Try.prog 4 #[.slice A n c, .int .u8 a] w fun e w' => e = .returned (.bool true) ∧ Below w.heap.size w w' := by
  have AW := hide awake_any
  by_cases hbig : 400 < n
  · have d1 : decide (400 < n) = true := by simpa using hbig
    have d2 : decide (400 < (n : Int)) = true := by simp; omega
    clear hrd hq hl hcm
    go_enter Try.func4, Try.ntmps4
    go_wp2_with (go_at_call 10; go_must (refine (AW.out _).mono ?_; rintro e w1 ⟨rfl, b1⟩))
    go_ret
    exact ⟨rfl, b1⟩
  · have d1 : decide (400 < n) = false := by simpa using hbig
    have d2 : decide (400 < (n : Int)) = false := by simp; omega
    obtain ⟨h0, h1⟩ := byte_wf wa
    obtain ⟨m, rfl⟩ : ∃ m : Nat, a = m := ⟨a.toNat, by omega⟩
    obtain ⟨q, hqq⟩ : ∃ q, m + 1 = q := ⟨_, rfl⟩
    have MD := hide (fun (W : World) (hb : Below w.heap.size w W) => made_hand w.heap.size (m : Int) W hb.size (by omega) (by omega))
    have e0 : ((m : Int).toNat + 1 : Nat) = q := by simp; omega
    rw [e0] at MD
    have e2 : IntKind.i64.wrap (m : Int) = m := IntWalk.i64_in _ (by omega)
    have e3 : (m : Int) + 1 = q := by omega
    have OF := hide (fun (W : World) (hb : Below w.heap.size w W) => of_any q l A n c W ((hrd.below hb).more hb.size) hnc (by omega) (by omega) hq)
    have AL := hide (fun (W : World) (P : Nat) (hW : PW w.heap.size W P (newM q) R0) (hb : Below w.heap.size w W) => all_hand (c := c) hW hb.size (hrd.below hb) (by omega) hq)
    obtain ⟨k1, k2, k3⟩ := doc_all q l hq
    have few := all_few l (newM q)
    have hev := all_len l (new_ok (most := q) (by omega)) hq
    obtain ⟨evs, hevs⟩ : ∃ evs, (allM (newM q) l).1 = evs := ⟨_, rfl⟩
    obtain ⟨s, hs⟩ : ∃ s, (allM (newM q) l).2 = s := ⟨_, rfl⟩
    unfold OfPost at OF
    rw [← k1, ← k2, ← k3] at OF
    rw [hevs] at OF AL few hev
    rw [hs] at OF AL
    have FEW := hide few
    obtain ⟨N, hN⟩ : ∃ N, evs.length = N := ⟨_, rfl⟩
    unfold EvW at AL
    rw [hN] at OF AL hev
    obtain ⟨st, hst⟩ : ∃ st, s.state = st := ⟨_, rfl⟩
    obtain ⟨hd, hhd⟩ : ∃ hd, heldM s = hd := ⟨_, rfl⟩
    have ST := hide (fun (W : World) (P : Nat) (r : Rows3) (hW : PW w.heap.size W P s r) => state_hand hW)
    have HD := hide (fun (W : World) (P : Nat) (r : Rows3) (hW : PW w.heap.size W P s r) => held_hand hW)
    rw [hst] at OF ST
    rw [hhd] at OF HD
    have hN2 : N ≤ 1000 := by omega
    clear hrd hq hl hcm k1 k2 k3 few hevs hs hN hst hhd hev
    go_enter Try.func4, Try.ntmps4
    go_upto_region 7 with (first
      | (go_at_call 10; go_must (refine (AW.out _).mono ?_; rintro e w1 ⟨rfl, b1⟩; have B1 := hide b1; clear b1))
      | (go_at_call 11; go_must (refine (MD.out _ B1.out).mono ?_; rintro e w2 ⟨P, rfl, hP, b2, _⟩; have HP := hide hP; have B2 := hide (below_in B1.out b2 (Nat.le_refl _)); clear b2 hP))
      | (go_at_call 14; go_must (refine (OF.out _ B2.out).mono ?_; rintro e w3 ⟨R, AE, cE, A2, c2, hR, rfl, kR, kE, b3⟩; have KR := hide kR; have KE := hide kE; have HP3 := hide (HP.out.call b3); have B3 := hide (below_in B2.out b3 (Nat.le_refl _)); clear kE b3)))
    have x0 := kR.cell 0
    have x1 := kR.cell 1
    have x2 := kR.cell 2
    simp only [List.getElem?_toArray, List.getElem?_cons_succ, List.getElem?_cons_zero] at x0 x1 x2
    have hRl := kR.lt
    clear kR
    go_region_held3 (fun W => W.cell? ⟨R, 0, none⟩ = some (.slice AE N cE) ∧ W.cell? ⟨R, 1, none⟩ = some (.int .i64 st) ∧ W.cell? ⟨R, 2, none⟩ = some (.int .i64 hd))
      (first | (exact ⟨x0, x1, x2⟩) | (exact z3) | (exact z2) | (exact z1) | go_keep)
      (first
        | (go_at_call 16; (refine (AL.out _ P (HP3.out.call (Below.refl _ w3).drew) B3.out.drew).mono ?_); rintro e u1 ⟨A1, c1, r1, rfl, hE, hP, hk⟩; have E1 := hide hE; have P1 := hide hP; have K1 := hide hk; have R1 := hide (hk.run R 36 _ (by decide) (by decide) KR.out); have E2 := hide (hk.evs _ _ _ _ (KE.out.call (Below.refl _ w3).drew)); have z1 : u1.cell? ⟨R, 0, none⟩ = some (.slice AE N cE) ∧ u1.cell? ⟨R, 1, none⟩ = some (.int .i64 st) ∧ u1.cell? ⟨R, 2, none⟩ = some (.int .i64 hd) := ⟨R1.out.cell 0, R1.out.cell 1, R1.out.cell 2⟩; clear hE hP hk)
        | (go_at_call 15; (refine (sameE_any A1 AE N c1 cE evs _ E1.out.rd E2.out.rd (by omega) FEW.out).mono ?_); rintro e u2 ⟨rfl, bb⟩; have D2 := hide bb; have P2 := hide (P1.out.call bb); have R2 := hide (R1.out.below bb R1.out.lt); have z2 : u2.cell? ⟨R, 0, none⟩ = some (.slice AE N cE) ∧ u2.cell? ⟨R, 1, none⟩ = some (.int .i64 st) ∧ u2.cell? ⟨R, 2, none⟩ = some (.int .i64 hd) := ⟨R2.out.cell 0, R2.out.cell 1, R2.out.cell 2⟩; clear bb)
        | (go_at_call 17; (refine (ST.out _ P r1 P2.out).mono ?_); rintro e u3 ⟨rfl, rfl⟩)
        | (go_at_call 13; (refine (HD.out _ P r1 P2.out).mono ?_); rintro e u4 ⟨rfl, q4, rfl⟩; have z3 : (u3.drewN q4).cell? ⟨R, 0, none⟩ = some (.slice AE N cE) ∧ (u3.drewN q4).cell? ⟨R, 1, none⟩ = some (.int .i64 st) ∧ (u3.drewN q4).cell? ⟨R, 2, none⟩ = some (.int .i64 hd) := z2))
    go_wp2_with fail
    go_ret
    exact ⟨rfl, below_drewN' (below_in (B3.out.drew.trans K1.out.below) D2.out (Nat.le_refl _)) q4⟩
end Go.Proofs.Ythbjjhoajecpcaa
