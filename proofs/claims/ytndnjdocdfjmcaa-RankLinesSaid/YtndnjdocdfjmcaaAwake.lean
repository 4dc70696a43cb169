/-
  awake, walked. No condition.
-/
import Derived.Test.YtndnjdocdfjmcaaSameE
namespace Go.Proofs.Ytndnjdocdfjmcaa
open Go.RowKit Go.Proofs
set_option linter.unusedVariables false
def tLs : ByteArray := ⟨#[108, 115]⟩
def tCd : ByteArray := ⟨#[99, 100]⟩
theorem ex_led : useL 9 2 (useL 9 1 (useL 9 0 [] tLs) tCd) tLs = [⟨tLs, 2, 3⟩, ⟨tCd, 1, 2⟩] := by decide
theorem ex_top : topF (fun _ => true) 1 (useL 9 2 (useL 9 1 (useL 9 0 [] tLs) tCd) tLs) = [⟨tLs, 2, 3⟩] := by rw [ex_led]; rfl
theorem ent_eql (e : Ent) (w : World) : (binOp .eql 31 (.agg #[.string e.text, .int .i64 e.cnt, .int .i64 e.last]) (.agg #[.string e.text, .int .i64 e.cnt, .int .i64 e.last])).run Try.prog w = .ok (.bool true) w := by
  simp [go_sem]
theorem ls_below {w w' : World} {X b B : Nat} (h : Frm (LS X b) w w') (hB : B ≤ w.heap.size) (h1 : B ≤ X) (h2 : B ≤ b) : Below B w w' := h.to_below hB (fun i hi => by rcases hi with e | e <;> omega)
set_option maxHeartbeats 2000000 in
theorem awake_any (w : World) : Calls Try.prog 10 #[] w fun e w' => e = .returned (.bool true) ∧ Below w.heap.size w w' := by
  have N1 := hide (new_any 9 w (by omega) (by omega))
  have U := hide (fun (uses : Nat) (L : List Ent) (t : ByteArray) (W : World) (h0 : t ≠ ⟨#[]⟩) (ht : t.size ≤ maxLen) (hu : uses ≤ 100000) (hL : Led W (w.heap.size + 1) w.heap.size 9 uses L) => use_led W t ht h0 hL (by omega) (by omega) hu)
  have TP := hide (fun (L : List Ent) (W : World) (hL : Led W (w.heap.size + 1) w.heap.size 9 3 L) => top_led W 1 hL (by omega))
  have z1 := hide (show tLs ≠ ⟨#[]⟩ by decide)
  have z2 := hide (show tCd ≠ ⟨#[]⟩ by decide)
  have hq := ent_eql ⟨tLs, 2, 3⟩
  have EQ := hide hq
  clear hq
  go_enter Try.func10, Try.ntmps10
  go_upto_region 8 with (first
    | (go_at_call 11; go_must (refine (N1.out).mono ?_; rintro e w1 ⟨rfl, l1, b1⟩; have B1 := hide b1; have U1 := hide (U.out 0 [] tLs w1 z1.out (by decide) (by omega) l1); unfold tLs at U1; clear l1 b1))
    | (go_at_call 12; (with_reducible refine (U1.out).mono ?_); rintro e w2 ⟨rfl, l2, f2⟩; have B2 := hide (B1.out.trans (ls_below f2 B1.out.size (by omega) (by omega))); have U2 := hide (U.out 1 _ tCd w2 z2.out (by decide) (by omega) l2); unfold tCd at U2; clear l2 f2)
    | (go_at_call 12; (with_reducible refine (U2.out).mono ?_); rintro e w3 ⟨rfl, l3, f3⟩; have B3 := hide (B2.out.trans (ls_below f3 B2.out.size (by omega) (by omega))); have U3 := hide (U.out 2 _ tLs w3 z1.out (by decide) (by omega) l3); unfold tLs at U3; clear l3 f3)
    | (go_at_call 12; (with_reducible refine (U3.out).mono ?_); rintro e w4 ⟨rfl, l4, f4⟩; have B4 := hide (B3.out.trans (ls_below f4 B3.out.size (by omega) (by omega))); have T4 := hide (TP.out _ w4 l4); clear l4 f4)
    | (go_at_call 15; go_must (refine (T4.out).mono ?_; rintro e w5 ⟨A5, N5, c5, rfl, o5, b5⟩; have O5 := hide o5; have B5 := hide (below_in B4.out b5 (Nat.le_refl _)); clear o5 b5)))
  have O6 : w5.ownsRow w4.heap.size 31 3 (.slice A5 N5 c5) N5 ([(⟨tLs, 2, 3⟩ : Ent)].flatMap entE) := by rw [← ex_top]; exact O5.out
  obtain rfl : N5 = 1 := own_len entE_len (by omega) O6
  obtain ⟨b, off, x, rfl, hb, hx, q0, q1, q2⟩ := ent_at (Rd.of_own O6) (k := 0) (by omega)
  obtain rfl : x = ⟨tLs, 2, 3⟩ := by injection hx with hx; exact hx.symm
  have hq := EQ.out
  have hN : ((1 : Nat) : Int) = 1 := rfl
  simp only [Nat.zero_mul, Nat.add_zero] at q0 q1 q2
  unfold tLs at q0 hq
  have h2 : ((2 : Nat) : Int) = 2 := rfl
  have h3 : ((3 : Nat) : Int) = 3 := rfl
  simp only [h2, h3] at q1 q2 hq
  clear hx O5 O6
  go_wp2
  go_ret
  exact ⟨rfl, B5.out⟩
end Go.Proofs.Ytndnjdocdfjmcaa
