/-
  HuntAll, walked. No condition but the arguments' kinds.
-/
import Derived.Test.YtkcmpddefohkeaaAwake
namespace Go.Proofs.Ytkcmpddefohkeaa
open Go.RowKit Go.Proofs
set_option linter.unusedVariables false
set_option maxHeartbeats 4000000 in
theorem huntAll_walk (w : World) (t : ByteArray) (wt : t.size ≤ maxLen) (A : Option Addr) (n c : Nat) (ns : List ByteArray) (hl : ns.length = n) (hnc : n ≤ c) (hcm : c ≤ maxLen) (ha : Rd w w.heap.size 1 A n (ns.map Value.string)) (hq : ∀ x ∈ ns, x.size ≤ maxLen) :
    Calls Try.prog 3 #[.string t, .slice A n c] w fun e w' => e = .returned (.bool true) ∧ Below w.heap.size w w' := by
  have GR := hide (great_any t ns A n c w ha wt hq (Nat.le_trans hnc hcm))
  obtain ⟨G, hG⟩ : ∃ G, greatB t ns = G := ⟨_, rfl⟩
  rw [hG] at GR
  cases G with
  | true =>
    clear ha hq hl hG
    go_enter Try.func3, Try.ntmps3
    go_wp2_with (first
      | (go_at_call 9; go_must (refine (GR.out).mono ?_; rintro e w1 ⟨rfl, b1⟩))
      | (go_at_call 10; go_must (refine (awake_any _).mono ?_; rintro e w2 ⟨rfl, b2⟩)))
    go_ret
    exact ⟨rfl, below_in b1 b2 (Nat.le_refl _)⟩
  | false =>
    obtain ⟨g1, g2, g3⟩ := greatB_false hG
    rw [hl] at g2
    have gs : ∀ x ∈ ns, x.size ≤ 400 := fun x hx => by have := g3 x hx; omega
    have hlen : (hitsF (bytesOf plainF t) (needs ns)).length ≤ 1000000 := by
      have := hitsF_len (T := bytesOf plainF t) (by rw [bytesOf_len]; omega) (needs ns)
      rw [show (needs ns).length = n by simp [needs, hl]] at this
      omega
    have AL := hide (fun (W : World) (hb : Below w.heap.size w W) => all_any t ns A n c W ((ha.below hb).more hb.size) (by omega) gs (by omega) hnc)
    have RA := hide (fun (W : World) (hb : Below w.heap.size w W) => refAll_any t ns A n c W ((ha.below hb).more hb.size) (by omega) gs (by omega) hnc)
    obtain ⟨hits, hh⟩ : ∃ hits, hitsF (bytesOf plainF t) (needs ns) = hits := ⟨_, rfl⟩
    rw [hh] at AL RA hlen
    have SM := hide (fun (A1 A2 : Option Addr) (n1 n2 c1 c2 B1 B2 : Nat) (W : World) (h1 : Rd W B1 2 A1 n1 (hits.flatMap hitE)) (h2 : Rd W B2 2 A2 n2 (hits.flatMap hitE)) => same_hits hits A1 A2 n1 n2 c1 c2 W h1 h2 (by have := h1.len hitE_len (by omega); omega))
    clear ha hq hl hG hh gs g3
    go_enter Try.func3, Try.ntmps3
    go_wp2_with (first
      | (go_at_call 9; go_must (refine (GR.out).mono ?_; rintro e w1 ⟨rfl, b1⟩))
      | (go_at_call 10; go_must (refine (awake_any _).mono ?_; rintro e w2 ⟨rfl, b2⟩; have B2 := hide (below_in b1 b2 (Nat.le_refl _))))
      | (go_at_call 12; go_must (refine (AL.out _ B2.out).mono ?_; rintro e w3 ⟨A3, N3, c3, rfl, o3, b3⟩; have O3 := hide o3; have B3 := hide (below_in B2.out b3 (Nat.le_refl _)); clear o3 b3))
      | (go_at_call 13; go_must (refine (RA.out _ B3.out).mono ?_; rintro e w4 ⟨A4, N4, c4, rfl, o4, b4⟩; have O4 := hide o4; have R3 := hide ((Rd.of_own O3.out).below b4); have B4 := hide (below_in B3.out b4 (Nat.le_refl _)); clear o4 b4))
      | (go_at_call 11; go_must (refine (SM.out _ _ _ _ _ _ _ _ _ R3.out (Rd.of_own O4.out)).mono ?_; rintro e w5 ⟨rfl, b5⟩; have B5 := hide (below_in B4.out b5 (Nat.le_refl _)); clear b5)))
    go_ret
    exact ⟨rfl, B5.out⟩
end Go.Proofs.Ytkcmpddefohkeaa
