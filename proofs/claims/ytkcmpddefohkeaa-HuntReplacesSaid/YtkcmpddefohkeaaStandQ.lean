/-
  The document's Same of a place, and stands, walked anew: they only draw. No condition but bounds.
-/
import Derived.Test.YtkcmpddefohkeaaSame
import Derived.Deep.QuietTactic
namespace Go.Proofs.Ytkcmpddefohkeaa
open Go.RowKit Go.Proofs
set_option linter.unusedVariables false
theorem drew_chain {w wr : World} (h : ∃ q, wr = w.drewN q) (n : Nat) : ∃ q, wr.drewN n = w.drewN q := by
  obtain ⟨q, rfl⟩ := h
  exact ⟨q + n, World.drewN_drewN ..⟩
set_option maxHeartbeats 2000000 in
theorem same20q (t s : ByteArray) (m n p : Nat) (w : World) (ht : t.size = m) (hs : s.size = n) (h1 : m ≤ 400) (h2 : n ≤ 400) (hp : p + n ≤ m) :
    Calls Try.prog 31 #[.string t, .string s, .int .i64 (p : Int), .bool false] w fun e w' => e = .returned (.bool (standsB (bytesOf plainF t) (bytesOf plainF s) p)) ∧ ∃ q, w' = w.drewN q := by
  have HN := hide (show (bytesOf plainF s).length = n by rw [bytesOf_len, hs])
  go_enter Try.func31, Try.ntmps31
  go_wp2_with fail
  go_loopg [9] n (fun g s9 wr => ∃ k : Nat, k + g = n ∧ s9 = .int .i64 k ∧ Hid (((bytesOf plainF t).drop p).take k = (bytesOf plainF s).take k) ∧ Hid (∃ q, wr = w.drewN q))
  case atStart => exact ⟨0, by omega, rfl, rfl, ⟨0, rfl⟩⟩
  case round =>
    obtain ⟨k, hkg, rfl, HT, hb⟩ := hrel
    by_cases hlt : k < n
    · obtain ⟨q, hq⟩ : ∃ q, p + k = q := ⟨_, rfl⟩
      have h3 : q < m := by omega
      have Hq := hide hq
      have hqt : q < t.size := by omega
      have hks : k < s.size := by omega
      have bx := hide (byte_bounds t (i := q) hqt)
      have byy := hide (byte_bounds s (i := k) hks)
      have ex := hide (bytesOf_at plainF t (i := q) hqt)
      have ey := hide (bytesOf_at plainF s (i := k) hks)
      have h4 : (p : Int) + k = q := by omega
      have h5 : IntKind.i64.wrap (q : Int) = q := IntWalk.i64_in _ (by omega)
      clear hq
      go_wp2_with fail
      go_quiet (fail)
      clear h4 h5
      obtain ⟨x, hx⟩ : ∃ x : Int, x = ((t[q]'hqt).toNat : Int) := ⟨_, rfl⟩
      obtain ⟨y, hy⟩ : ∃ y : Int, y = ((s[k]'hks).toNat : Int) := ⟨_, rfl⟩
      rw [← hx] at bx ex
      rw [← hy] at byy ey
      simp only [← hx, ← hy]
      clear hx hy
      have bx := bx.out
      have byy := byy.out
      have sx := hide (show plainF x = x from rfl)
      have sy := hide (show plainF y = y from rfl)
      by_cases heq : (x : Int) = y
      · have hq : ((x : Int) != y) = false := by simp [heq]
        have Heq := hide heq
        clear heq
        go_wp2_with fail
        go_roundg (n - (k + 1))
        case measure => omega
        case rel => exact ⟨k + 1, by omega, by go_num, take_same HT.out (by rw [Hq.out]; exact ex.out) (by rw [sx.out, show (x : Int) = y from Heq.out, ← sy.out]; exact ey.out), drew_chain hb.out nq⟩
      · have hq : ((x : Int) != y) = true := by simp [heq]
        have Heq := hide heq
        clear heq
        go_wp2_with fail
        go_ret
        exact ⟨ret_bool (stands_false (by rw [Hq.out]; exact ex.out) ey.out (by rw [sx.out, sy.out]; exact Heq.out)).symm, drew_chain hb.out nq⟩
    · obtain rfl : n = k := by omega
      go_wp2_with fail
      go_ret
      exact ⟨ret_bool (stands_true (by rw [HN.out]; exact HT.out)).symm, hb.out⟩

set_option maxHeartbeats 2000000 in
theorem stands_q (t s : ByteArray) (p : Nat) (w : World) (h1 : t.size ≤ 400) (h2 : s.size ≤ 400) (hp : p ≤ 400) :
    Calls Try.prog 24 #[.string t, .string s, .int .i64 p] w fun e w' => e = .returned (.bool (standsF (bytesOf plainF t) (bytesOf plainF s) p)) ∧ ∃ q, w' = w.drewN q := by
  obtain ⟨m, hm⟩ : ∃ m, t.size = m := ⟨_, rfl⟩
  obtain ⟨n, hn⟩ : ∃ n, s.size = n := ⟨_, rfl⟩
  have hlT : (bytesOf plainF t).length = m := by rw [bytesOf_len, hm]
  have hlS : (bytesOf plainF s).length = n := by rw [bytesOf_len, hn]
  have hF : standsF (bytesOf plainF t) (bytesOf plainF s) p = (decide (0 < n) && (decide (p + n ≤ m) && standsB (bytesOf plainF t) (bytesOf plainF s) p)) := by unfold standsF; rw [hlT, hlS]
  have HF := hide hF
  clear hF hlT hlS
  rw [hm] at h1
  rw [hn] at h2
  by_cases h0 : 0 < n
  · have d0 : decide (0 < n) = true := by simp [h0]
    by_cases h3 : p + n ≤ m
    · have d1 : decide ((p : Int) ≤ (m : Int) - n) = true := by simp; omega
      have hS := hide (same20q t s m n p w hm hn h1 h2 h3)
      obtain ⟨B, hB⟩ : ∃ B, standsB (bytesOf plainF t) (bytesOf plainF s) p = B := ⟨_, rfl⟩
      have HB := hide hB
      rw [hB] at hS
      have HR := hide (show standsF (bytesOf plainF t) (bytesOf plainF s) p = B by rw [HF.out, hB]; simp [h0, h3])
      have h4 : (p : Int) ≤ (m : Int) - n := by omega
      clear hB
      go_enter Try.func24, Try.ntmps24
      go_wp2_with (go_at_call 31; go_must (refine (hS.out).mono ?_; rintro e w1 ⟨rfl, b1⟩; have B1 := hide b1; clear b1))
      go_ret
      exact ⟨by rw [HR.out]; rfl, B1.out⟩
    · have d1 : decide ((p : Int) ≤ (m : Int) - n) = false := by simp; omega
      have HR := hide (show standsF (bytesOf plainF t) (bytesOf plainF s) p = false by rw [HF.out]; simp [h3])
      have h4 : ¬ (p : Int) ≤ (m : Int) - n := by omega
      go_enter Try.func24, Try.ntmps24
      go_wp2
      go_ret
      exact ⟨by rw [HR.out]; rfl, ⟨0, rfl⟩⟩
  · have hz : n = 0 := by omega
    subst hz
    have HR := hide (show standsF (bytesOf plainF t) (bytesOf plainF s) p = false by rw [HF.out]; simp)
    go_enter Try.func24, Try.ntmps24
    go_wp2
    go_ret
    exact ⟨by rw [HR.out]; rfl, ⟨0, rfl⟩⟩
end Go.Proofs.Ytkcmpddefohkeaa
