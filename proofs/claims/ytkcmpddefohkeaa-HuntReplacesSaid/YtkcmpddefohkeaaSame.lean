/-
  The document's Same of two equal rows, and stands, walked. No condition but bounds.
-/
import Derived.Test.YtkcmpddefohkeaaFirst
namespace Go.Proofs.Ytkcmpddefohkeaa
open Go.RowKit Go.Proofs
set_option linter.unusedVariables false
theorem hit_neq (a b : Nat) (w : World) : (binOp .neq 33 (.agg #[.int .i64 a, .int .i64 b]) (.agg #[.int .i64 a, .int .i64 b])).run Try.prog w = .ok (.bool false) w := by
  simp [go_sem]
theorem hits_at {w : World} {B n : Nat} {A : Option Addr} {l : List (Nat × Nat)} (h : Rd w B 2 A n (l.flatMap hitE)) {k : Nat} (hk : k < n) :
    ∃ b off x y, A = some ⟨b, off, none⟩ ∧ b < B ∧ l[k]? = some (x, y) ∧ w.cell? ⟨b, off + k * 2, none⟩ = some (.int .i64 (x : Nat)) ∧ w.cell? ⟨b, off + k * 2 + 1, none⟩ = some (.int .i64 (y : Nat)) := by
  obtain ⟨b, off, x, e, hb, hx, hc⟩ := h.row hitE_len (by omega) hk
  exact ⟨b, off, x.1, x.2, e, hb, hx, hc 0 _ rfl, hc 1 _ rfl⟩
set_option maxHeartbeats 2000000 in
theorem same_hits {B B' : Nat} (l : List (Nat × Nat)) (A A' : Option Addr) (n n' c c' : Nat) (w : World) (ha : Rd w B 2 A n (l.flatMap hitE)) (hb : Rd w B' 2 A' n' (l.flatMap hitE)) (hn : n ≤ 1000000) :
    Calls Try.prog 11 #[.slice A n c, .slice A' n' c'] w fun e w' => e = .returned (.bool true) ∧ Below w.heap.size w w' := by
  have hx := ha.len hitE_len (by omega)
  have hy := hb.len hitE_len (by omega)
  obtain rfl : n = n' := by omega
  clear hx hy
  go_enter Try.func11, Try.ntmps11
  go_wp2
  go_loopg [5] n (fun g s5 wr => ∃ k : Nat, k + g = n ∧ s5 = .int .i64 k ∧ Rd wr B 2 A n (l.flatMap hitE) ∧ Rd wr B' 2 A' n (l.flatMap hitE) ∧ Below w.heap.size w wr)
  case atStart => exact ⟨0, by omega, rfl, ha, hb, Below.refl _ _⟩
  case round =>
    clear ha hb
    obtain ⟨k, hkg, rfl, ha, hb, hbl⟩ := hrel
    by_cases hlt : k < n
    · obtain ⟨b, off, x, y, rfl, hbB, ex, c1, c2⟩ := hits_at ha hlt
      obtain ⟨b', off', x', y', rfl, hbB', ey, c3, c4⟩ := hits_at hb hlt
      obtain ⟨rfl, rfl⟩ : x = x' ∧ y = y' := by rw [ex] at ey; injection ey with e; injection e with e1 e2; exact ⟨e1, e2⟩
      clear ex ey
      have hne := hit_neq
      go_wp2_with fail
      go_quiet (fail)
      go_wp2_with fail
      go_roundg (n - (k + 1))
      case measure => omega
      case rel => exact ⟨k + 1, by omega, by go_num, ha.drewN nq, hb.drewN nq, below_drewN' hbl nq⟩
    · obtain rfl : n = k := by omega
      go_wp2_with fail
      go_ret
      exact ⟨rfl, hbl⟩
set_option maxHeartbeats 2000000 in
theorem stands_any (t s : ByteArray) (p : Nat) (w : World) (h1 : t.size ≤ 400) (h2 : s.size ≤ 400) (hp : p ≤ 400) :
    Calls Try.prog 24 #[.string t, .string s, .int .i64 p] w fun e w' => e = .returned (.bool (standsF (bytesOf plainF t) (bytesOf plainF s) p)) ∧ Below w.heap.size w w' := by
  obtain ⟨m, hm⟩ : ∃ m, t.size = m := ⟨_, rfl⟩
  obtain ⟨n, hn⟩ : ∃ n, s.size = n := ⟨_, rfl⟩
  have hlT : (bytesOf plainF t).length = m := by rw [bytesOf_len, hm]
  have hlS : (bytesOf plainF s).length = n := by rw [bytesOf_len, hn]
  have hF : standsF (bytesOf plainF t) (bytesOf plainF s) p = (decide (0 < n) && (decide (p + n ≤ m) && standsB (bytesOf plainF t) (bytesOf plainF s) p)) := by unfold standsF; rw [hlT, hlS]
  have HF := hide hF
  clear hF hlT hlS
  rw [hm] at h1
  rw [hn] at h2
  by_cases h0 : 0 < n
  · have d0 : decide (0 < n) = true := by simp [h0]
    by_cases h3 : p + n ≤ m
    · have d1 : decide ((p : Int) ≤ (m : Int) - n) = true := by simp; omega
      have hS := hide (same20 t s m n p w hm hn h1 h2 h3)
      obtain ⟨B, hB⟩ : ∃ B, standsB (bytesOf plainF t) (bytesOf plainF s) p = B := ⟨_, rfl⟩
      have HB := hide hB
      rw [hB] at hS
      have HR := hide (show standsF (bytesOf plainF t) (bytesOf plainF s) p = B by rw [HF.out, hB]; simp [h0, h3])
      have h4 : (p : Int) ≤ (m : Int) - n := by omega
      clear hB
      go_enter Try.func24, Try.ntmps24
      go_wp2_with (go_at_call 31; go_must (refine (hS.out).mono ?_; rintro e w1 ⟨rfl, b1⟩; have B1 := hide b1; clear b1))
      go_ret
      exact ⟨by rw [HR.out]; rfl, B1.out⟩
    · have d1 : decide ((p : Int) ≤ (m : Int) - n) = false := by simp; omega
      have HR := hide (show standsF (bytesOf plainF t) (bytesOf plainF s) p = false by rw [HF.out]; simp [h3])
      have h4 : ¬ (p : Int) ≤ (m : Int) - n := by omega
      go_enter Try.func24, Try.ntmps24
      go_wp2
      go_ret
      exact ⟨by rw [HR.out]; rfl, Below.refl _ _⟩
  · have hz : n = 0 := by omega
    subst hz
    have HR := hide (show standsF (bytesOf plainF t) (bytesOf plainF s) p = false by rw [HF.out]; simp)
    go_enter Try.func24, Try.ntmps24
    go_wp2
    go_ret
    exact ⟨by rw [HR.out]; rfl, Below.refl _ _⟩
end Go.Proofs.Ytkcmpddefohkeaa
