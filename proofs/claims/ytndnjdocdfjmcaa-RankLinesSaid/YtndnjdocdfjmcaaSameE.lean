/-
  same of two equal rows; great, walked. No condition but bounds.
-/
import Derived.Test.YtndnjdocdfjmcaaRefT
namespace Go.Proofs.Ytndnjdocdfjmcaa
open Go.RowKit Go.Proofs
set_option linter.unusedVariables false
theorem ent_neq (e : Ent) (w : World) : (binOp .neq 31 (.agg #[.string e.text, .int .i64 e.cnt, .int .i64 e.last]) (.agg #[.string e.text, .int .i64 e.cnt, .int .i64 e.last])).run Try.prog w = .ok (.bool false) w := by
  simp [go_sem]
set_option maxHeartbeats 2000000 in
theorem same_ents {B B' : Nat} (l : List Ent) (A A' : Option Addr) (n n' c c' : Nat) (w : World) (ha : Rd w B 3 A n (l.flatMap entE)) (hb : Rd w B' 3 A' n' (l.flatMap entE)) (hn : n ≤ 1000000) :
    Calls Try.prog 18 #[.slice A n c, .slice A' n' c'] w fun e w' => e = .returned (.bool true) ∧ Below w.heap.size w w' := by
  have hx := ha.len entE_len (by omega)
  have hy := hb.len entE_len (by omega)
  obtain rfl : n = n' := by omega
  clear hx hy
  go_enter Try.func18, Try.ntmps18
  go_wp2
  go_loopg [5] n (fun g s5 wr => ∃ k : Nat, k + g = n ∧ s5 = .int .i64 k ∧ Rd wr B 3 A n (l.flatMap entE) ∧ Rd wr B' 3 A' n (l.flatMap entE) ∧ Below w.heap.size w wr)
  case atStart => exact ⟨0, by omega, rfl, ha, hb, Below.refl _ _⟩
  case round =>
    clear ha hb
    obtain ⟨k, hkg, rfl, ha, hb, hbl⟩ := hrel
    by_cases hlt : k < n
    · obtain ⟨b, off, x, rfl, hbB, ex, c1, c2, c3⟩ := ent_at ha hlt
      obtain ⟨b', off', x', rfl, hbB', ey, c4, c5, c6⟩ := ent_at hb hlt
      obtain rfl : x = x' := by rw [ex] at ey; injection ey
      clear ex ey
      have hne := ent_neq x
      go_wp2_with fail
      go_quiet (fail)
      go_wp2_with fail
      go_roundg (n - (k + 1))
      case measure => omega
      case rel => exact ⟨k + 1, by omega, by go_num, ha.drewN nq, hb.drewN nq, below_drewN' hbl nq⟩
    · obtain rfl : n = k := by omega
      go_wp2_with fail
      go_ret
      exact ⟨rfl, hbl⟩
set_option maxHeartbeats 1000000 in
theorem great_any (A : Option Addr) (n c : Nat) (w : World) : Calls Try.prog 9 #[.slice A n c] w fun e w' => e = .returned (.bool (decide (100 < n))) ∧ w' = w := by
  by_cases h : 100 < n
  · have d1 : decide ((100 : Int) < n) = true := by simp; omega
    have d2 : decide (100 < n) = true := by simpa using h
    go_enter Try.func9, Try.ntmps9
    go_wp2
    go_ret
    exact ⟨by simp [h], rfl⟩
  · have d1 : decide ((100 : Int) < n) = false := by simp; omega
    have d2 : decide (100 < n) = false := by simpa using h
    go_enter Try.func9, Try.ntmps9
    go_wp2
    go_ret
    exact ⟨by simp; omega, rfl⟩
end Go.Proofs.Ytndnjdocdfjmcaa
