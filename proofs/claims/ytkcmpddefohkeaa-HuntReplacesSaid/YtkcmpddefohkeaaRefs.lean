/-
  The reference's Same and All, Ints, the function that looks for a place, and awake, walked. No condition but the strings' lengths.
-/
import Derived.Test.YtkcmpddefohkeaaCallers
import Derived.Test.YtkcmpddefohkeaaMore
namespace Go.Proofs.Ytkcmpddefohkeaa
open Go.RowKit Go.Proofs
set_option linter.unusedVariables false
theorem take_same {T N : List Int} {p k : Nat} (h : (T.drop p).take k = N.take k) {x : Int} (hT : T[p + k]? = some x) (hN : N[k]? = some x) : (T.drop p).take (k + 1) = N.take (k + 1) :=
  take_succ_same h (by rw [List.getElem?_drop]; exact hT) hN
theorem stands_true {T N : List Int} {p : Nat} (h : (T.drop p).take N.length = N.take N.length) : standsB T N p = true := by
  unfold standsB; rw [h, List.take_length]; simp
theorem stands_false {T N : List Int} {p k : Nat} {x y : Int} (hT : T[p + k]? = some x) (hN : N[k]? = some y) (hne : x ≠ y) : standsB T N p = false := by
  unfold standsB
  rw [beq_eq_false_iff_ne]
  intro e
  have := congrArg (fun l => l[k]?) e
  have hk := (List.getElem?_eq_some_iff.1 hN).1
  simp only [List.getElem?_take, List.getElem?_drop] at this
  rw [if_pos hk, hT, hN] at this
  injection this with this
  exact hne this

set_option maxHeartbeats 2000000 in
theorem same20 (t s : ByteArray) (m n p : Nat) (w : World) (ht : t.size = m) (hs : s.size = n) (h1 : m ≤ 400) (h2 : n ≤ 400) (hp : p + n ≤ m) :
    Calls Try.prog 31 #[.string t, .string s, .int .i64 (p : Int), .bool false] w fun e w' => e = .returned (.bool (standsB (bytesOf plainF t) (bytesOf plainF s) p)) ∧ Below w.heap.size w w' := by
  have HN := hide (show (bytesOf plainF s).length = n by rw [bytesOf_len, hs])
  go_enter Try.func31, Try.ntmps31
  go_wp2_with fail
  go_loopg [9] n (fun g s9 wr => ∃ k : Nat, k + g = n ∧ s9 = .int .i64 k ∧ Hid (((bytesOf plainF t).drop p).take k = (bytesOf plainF s).take k) ∧ Below w.heap.size w wr)
  case atStart => exact ⟨0, by omega, rfl, rfl, Below.refl _ _⟩
  case round =>
    obtain ⟨k, hkg, rfl, HT, hb⟩ := hrel
    by_cases hlt : k < n
    · obtain ⟨q, hq⟩ : ∃ q, p + k = q := ⟨_, rfl⟩
      have h3 : q < m := by omega
      have Hq := hide hq
      have hqt : q < t.size := by omega
      have hks : k < s.size := by omega
      have bx := hide (byte_bounds t (i := q) hqt)
      have byy := hide (byte_bounds s (i := k) hks)
      have ex := hide (bytesOf_at plainF t (i := q) hqt)
      have ey := hide (bytesOf_at plainF s (i := k) hks)
      have h4 : (p : Int) + k = q := by omega
      have h5 : IntKind.i64.wrap (q : Int) = q := IntWalk.i64_in _ (by omega)
      clear hq
      go_wp2_with fail
      go_quiet (fail)
      clear h4 h5
      obtain ⟨x, hx⟩ : ∃ x : Int, x = ((t[q]'hqt).toNat : Int) := ⟨_, rfl⟩
      obtain ⟨y, hy⟩ : ∃ y : Int, y = ((s[k]'hks).toNat : Int) := ⟨_, rfl⟩
      rw [← hx] at bx ex
      rw [← hy] at byy ey
      simp only [← hx, ← hy]
      clear hx hy
      have bx := bx.out
      have byy := byy.out
      have sx := hide (show plainF x = x from rfl)
      have sy := hide (show plainF y = y from rfl)
      by_cases heq : (x : Int) = y
      · have hq : ((x : Int) != y) = false := by simp [heq]
        have Heq := hide heq
        clear heq
        go_wp2_with fail
        go_roundg (n - (k + 1))
        case measure => omega
        case rel => exact ⟨k + 1, by omega, by go_num, take_same HT.out (by rw [Hq.out]; exact ex.out) (by rw [sx.out, show (x : Int) = y from Heq.out, ← sy.out]; exact ey.out), below_drewN' hb nq⟩
      · have hq : ((x : Int) != y) = true := by simp [heq]
        have Heq := hide heq
        clear heq
        go_wp2_with fail
        go_ret
        exact ⟨ret_bool (stands_false (by rw [Hq.out]; exact ex.out) ey.out (by rw [sx.out, sy.out]; exact Heq.out)).symm, below_drewN' hb nq⟩
    · obtain rfl : n = k := by omega
      go_wp2_with fail
      go_ret
      exact ⟨ret_bool (stands_true (by rw [HN.out]; exact HT.out)).symm, hb⟩

end Go.Proofs.Ytkcmpddefohkeaa
