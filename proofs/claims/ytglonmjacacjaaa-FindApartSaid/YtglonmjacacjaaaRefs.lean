/-
  The reference's Same and All, Ints, the function that looks for a place, and awake, walked. No condition but the strings' lengths.
-/
import Derived.Test.YtglonmjacacjaaaCallers
import Derived.Test.YtglonmjacacjaaaMore
namespace Go.Proofs.Ytglonmjacacjaaa
open Go.RowKit Go.Proofs
set_option linter.unusedVariables false
theorem take_same {T N : List Int} {p k : Nat} (h : (T.drop p).take k = N.take k) {x : Int} (hT : T[p + k]? = some x) (hN : N[k]? = some x) : (T.drop p).take (k + 1) = N.take (k + 1) :=
  take_succ_same h (by rw [List.getElem?_drop]; exact hT) hN
theorem stands_true {T N : List Int} {p : Nat} (h : (T.drop p).take N.length = N.take N.length) : standsB T N p = true := by
  unfold standsB; rw [h, List.take_length]; simp
theorem stands_false {T N : List Int} {p k : Nat} {x y : Int} (hT : T[p + k]? = some x) (hN : N[k]? = some y) (hne : x ≠ y) : standsB T N p = false := by
  unfold standsB
  rw [beq_eq_false_iff_ne]
  intro e
  have := congrArg (fun l => l[k]?) e
  have hk := (List.getElem?_eq_some_iff.1 hN).1
  simp only [List.getElem?_take, List.getElem?_drop] at this
  rw [if_pos hk, hT, hN] at this
  injection this with this
  exact hne this

set_option maxHeartbeats 2000000 in
theorem same20 (t s : ByteArray) (m n p : Nat) (w : World) (ht : t.size = m) (hs : s.size = n) (h1 : m ≤ 400) (h2 : n ≤ 400) (hp : p + n ≤ m) :
    Calls Try.prog 18 #[.string t, .string s, .int .i64 (p : Int), .bool false] w fun e w' => e = .returned (.bool (standsB (bytesOf plainF t) (bytesOf plainF s) p)) ∧ Below w.heap.size w w' := by
  have HN := hide (show (bytesOf plainF s).length = n by rw [bytesOf_len, hs])
  go_enter Try.func18, Try.ntmps18
  go_wp2_with fail
  go_loopg [9] n (fun g s9 wr => ∃ k : Nat, k + g = n ∧ s9 = .int .i64 k ∧ Hid (((bytesOf plainF t).drop p).take k = (bytesOf plainF s).take k) ∧ Below w.heap.size w wr)
  case atStart => exact ⟨0, by omega, rfl, rfl, Below.refl _ _⟩
  case round =>
    obtain ⟨k, hkg, rfl, HT, hb⟩ := hrel
    by_cases hlt : k < n
    · obtain ⟨q, hq⟩ : ∃ q, p + k = q := ⟨_, rfl⟩
      have h3 : q < m := by omega
      have Hq := hide hq
      have hqt : q < t.size := by omega
      have hks : k < s.size := by omega
      have bx := hide (byte_bounds t (i := q) hqt)
      have byy := hide (byte_bounds s (i := k) hks)
      have ex := hide (bytesOf_at plainF t (i := q) hqt)
      have ey := hide (bytesOf_at plainF s (i := k) hks)
      have h4 : (p : Int) + k = q := by omega
      have h5 : IntKind.i64.wrap (q : Int) = q := IntWalk.i64_in _ (by omega)
      clear hq
      go_wp2_with fail
      go_quiet (fail)
      clear h4 h5
      obtain ⟨x, hx⟩ : ∃ x : Int, x = ((t[q]'hqt).toNat : Int) := ⟨_, rfl⟩
      obtain ⟨y, hy⟩ : ∃ y : Int, y = ((s[k]'hks).toNat : Int) := ⟨_, rfl⟩
      rw [← hx] at bx ex
      rw [← hy] at byy ey
      simp only [← hx, ← hy]
      clear hx hy
      have bx := bx.out
      have byy := byy.out
      have sx := hide (show plainF x = x from rfl)
      have sy := hide (show plainF y = y from rfl)
      by_cases heq : (x : Int) = y
      · have hq : ((x : Int) != y) = false := by simp [heq]
        have Heq := hide heq
        clear heq
        go_wp2_with fail
        go_roundg (n - (k + 1))
        case measure => omega
        case rel => exact ⟨k + 1, by omega, by go_num, take_same HT.out (by rw [Hq.out]; exact ex.out) (by rw [sx.out, show (x : Int) = y from Heq.out, ← sy.out]; exact ey.out), below_drewN' hb nq⟩
      · have hq : ((x : Int) != y) = true := by simp [heq]
        have Heq := hide heq
        clear heq
        go_wp2_with fail
        go_ret
        exact ⟨ret_bool (stands_false (by rw [Hq.out]; exact ex.out) ey.out (by rw [sx.out, sy.out]; exact Heq.out)).symm, below_drewN' hb nq⟩
    · obtain rfl : n = k := by omega
      go_wp2_with fail
      go_ret
      exact ⟨ret_bool (stands_true (by rw [HN.out]; exact HT.out)).symm, hb⟩

set_option maxHeartbeats 2000000 in
theorem same23 (t s : ByteArray) (m n p : Nat) (w : World) (ht : t.size = m) (hs : s.size = n) (h1 : m ≤ 400) (h2 : n ≤ 400) (hp : p + n ≤ m) :
    Calls Try.prog 18 #[.string t, .string s, .int .i64 (p : Int), .bool true] w fun e w' => e = .returned (.bool (standsB (bytesOf smallF t) (bytesOf smallF s) p)) ∧ Below w.heap.size w w' := by
  have HN := hide (show (bytesOf smallF s).length = n by rw [bytesOf_len, hs])
  go_enter Try.func18, Try.ntmps18
  go_wp2_with fail
  go_loopg [9] n (fun g s9 wr => ∃ k : Nat, k + g = n ∧ s9 = .int .i64 k ∧ Hid (((bytesOf smallF t).drop p).take k = (bytesOf smallF s).take k) ∧ Below w.heap.size w wr)
  case atStart => exact ⟨0, by omega, rfl, rfl, Below.refl _ _⟩
  case round =>
    obtain ⟨k, hkg, rfl, HT, hb⟩ := hrel
    by_cases hlt : k < n
    · obtain ⟨q, hq⟩ : ∃ q, p + k = q := ⟨_, rfl⟩
      have h3 : q < m := by omega
      have Hq := hide hq
      have hqt : q < t.size := by omega
      have hks : k < s.size := by omega
      have bx := hide (byte_bounds t (i := q) hqt)
      have byy := hide (byte_bounds s (i := k) hks)
      have ex := hide (bytesOf_at smallF t (i := q) hqt)
      have ey := hide (bytesOf_at smallF s (i := k) hks)
      have h4 : (p : Int) + k = q := by omega
      have h5 : IntKind.i64.wrap (q : Int) = q := IntWalk.i64_in _ (by omega)
      clear hq
      go_wp2_with fail
      go_quiet (fail)
      clear h4 h5
      obtain ⟨x, hx⟩ : ∃ x : Int, x = ((t[q]'hqt).toNat : Int) := ⟨_, rfl⟩
      obtain ⟨y, hy⟩ : ∃ y : Int, y = ((s[k]'hks).toNat : Int) := ⟨_, rfl⟩
      rw [← hx] at bx ex
      rw [← hy] at byy ey
      simp only [← hx, ← hy]
      clear hx hy
      have bx := bx.out
      have byy := byy.out
      rcases (show (65 ≤ x ∧ x ≤ 90) ∨ (x < 65) ∨ (65 ≤ x ∧ 90 < x) by omega) with hx | hx | hx
      · have ax1 : 65 ≤ x := hx.1
        have ax2 : x ≤ 90 := hx.2
        have sx := hide (show smallF x = x + 32 by unfold smallF; rw [if_pos hx])
        clear hx
        rcases (show (65 ≤ y ∧ y ≤ 90) ∨ (y < 65) ∨ (65 ≤ y ∧ 90 < y) by omega) with hy | hy | hy
        · have ay1 : 65 ≤ y := hy.1
          have ay2 : y ≤ 90 := hy.2
          have sy := hide (show smallF y = y + 32 by unfold smallF; rw [if_pos hy])
          clear hy
          by_cases heq : (x + 32 : Int) = y + 32
          · have hq : ((x + 32 : Int) != y + 32) = false := by simp [heq]
            have Heq := hide heq
            clear heq
            go_wp2_with fail
            go_roundg (n - (k + 1))
            case measure => omega
            case rel => exact ⟨k + 1, by omega, by go_num, take_same HT.out (by rw [Hq.out]; exact ex.out) (by rw [sx.out, show (x + 32 : Int) = y + 32 from Heq.out, ← sy.out]; exact ey.out), below_drewN' hb nq⟩
          · have hq : ((x + 32 : Int) != y + 32) = true := by simp [heq]
            have Heq := hide heq
            clear heq
            go_wp2_with fail
            go_ret
            exact ⟨ret_bool (stands_false (by rw [Hq.out]; exact ex.out) ey.out (by rw [sx.out, sy.out]; exact Heq.out)).symm, below_drewN' hb nq⟩
        · have ay1 : decide (65 ≤ y) = false := by simp; omega
          have sy := hide (show smallF y = y by unfold smallF; rw [if_neg (by omega)])
          clear hy
          by_cases heq : (x + 32 : Int) = y
          · have hq : ((x + 32 : Int) != y) = false := by simp [heq]
            have Heq := hide heq
            clear heq
            go_wp2_with fail
            go_roundg (n - (k + 1))
            case measure => omega
            case rel => exact ⟨k + 1, by omega, by go_num, take_same HT.out (by rw [Hq.out]; exact ex.out) (by rw [sx.out, show (x + 32 : Int) = y from Heq.out, ← sy.out]; exact ey.out), below_drewN' hb nq⟩
          · have hq : ((x + 32 : Int) != y) = true := by simp [heq]
            have Heq := hide heq
            clear heq
            go_wp2_with fail
            go_ret
            exact ⟨ret_bool (stands_false (by rw [Hq.out]; exact ex.out) ey.out (by rw [sx.out, sy.out]; exact Heq.out)).symm, below_drewN' hb nq⟩
        · have ay1 : 65 ≤ y := hy.1
          have ay2 : decide (y ≤ 90) = false := by simp; omega
          have sy := hide (show smallF y = y by unfold smallF; rw [if_neg (by omega)])
          clear hy
          by_cases heq : (x + 32 : Int) = y
          · have hq : ((x + 32 : Int) != y) = false := by simp [heq]
            have Heq := hide heq
            clear heq
            go_wp2_with fail
            go_roundg (n - (k + 1))
            case measure => omega
            case rel => exact ⟨k + 1, by omega, by go_num, take_same HT.out (by rw [Hq.out]; exact ex.out) (by rw [sx.out, show (x + 32 : Int) = y from Heq.out, ← sy.out]; exact ey.out), below_drewN' hb nq⟩
          · have hq : ((x + 32 : Int) != y) = true := by simp [heq]
            have Heq := hide heq
            clear heq
            go_wp2_with fail
            go_ret
            exact ⟨ret_bool (stands_false (by rw [Hq.out]; exact ex.out) ey.out (by rw [sx.out, sy.out]; exact Heq.out)).symm, below_drewN' hb nq⟩
      · have ax1 : decide (65 ≤ x) = false := by simp; omega
        have sx := hide (show smallF x = x by unfold smallF; rw [if_neg (by omega)])
        clear hx
        rcases (show (65 ≤ y ∧ y ≤ 90) ∨ (y < 65) ∨ (65 ≤ y ∧ 90 < y) by omega) with hy | hy | hy
        · have ay1 : 65 ≤ y := hy.1
          have ay2 : y ≤ 90 := hy.2
          have sy := hide (show smallF y = y + 32 by unfold smallF; rw [if_pos hy])
          clear hy
          by_cases heq : (x : Int) = y + 32
          · have hq : ((x : Int) != y + 32) = false := by simp [heq]
            have Heq := hide heq
            clear heq
            go_wp2_with fail
            go_roundg (n - (k + 1))
            case measure => omega
            case rel => exact ⟨k + 1, by omega, by go_num, take_same HT.out (by rw [Hq.out]; exact ex.out) (by rw [sx.out, show (x : Int) = y + 32 from Heq.out, ← sy.out]; exact ey.out), below_drewN' hb nq⟩
          · have hq : ((x : Int) != y + 32) = true := by simp [heq]
            have Heq := hide heq
            clear heq
            go_wp2_with fail
            go_ret
            exact ⟨ret_bool (stands_false (by rw [Hq.out]; exact ex.out) ey.out (by rw [sx.out, sy.out]; exact Heq.out)).symm, below_drewN' hb nq⟩
        · have ay1 : decide (65 ≤ y) = false := by simp; omega
          have sy := hide (show smallF y = y by unfold smallF; rw [if_neg (by omega)])
          clear hy
          by_cases heq : (x : Int) = y
          · have hq : ((x : Int) != y) = false := by simp [heq]
            have Heq := hide heq
            clear heq
            go_wp2_with fail
            go_roundg (n - (k + 1))
            case measure => omega
            case rel => exact ⟨k + 1, by omega, by go_num, take_same HT.out (by rw [Hq.out]; exact ex.out) (by rw [sx.out, show (x : Int) = y from Heq.out, ← sy.out]; exact ey.out), below_drewN' hb nq⟩
          · have hq : ((x : Int) != y) = true := by simp [heq]
            have Heq := hide heq
            clear heq
            go_wp2_with fail
            go_ret
            exact ⟨ret_bool (stands_false (by rw [Hq.out]; exact ex.out) ey.out (by rw [sx.out, sy.out]; exact Heq.out)).symm, below_drewN' hb nq⟩
        · have ay1 : 65 ≤ y := hy.1
          have ay2 : decide (y ≤ 90) = false := by simp; omega
          have sy := hide (show smallF y = y by unfold smallF; rw [if_neg (by omega)])
          clear hy
          by_cases heq : (x : Int) = y
          · have hq : ((x : Int) != y) = false := by simp [heq]
            have Heq := hide heq
            clear heq
            go_wp2_with fail
            go_roundg (n - (k + 1))
            case measure => omega
            case rel => exact ⟨k + 1, by omega, by go_num, take_same HT.out (by rw [Hq.out]; exact ex.out) (by rw [sx.out, show (x : Int) = y from Heq.out, ← sy.out]; exact ey.out), below_drewN' hb nq⟩
          · have hq : ((x : Int) != y) = true := by simp [heq]
            have Heq := hide heq
            clear heq
            go_wp2_with fail
            go_ret
            exact ⟨ret_bool (stands_false (by rw [Hq.out]; exact ex.out) ey.out (by rw [sx.out, sy.out]; exact Heq.out)).symm, below_drewN' hb nq⟩
      · have ax1 : 65 ≤ x := hx.1
        have ax2 : decide (x ≤ 90) = false := by simp; omega
        have sx := hide (show smallF x = x by unfold smallF; rw [if_neg (by omega)])
        clear hx
        rcases (show (65 ≤ y ∧ y ≤ 90) ∨ (y < 65) ∨ (65 ≤ y ∧ 90 < y) by omega) with hy | hy | hy
        · have ay1 : 65 ≤ y := hy.1
          have ay2 : y ≤ 90 := hy.2
          have sy := hide (show smallF y = y + 32 by unfold smallF; rw [if_pos hy])
          clear hy
          by_cases heq : (x : Int) = y + 32
          · have hq : ((x : Int) != y + 32) = false := by simp [heq]
            have Heq := hide heq
            clear heq
            go_wp2_with fail
            go_roundg (n - (k + 1))
            case measure => omega
            case rel => exact ⟨k + 1, by omega, by go_num, take_same HT.out (by rw [Hq.out]; exact ex.out) (by rw [sx.out, show (x : Int) = y + 32 from Heq.out, ← sy.out]; exact ey.out), below_drewN' hb nq⟩
          · have hq : ((x : Int) != y + 32) = true := by simp [heq]
            have Heq := hide heq
            clear heq
            go_wp2_with fail
            go_ret
            exact ⟨ret_bool (stands_false (by rw [Hq.out]; exact ex.out) ey.out (by rw [sx.out, sy.out]; exact Heq.out)).symm, below_drewN' hb nq⟩
        · have ay1 : decide (65 ≤ y) = false := by simp; omega
          have sy := hide (show smallF y = y by unfold smallF; rw [if_neg (by omega)])
          clear hy
          by_cases heq : (x : Int) = y
          · have hq : ((x : Int) != y) = false := by simp [heq]
            have Heq := hide heq
            clear heq
            go_wp2_with fail
            go_roundg (n - (k + 1))
            case measure => omega
            case rel => exact ⟨k + 1, by omega, by go_num, take_same HT.out (by rw [Hq.out]; exact ex.out) (by rw [sx.out, show (x : Int) = y from Heq.out, ← sy.out]; exact ey.out), below_drewN' hb nq⟩
          · have hq : ((x : Int) != y) = true := by simp [heq]
            have Heq := hide heq
            clear heq
            go_wp2_with fail
            go_ret
            exact ⟨ret_bool (stands_false (by rw [Hq.out]; exact ex.out) ey.out (by rw [sx.out, sy.out]; exact Heq.out)).symm, below_drewN' hb nq⟩
        · have ay1 : 65 ≤ y := hy.1
          have ay2 : decide (y ≤ 90) = false := by simp; omega
          have sy := hide (show smallF y = y by unfold smallF; rw [if_neg (by omega)])
          clear hy
          by_cases heq : (x : Int) = y
          · have hq : ((x : Int) != y) = false := by simp [heq]
            have Heq := hide heq
            clear heq
            go_wp2_with fail
            go_roundg (n - (k + 1))
            case measure => omega
            case rel => exact ⟨k + 1, by omega, by go_num, take_same HT.out (by rw [Hq.out]; exact ex.out) (by rw [sx.out, show (x : Int) = y from Heq.out, ← sy.out]; exact ey.out), below_drewN' hb nq⟩
          · have hq : ((x : Int) != y) = true := by simp [heq]
            have Heq := hide heq
            clear heq
            go_wp2_with fail
            go_ret
            exact ⟨ret_bool (stands_false (by rw [Hq.out]; exact ex.out) ey.out (by rw [sx.out, sy.out]; exact Heq.out)).symm, below_drewN' hb nq⟩
    · obtain rfl : n = k := by omega
      go_wp2_with fail
      go_ret
      exact ⟨ret_bool (stands_true (by rw [HN.out]; exact HT.out)).symm, hb⟩

set_option maxHeartbeats 2000000 in
theorem ref20 (t s : ByteArray) (m n : Nat) (w : World) (ht : t.size = m) (hs : s.size = n) (h1 : m ≤ 400) (h2 : n ≤ 400) :
    Calls Try.prog 9 #[.string t, .string s, .bool false] w (RetSlice 3 1 ((placesF (bytesOf plainF t) (bytesOf plainF s)).map nI) w) := by
  have HN := hide (show (bytesOf plainF s).length = n by rw [bytesOf_len, hs])
  have HT := hide (show (bytesOf plainF t).length = m by rw [bytesOf_len, ht])
  have HS := hide (fun (p : Nat) (W : World) (hp : p + n ≤ m) => same20 t s m n p W ht hs h1 h2 hp)
  go_enter Try.func9, Try.ntmps9
  go_wp2_with fail
  go_loopg [7, 8] (m + 1) (fun g s7 s8 wr => ∃ k : Nat, k + g = m + 1 ∧ (k = 0 ∨ (0 < n ∧ k + n ≤ m + 1)) ∧ s8 = .int .i64 k ∧ wr.ownsRow w.heap.size 3 1 s7 (placesTo (bytesOf plainF t) (bytesOf plainF s) k).length ((placesTo (bytesOf plainF t) (bytesOf plainF s) k).map nI) ∧ Below w.heap.size w wr)
  case atStart => exact ⟨0, by omega, .inl rfl, rfl, World.ownsRow_nil _ _ _ _, Below.refl _ _⟩
  case round =>
    obtain ⟨k, hkg, hk, rfl, hown, hb⟩ := hrel
    have hw : IntKind.i64.wrap ((m : Int) - n) = (m : Int) - n := IntWalk.i64_in _ (by omega)
    by_cases hlt : k + n ≤ m ∧ 0 < n
    · obtain ⟨hl1, hl2⟩ := hlt
      have hd : decide ((k : Int) ≤ (m : Int) - n) = true := by simp; omega
      have hbz := hb.size
      have hpl := placesTo_len (T := bytesOf plainF t) (N := bytesOf plainF s) k
      have HC := hide (HS.out k wr hl1)
      have hsucc := hide (placesTo_succ (T := bytesOf plainF t) (N := bytesOf plainF s) k)
      obtain ⟨A, c, rfl⟩ := own_slice hown
      obtain ⟨b, hbst⟩ : ∃ b, standsB (bytesOf plainF t) (bytesOf plainF s) k = b := ⟨_, rfl⟩
      have HC' := HC.out
      have hs' := hsucc.out
      rw [hbst] at HC' hs'
      have HC := hide HC'
      have hsucc := hide hs'
      clear hs' HC' hbst
      cases b with
      | true =>
        go_wp2_with (first
          | (go_at_call 18; go_must (refine HC.out.mono ?_; rintro e w1 ⟨rfl, hb1⟩; have own1 := own_call hown hb1; have hb2 := below_in hb hb1 (Nat.le_refl _); have hz1 := hb1.size))
          | (at_builtin; go_must (refine wpList_append1 Try.sl23 rfl _ _ rfl w.heap.size (.slice A (placesTo (bytesOf plainF t) (bytesOf plainF s) k).length c) (placesTo (bytesOf plainF t) (bytesOf plainF s) k).length ((placesTo (bytesOf plainF t) (bytesOf plainF s) k).map nI) #[.int .i64 k] w1 1 rfl rfl rfl own1 rfl (one_nI k) (by simp only [maxLen]; omega) (by omega) (by omega) ?_; intro A1 c1 w2 app)))
        go_roundg (m + 1 - (k + 1))
        case measure => omega
        case rel =>
          refine ⟨k + 1, by omega, .inr ⟨hl2, by omega⟩, by go_num, ?_, app.below (own1.alloc _) (hb2.alloc hb2.size _) (Nat.le_refl _) (by have := hb2.size; simp; omega)⟩
          rw [hsucc.out]
          simp only [reduceIte, List.length_append, List.map_append]
          exact app.own
      | false =>
        go_wp2_with (go_at_call 18; go_must (refine HC.out.mono ?_; rintro e w1 ⟨rfl, hb1⟩; have own1 := own_call hown hb1; have hb2 := below_in hb hb1 (Nat.le_refl _)))
        go_roundg (m + 1 - (k + 1))
        case measure => omega
        case rel =>
          refine ⟨k + 1, by omega, .inr ⟨hl2, by omega⟩, by go_num, ?_, hb2⟩
          rw [hsucc.out]
          simp only [Bool.false_eq_true, if_false, List.append_nil]
          exact own1
    · have e : placesTo (bytesOf plainF t) (bytesOf plainF s) k = placesF (bytesOf plainF t) (bytesOf plainF s) := by
        unfold placesF
        rw [HN.out, HT.out]
        rcases hk with rfl | ⟨h3, h4⟩
        · rw [placesTo_zero]
          split
          · rfl
          · rw [show m + 1 - n = 0 by omega, placesTo_zero]
        · rw [if_neg (by omega), show m + 1 - n = k by omega]
      rw [e] at hown
      have hown := hide (RetSlice.of hown hb)
      clear e
      by_cases hd : (k : Int) ≤ (m : Int) - n
      · have hd2 : decide ((k : Int) ≤ (m : Int) - n) = true := by simpa using hd
        have hn0 : decide (0 < (n : Int)) = false := by simp; omega
        have hn1 : decide (0 < n) = false := by simp; omega
        clear hd
        go_wp2_with fail
        go_ret
        exact hown.out
      · have hd2 : decide ((k : Int) ≤ (m : Int) - n) = false := by simpa using hd
        clear hd
        go_wp2_with fail
        go_ret
        exact hown.out

set_option maxHeartbeats 2000000 in
theorem ref23 (t s : ByteArray) (m n : Nat) (w : World) (ht : t.size = m) (hs : s.size = n) (h1 : m ≤ 400) (h2 : n ≤ 400) :
    Calls Try.prog 9 #[.string t, .string s, .bool true] w (RetSlice 3 1 ((placesF (bytesOf smallF t) (bytesOf smallF s)).map nI) w) := by
  have HN := hide (show (bytesOf smallF s).length = n by rw [bytesOf_len, hs])
  have HT := hide (show (bytesOf smallF t).length = m by rw [bytesOf_len, ht])
  have HS := hide (fun (p : Nat) (W : World) (hp : p + n ≤ m) => same23 t s m n p W ht hs h1 h2 hp)
  go_enter Try.func9, Try.ntmps9
  go_wp2_with fail
  go_loopg [7, 8] (m + 1) (fun g s7 s8 wr => ∃ k : Nat, k + g = m + 1 ∧ (k = 0 ∨ (0 < n ∧ k + n ≤ m + 1)) ∧ s8 = .int .i64 k ∧ wr.ownsRow w.heap.size 3 1 s7 (placesTo (bytesOf smallF t) (bytesOf smallF s) k).length ((placesTo (bytesOf smallF t) (bytesOf smallF s) k).map nI) ∧ Below w.heap.size w wr)
  case atStart => exact ⟨0, by omega, .inl rfl, rfl, World.ownsRow_nil _ _ _ _, Below.refl _ _⟩
  case round =>
    obtain ⟨k, hkg, hk, rfl, hown, hb⟩ := hrel
    have hw : IntKind.i64.wrap ((m : Int) - n) = (m : Int) - n := IntWalk.i64_in _ (by omega)
    by_cases hlt : k + n ≤ m ∧ 0 < n
    · obtain ⟨hl1, hl2⟩ := hlt
      have hd : decide ((k : Int) ≤ (m : Int) - n) = true := by simp; omega
      have hbz := hb.size
      have hpl := placesTo_len (T := bytesOf smallF t) (N := bytesOf smallF s) k
      have HC := hide (HS.out k wr hl1)
      have hsucc := hide (placesTo_succ (T := bytesOf smallF t) (N := bytesOf smallF s) k)
      obtain ⟨A, c, rfl⟩ := own_slice hown
      obtain ⟨b, hbst⟩ : ∃ b, standsB (bytesOf smallF t) (bytesOf smallF s) k = b := ⟨_, rfl⟩
      have HC' := HC.out
      have hs' := hsucc.out
      rw [hbst] at HC' hs'
      have HC := hide HC'
      have hsucc := hide hs'
      clear hs' HC' hbst
      cases b with
      | true =>
        go_wp2_with (first
          | (go_at_call 18; go_must (refine HC.out.mono ?_; rintro e w1 ⟨rfl, hb1⟩; have own1 := own_call hown hb1; have hb2 := below_in hb hb1 (Nat.le_refl _); have hz1 := hb1.size))
          | (at_builtin; go_must (refine wpList_append1 Try.sl23 rfl _ _ rfl w.heap.size (.slice A (placesTo (bytesOf smallF t) (bytesOf smallF s) k).length c) (placesTo (bytesOf smallF t) (bytesOf smallF s) k).length ((placesTo (bytesOf smallF t) (bytesOf smallF s) k).map nI) #[.int .i64 k] w1 1 rfl rfl rfl own1 rfl (one_nI k) (by simp only [maxLen]; omega) (by omega) (by omega) ?_; intro A1 c1 w2 app)))
        go_roundg (m + 1 - (k + 1))
        case measure => omega
        case rel =>
          refine ⟨k + 1, by omega, .inr ⟨hl2, by omega⟩, by go_num, ?_, app.below (own1.alloc _) (hb2.alloc hb2.size _) (Nat.le_refl _) (by have := hb2.size; simp; omega)⟩
          rw [hsucc.out]
          simp only [reduceIte, List.length_append, List.map_append]
          exact app.own
      | false =>
        go_wp2_with (go_at_call 18; go_must (refine HC.out.mono ?_; rintro e w1 ⟨rfl, hb1⟩; have own1 := own_call hown hb1; have hb2 := below_in hb hb1 (Nat.le_refl _)))
        go_roundg (m + 1 - (k + 1))
        case measure => omega
        case rel =>
          refine ⟨k + 1, by omega, .inr ⟨hl2, by omega⟩, by go_num, ?_, hb2⟩
          rw [hsucc.out]
          simp only [Bool.false_eq_true, if_false, List.append_nil]
          exact own1
    · have e : placesTo (bytesOf smallF t) (bytesOf smallF s) k = placesF (bytesOf smallF t) (bytesOf smallF s) := by
        unfold placesF
        rw [HN.out, HT.out]
        rcases hk with rfl | ⟨h3, h4⟩
        · rw [placesTo_zero]
          split
          · rfl
          · rw [show m + 1 - n = 0 by omega, placesTo_zero]
        · rw [if_neg (by omega), show m + 1 - n = k by omega]
      rw [e] at hown
      have hown := hide (RetSlice.of hown hb)
      clear e
      by_cases hd : (k : Int) ≤ (m : Int) - n
      · have hd2 : decide ((k : Int) ≤ (m : Int) - n) = true := by simpa using hd
        have hn0 : decide (0 < (n : Int)) = false := by simp; omega
        have hn1 : decide (0 < n) = false := by simp; omega
        clear hd
        go_wp2_with fail
        go_ret
        exact hown.out
      · have hd2 : decide ((k : Int) ≤ (m : Int) - n) = false := by simpa using hd
        clear hd
        go_wp2_with fail
        go_ret
        exact hown.out
end Go.Proofs.Ytglonmjacacjaaa
