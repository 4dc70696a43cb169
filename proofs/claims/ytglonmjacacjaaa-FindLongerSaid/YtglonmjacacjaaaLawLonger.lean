/-
  FindLonger, walked. No condition but that the strings' lengths are lengths.
-/
import Derived.Test.YtglonmjacacjaaaLawAll
namespace Go.Proofs.Ytglonmjacacjaaa
open Go.RowKit Go.Proofs
set_option linter.unusedVariables false
theorem bytesOf_append (f : Int → Int) (a b : ByteArray) : bytesOf f (a ++ b) = bytesOf f a ++ bytesOf f b := by
  simp only [bytesOf, ByteArray.toList_eq]
  rw [← List.map_append]
  congr 1
set_option maxHeartbeats 4000000 in
theorem findLonger_walk (w : World) (h : ByteArray) (hh : h.size ≤ maxLen) (t : ByteArray) (ht : t.size ≤ maxLen) (s : ByteArray) (hs : s.size ≤ maxLen) :
    Calls Try.prog 4 #[.string h, .string t, .string s] w fun e w' => e = .returned (.bool true) ∧ Below w.heap.size w w' := by
  unfold maxLen at hh ht hs
  have AW := hide awake_any
  by_cases h0 : h.size ≤ 100
  · by_cases h1 : t.size ≤ 200
    · by_cases h2 : s.size ≤ 100
      · obtain ⟨L, hL⟩ : ∃ L, placesF (bytesOf plainF t) (bytesOf plainF s) = L := ⟨_, rfl⟩
        obtain ⟨P, hP⟩ : ∃ P, placesF (bytesOf plainF (h ++ t)) (bytesOf plainF s) = P := ⟨_, rfl⟩
        obtain ⟨pre, hpre, hlt⟩ := placesF_app (H := bytesOf plainF h) (T := bytesOf plainF t) (N := bytesOf plainF s)
        have lP := placesF_len (bytesOf plainF (h ++ t)) (bytesOf plainF s)
        have hx4 : ∀ x ∈ L, x ≤ 400 := fun x hx => by rw [← hL] at hx; have := placesF_lt hx; rw [bytesOf_len, bytesOf_len] at this; omega
        have hsz : (h ++ t).size = h.size + t.size := ByteArray.size_append
        rw [← bytesOf_append, hP, hL, bytesOf_len] at hpre
        rw [bytesOf_len] at hlt
        rw [hP, bytesOf_len, hsz] at lP
        obtain ⟨m, hm⟩ : ∃ m, h.size = m := ⟨_, rfl⟩
        rw [hm] at hpre hlt
        have C1 := fun W => (call12 (h ++ t) s W (by omega) (by omega)).mono fun _ _ h => by rw [hP] at h; exact h.rd
        have C2 := fun W => (call12 t s W (by omega) (by omega)).mono fun _ _ h => by rw [hL] at h; exact h.rd
        obtain ⟨np, hnp⟩ : ∃ np, pre.length = np := ⟨_, rfl⟩
        obtain ⟨n, hn⟩ : ∃ n, L.length = n := ⟨_, rfl⟩
        have hPl : P.length = np + n := by rw [hpre, List.length_append, List.length_map, hnp, hn]
        unfold RetRd at C1 C2
        rw [hPl] at C1 lP
        rw [hn] at C2
        have C1 := hide C1
        have C2 := hide C2
        have PB := hide (fun i x (hx : L[i]? = some x) => show P[np + i]? = some (x + m) by
          rw [hpre, ← hnp, List.getElem?_append_right (by omega), Nat.add_sub_cancel_left, List.getElem?_map, hx]; rfl)
        have PA := hide (fun i (hi : i < np) => show ∃ x, P[i]? = some x ∧ x < m by
          have hil : i < pre.length := by rw [hnp]; exact hi
          refine ⟨pre[i]'hil, ?_, hlt _ (List.getElem_mem _)⟩
          rw [hpre, List.getElem?_append_left hil, List.getElem?_eq_getElem])
        have X4 := hide hx4
        rw [hm] at lP h0
        clear hPl hn hnp hpre hlt hx4 hP hL hsz
        have d1 : decide (100 < m) = false := by simpa using h0
        have d2 : decide (200 < t.size) = false := by simpa using h1
        have d3 : decide (100 < s.size) = false := by simpa using h2
        have d4 : decide ((np : Int) + n < n) = false := by simp; omega
        have d5 : decide (np + n < n) = false := by simp
        go_enter Try.func4, Try.ntmps4
        go_wp2_with (first
          | (go_at_call_of 12 (h ++ t); go_must (refine (C1.out _).mono ?_; rintro e w1 ⟨a1, c1, rfl, r1, k1, b1⟩))
          | (go_at_call 12; go_must (refine (C2.out _).mono ?_; rintro e w2 ⟨a2, c2, rfl, r2, k2, b2⟩; have r1' := rd_call r1 b2)))
        have B0 := hide (below_in b1 b2 (Nat.le_refl _))
        clear r1 b1 b2
        go_loopg [9] n (fun g s9 wr => ∃ i : Nat, i + g = n ∧ s9 = .int .i64 i ∧ Rd wr wr.heap.size 1 a1 (np + n) (P.map nI) ∧ Rd wr wr.heap.size 1 a2 n (L.map nI) ∧ Below w2.heap.size w2 wr)
        case atStart => exact ⟨0, by omega, rfl, r1', r2, Below.refl _ _⟩
        case round =>
          clear r1' r2
          obtain ⟨i, hig, rfl, r1, r2, hb⟩ := hrel
          by_cases hlt : i < n
          · obtain ⟨b, off, x, rfl, hbB, hx, e1⟩ := r2.at1 hlt
            obtain ⟨q, hq⟩ : ∃ q, np + i = q := ⟨_, rfl⟩
            obtain ⟨b', off', y, rfl, hbB', hy, e2⟩ := r1.at1 (k := q) (by omega)
            have hy' := PB.out i x hx
            rw [hq, hy] at hy'
            injection hy' with hy'
            have hx4 := X4.out x (List.mem_of_getElem? hx)
            unfold nI at e1 e2
            subst hy'
            have hqn : q < np + n := by omega
            have w1 : IntKind.i64.wrap (np : Int) = np := IntWalk.i64_in _ (by omega)
            have w2 : (np : Int) + i = q := by omega
            have w3 : IntKind.i64.wrap (q : Int) = q := IntWalk.i64_in _ (by omega)
            have w4 : IntKind.i64.wrap ((x : Int) + m) = x + m := IntWalk.i64_in _ (by omega)
            clear hx hy hq
            go_wp2_with fail
            go_quiet (fail)
            go_wp2_with fail
            go_roundg (n - (i + 1))
            case measure => omega
            case rel => exact ⟨i + 1, by omega, by go_num, r1.drewN nq, r2.drewN nq, below_drewN' hb nq⟩
          · obtain rfl : n = i := by omega
            have B1 := hide (below_in B0.out hb (Nat.le_refl _))
            cases np with
            | zero =>
              have d6 : (((0 : Nat) : Int) + n == n) = true := by simp
              go_wp2_with (go_at_call 8; go_must (refine (AW.out _).mono ?_; rintro e w8 ⟨rfl, b8⟩))
              go_ret
              exact ⟨rfl, below_in B1.out b8 (Nat.le_refl _)⟩
            | succ p =>
              obtain ⟨x, hx, hxm⟩ := PA.out p (by omega)
              obtain ⟨b', off', y, rfl, hbB', hy, e2⟩ := r1.at1 (k := p) (by omega)
              obtain rfl : x = y := by rw [hx] at hy; injection hy
              unfold nI at e2
              have d6 : ((p : Int) + 1 + n == n) = false := by simp; omega
              have d7 : (p : Int) + 1 + n - n - 1 = p := by omega
              have d8 : p < p + 1 + n := by omega
              clear hx hy
              go_wp2_with (go_at_call 8; go_must (refine (AW.out _).mono ?_; rintro e w8 ⟨rfl, b8⟩))
              go_ret
              exact ⟨rfl, below_in B1.out b8 (Nat.le_refl _)⟩
      · have d1 : decide (100 < h.size) = false := by simpa using h0
        have d2 : decide (200 < t.size) = false := by simpa using h1
        go_enter Try.func4, Try.ntmps4
        go_wp2_with (go_at_call 8; go_must (refine (AW.out _).mono ?_; rintro e w8 ⟨rfl, b8⟩))
        all_goals first | (go_ret; exact ⟨rfl, b8⟩) | (exfalso; omega)
    · have d1 : decide (100 < h.size) = false := by simpa using h0
      go_enter Try.func4, Try.ntmps4
      go_wp2_with (go_at_call 8; go_must (refine (AW.out _).mono ?_; rintro e w8 ⟨rfl, b8⟩))
      all_goals first | (go_ret; exact ⟨rfl, b8⟩) | (exfalso; omega)
  · go_enter Try.func4, Try.ntmps4
    go_wp2_with (go_at_call 8; go_must (refine (AW.out _).mono ?_; rintro e w8 ⟨rfl, b8⟩))
    all_goals first | (go_ret; exact ⟨rfl, b8⟩) | (exfalso; omega)
end Go.Proofs.Ytglonmjacacjaaa
