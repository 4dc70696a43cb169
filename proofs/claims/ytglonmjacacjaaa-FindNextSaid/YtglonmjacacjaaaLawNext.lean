/-
  FindNext, walked. No condition but that the strings' lengths are lengths, the number an int64.
-/
import Derived.Test.YtglonmjacacjaaaLawAll
namespace Go.Proofs.Ytglonmjacacjaaa
open Go.RowKit Go.Proofs
set_option linter.unusedVariables false
set_option maxHeartbeats 4000000 in
theorem lawnext_walk (w : World) (t : ByteArray) (ht : t.size ≤ maxLen) (s : ByteArray) (hs : s.size ≤ maxLen) (f : Int) :
    Calls Try.prog 7 #[.string t, .string s, .int .i64 f] w fun e w' => e = .returned (.bool true) ∧ Below w.heap.size w w' := by
  unfold maxLen at ht hs
  have AW := hide awake_any
  by_cases h1 : t.size ≤ 400
  · by_cases h2 : s.size ≤ 100
    · obtain ⟨P, hP⟩ : ∃ P, placesF (bytesOf plainF t) (bytesOf plainF s) = P := ⟨_, rfl⟩
      have lP := placesF_len (bytesOf plainF t) (bytesOf plainF s)
      rw [hP, bytesOf_len] at lP
      have C1 := hide (fun W => (ref20 t s _ _ W rfl rfl h1 (by omega)).mono fun _ _ h => by rw [hP] at h; exact h.rd)
      have C2 := hide (fun W => (next_any t s f W h1 (by omega)).mono fun e w' h => show FoundPost (nextF f P) W e w' by rw [hP] at h; exact h)
      have C3 := hide (fun W => (ahead_any t s f W h1 (by omega)).mono fun e w' h => show FoundPost (aheadF f P) W e w' by rw [hP] at h; exact h)
      clear hP
      obtain ⟨n, hn⟩ : ∃ n, P.length = n := ⟨_, rfl⟩
      have HL := hide hn
      rw [hn] at lP
      have d1 : decide (400 < t.size) = false := by simpa using h1
      have d2 : decide (100 < s.size) = false := by simpa using h2
      go_enter Try.func7, Try.ntmps7
      go_wp2_with (go_at_call 9; go_must (refine (C1.out _).mono ?_; rintro e w1 ⟨a1, c1, rfl, r1, _, b1⟩; rw [hn] at r1; rw [hn]))
      clear hn
      have b1' := hide b1
      clear b1
      go_loopg [8, 9, 10, 11, 12] n (fun g s8 s9 s10 s11 s12 wr => ∃ (k : Nat) (N M : Option Nat), k + g = n ∧ s12 = .int .i64 k ∧ Hid (nextF f (P.take k) = N ∧ aheadF f (P.take k) = M) ∧ s8 = .int .i64 (N.getD 0 : Nat) ∧ s10 = .bool N.isSome ∧ s9 = .int .i64 (M.getD 0 : Nat) ∧ s11 = .bool M.isSome ∧ Rd wr wr.heap.size 1 a1 n (P.map nI) ∧ Below w.heap.size w wr)
      case atStart => exact ⟨0, none, none, by omega, rfl, ⟨rfl, rfl⟩, rfl, rfl, rfl, rfl, r1, b1'.out⟩
      case round =>
        clear r1
        obtain ⟨k, N, M, hkg, rfl, HNM, rfl, rfl, rfl, rfl, r1, hb⟩ := hrel
        by_cases hlt : k < n
        · obtain ⟨b, off, x, rfl, hbB, hx, e1⟩ := r1.at1 hlt
          unfold nI at e1
          have s1 := nextF_snoc f (P.take k) x
          have s2 := aheadF_snoc f (P.take k) x
          rw [← take_snoc hx, HNM.out.1] at s1
          rw [← take_snoc hx, HNM.out.2] at s2
          clear hx
          by_cases hxf : (x : Int) < f
          · have dx : decide ((x : Int) < f) = true := by simpa using hxf
            have dy : decide (f ≤ (x : Int)) = false := by simp; omega
            rw [if_neg (by omega)] at s1
            rw [if_pos hxf] at s2
            have S := hide (And.intro s1 s2)
            clear s1 s2 hxf
            go_wp2_with fail
            go_roundg (n - (k + 1))
            case measure => omega
            case rel => exact ⟨k + 1, N, some x, by omega, by go_num, ⟨by rw [S.out.1]; simp, S.out.2⟩, rfl, rfl, rfl, rfl, r1, hb⟩
          · have dx : decide ((x : Int) < f) = false := by simp; omega
            have dy : decide (f ≤ (x : Int)) = true := by simp; omega
            rw [if_pos (by omega)] at s1
            rw [if_neg hxf] at s2
            have S := hide (And.intro s1 s2)
            clear s1 s2 hxf
            cases N with
            | none =>
              go_wp2_with fail
              go_roundg (n - (k + 1))
              case measure => omega
              case rel => exact ⟨k + 1, some x, M, by omega, by go_num, ⟨by rw [S.out.1]; simp, S.out.2⟩, rfl, rfl, rfl, rfl, r1, hb⟩
            | some y =>
              go_wp2_with fail
              go_roundg (n - (k + 1))
              case measure => omega
              case rel => exact ⟨k + 1, some y, M, by omega, by go_num, ⟨by rw [S.out.1]; simp, S.out.2⟩, rfl, rfl, rfl, rfl, r1, hb⟩
        · obtain rfl : n = k := by omega
          have e := HNM.out
          rw [List.take_of_length_le (by rw [HL.out]; exact Nat.le_refl _)] at e
          have C2' := C2.out
          have C3' := C3.out
          rw [e.1] at C2'
          rw [e.2] at C3'
          have C2 := hide C2'
          have C3 := hide C3'
          clear C2' C3' e r1
          go_wp2_with (first
            | (go_at_call 16; go_must (refine (C2.out _).mono ?_; rintro e w2 ⟨rfl, b2⟩))
            | (go_at_call 17; go_must (refine (C3.out _).mono ?_; rintro e w3 ⟨rfl, b3⟩))
            | (go_at_call 8; go_must (refine (AW.out _).mono ?_; rintro e w8 ⟨rfl, b8⟩)))
          go_ret
          exact ⟨rfl, below_in (below_in (below_in hb b2 (Nat.le_refl _)) b3 (Nat.le_refl _)) b8 (Nat.le_refl _)⟩
    · have d1 : decide (400 < t.size) = false := by simpa using h1
      have d2 : decide (400 < (t.size : Int)) = false := by simp; omega
      go_enter Try.func7, Try.ntmps7
      go_wp2_with (go_at_call 8; go_must (refine (AW.out _).mono ?_; rintro e w8 ⟨rfl, b8⟩))
      all_goals first | (go_ret; exact ⟨rfl, b8⟩) | (exfalso; omega)
  · go_enter Try.func7, Try.ntmps7
    go_wp2_with (go_at_call 8; go_must (refine (AW.out _).mono ?_; rintro e w8 ⟨rfl, b8⟩))
    all_goals first | (go_ret; exact ⟨rfl, b8⟩) | (exfalso; omega)
end Go.Proofs.Ytglonmjacacjaaa
