/-
  FindApart, walked. No condition but that the strings' lengths are lengths.
-/
import Derived.Test.YtglonmjacacjaaaLawAll
namespace Go.Proofs.Ytglonmjacacjaaa
open Go.RowKit Go.Proofs
set_option linter.unusedVariables false
theorem endF_le {n : Nat} {l : List Nat} (h : ∀ x ∈ l, x ≤ 400) : endF n l ≤ n + 400 := by
  unfold endF
  split
  · omega
  · rw [List.getLastD_eq_getLast?]
    cases h0 : l.getLast? with
    | none => simp
    | some a => have := h a (List.mem_of_getLast? h0); simp; omega
theorem apF_sub (n : Nat) (l : List Nat) : ∀ x ∈ apF n l, x ∈ l := by
  suffices h : ∀ out, ∀ x ∈ l.foldl (apStep n) out, x ∈ out ∨ x ∈ l by
    intro x hx
    rcases h [] x hx with h | h
    · simp at h
    · exact h
  induction l with
  | nil => intro out x hx; exact .inl hx
  | cons p l ih =>
    intro out x hx
    rw [List.foldl_cons] at hx
    rcases ih _ x hx with h | h
    · unfold apStep at h
      split at h
      · rcases List.mem_append.1 h with h | h
        · exact .inl h
        · rw [List.mem_singleton] at h; exact .inr (by simp [h])
      · exact .inl h
    · exact .inr (by simp [h])
set_option maxHeartbeats 4000000 in
theorem findApart_walk (w : World) (t : ByteArray) (ht : t.size ≤ maxLen) (s : ByteArray) (hs : s.size ≤ maxLen) :
    Calls Try.prog 3 #[.string t, .string s] w fun e w' => e = .returned (.bool true) ∧ Below w.heap.size w w' := by
  unfold maxLen at ht hs
  have AW := hide awake_any
  by_cases h1 : t.size ≤ 400
  · by_cases h2 : s.size ≤ 100
    · obtain ⟨P, hP⟩ : ∃ P, placesF (bytesOf plainF t) (bytesOf plainF s) = P := ⟨_, rfl⟩
      have lP := placesF_len (bytesOf plainF t) (bytesOf plainF s)
      have hm : ∀ x ∈ P, x ≤ 400 := fun x hx => by rw [← hP] at hx; have := placesF_lt hx; rw [bytesOf_len, bytesOf_len] at this; omega
      rw [hP, bytesOf_len] at lP
      obtain ⟨m, hm0⟩ : ∃ m, s.size = m := ⟨_, rfl⟩
      have C1 := hide (fun W => (ref20 t s _ _ W rfl rfl h1 (by omega)).mono fun _ _ h => by rw [hP] at h; exact h.rd)
      have C2 := hide (fun W => (apart_any t s W h1 (by omega)).mono fun e w' h => show RetRd nI (apF m P) W e w' by rw [hP, hm0] at h; exact h.rd)
      have lA := apF_len m P
      have IA := hide (fun (A A' : Option Addr) (c c' : Nat) (W : World) (h : Rd W W.heap.size 1 A (apF m P).length ((apF m P).map nI)) (h' : Rd W W.heap.size 1 A' (apF m P).length ((apF m P).map nI)) => ints_same (apF m P) A A' c c' W h h' (by omega))
      have Hm := hide hm
      clear hP hm
      obtain ⟨n, hn⟩ : ∃ n, P.length = n := ⟨_, rfl⟩
      have HL := hide hn
      rw [hn] at lP
      have d1 : decide (400 < t.size) = false := by simpa using h1
      rw [hm0] at h2
      have d2 : decide (100 < m) = false := by simpa using h2
      go_enter Try.func3, Try.ntmps3
      go_wp2_with (go_at_call 9; go_must (refine (C1.out _).mono ?_; rintro e w1 ⟨a1, c1, rfl, r1, _, b1⟩; rw [hn] at r1; rw [hn]))
      clear hn lA
      have b1' := hide b1
      clear b1
      go_loopg [6, 7, 8] n (fun g s6 s7 s8 wr => ∃ (k N : Nat) (out : List Nat), k + g = n ∧ s8 = .int .i64 k ∧ Hid (apF m (P.take k) = out ∧ endF m out = N) ∧ s7 = .int .i64 N ∧ Rd wr w1.heap.size 1 a1 n (P.map nI) ∧ wr.ownsRow w1.heap.size 3 1 s6 out.length (out.map nI) ∧ Below w1.heap.size w1 wr)
      case atStart => exact ⟨0, 0, [], by omega, rfl, ⟨rfl, rfl⟩, rfl, r1, World.ownsRow_nil _ _ _ _, Below.refl _ _⟩
      case round =>
        clear r1
        obtain ⟨k, N, out, hkg, rfl, HO, rfl, r1, hown, hb⟩ := hrel
        by_cases hlt : k < n
        · obtain ⟨b, off, x, rfl, hbB, hx, e1⟩ := r1.at1 hlt
          unfold nI at e1
          have hx4 := Hm.out x (List.mem_of_getElem? hx)
          have hN4 : N ≤ m + 400 := by
            rw [← HO.out.2]
            exact endF_le fun y hy => Hm.out y (List.mem_of_mem_take (apF_sub m _ y (by rw [HO.out.1]; exact hy)))
          have hol : out.length ≤ 401 := by
            have := apF_len m (P.take k)
            rw [HO.out.1, List.length_take] at this
            omega
          have s1 := apF_snoc m (P.take k) x
          rw [← take_snoc hx, HO.out.1, apStep_end, HO.out.2] at s1
          have hbz := hb.size
          obtain ⟨A, c, rfl⟩ := own_slice hown
          clear hx
          by_cases hxe : N ≤ x
          · rw [if_pos hxe] at s1
            have s1 := hide s1
            go_wp2_with (at_builtin; go_must (refine wpList_append1 Try.sl23 rfl _ _ rfl w1.heap.size (.slice A out.length c) out.length (out.map nI) #[.int .i64 x] wr 1 rfl rfl rfl hown rfl (one_nI x) (by simp only [maxLen]; omega) (by omega) hbz ?_; intro A1 c2 w2 app; have hB2 : Below w1.heap.size wr w2 := app.below (hown.alloc _) ((Below.refl _ _).alloc hbz _) (Nat.le_refl _) (by simp; omega); have r2 := r1.below hB2; have e2 := (hB2.cell (p := ⟨b, off + k, none⟩) hbB).trans e1))
            go_roundg (n - (k + 1))
            case measure => omega
            case rel =>
              refine ⟨k + 1, m + x, out ++ [x], by omega, by go_num, ⟨s1.out, endF_snoc _ _ _⟩, by go_num, r2, ?_, hb.trans hB2⟩
              rw [List.length_append, List.map_append]
              exact app.own
          · rw [if_neg hxe] at s1
            have s1 := hide s1
            have dx : decide ((N : Int) ≤ x) = false := by simp; omega
            go_wp2_with fail
            go_roundg (n - (k + 1))
            case measure => omega
            case rel => exact ⟨k + 1, N, out, by omega, by go_num, ⟨s1.out, HO.out.2⟩, rfl, r1, hown, hb⟩
        · obtain rfl : n = k := by omega
          have e := HO.out.1
          rw [List.take_of_length_le (by rw [HL.out]; exact Nat.le_refl _)] at e
          subst e
          obtain ⟨A, c, rfl⟩ := own_slice hown
          have hrd := Rd.of_own hown
          have B0 := hide (below_in b1'.out hb (Nat.le_refl _))
          clear r1 hb
          go_wp2_with (first
            | (go_at_call 11; go_must (refine (C2.out _).mono ?_; rintro e w2 ⟨a2, c2, rfl, r2, _, b2⟩; have r3 := rd_call hrd b2))
            | (go_at_call 10; go_must (refine (IA.out _ _ _ _ _ r2 r3).mono ?_; rintro e w3 ⟨rfl, b3⟩))
            | (go_at_call 8; go_must (refine (AW.out _).mono ?_; rintro e w8 ⟨rfl, b8⟩)))
          go_ret
          exact ⟨rfl, below_in (below_in (below_in B0.out b2 (Nat.le_refl _)) b3 (Nat.le_refl _)) b8 (Nat.le_refl _)⟩
    · have d1 : decide (400 < t.size) = false := by simpa using h1
      have d2 : decide (400 < (t.size : Int)) = false := by simp; omega
      go_enter Try.func3, Try.ntmps3
      go_wp2_with (go_at_call 8; go_must (refine (AW.out _).mono ?_; rintro e w8 ⟨rfl, b8⟩))
      all_goals first | (go_ret; exact ⟨rfl, b8⟩) | (exfalso; omega)
  · go_enter Try.func3, Try.ntmps3
    go_wp2_with (go_at_call 8; go_must (refine (AW.out _).mono ?_; rintro e w8 ⟨rfl, b8⟩))
    all_goals first | (go_ret; exact ⟨rfl, b8⟩) | (exfalso; omega)
end Go.Proofs.Ytglonmjacacjaaa
