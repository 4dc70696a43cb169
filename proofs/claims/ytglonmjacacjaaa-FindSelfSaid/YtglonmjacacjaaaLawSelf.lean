/-
  FindSelf, walked. No condition but that the strings' lengths are lengths.
-/
import Derived.Test.YtglonmjacacjaaaLawLonger
namespace Go.Proofs.Ytglonmjacacjaaa
open Go.RowKit Go.Proofs
set_option linter.unusedVariables false
/-- A small letter as a great one. -/
def upF (x : Int) : Int := if 97 ≤ x ∧ x ≤ 122 then x - 32 else x
theorem up_small {x : Int} (h0 : 0 ≤ x) (h1 : x ≤ 255) : smallF (upF x) = smallF x ∧ 0 ≤ upF x ∧ upF x ≤ 255 := by
  unfold smallF upF
  split <;> split <;> (try split) <;> omega
theorem small_up (s : ByteArray) : bytesOf smallF (strOfNums (bytesOf upF s)) = bytesOf smallF s := by
  simp only [bytesOf, ByteArray.toList_eq, strOfNums_data, List.map_map]
  apply List.map_congr_left
  intro b _
  have hb := b.toNat_lt
  have := up_small (x := (b.toNat : Int)) (by omega) (by omega)
  simp only [Function.comp]
  rw [UInt8.toNat_ofNat', Nat.mod_eq_of_lt (by omega)]
  rw [show (((upF (b.toNat : Int)).toNat : Nat) : Int) = upF (b.toNat : Int) by omega]
  exact this.1
theorem Try.sl29 : SliceOf Try.prog 29 5 1 1 := SliceOf.mk (z := .int .u8 0) (by kernel_rfl) (by kernel_rfl) (by kernel_rfl) (by omega)
theorem one_b8 (x : Int) : ∀ u ∈ #[Value.int .u8 x].toList, u.oneCell' = true := by intro u hu; simp at hu; subst hu; rfl
set_option maxHeartbeats 4000000 in
theorem findSelf_walk (w : World) (h : ByteArray) (hh : h.size ≤ maxLen) (s : ByteArray) (hs : s.size ≤ maxLen) (t : ByteArray) (ht : t.size ≤ maxLen) :
    Calls Try.prog 5 #[.string h, .string s, .string t] w fun e w' => e = .returned (.bool true) ∧ Below w.heap.size w w' := by
  unfold maxLen at hh ht hs
  have AW := hide awake_any
  by_cases h0 : h.size ≤ 100
  · by_cases h1 : t.size ≤ 100
    · by_cases h2 : s.size ≤ 100
      · by_cases h3 : s.size = 0
        · have hse : s.toList.isEmpty = true := by
            have := bytesOf_len plainF s; rw [bytesOf, List.length_map, h3] at this
            rw [List.eq_nil_of_length_eq_zero this]; rfl
          have d1 : decide (100 < h.size) = false := by simpa using h0
          have d2 : decide (100 < t.size) = false := by simpa using h1
          have d3 : decide (100 < s.size) = false := by simpa using h2
          go_enter Try.func5, Try.ntmps5
          go_wp2_with (go_at_call 8; go_must (refine (AW.out _).mono ?_; rintro e w8 ⟨rfl, b8⟩))
          all_goals first | (go_ret; exact ⟨rfl, below_in ((Below.refl _ _).alloc (Nat.le_refl _) _) b8 (Nat.le_refl _)⟩) | (exfalso; omega)
        · obtain ⟨n, hn⟩ : ∃ n, s.size = n := ⟨_, rfl⟩
          have hse : s.toList.isEmpty = false := by
            cases h : s.toList with
            | nil => have := bytesOf_len plainF s; rw [bytesOf, h] at this; simp at this; omega
            | cons _ _ => rfl
          have hue : (bytesOf upF s).length = n := by rw [bytesOf_len, hn]
          obtain ⟨P, hP⟩ : ∃ P, placesF (bytesOf plainF (h ++ s ++ t)) (bytesOf plainF s) = P := ⟨_, rfl⟩
          obtain ⟨S, hS⟩ : ∃ S, placesF (bytesOf smallF (h ++ strOfNums (bytesOf upF s) ++ t)) (bytesOf smallF s) = S := ⟨_, rfl⟩
          have mP : h.size ∈ P := by
            have := self_mem (H := bytesOf plainF h) (N := bytesOf plainF s) (bytesOf plainF t) (by rw [bytesOf_len]; exact h3)
            rw [← bytesOf_append, ← bytesOf_append, hP, bytesOf_len] at this; exact this
          have mS : h.size ∈ S := by
            have := self_mem (H := bytesOf smallF h) (N := bytesOf smallF s) (bytesOf smallF t) (by rw [bytesOf_len]; exact h3)
            have e : bytesOf smallF (h ++ strOfNums (bytesOf upF s) ++ t) = bytesOf smallF h ++ bytesOf smallF s ++ bytesOf smallF t := by rw [bytesOf_append, bytesOf_append, small_up]
            rw [← e, hS, bytesOf_len] at this; exact this
          have z1 : (h ++ s ++ t).size = h.size + s.size + t.size := by rw [ByteArray.size_append, ByteArray.size_append]
          have z2 : (h ++ strOfNums (bytesOf upF s) ++ t).size = h.size + n + t.size := by rw [ByteArray.size_append, ByteArray.size_append, strOfNums_size, hue]
          have lP := placesF_len (bytesOf plainF (h ++ s ++ t)) (bytesOf plainF s)
          have lS := placesF_len (bytesOf smallF (h ++ strOfNums (bytesOf upF s) ++ t)) (bytesOf smallF s)
          rw [hP, bytesOf_len, z1] at lP
          rw [hS, bytesOf_len, z2] at lS
          have C1 := hide (fun W => (call12 (h ++ s ++ t) s W (by omega) (by omega)).mono fun _ _ q => by rw [hP] at q; exact q.rd)
          have C2 := hide (fun W => (call14 (h ++ strOfNums (bytesOf upF s) ++ t) s W (by omega) (by omega)).mono fun _ _ q => by rw [hS] at q; exact q.rd)
          have HP := hide (fun (A : Option Addr) (c : Nat) (W : World) (r : Rd W W.heap.size 1 A P.length (P.map nI)) (k : Blk W w.heap.size 9 #[.string h]) => has_any P w.heap.size h A c W r k (by omega) mP)
          have HS := hide (fun (A : Option Addr) (c : Nat) (W : World) (r : Rd W W.heap.size 1 A S.length (S.map nI)) (k : Blk W w.heap.size 9 #[.string h]) => has_any S w.heap.size h A c W r k (by omega) mS)
          have HU := hide hue
          have mf := hmf
          clear hP hS mP mS z1 z2 lP lS hue
          have d1 : decide (100 < h.size) = false := by simpa using h0
          have d2 : decide (100 < t.size) = false := by simpa using h1
          have d3 : decide (100 < n) = false := by simpa [hn] using h2
          have d4 : decide (100 < (h.size : Int)) = false := by simp; omega
          go_enter Try.func5, Try.ntmps5
          go_wp2_with fail
          have k0 := Blk.new w 9 #[.string h]
          have z0 : (w.alloc (.cells #[.string h] 9)).heap.size = w.heap.size + 1 := by simp
          have B0 : Below w.heap.size w (w.alloc (.cells #[.string h] 9)) := (Below.refl _ _).alloc (Nat.le_refl _) _
          have k0' := hide k0
          have B0' := hide B0
          clear k0 B0
          go_loopg [7, 8] n (fun g s7 s8 wr => ∃ k : Nat, k + g = n ∧ s8 = .int .i64 k ∧ wr.ownsRow (w.heap.size + 1) 5 1 s7 ((bytesOf upF s).take k).length (((bytesOf upF s).take k).map b8) ∧ Blk wr w.heap.size 9 #[.string h] ∧ w.heap.size + 1 ≤ wr.heap.size ∧ Below w.heap.size w wr)
          case atStart => exact ⟨0, by omega, rfl, World.ownsRow_nil _ _ _ _, k0'.out, by omega, B0'.out⟩
          case round =>
            obtain ⟨k, hkg, rfl, hown, hk, hz, hb⟩ := hrel
            obtain ⟨A, c, rfl⟩ := own_slice hown
            by_cases hlt : k < n
            · have hks : k < s.size := by omega
              have ex := bytesOf_at upF s (i := k) hks
              have hl : ((bytesOf upF s).take k).length = k := by rw [List.length_take, HU.out]; omega
              have tk := take_snoc ex
              have bx := byte_bounds s (i := k) hks
              rw [hl] at hown ⊢
              obtain ⟨x, hx⟩ : ∃ x : Int, x = ((s[k]'hks).toNat : Int) := ⟨_, rfl⟩
              have Hx := hide hx
              rw [← hx] at bx tk
              have Tk := hide tk
              have Hl := hide hl
              have bx := hide bx
              clear ex tk hl hx
              go_upto_region 8 with (fail)
              rw [← Hx.out]
              have bx := bx.out
              rcases (show (97 ≤ x ∧ x ≤ 122) ∨ (x < 97) ∨ (97 ≤ x ∧ 122 < x) by omega) with hx | hx | hx
              · have a1 : 97 ≤ x := hx.1
                have a2 : x ≤ 122 := hx.2
                have Sx := hide (show upF x = x - 32 by unfold upF; rw [if_pos hx])
                clear hx
                go_wp2_with (at_builtin; go_must (refine wpList_append1 Try.sl29 rfl _ _ rfl (w.heap.size + 1) (.slice A k c) k (((bytesOf upF s).take k).map b8) #[.int .u8 (x - 32)] wr 1 rfl rfl rfl hown rfl (one_b8 _) (by simp only [maxLen]; omega) (by omega) hz ?_; intro A1 c2 w2 app; have k2 := app.blk (hk.alloc _) (hown.alloc _) (by decide); have hB2 : Below (w.heap.size + 1) wr w2 := app.below (hown.alloc _) ((Below.refl _ _).alloc hz _) (Nat.le_refl _) (by simp; omega)))
                go_roundg (n - (k + 1))
                case measure => omega
                case rel =>
                  refine ⟨k + 1, by omega, by go_num, ?_, k2, by have := hB2.size; omega, hb.trans (hB2.mono (by omega))⟩
                  rw [Tk.out, List.length_append, List.map_append, Hl.out]
                  have := app.own
                  rw [← Sx.out] at this
                  exact this
              · have a1 : decide (97 ≤ x) = false := by simp; omega
                have Sx := hide (show upF x = x by unfold upF; rw [if_neg (by omega)])
                clear hx
                go_wp2_with (at_builtin; go_must (refine wpList_append1 Try.sl29 rfl _ _ rfl (w.heap.size + 1) (.slice A k c) k (((bytesOf upF s).take k).map b8) #[.int .u8 x] wr 1 rfl rfl rfl hown rfl (one_b8 _) (by simp only [maxLen]; omega) (by omega) hz ?_; intro A1 c2 w2 app; have k2 := app.blk (hk.alloc _) (hown.alloc _) (by decide); have hB2 : Below (w.heap.size + 1) wr w2 := app.below (hown.alloc _) ((Below.refl _ _).alloc hz _) (Nat.le_refl _) (by simp; omega)))
                go_roundg (n - (k + 1))
                case measure => omega
                case rel =>
                  refine ⟨k + 1, by omega, by go_num, ?_, k2, by have := hB2.size; omega, hb.trans (hB2.mono (by omega))⟩
                  rw [Tk.out, List.length_append, List.map_append, Hl.out]
                  have := app.own
                  rw [← Sx.out] at this
                  exact this
              · have a1 : 97 ≤ x := hx.1
                have a2 : decide (x ≤ 122) = false := by simp; omega
                have Sx := hide (show upF x = x by unfold upF; rw [if_neg (by omega)])
                clear hx
                go_wp2_with (at_builtin; go_must (refine wpList_append1 Try.sl29 rfl _ _ rfl (w.heap.size + 1) (.slice A k c) k (((bytesOf upF s).take k).map b8) #[.int .u8 x] wr 1 rfl rfl rfl hown rfl (one_b8 _) (by simp only [maxLen]; omega) (by omega) hz ?_; intro A1 c2 w2 app; have k2 := app.blk (hk.alloc _) (hown.alloc _) (by decide); have hB2 : Below (w.heap.size + 1) wr w2 := app.below (hown.alloc _) ((Below.refl _ _).alloc hz _) (Nat.le_refl _) (by simp; omega)))
                go_roundg (n - (k + 1))
                case measure => omega
                case rel =>
                  refine ⟨k + 1, by omega, by go_num, ?_, k2, by have := hB2.size; omega, hb.trans (hB2.mono (by omega))⟩
                  rw [Tk.out, List.length_append, List.map_append, Hl.out]
                  have := app.own
                  rw [← Sx.out] at this
                  exact this
            · obtain rfl : n = k := by omega
              have hl : ((bytesOf upF s).take n) = bytesOf upF s := List.take_of_length_le (by rw [HU.out]; exact Nat.le_refl _)
              rw [hl, HU.out] at hown
              rw [hl, HU.out]
              have zu : (strOfNums (bytesOf upF s)).size = n := by rw [strOfNums_size, HU.out]
              have hrd := Rd.of_own hown
              have Hb := hide hb
              clear hl hb hz hown
              have e0 := hk.cell 0
              simp only [List.getElem?_toArray, List.getElem?_cons_zero] at e0
              go_wp2_with (first
                | (go_at_call 12; go_must (refine (C1.out _).mono ?_; rintro e w2 ⟨a2, c2, rfl, r2, _, b2⟩; have k2 := hk.below b2 hk.lt; have q2 := hrd.below b2))
                | (go_at_call_of 13 a4; go_must (refine (HS.out _ _ _ r4 k4).mono ?_; rintro e w5 ⟨rfl, b5⟩))
                | (go_at_call_of 13 a2; go_must (refine (HP.out _ _ _ r2 k2).mono ?_; rintro e w3 ⟨rfl, b3⟩; have k3 := k2.below b3 k2.lt; have e3 := k3.cell 0; simp only [List.getElem?_toArray, List.getElem?_cons_zero] at e3; have cv := run_bytes_str (c := c) 29 9 5 Try.underlying29 Try.underlying5 Try.underlying9 ((q2.more b2.size).below b3)))
                | (go_at_call 14; go_must (refine (C2.out _).mono ?_; rintro e w4 ⟨a4, c4, rfl, r4, _, b4⟩; have k4 := k3.below b4 k3.lt))
                | (go_at_call 8; go_must (refine (AW.out _).mono ?_; rintro e w8 ⟨rfl, b8⟩)))
              go_ret
              exact ⟨rfl, below_in (below_in (below_in (below_in (below_in Hb.out b2 (Nat.le_refl _)) b3 (Nat.le_refl _)) b4 (Nat.le_refl _)) b5 (Nat.le_refl _)) b8 (Nat.le_refl _)⟩
      · have d1 : decide (100 < h.size) = false := by simpa using h0
        have d2 : decide (100 < t.size) = false := by simpa using h1
        go_enter Try.func5, Try.ntmps5
        go_wp2_with (go_at_call 8; go_must (refine (AW.out _).mono ?_; rintro e w8 ⟨rfl, b8⟩))
        all_goals first | (go_ret; exact ⟨rfl, below_in ((Below.refl _ _).alloc (Nat.le_refl _) _) b8 (Nat.le_refl _)⟩) | (exfalso; omega)
    · have d1 : decide (100 < h.size) = false := by simpa using h0
      go_enter Try.func5, Try.ntmps5
      go_wp2_with (go_at_call 8; go_must (refine (AW.out _).mono ?_; rintro e w8 ⟨rfl, b8⟩))
      all_goals first | (go_ret; exact ⟨rfl, below_in ((Below.refl _ _).alloc (Nat.le_refl _) _) b8 (Nat.le_refl _)⟩) | (exfalso; omega)
  · go_enter Try.func5, Try.ntmps5
    go_wp2_with (go_at_call 8; go_must (refine (AW.out _).mono ?_; rintro e w8 ⟨rfl, b8⟩))
    all_goals first | (go_ret; exact ⟨rfl, below_in ((Below.refl _ _).alloc (Nat.le_refl _) _) b8 (Nat.le_refl _)⟩) | (exfalso; omega)
end Go.Proofs.Ytglonmjacacjaaa
