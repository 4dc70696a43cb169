/-
  The walks of the decoder's functions. No condition but bounds.
-/
import Derived.Test.YthbjjhoajecpcaaMore
import Derived.Test.YthbjjhoajecpcaaPlain
import Derived.Test.YthbjjhoajecpcaaChecked
import Derived.Laws.Bits
import Derived.Laws.BitsAllLaws
namespace Go.Proofs.Ythbjjhoajecpcaa
open Go.RowKit Go.Proofs
set_option linter.unusedVariables false
/-- A scalar's cell. -/
def r32 (x : Int) : Value := .int .i32 x
theorem Try.sl50 : SliceOf Try.prog 50 21 1 4 := SliceOf.mk (z := .int .i32 0) (by kernel_rfl) (by kernel_rfl) (by kernel_rfl) (by omega)
theorem one_r32 (l : List Int) : ∀ u ∈ l.map r32, u.oneCell' = true := by
  intro u hu
  obtain ⟨x, _, rfl⟩ := List.mem_map.1 hu
  rfl
set_option maxHeartbeats 1000000 in
theorem size_any (c : Int) (w : World) (h0 : 0 ≤ c) (h1 : c ≤ 255) : Calls Try.prog 45 #[.int .u8 c] w fun e w' => e = .returned (.int .i64 (sizeF c)) ∧ w = w' := by
  by_cases a1 : c < 128
  · have HS := hide (show sizeF c = 1 by unfold sizeF; rw [if_pos a1])
    go_enter Try.func45, Try.ntmps45
    go_wp2
    go_ret
    exact ⟨ret_int (by rw [HS.out]; rfl), rfl⟩
  · by_cases a2 : c < 194
    · have HS := hide (show sizeF c = 0 by unfold sizeF; rw [if_neg a1, if_pos (.inl a2)])
      go_enter Try.func45, Try.ntmps45
      go_wp2
      go_ret
      exact ⟨ret_int (by rw [HS.out]; rfl), rfl⟩
    · by_cases a3 : 244 < c
      · have HS := hide (show sizeF c = 0 by unfold sizeF; rw [if_neg a1, if_pos (.inr a3)])
        go_enter Try.func45, Try.ntmps45
        go_wp2
        go_ret
        exact ⟨ret_int (by rw [HS.out]; rfl), rfl⟩
      · by_cases a4 : c < 224
        · have HS := hide (show sizeF c = 2 by unfold sizeF; rw [if_neg a1, if_neg (by omega), if_pos a4])
          go_enter Try.func45, Try.ntmps45
          go_wp2
          go_ret
          exact ⟨ret_int (by rw [HS.out]; rfl), rfl⟩
        · by_cases a5 : c < 240
          · have HS := hide (show sizeF c = 3 by unfold sizeF; rw [if_neg a1, if_neg (by omega), if_neg a4, if_pos a5])
            go_enter Try.func45, Try.ntmps45
            go_wp2
            go_ret
            exact ⟨ret_int (by rw [HS.out]; rfl), rfl⟩
          · have HS := hide (show sizeF c = 4 by unfold sizeF; rw [if_neg a1, if_neg (by omega), if_neg a4, if_neg a5])
            go_enter Try.func45, Try.ntmps45
            go_wp2
            go_ret
            exact ⟨ret_int (by rw [HS.out]; rfl), rfl⟩
theorem ret2_uu {a b c d : Int} (h : a = b) (h' : c = d) : Ending.returned (.tuple #[.int .u8 a, .int .u8 c]) = .returned (.tuple #[.int .u8 b, .int .u8 d]) := by rw [h, h']
set_option maxHeartbeats 1000000 in
theorem bounds_any (c : Int) (w : World) : Calls Try.prog 46 #[.int .u8 c] w fun e w' => e = .returned (.tuple #[.int .u8 (loF c), .int .u8 (hiF c)]) ∧ w = w' := by
  by_cases a1 : c = 224
  · subst a1
    go_enter Try.func46, Try.ntmps46
    go_wp2
    go_ret2
    exact ⟨rfl, rfl⟩
  · by_cases a2 : c = 237
    · subst a2
      go_enter Try.func46, Try.ntmps46
      go_wp2
      go_ret2
      exact ⟨rfl, rfl⟩
    · by_cases a3 : c = 240
      · subst a3
        go_enter Try.func46, Try.ntmps46
        go_wp2
        go_ret2
        exact ⟨rfl, rfl⟩
      · by_cases a4 : c = 244
        · subst a4
          go_enter Try.func46, Try.ntmps46
          go_wp2
          go_ret2
          exact ⟨rfl, rfl⟩
        · have HL := hide (show loF c = 128 by unfold loF; rw [if_neg a1, if_neg a3])
          have HH := hide (show hiF c = 191 by unfold hiF; rw [if_neg a2, if_neg a4])
          have b1 : (c == 224) = false := by simpa using a1
          have b2 : (c == 237) = false := by simpa using a2
          have b3 : (c == 240) = false := by simpa using a3
          have b4 : (c == 244) = false := by simpa using a4
          go_enter Try.func46, Try.ntmps46
          go_wp2
          go_ret2
          exact ⟨ret2_uu HL.out.symm HH.out.symm, rfl⟩
/-! ### the decoder in memory -/
/-- A parser's cells ahead of its decoder. -/
structure Pc where
  v0 : Value
  v1 : Value
  v2 : Value
  v3 : Value
  v4 : Value
  v5 : Value
  v6 : Value
  v7 : Value
  v8 : Value
def decC (p : Pc) (n need have_ lo hi : Int) : Array Value := #[p.v0, p.v1, p.v2, p.v3, p.v4, p.v5, p.v6, p.v7, p.v8, .int .i32 n, .int .i64 need, .int .i64 have_, .int .u8 lo, .int .u8 hi]
/-- What the decoder's fields are when bytes t wait. -/
def DecR : List Int → Int → Int → Int → Int → Int → Prop
  | [], n, need, have_, lo, hi => need = 0 ∧ have_ = 0
  | [a], n, need, have_, lo, hi => begB [a] = true ∧ n = headF a ∧ need = (sizeF a : Int) - 1 ∧ have_ = 1 ∧ lo = loF a ∧ hi = hiF a
  | t, n, need, have_, lo, hi => begB t = true ∧ n = numF t ∧ need = (sizeF (t.headD 0) : Int) - t.length ∧ have_ = t.length ∧ lo = 128 ∧ hi = 191
/-- The decoder at block g: bytes t wait. -/
def DecAt (w : World) (g : Nat) (p : Pc) (t : List Int) : Prop := ∃ n need have_ lo hi, Blk w g 56 (decC p n need have_ lo hi) ∧ DecR t n need have_ lo hi
theorem blk5 {w : World} {g : Nat} {t : TypeId} {p : Pc} {n need have_ lo hi : Int} (h : Blk w g t (decC p n need have_ lo hi)) :
    w.cell? ⟨g, 9, none⟩ = some (.int .i32 n) ∧ w.cell? ⟨g, 10, none⟩ = some (.int .i64 need) ∧ w.cell? ⟨g, 11, none⟩ = some (.int .i64 have_) ∧ w.cell? ⟨g, 12, none⟩ = some (.int .u8 lo) ∧ w.cell? ⟨g, 13, none⟩ = some (.int .u8 hi) ∧
    w.frozen? ⟨g, 9, none⟩ = false ∧ w.frozen? ⟨g, 10, none⟩ = false ∧ w.frozen? ⟨g, 11, none⟩ = false ∧ w.frozen? ⟨g, 12, none⟩ = false ∧ w.frozen? ⟨g, 13, none⟩ = false :=
  ⟨h.cell 9, h.cell 10, h.cell 11, h.cell 12, h.cell 13, h.frozen 9, h.frozen 10, h.frozen 11, h.frozen 12, h.frozen 13⟩
/-- What a call of the decoder's leaves: scalars handed back, in a block of the call's own; bytes t wait. -/
def DecPost (g : Nat) (p : Pc) (l t : List Int) (w : World) (e : Ending) (w' : World) : Prop :=
  ∃ A c, e = .returned (.slice A l.length c) ∧ w'.ownsRow w.heap.size 21 1 (.slice A l.length c) l.length (l.map r32) ∧ DecAt w' g p t ∧ Frm (fun k => k = g) w w'
/-- One element in a new block. -/
theorem own_new1 (w : World) (x : Int) : (w.alloc (.cells #[.int .i32 x] 21)).ownsRow w.heap.size 21 1 (.slice (some ⟨w.heap.size, 0, none⟩) 1 1) 1 [r32 x] :=
  ⟨rfl, .inr ⟨w.heap.size, 1, #[.int .i32 x], rfl, Nat.le_refl _, Blk.new _ _ _, Nat.le_refl _, by simp [maxLen], rfl, rfl⟩⟩
theorem own_new1' {w0 w : World} (hs : w.heap.size = w0.heap.size) (x : Int) : (w.alloc (.cells #[.int .i32 x] 21)).ownsRow w0.heap.size 21 1 (.slice (some ⟨w0.heap.size, 0, none⟩) 1 1) 1 [r32 x] := by
  rw [← hs]
  exact own_new1 w x
theorem own_set {w : World} {base s n : Nat} {e t : TypeId} {v : Value} {xs : List Value} {g : Nat} {cs : Array Value} (h : w.ownsRow base e s v n xs) (hg : Blk w g t cs) (hne : e ≠ t) (i : Nat) (u : Value) : (w.setCell ⟨g, i, none⟩ u).ownsRow base e s v n xs :=
  own_far (p := ⟨g, i, none⟩) h (own_ne h hg hne) u
theorem size_cases {c : Int} (h0 : 0 ≤ c) (a0 : ¬ sizeF c = 0) (a1 : ¬ sizeF c = 1) : (sizeF c = 2 ∧ 194 ≤ c ∧ c < 224) ∨ (sizeF c = 3 ∧ 224 ≤ c ∧ c < 240) ∨ (sizeF c = 4 ∧ 240 ≤ c ∧ c ≤ 244) := by
  unfold sizeF at a0 a1 ⊢
  by_cases b1 : c < 128
  · rw [if_pos b1] at a1; omega
  · rw [if_neg b1] at a0 a1 ⊢
    by_cases b2 : c < 194 ∨ 244 < c
    · rw [if_pos b2] at a0; omega
    · rw [if_neg b2] at a0 a1 ⊢
      by_cases b3 : c < 224
      · rw [if_pos b3]; exact .inl ⟨rfl, by omega, b3⟩
      · rw [if_neg b3] at a0 a1 ⊢
        by_cases b4 : c < 240
        · rw [if_pos b4]; exact .inr (.inl ⟨rfl, by omega, b4⟩)
        · rw [if_neg b4]; exact .inr (.inr ⟨rfl, by omega, by omega⟩)
theorem and5 {c : Int} (h0 : 0 ≤ c) (h1 : c < 2147483648) : bits .and .i32 c 31 = c % 32 := bits_mask .i32 31 (by decide) wraps_i32 5 (by decide) c h0 h1
theorem and4 {c : Int} (h0 : 0 ≤ c) (h1 : c < 2147483648) : bits .and .i32 c 15 = c % 16 := bits_mask .i32 31 (by decide) wraps_i32 4 (by decide) c h0 h1
theorem and3 {c : Int} (h0 : 0 ≤ c) (h1 : c < 2147483648) : bits .and .i32 c 7 = c % 8 := bits_mask .i32 31 (by decide) wraps_i32 3 (by decide) c h0 h1
theorem five_frm (w : World) (g : Nat) (a b c d e : Value) : Frm (fun k => k = g) w (((((w.setCell ⟨g, 9, none⟩ a).setCell ⟨g, 10, none⟩ b).setCell ⟨g, 11, none⟩ c).setCell ⟨g, 12, none⟩ d).setCell ⟨g, 13, none⟩ e) :=
  (((((Frm.refl (fun k => k = g) w).setCell (p := ⟨g, 9, none⟩) (fun _ => rfl) a).setCell (p := ⟨g, 10, none⟩) (fun _ => rfl) b).setCell (p := ⟨g, 11, none⟩) (fun _ => rfl) c).setCell (p := ⟨g, 12, none⟩) (fun _ => rfl) d).setCell (p := ⟨g, 13, none⟩) (fun _ => rfl) e
theorem dec_first {c : Int} (h : 2 ≤ sizeF c) : DecR [c] (headF c) ((sizeF c : Int) - 1) 1 (loF c) (hiF c) := ⟨by simp [begB, h], rfl, rfl, rfl, rfl, rfl⟩
set_option maxHeartbeats 2000000 in
theorem begin_any (g : Nat) (p : Pc) (n lo hi c : Int) (w : World) (h0 : 0 ≤ c) (h1 : c ≤ 255) (h : Blk w g 56 (decC p n 0 0 lo hi)) : Calls Try.prog 34 #[.pointer (some ⟨g, 9, none⟩), .int .u8 c] w (DecPost g p (firstF c).1 (firstF c).2 w) := by
  obtain ⟨c0, c1, c2, c3, c4, f0, f1, f2, f3, f4⟩ := blk5 h
  have SZ := hide (size_any c w h0 h1)
  have hs := sizeF_le c
  have HB := hide h
  have hw : IntKind.i32.wrap c = c := IntWalk.i32_in _ ⟨by omega, by omega⟩
  by_cases a0 : sizeF c = 0
  · have SZ := SZ.out
    rw [a0] at SZ
    have SZ := hide SZ
    have HF := hide (show firstF c = ([65533], []) by unfold firstF; rw [if_neg (by omega), if_neg (by omega)])
    clear a0 hs h
    go_enter Try.func34, Try.ntmps34
    go_wp2_with (go_at_call 45; go_must (refine SZ.out.mono ?_; rintro e w1 ⟨rfl, rfl⟩))
    go_ret
    rw [HF.out]
    exact ⟨_, _, rfl, own_new1 w 65533, ⟨_, _, _, _, _, HB.out.alloc _, rfl, rfl⟩, (Frm.refl _ _).alloc _⟩
  · by_cases a1 : sizeF c = 1
    · have SZ := SZ.out
      rw [a1] at SZ
      have SZ := hide SZ
      have HF := hide (show firstF c = ([c], []) by unfold firstF; rw [if_pos a1])
      clear a0 a1 hs h
      go_enter Try.func34, Try.ntmps34
      go_wp2_with (go_at_call 45; go_must (refine SZ.out.mono ?_; rintro e w1 ⟨rfl, rfl⟩))
      go_ret
      rw [HF.out]
      exact ⟨_, _, rfl, own_new1 w c, ⟨_, _, _, _, _, HB.out.alloc _, rfl, rfl⟩, (Frm.refl _ _).alloc _⟩
    · have HF := hide (show firstF c = ([], [c]) by unfold firstF; rw [if_neg a1, if_pos (by omega)])
      have BO := hide (fun (W : World) => bounds_any c W)
      have HD := dec_first (c := c) (by omega)
      have hcs := size_cases h0 a0 a1
      rcases hcs with ⟨e, l1, l2⟩ | ⟨e, l1, l2⟩ | ⟨e, l1, l2⟩
      · have SZ := SZ.out
        rw [e] at SZ HD
        have SZ := hide SZ
        have HD := hide HD
        have hm := and5 (c := c) (by omega) (by omega)
        have hd : c % 32 = headF c := by unfold headF; rw [if_pos e]; omega
        obtain ⟨hh, hhd⟩ : ∃ hh, c % 32 = hh := ⟨_, rfl⟩
        rw [hhd] at hm hd
        have HM := hide hd
        clear a0 a1 hs h hhd hd e
        go_enter Try.func34, Try.ntmps34
        go_wp2_with (first | (go_at_call 45; go_must (refine SZ.out.mono ?_; rintro e w1 ⟨rfl, rfl⟩)) | (go_at_call 46; go_must (refine (BO.out _).mono ?_; rintro e w1 ⟨rfl, rfl⟩)))
        go_ret
        rw [HF.out]
        exact ⟨none, 0, rfl, World.ownsRow_nil _ _ _ _, ⟨_, _, _, _, _, (((((HB.out.set_ 9 (.int .i32 hh)).set_ 10 (.int .i64 1)).set_ 11 (.int .i64 1)).set_ 12 (.int .u8 (loF c))).set_ 13 (.int .u8 (hiF c))), by rw [HM.out]; exact HD.out⟩, five_frm _ _ _ _ _ _ _⟩
      · have SZ := SZ.out
        rw [e] at SZ HD
        have SZ := hide SZ
        have HD := hide HD
        have hm := and4 (c := c) (by omega) (by omega)
        have hd : c % 16 = headF c := by unfold headF; rw [if_neg (by omega), if_pos e]; omega
        obtain ⟨hh, hhd⟩ : ∃ hh, c % 16 = hh := ⟨_, rfl⟩
        rw [hhd] at hm hd
        have HM := hide hd
        clear a0 a1 hs h hhd hd e
        go_enter Try.func34, Try.ntmps34
        go_wp2_with (first | (go_at_call 45; go_must (refine SZ.out.mono ?_; rintro e w1 ⟨rfl, rfl⟩)) | (go_at_call 46; go_must (refine (BO.out _).mono ?_; rintro e w1 ⟨rfl, rfl⟩)))
        go_ret
        rw [HF.out]
        exact ⟨none, 0, rfl, World.ownsRow_nil _ _ _ _, ⟨_, _, _, _, _, (((((HB.out.set_ 9 (.int .i32 hh)).set_ 10 (.int .i64 2)).set_ 11 (.int .i64 1)).set_ 12 (.int .u8 (loF c))).set_ 13 (.int .u8 (hiF c))), by rw [HM.out]; exact HD.out⟩, five_frm _ _ _ _ _ _ _⟩
      · have SZ := SZ.out
        rw [e] at SZ HD
        have SZ := hide SZ
        have HD := hide HD
        have hm := and3 (c := c) (by omega) (by omega)
        have hd : c % 8 = headF c := by unfold headF; rw [if_neg (by omega), if_neg (by omega), if_pos e]; omega
        obtain ⟨hh, hhd⟩ : ∃ hh, c % 8 = hh := ⟨_, rfl⟩
        rw [hhd] at hm hd
        have HM := hide hd
        clear a0 a1 hs h hhd hd e
        go_enter Try.func34, Try.ntmps34
        go_wp2_with (first | (go_at_call 45; go_must (refine SZ.out.mono ?_; rintro e w1 ⟨rfl, rfl⟩)) | (go_at_call 46; go_must (refine (BO.out _).mono ?_; rintro e w1 ⟨rfl, rfl⟩)))
        go_ret
        rw [HF.out]
        exact ⟨none, 0, rfl, World.ownsRow_nil _ _ _ _, ⟨_, _, _, _, _, (((((HB.out.set_ 9 (.int .i32 hh)).set_ 10 (.int .i64 3)).set_ 11 (.int .i64 1)).set_ 12 (.int .u8 (loF c))).set_ 13 (.int .u8 (hiF c))), by rw [HM.out]; exact HD.out⟩, five_frm _ _ _ _ _ _ _⟩
end Go.Proofs.Ythbjjhoajecpcaa
