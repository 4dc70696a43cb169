/-
  The document's Same, number, Scalar, walked. No condition but bounds.
-/
import Derived.Test.YthbjjhoajecpcaaStep
namespace Go.Proofs.Ythbjjhoajecpcaa
open Go.RowKit Go.Proofs
set_option linter.unusedVariables false
def scalarB (r : Int) : Bool := decide (0 ≤ r) && decide (r < 55296) || decide (57343 < r) && decide (r ≤ 1114111)
set_option maxHeartbeats 1000000 in
theorem scalar_any (r : Int) (w : World) : Calls Try.prog 68 #[.int .i32 r] w fun e w' => e = .returned (.bool (scalarB r)) ∧ w = w' := by
  have H1 := hide (show (0 ≤ r ∧ r < 55296) → scalarB r = true from fun h => by unfold scalarB; simp; omega)
  have H2 := hide (show (57343 < r ∧ r ≤ 1114111) → scalarB r = true from fun h => by unfold scalarB; simp; omega)
  have H3 := hide (show ¬ (0 ≤ r ∧ r < 55296) → ¬ (57343 < r ∧ r ≤ 1114111) → scalarB r = false from fun h h2 => by unfold scalarB; simp; omega)
  by_cases a1 : 0 ≤ r
  · by_cases a2 : r < 55296
    · go_enter Try.func68, Try.ntmps68
      go_wp2
      go_ret
      exact ⟨ret_bool (H1.out ⟨a1, a2⟩).symm, rfl⟩
    · by_cases a3 : 57343 < r
      · by_cases a4 : r ≤ 1114111
        · have d4 : decide (r ≤ 1114111) = true := by simpa using a4
          go_enter Try.func68, Try.ntmps68
          go_wp2
          go_ret
          exact ⟨ret_bool (H2.out ⟨a3, a4⟩).symm, rfl⟩
        · have d4 : decide (r ≤ 1114111) = false := by simpa using a4
          go_enter Try.func68, Try.ntmps68
          go_wp2
          go_ret
          exact ⟨ret_bool (H3.out (by omega) (by omega)).symm, rfl⟩
      · go_enter Try.func68, Try.ntmps68
        go_wp2
        go_ret
        exact ⟨ret_bool (H3.out (by omega) (by omega)).symm, rfl⟩
  · have a3 : ¬ 57343 < r := by omega
    go_enter Try.func68, Try.ntmps68
    go_wp2
    go_ret
    exact ⟨ret_bool (H3.out (by omega) (by omega)).symm, rfl⟩
def goNum : Int → List Int → Int
  | r, [] => r
  | r, b :: l => if b < 128 ∨ 191 < b then -1 else goNum (64 * r + b - 128) l
def lowF (n : Nat) : Int := if n = 2 then 192 else if n = 3 then 224 else 240
def capF (n : Nat) : Int := if n = 2 then 32 else if n = 3 then 16 else 8
def numberF : List Int → Int
  | [] => -1
  | [a] => a
  | a :: b :: l => if 4 < (a :: b :: l).length then -1 else if a - lowF (a :: b :: l).length < 0 ∨ capF (a :: b :: l).length ≤ a - lowF (a :: b :: l).length then -1 else goNum (a - lowF (a :: b :: l).length) (b :: l)
def IsByte (x : Int) : Prop := 0 ≤ x ∧ x ≤ 255
/-- The numbers that the loop may have come to. -/
def NumB (k : Nat) (r : Int) : Prop := 0 ≤ r ∧ (k = 1 → r < 32) ∧ (k = 2 → r < 2048) ∧ (k = 3 → r < 131072) ∧ r < 8388608
theorem numB_step {k : Nat} {r b : Int} (h : NumB k r) (h1 : 1 ≤ k) (h3 : k ≤ 3) (hb : 128 ≤ b ∧ b ≤ 191) : NumB (k + 1) (64 * r + b - 128) := by
  obtain ⟨a0, a1, a2, a3, a4⟩ := h
  have hk : k = 1 ∨ k = 2 ∨ k = 3 := by omega
  rcases hk with rfl | rfl | rfl
  · have := a1 rfl; refine ⟨by omega, fun h => by omega, fun h => by omega, fun h => by omega, by omega⟩
  · have := a2 rfl; refine ⟨by omega, fun h => by omega, fun h => by omega, fun h => by omega, by omega⟩
  · have := a3 rfl; refine ⟨by omega, fun h => by omega, fun h => by omega, fun h => by omega, by omega⟩
/-- A number handed back; memory of the call's own alone has come. -/
def RetI32 (x : Int) (w : World) (e : Ending) (w' : World) : Prop := e = .returned (.int .i32 x) ∧ Below w.heap.size w w'
set_option maxHeartbeats 2000000 in
theorem num_more (l : List Int) (a b : Int) (A : Option Addr) (n c B : Nat) (w : World) (hl : Rd w B 1 A n ((a :: b :: l).map b8)) (hB : B ≤ w.heap.size) (hq : ∀ x ∈ a :: b :: l, IsByte x) (hn : n = 2 ∨ n = 3 ∨ n = 4) :
    Calls Try.prog 51 #[.slice A n c] w (RetI32 (numberF (a :: b :: l)) w) := by
  have hlen := hl.len1
  obtain ⟨bl, off, x, rfl, hbB, ex, cx⟩ := hl.at1 (k := 0) (by omega)
  have e0 : x = a := by simpa using ex.symm
  subst e0
  have hqa := hq x (by simp)
  have hqa1 := hqa.1
  have hqa2 := hqa.2
  have HQ := hide hq
  unfold b8 at cx
  have HL := hide hlen
  have HN := hide (show numberF (x :: b :: l) = if x - lowF n < 0 ∨ capF n ≤ x - lowF n then -1 else goNum (x - lowF n) (b :: l) by
    show (if 4 < (x :: b :: l).length then -1 else _) = _
    rw [if_neg (by omega), hlen])
  have hbl : bl < w.heap.size := by omega
  rw [Nat.add_zero] at cx
  have hl0 := hide (hl.more hB)
  have HD := hide (show (x :: b :: l).drop 1 = b :: l from rfl)
  clear hl hq hlen ex hqa
  rcases hn with rfl | rfl | rfl
  · have hk : lowF 2 = 192 := rfl
    have hk2 : capF 2 = 32 := rfl
    by_cases h1 : x - 192 < 0
    · have HN := hide (show numberF (x :: b :: l) = -1 by rw [HN.out, hk, hk2, if_pos (.inl h1)])
      clear hk hk2
      go_enter Try.func51, Try.ntmps51
      go_wp2
      go_ret
      rw [HN.out]
      exact ⟨rfl, (Below.refl _ _).alloc (Nat.le_refl _) _⟩
    · by_cases h2 : 32 ≤ x - 192
      · have HN := hide (show numberF (x :: b :: l) = -1 by rw [HN.out, hk, hk2, if_pos (.inr h2)])
        clear hk hk2
        go_enter Try.func51, Try.ntmps51
        go_wp2
        go_ret
        rw [HN.out]
        exact ⟨rfl, ((Below.refl _ _).alloc (Nat.le_refl _) _).alloc (by simp) _⟩
      · have HN := hide (show numberF (x :: b :: l) = goNum (x - 192) ((x :: b :: l).drop 1) by rw [HN.out, hk, hk2, if_neg (by omega)]; rfl)
        obtain ⟨L, hL⟩ : ∃ L, x :: b :: l = L := ⟨_, rfl⟩
        rw [hL] at HQ hl0 HL HN ⊢
        clear hL hk hk2 HD
        go_enter Try.func51, Try.ntmps51
        go_wp2
        go_loopg [5, 6] 1 (fun g s5 s6 wr => ∃ (k : Nat) (r : Int), k + g = 2 ∧ 1 ≤ k ∧ s6 = .int .i64 k ∧ s5 = .int .i32 r ∧ Hid (NumB k r) ∧ Hid (numberF L = goNum r (L.drop k)) ∧ Hid (Rd wr w.heap.size 1 (some ⟨bl, off, none⟩) 2 (L.map b8)) ∧ Below w.heap.size w wr)
        case atStart => exact ⟨1, x - 192, by omega, by omega, rfl, rfl, ⟨by omega, fun h => by omega, fun h => by omega, fun h => by omega, by omega⟩, HN.out, (hl0.out.alloc (Nat.le_refl _) _).alloc (by simp) _, ((Below.refl _ _).alloc (Nat.le_refl _) _).alloc (by simp) _⟩
        case round =>
          obtain ⟨k, r, hkg, hk1, rfl, rfl, HB, HG, HR, hbe⟩ := hrel
          by_cases hlt : k < 2
          · obtain ⟨bl2, off2, y, e, _, ey, cy⟩ := HR.out.at1 hlt
            injection e with e
            injection e with e1 e2
            subst e1 e2
            have hy := HQ.out y (List.mem_of_getElem? ey)
            have hy1 := hy.1
            have hy2 := hy.2
            unfold b8 at cy
            have HG := hide (show numberF L = goNum r (y :: L.drop (k + 1)) by rw [HG.out, drop_at ey])
            have hnb := HB.out.1
            have hnb2 := HB.out.2.2.2.2
            clear hy ey hbl cx
            by_cases h3 : y < 128
            · have HG := hide (show numberF L = -1 by rw [HG.out, goNum, if_pos (.inl h3)])
              go_wp2
              go_ret
              rw [HG.out]
              exact ⟨rfl, hbe⟩
            · by_cases h4 : 191 < y
              · have HG := hide (show numberF L = -1 by rw [HG.out, goNum, if_pos (.inr h4)])
                go_wp2
                go_ret
                rw [HG.out]
                exact ⟨rfl, hbe⟩
              · have HG := hide (show numberF L = goNum (64 * r + y - 128) (L.drop (k + 1)) by rw [HG.out, goNum, if_neg (by omega)])
                have HB2 := hide (numB_step (b := y) HB.out hk1 (by omega) ⟨by omega, by omega⟩)
                go_wp2
                go_roundg (2 - (k + 1))
                case measure => omega
                case rel => exact ⟨k + 1, _, by omega, by omega, by go_num, rfl, HB2.out, HG.out, HR.out, hbe⟩
          · obtain rfl : k = 2 := by omega
            have HG := hide (show numberF L = r by rw [HG.out, List.drop_of_length_le (by rw [HL.out]; exact Nat.le_refl _)]; rfl)
            go_wp2
            go_ret
            rw [HG.out]
            exact ⟨rfl, hbe⟩
  · have hk : lowF 3 = 224 := rfl
    have hk2 : capF 3 = 16 := rfl
    by_cases h1 : x - 224 < 0
    · have HN := hide (show numberF (x :: b :: l) = -1 by rw [HN.out, hk, hk2, if_pos (.inl h1)])
      clear hk hk2
      go_enter Try.func51, Try.ntmps51
      go_wp2
      go_ret
      rw [HN.out]
      exact ⟨rfl, (Below.refl _ _).alloc (Nat.le_refl _) _⟩
    · by_cases h2 : 16 ≤ x - 224
      · have HN := hide (show numberF (x :: b :: l) = -1 by rw [HN.out, hk, hk2, if_pos (.inr h2)])
        clear hk hk2
        go_enter Try.func51, Try.ntmps51
        go_wp2
        go_ret
        rw [HN.out]
        exact ⟨rfl, ((Below.refl _ _).alloc (Nat.le_refl _) _).alloc (by simp) _⟩
      · have HN := hide (show numberF (x :: b :: l) = goNum (x - 224) ((x :: b :: l).drop 1) by rw [HN.out, hk, hk2, if_neg (by omega)]; rfl)
        obtain ⟨L, hL⟩ : ∃ L, x :: b :: l = L := ⟨_, rfl⟩
        rw [hL] at HQ hl0 HL HN ⊢
        clear hL hk hk2 HD
        go_enter Try.func51, Try.ntmps51
        go_wp2
        go_loopg [5, 6] 2 (fun g s5 s6 wr => ∃ (k : Nat) (r : Int), k + g = 3 ∧ 1 ≤ k ∧ s6 = .int .i64 k ∧ s5 = .int .i32 r ∧ Hid (NumB k r) ∧ Hid (numberF L = goNum r (L.drop k)) ∧ Hid (Rd wr w.heap.size 1 (some ⟨bl, off, none⟩) 3 (L.map b8)) ∧ Below w.heap.size w wr)
        case atStart => exact ⟨1, x - 224, by omega, by omega, rfl, rfl, ⟨by omega, fun h => by omega, fun h => by omega, fun h => by omega, by omega⟩, HN.out, (hl0.out.alloc (Nat.le_refl _) _).alloc (by simp) _, ((Below.refl _ _).alloc (Nat.le_refl _) _).alloc (by simp) _⟩
        case round =>
          obtain ⟨k, r, hkg, hk1, rfl, rfl, HB, HG, HR, hbe⟩ := hrel
          by_cases hlt : k < 3
          · obtain ⟨bl2, off2, y, e, _, ey, cy⟩ := HR.out.at1 hlt
            injection e with e
            injection e with e1 e2
            subst e1 e2
            have hy := HQ.out y (List.mem_of_getElem? ey)
            have hy1 := hy.1
            have hy2 := hy.2
            unfold b8 at cy
            have HG := hide (show numberF L = goNum r (y :: L.drop (k + 1)) by rw [HG.out, drop_at ey])
            have hnb := HB.out.1
            have hnb2 := HB.out.2.2.2.2
            clear hy ey hbl cx
            by_cases h3 : y < 128
            · have HG := hide (show numberF L = -1 by rw [HG.out, goNum, if_pos (.inl h3)])
              go_wp2
              go_ret
              rw [HG.out]
              exact ⟨rfl, hbe⟩
            · by_cases h4 : 191 < y
              · have HG := hide (show numberF L = -1 by rw [HG.out, goNum, if_pos (.inr h4)])
                go_wp2
                go_ret
                rw [HG.out]
                exact ⟨rfl, hbe⟩
              · have HG := hide (show numberF L = goNum (64 * r + y - 128) (L.drop (k + 1)) by rw [HG.out, goNum, if_neg (by omega)])
                have HB2 := hide (numB_step (b := y) HB.out hk1 (by omega) ⟨by omega, by omega⟩)
                go_wp2
                go_roundg (3 - (k + 1))
                case measure => omega
                case rel => exact ⟨k + 1, _, by omega, by omega, by go_num, rfl, HB2.out, HG.out, HR.out, hbe⟩
          · obtain rfl : k = 3 := by omega
            have HG := hide (show numberF L = r by rw [HG.out, List.drop_of_length_le (by rw [HL.out]; exact Nat.le_refl _)]; rfl)
            go_wp2
            go_ret
            rw [HG.out]
            exact ⟨rfl, hbe⟩
  · have hk : lowF 4 = 240 := rfl
    have hk2 : capF 4 = 8 := rfl
    by_cases h1 : x - 240 < 0
    · have HN := hide (show numberF (x :: b :: l) = -1 by rw [HN.out, hk, hk2, if_pos (.inl h1)])
      clear hk hk2
      go_enter Try.func51, Try.ntmps51
      go_wp2
      go_ret
      rw [HN.out]
      exact ⟨rfl, (Below.refl _ _).alloc (Nat.le_refl _) _⟩
    · by_cases h2 : 8 ≤ x - 240
      · have HN := hide (show numberF (x :: b :: l) = -1 by rw [HN.out, hk, hk2, if_pos (.inr h2)])
        clear hk hk2
        go_enter Try.func51, Try.ntmps51
        go_wp2
        go_ret
        rw [HN.out]
        exact ⟨rfl, ((Below.refl _ _).alloc (Nat.le_refl _) _).alloc (by simp) _⟩
      · have HN := hide (show numberF (x :: b :: l) = goNum (x - 240) ((x :: b :: l).drop 1) by rw [HN.out, hk, hk2, if_neg (by omega)]; rfl)
        obtain ⟨L, hL⟩ : ∃ L, x :: b :: l = L := ⟨_, rfl⟩
        rw [hL] at HQ hl0 HL HN ⊢
        clear hL hk hk2 HD
        go_enter Try.func51, Try.ntmps51
        go_wp2
        go_loopg [5, 6] 3 (fun g s5 s6 wr => ∃ (k : Nat) (r : Int), k + g = 4 ∧ 1 ≤ k ∧ s6 = .int .i64 k ∧ s5 = .int .i32 r ∧ Hid (NumB k r) ∧ Hid (numberF L = goNum r (L.drop k)) ∧ Hid (Rd wr w.heap.size 1 (some ⟨bl, off, none⟩) 4 (L.map b8)) ∧ Below w.heap.size w wr)
        case atStart => exact ⟨1, x - 240, by omega, by omega, rfl, rfl, ⟨by omega, fun h => by omega, fun h => by omega, fun h => by omega, by omega⟩, HN.out, (hl0.out.alloc (Nat.le_refl _) _).alloc (by simp) _, ((Below.refl _ _).alloc (Nat.le_refl _) _).alloc (by simp) _⟩
        case round =>
          obtain ⟨k, r, hkg, hk1, rfl, rfl, HB, HG, HR, hbe⟩ := hrel
          by_cases hlt : k < 4
          · obtain ⟨bl2, off2, y, e, _, ey, cy⟩ := HR.out.at1 hlt
            injection e with e
            injection e with e1 e2
            subst e1 e2
            have hy := HQ.out y (List.mem_of_getElem? ey)
            have hy1 := hy.1
            have hy2 := hy.2
            unfold b8 at cy
            have HG := hide (show numberF L = goNum r (y :: L.drop (k + 1)) by rw [HG.out, drop_at ey])
            have hnb := HB.out.1
            have hnb2 := HB.out.2.2.2.2
            clear hy ey hbl cx
            by_cases h3 : y < 128
            · have HG := hide (show numberF L = -1 by rw [HG.out, goNum, if_pos (.inl h3)])
              go_wp2
              go_ret
              rw [HG.out]
              exact ⟨rfl, hbe⟩
            · by_cases h4 : 191 < y
              · have HG := hide (show numberF L = -1 by rw [HG.out, goNum, if_pos (.inr h4)])
                go_wp2
                go_ret
                rw [HG.out]
                exact ⟨rfl, hbe⟩
              · have HG := hide (show numberF L = goNum (64 * r + y - 128) (L.drop (k + 1)) by rw [HG.out, goNum, if_neg (by omega)])
                have HB2 := hide (numB_step (b := y) HB.out hk1 (by omega) ⟨by omega, by omega⟩)
                go_wp2
                go_roundg (4 - (k + 1))
                case measure => omega
                case rel => exact ⟨k + 1, _, by omega, by omega, by go_num, rfl, HB2.out, HG.out, HR.out, hbe⟩
          · obtain rfl : k = 4 := by omega
            have HG := hide (show numberF L = r by rw [HG.out, List.drop_of_length_le (by rw [HL.out]; exact Nat.le_refl _)]; rfl)
            go_wp2
            go_ret
            rw [HG.out]
            exact ⟨rfl, hbe⟩
end Go.Proofs.Ythbjjhoajecpcaa
