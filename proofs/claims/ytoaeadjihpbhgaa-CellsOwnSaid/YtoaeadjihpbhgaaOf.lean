/-
  The walks of a number's width: the tables, whether a number is in one, and what that makes. No condition but what the kind bears.
-/
import Derived.Test.YtoaeadjihpbhgaaWid
import Derived.Test.YtoaeadjihpbhgaaMore
import Derived.Test.YtoaeadjihpbhgaaProg
namespace Go.Proofs.Ytoaeadjihpbhgaa
open Go.RowKit Go.Proofs
set_option linter.unusedVariables false
/-- A rune's cell. -/
def rn (x : Int) : Value := .int .i32 x
/-- A range's cells. -/
def pr (x : Int × Int) : List Value := [.int .i32 x.1, .int .i32 x.2]
theorem pr_len (x : Int × Int) : (pr x).length = 2 := rfl
theorem hmf (fn : Fn) (first cap : Array Value) (w : World) : (Instr.makeFunc fn first cap).run Try.prog w = .ok (.func fn first cap) w := rfl
set_option maxHeartbeats 1000000 in
theorem none_any (r : Int) (w : World) : Calls Try.prog 65 #[.int .i32 r] w fun e w' => e = .returned (.bool (noneB r)) ∧ w' = w := by
  rcases (show r < 32 ∨ (32 ≤ r ∧ r < 127) ∨ (127 ≤ r ∧ r < 160) ∨ (160 ≤ r ∧ r < 55296) ∨ (55296 ≤ r ∧ r < 57344) ∨ (57344 ≤ r ∧ r < 1114112) ∨ 1114112 ≤ r by omega) with h | h | h | h | h | h | h
  · have hr := hide (show noneB r = true by unfold noneB; simp; omega)
    have d0 : decide (r < 32) = true := by simp; omega
    have d1 : decide (127 ≤ r) = false := by simp; omega
    have d2 : decide (r < 160) = true := by simp; omega
    have d3 : decide (55296 ≤ r) = false := by simp; omega
    have d4 : decide (r < 57344) = true := by simp; omega
    have d5 : decide (1114111 < r) = false := by simp; omega
    clear h
    go_enter Try.func65, Try.ntmps65
    go_wp2
    go_ret
    exact ⟨ret_bool hr.out.symm, rfl⟩
  · have hr := hide (show noneB r = false by unfold noneB; simp; omega)
    have d0 : decide (r < 32) = false := by simp; omega
    have d1 : decide (127 ≤ r) = false := by simp; omega
    have d2 : decide (r < 160) = true := by simp; omega
    have d3 : decide (55296 ≤ r) = false := by simp; omega
    have d4 : decide (r < 57344) = true := by simp; omega
    have d5 : decide (1114111 < r) = false := by simp; omega
    clear h
    go_enter Try.func65, Try.ntmps65
    go_wp2
    go_ret
    exact ⟨ret_bool hr.out.symm, rfl⟩
  · have hr := hide (show noneB r = true by unfold noneB; simp; omega)
    have d0 : decide (r < 32) = false := by simp; omega
    have d1 : decide (127 ≤ r) = true := by simp; omega
    have d2 : decide (r < 160) = true := by simp; omega
    have d3 : decide (55296 ≤ r) = false := by simp; omega
    have d4 : decide (r < 57344) = true := by simp; omega
    have d5 : decide (1114111 < r) = false := by simp; omega
    clear h
    go_enter Try.func65, Try.ntmps65
    go_wp2
    go_ret
    exact ⟨ret_bool hr.out.symm, rfl⟩
  · have hr := hide (show noneB r = false by unfold noneB; simp; omega)
    have d0 : decide (r < 32) = false := by simp; omega
    have d1 : decide (127 ≤ r) = true := by simp; omega
    have d2 : decide (r < 160) = false := by simp; omega
    have d3 : decide (55296 ≤ r) = false := by simp; omega
    have d4 : decide (r < 57344) = true := by simp; omega
    have d5 : decide (1114111 < r) = false := by simp; omega
    clear h
    go_enter Try.func65, Try.ntmps65
    go_wp2
    go_ret
    exact ⟨ret_bool hr.out.symm, rfl⟩
  · have hr := hide (show noneB r = true by unfold noneB; simp; omega)
    have d0 : decide (r < 32) = false := by simp; omega
    have d1 : decide (127 ≤ r) = true := by simp; omega
    have d2 : decide (r < 160) = false := by simp; omega
    have d3 : decide (55296 ≤ r) = true := by simp; omega
    have d4 : decide (r < 57344) = true := by simp; omega
    have d5 : decide (1114111 < r) = false := by simp; omega
    clear h
    go_enter Try.func65, Try.ntmps65
    go_wp2
    go_ret
    exact ⟨ret_bool hr.out.symm, rfl⟩
  · have hr := hide (show noneB r = false by unfold noneB; simp; omega)
    have d0 : decide (r < 32) = false := by simp; omega
    have d1 : decide (127 ≤ r) = true := by simp; omega
    have d2 : decide (r < 160) = false := by simp; omega
    have d3 : decide (55296 ≤ r) = true := by simp; omega
    have d4 : decide (r < 57344) = false := by simp; omega
    have d5 : decide (1114111 < r) = false := by simp; omega
    clear h
    go_enter Try.func65, Try.ntmps65
    go_wp2
    go_ret
    exact ⟨ret_bool hr.out.symm, rfl⟩
  · have hr := hide (show noneB r = true by unfold noneB; simp; omega)
    have d0 : decide (r < 32) = false := by simp; omega
    have d1 : decide (127 ≤ r) = true := by simp; omega
    have d2 : decide (r < 160) = false := by simp; omega
    have d3 : decide (55296 ≤ r) = true := by simp; omega
    have d4 : decide (r < 57344) = false := by simp; omega
    have d5 : decide (1114111 < r) = true := by simp; omega
    clear h
    go_enter Try.func65, Try.ntmps65
    go_wp2
    go_ret
    exact ⟨ret_bool hr.out.symm, rfl⟩
set_option maxHeartbeats 1000000 in
theorem marks_any (w : World) : Calls Try.prog 67 #[] w fun e w' => e = .returned (.slice (some ⟨w.heap.size, 0, none⟩) 19 19) ∧ Rd w' w'.heap.size 2 (some ⟨w.heap.size, 0, none⟩) 19 (marksL.flatMap pr) ∧ Below w.heap.size w w' := by
  have hr := hide (rd_news (w := w) (e := 86) (cs := (marksL.flatMap pr).toArray) (n := 19) (s := 2) rfl)
  go_enter Try.func67, Try.ntmps67
  go_wp2
  go_ret
  refine ⟨rfl, ?_, (Below.refl _ _).alloc (Nat.le_refl _) _⟩
  have := hr.out
  simpa [marksL, pr] using this
set_option maxHeartbeats 1000000 in
theorem wides_any (w : World) : Calls Try.prog 68 #[] w fun e w' => e = .returned (.slice (some ⟨w.heap.size, 0, none⟩) 22 22) ∧ Rd w' w'.heap.size 2 (some ⟨w.heap.size, 0, none⟩) 22 (widesL.flatMap pr) ∧ Below w.heap.size w w' := by
  have hr := hide (rd_news (w := w) (e := 86) (cs := (widesL.flatMap pr).toArray) (n := 22) (s := 2) rfl)
  go_enter Try.func68, Try.ntmps68
  go_wp2
  go_ret
  refine ⟨rfl, ?_, (Below.refl _ _).alloc (Nat.le_refl _) _⟩
  have := hr.out
  simpa [widesL, pr] using this
set_option maxHeartbeats 1000000 in
theorem rmarks_any (w : World) : Calls Try.prog 61 #[] w fun e w' => e = .returned (.slice (some ⟨w.heap.size, 0, none⟩) 38 38) ∧ Rd w' w'.heap.size 2 (some ⟨w.heap.size, 0, none⟩) 19 (marksL.flatMap pr) ∧ Below w.heap.size w w' := by
  have hr := hide (rd_news (w := w) (e := 21) (cs := (marksL.flatMap pr).toArray) (n := 19) (s := 2) rfl)
  go_enter Try.func61, Try.ntmps61
  go_wp2
  go_ret
  refine ⟨rfl, ?_, (Below.refl _ _).alloc (Nat.le_refl _) _⟩
  have := hr.out
  simpa [marksL, pr] using this
set_option maxHeartbeats 1000000 in
theorem rwides_any (w : World) : Calls Try.prog 62 #[] w fun e w' => e = .returned (.slice (some ⟨w.heap.size, 0, none⟩) 44 44) ∧ Rd w' w'.heap.size 2 (some ⟨w.heap.size, 0, none⟩) 22 (widesL.flatMap pr) ∧ Below w.heap.size w w' := by
  have hr := hide (rd_news (w := w) (e := 21) (cs := (widesL.flatMap pr).toArray) (n := 22) (s := 2) rfl)
  go_enter Try.func62, Try.ntmps62
  go_wp2
  go_ret
  refine ⟨rfl, ?_, (Below.refl _ _).alloc (Nat.le_refl _) _⟩
  have := hr.out
  simpa [widesL, pr] using this

def inX (x : Int × Int) (r : Int) : Bool := decide (x.1 ≤ r ∧ r ≤ x.2)
set_option maxHeartbeats 1000000 in
theorem amongx_any (x : Int × Int) (r : Int) (g : Nat) (w : World) (hg : Blk w g 21 #[.int .i32 r]) :
    Calls Try.prog 74 #[.agg #[.int .i32 x.1, .int .i32 x.2], .pointer (some ⟨g, 0, none⟩)] w fun e w' => e = .returned (.bool (inX x r)) ∧ Below w.heap.size w w' := by
  obtain ⟨a, b⟩ := x
  have c0 := (hg.alloc (.cells #[.int .i32 a, .int .i32 b] 86)).cell 0
  simp only [List.getElem?_toArray, List.getElem?_cons_zero] at c0
  by_cases h1 : a ≤ r
  · by_cases h2 : r ≤ b
    · have hr := hide (show inX (a, b) r = true by unfold inX; simp; omega)
      go_enter Try.func74, Try.ntmps74
      go_wp2
      go_ret
      exact ⟨ret_bool hr.out.symm, (Below.refl _ _).alloc (Nat.le_refl _) _⟩
    · have hr := hide (show inX (a, b) r = false by unfold inX; simp; omega)
      have d : decide (r ≤ b) = false := by simp; omega
      go_enter Try.func74, Try.ntmps74
      go_wp2
      go_ret
      exact ⟨ret_bool hr.out.symm, (Below.refl _ _).alloc (Nat.le_refl _) _⟩
  · have hr := hide (show inX (a, b) r = false by unfold inX; simp; omega)
    have d : decide (a ≤ r) = false := by simp; omega
    go_enter Try.func74, Try.ntmps74
    go_wp2
    go_ret
    exact ⟨ret_bool hr.out.symm, (Below.refl _ _).alloc (Nat.le_refl _) _⟩
theorem prs_at {w : World} {B n : Nat} {A : Option Addr} {l : List (Int × Int)} (h : Rd w B 2 A n (l.flatMap pr)) {k : Nat} (hk : k < n) :
    ∃ b off x0 x1, A = some ⟨b, off, none⟩ ∧ b < B ∧ l[k]? = some (x0, x1) ∧ w.cell? ⟨b, off + k * 2, none⟩ = some (.int .i32 x0) ∧ w.cell? ⟨b, off + k * 2 + 1, none⟩ = some (.int .i32 x1) := by
  obtain ⟨b, off, x, e, hb, hx, hc⟩ := h.row pr_len (by omega) hk
  exact ⟨b, off, x.1, x.2, e, hb, hx, hc 0 _ rfl, hc 1 _ rfl⟩
def IdxPost (l : List (Int × Int)) (r : Int) (w : World) (e : Ending) (w' : World) : Prop := ∃ i : Int, e = .returned (.int .i64 i) ∧ decide (0 ≤ i) = inR l r ∧ Below w.heap.size w w'
set_option maxHeartbeats 1000000 in
theorem index_any (l : List (Int × Int)) (r : Int) (g n c : Nat) (A : Option Addr) (w : World) (hl : Rd w w.heap.size 2 A n (l.flatMap pr)) (hg : Blk w g 21 #[.int .i32 r]) (hn : n ≤ 100000) :
    Calls Try.prog 79 #[.slice A n c, .func (.func 74) #[] #[.pointer (some ⟨g, 0, none⟩)]] w (IdxPost l r w) := by
  have HL := hide (hl.len pr_len (by omega))
  have HC := hide (fun (x : Int × Int) (W : World) (h : Blk W g 21 #[.int .i32 r]) => amongx_any x r g W h)
  go_enter Try.func79, Try.ntmps79
  go_wp2
  go_loopg [8] n (fun gg s8 wr => ∃ k : Nat, k + gg = n ∧ s8 = .int .i64 k ∧ Hid (inR (l.take k) r = false) ∧ Rd wr wr.heap.size 2 A n (l.flatMap pr) ∧ Blk wr g 21 #[.int .i32 r] ∧ Below w.heap.size w wr)
  case atStart => exact ⟨0, by omega, rfl, rfl, hl, hg, Below.refl _ _⟩
  case round =>
    clear hl hg
    obtain ⟨k, hkg, rfl, HI, hl, hg, hb⟩ := hrel
    by_cases hlt : k < n
    · obtain ⟨b, off, x0, x1, rfl, hbB, hx, c0, c1⟩ := prs_at hl hlt
      have hs := any_take_snoc (f := fun x : Int × Int => decide (x.1 ≤ r ∧ r ≤ x.2)) hx
      have HS := hide (show inR (l.take (k + 1)) r = (inR (l.take k) r || inX (x0, x1) r) from hs)
      have hmem := hide (List.mem_of_getElem? hx)
      have C := hide (HC.out (x0, x1) wr hg)
      clear hs hx
      cases hX : inX (x0, x1) r with
      | true =>
        have HX := hide hX
        have C' := C.out
        rw [hX] at C'
        have C := hide C'
        clear C' hX
        go_wp2_with (go_at_call 74; go_must (refine C.out.mono ?_; rintro e w1 ⟨rfl, b1⟩))
        go_ret
        refine ⟨k, rfl, ?_, below_in hb b1 (Nat.le_refl _)⟩
        have : inR l r = true := by unfold inR; rw [List.any_eq_true]; exact ⟨_, hmem.out, HX.out⟩
        rw [this]; simp
      | false =>
        have HX := hide hX
        have C' := C.out
        rw [hX] at C'
        have C := hide C'
        clear C' hX
        go_wp2_with (go_at_call 74; go_must (refine C.out.mono ?_; rintro e w1 ⟨rfl, b1⟩))
        go_roundg (n - (k + 1))
        case measure => omega
        case rel => exact ⟨k + 1, by omega, by go_num, by show _ = _; rw [HS.out, HI.out, HX.out]; rfl, rd_call hl b1, hg.below b1 hg.lt, below_in hb b1 (Nat.le_refl _)⟩
    · obtain rfl : n = k := by omega
      go_wp2
      go_ret
      refine ⟨-1, rfl, ?_, hb⟩
      have := HI.out
      rw [List.take_of_length_le (by rw [HL.out]; exact Nat.le_refl _)] at this
      rw [this]; rfl
theorem contains_any (l : List (Int × Int)) (r : Int) (g n c : Nat) (A : Option Addr) (w : World) (hl : Rd w w.heap.size 2 A n (l.flatMap pr)) (hg : Blk w g 21 #[.int .i32 r]) (hn : n ≤ 100000) :
    Calls Try.prog 73 #[.slice A n c, .func (.func 74) #[] #[.pointer (some ⟨g, 0, none⟩)]] w fun e w' => e = .returned (.bool (inR l r)) ∧ Below w.heap.size w w' := by
  have HC := hide (index_any l r g n c A w hl hg hn)
  go_enter Try.func73, Try.ntmps73
  go_wp2_with (go_at_call 79; go_must (refine HC.out.mono ?_; rintro e w1 ⟨i, rfl, hi, b1⟩; have hi := hide hi))
  go_ret
  exact ⟨rfl, b1⟩
theorem among_any (l : List (Int × Int)) (r : Int) (n c : Nat) (A : Option Addr) (w : World) (hl : Rd w w.heap.size 2 A n (l.flatMap pr)) (hn : n ≤ 100000) :
    Calls Try.prog 66 #[.slice A n c, .int .i32 r] w fun e w' => e = .returned (.bool (inR l r)) ∧ Below w.heap.size w w' := by
  have mf := hmf
  have HC := hide (contains_any l r w.heap.size n c A (w.alloc (.cells #[.int .i32 r] 21)) ((hl.alloc (Nat.le_refl _) _).more (by simp)) (Blk.new _ _ _) hn)
  go_enter Try.func66, Try.ntmps66
  go_wp2_with (go_at_call 73; go_must (refine HC.out.mono ?_; rintro e w1 ⟨rfl, b1⟩))
  go_ret
  exact ⟨rfl, below_in ((Below.refl _ _).alloc (Nat.le_refl _) _) b1 (Nat.le_refl _)⟩
set_option maxHeartbeats 1000000 in
theorem of_any (r : Int) (w : World) : Calls Try.prog 47 #[.int .i32 r] w fun e w' => e = .returned (.int .i64 (widOf r)) ∧ Below w.heap.size w w' := by
  have N := hide (fun W => none_any r W)
  have M := hide (fun W => marks_any W)
  have D := hide (fun W => wides_any W)
  have AM := hide (fun (n c : Nat) (A : Option Addr) (W : World) (hl : Rd W W.heap.size 2 A n (marksL.flatMap pr)) (hn : n ≤ 100000) => among_any marksL r n c A W hl hn)
  have AD := hide (fun (n c : Nat) (A : Option Addr) (W : World) (hl : Rd W W.heap.size 2 A n (widesL.flatMap pr)) (hn : n ≤ 100000) => among_any widesL r n c A W hl hn)
  obtain ⟨nB, hnB⟩ : ∃ b, noneB r = b := ⟨_, rfl⟩
  obtain ⟨mB, hmB⟩ : ∃ b, inR marksL r = b := ⟨_, rfl⟩
  obtain ⟨dB, hdB⟩ : ∃ b, inR widesL r = b := ⟨_, rfl⟩
  have N' := N.out
  have AM' := AM.out
  have AD' := AD.out
  rw [hnB] at N'
  rw [hmB] at AM'
  rw [hdB] at AD'
  have N := hide N'
  have AM := hide AM'
  have AD := hide AD'
  have HW := hide (show noneB r = nB ∧ inR marksL r = mB ∧ inR widesL r = dB from ⟨hnB, hmB, hdB⟩)
  clear N' AM' AD' hnB hmB hdB
  cases nB with
  | true =>
    go_enter Try.func47, Try.ntmps47
    go_wp2_with (go_at_call 65; go_must (refine (N.out _).mono ?_; rintro e w1 ⟨rfl, rfl⟩))
    go_ret
    exact ⟨ret_int (by unfold widOf; rw [HW.out.1]; rfl), Below.refl _ _⟩
  | false =>
    by_cases hr : r < 768
    · go_enter Try.func47, Try.ntmps47
      go_wp2_with (go_at_call 65; go_must (refine (N.out _).mono ?_; rintro e w1 ⟨rfl, rfl⟩))
      go_ret
      exact ⟨ret_int (widOf_low HW.out.1 hr).symm, Below.refl _ _⟩
    · have hr' : decide (r < 768) = false := by simp; omega
      cases mB with
      | true =>
        go_enter Try.func47, Try.ntmps47
        go_wp2_with (first
          | (go_at_call 65; go_must (refine (N.out _).mono ?_; rintro e w1 ⟨rfl, rfl⟩))
          | (go_at_call 67; go_must (refine (M.out _).mono ?_; rintro e w1 ⟨rfl, r1, b1⟩))
          | (go_at_call 66; go_must (refine (AM.out _ _ _ _ r1 (by omega)).mono ?_; rintro e w2 ⟨rfl, b2⟩)))
        go_ret
        exact ⟨ret_int (by unfold widOf; rw [HW.out.1, HW.out.2.1]; rfl), below_in b1 b2 (Nat.le_refl _)⟩
      | false =>
        cases dB with
        | true =>
          go_enter Try.func47, Try.ntmps47
          go_wp2_with (first
            | (go_at_call 65; go_must (refine (N.out _).mono ?_; rintro e w1 ⟨rfl, rfl⟩))
            | (go_at_call 67; go_must (refine (M.out _).mono ?_; rintro e w1 ⟨rfl, r1, b1⟩))
            | (go_at_call 68; go_must (refine (D.out _).mono ?_; rintro e w3 ⟨rfl, r3, b3⟩))
            | (go_at_call_of 66 (19 : Nat); go_must (refine (AM.out _ _ _ _ r1 (by omega)).mono ?_; rintro e w2 ⟨rfl, b2⟩))
            | (go_at_call_of 66 (22 : Nat); go_must (refine (AD.out _ _ _ _ r3 (by omega)).mono ?_; rintro e w4 ⟨rfl, b4⟩)))
          go_ret
          exact ⟨ret_int (by unfold widOf; rw [HW.out.1, HW.out.2.1, HW.out.2.2]; rfl), below_in (below_in (below_in b1 b2 (Nat.le_refl _)) b3 (Nat.le_refl _)) b4 (Nat.le_refl _)⟩
        | false =>
          go_enter Try.func47, Try.ntmps47
          go_wp2_with (first
            | (go_at_call 65; go_must (refine (N.out _).mono ?_; rintro e w1 ⟨rfl, rfl⟩))
            | (go_at_call 67; go_must (refine (M.out _).mono ?_; rintro e w1 ⟨rfl, r1, b1⟩))
            | (go_at_call 68; go_must (refine (D.out _).mono ?_; rintro e w3 ⟨rfl, r3, b3⟩))
            | (go_at_call_of 66 (19 : Nat); go_must (refine (AM.out _ _ _ _ r1 (by omega)).mono ?_; rintro e w2 ⟨rfl, b2⟩))
            | (go_at_call_of 66 (22 : Nat); go_must (refine (AD.out _ _ _ _ r3 (by omega)).mono ?_; rintro e w4 ⟨rfl, b4⟩)))
          go_ret
          exact ⟨ret_int (by unfold widOf; rw [HW.out.1, HW.out.2.1, HW.out.2.2]; rfl), below_in (below_in (below_in b1 b2 (Nat.le_refl _)) b3 (Nat.le_refl _)) b4 (Nat.le_refl _)⟩
end Go.Proofs.Ytoaeadjihpbhgaa
