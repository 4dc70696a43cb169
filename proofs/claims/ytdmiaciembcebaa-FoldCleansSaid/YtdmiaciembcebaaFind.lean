/-
  The walks of has, of Find's closure, of slices.IndexFunc at it, and of Find. Conditions: as many items as the laws let in.
-/
import Derived.Test.YtdmiaciembcebaaLay
namespace Go.Proofs.Ytdmiaciembcebaa
open Go.RowKit Go.Proofs

/-- Is an item a row, or does it hide it? -/
def hasF (row : Int) (x : It) : Bool := if x.2.1 = 0 then decide (x.1 = row) else decide (x.1 ≤ 1099511627776 ∧ 0 < x.2.2 ∧ x.2.2 ≤ 1099511627776 ∧ x.1 ≤ row ∧ row < x.1 + x.2.2)
/-- The place of the first item that is a row, or hides it. -/
def idxF (row : Int) : Nat → List It → Option Nat
  | _, [] => none
  | k, x :: l => if hasF row x = true then some k else idxF row (k + 1) l

set_option maxHeartbeats 1000000 in
theorem has_any (x0 x1 x2 row : Int) (w : World) (b : -9223372036854775808 ≤ x0) :
    Calls Try.prog 23 #[.agg #[.int .i64 x0, .int .u64 x1, .int .i64 x2], .int .i64 row] w fun e w' => e = .returned (.bool (hasF row (x0, x1, x2))) ∧ Below w.heap.size w w' := by
  by_cases h : x1 = 0
  · subst h
    go_enter Try.func23, Try.ntmps23
    go_wp2_with fail
    go_ret
    exact ⟨ret_bool (by simp [hasF]; rfl), (Below.refl _ _).alloc (Nat.le_refl _) _⟩
  · have hb : ((x1 : Int) == 0) = false := by simpa using h
    by_cases h1 : x0 ≤ 1099511627776
    · by_cases h2 : 0 < x2
      · by_cases h3 : x2 ≤ 1099511627776
        · by_cases h4 : x0 ≤ row
          · go_enter Try.func23, Try.ntmps23
            go_wp2_with fail
            go_ret
            exact ⟨ret_bool (by simp [hasF, h, h1, h2, h3, h4]), (Below.refl _ _).alloc (Nat.le_refl _) _⟩
          · go_enter Try.func23, Try.ntmps23
            go_wp2_with fail
            go_ret
            exact ⟨ret_bool (by simp [hasF, h]; omega), (Below.refl _ _).alloc (Nat.le_refl _) _⟩
        · go_enter Try.func23, Try.ntmps23
          go_wp2_with fail
          go_ret
          exact ⟨ret_bool (by simp [hasF, h]; omega), (Below.refl _ _).alloc (Nat.le_refl _) _⟩
      · go_enter Try.func23, Try.ntmps23
        go_wp2_with fail
        go_ret
        exact ⟨ret_bool (by simp [hasF, h]; omega), (Below.refl _ _).alloc (Nat.le_refl _) _⟩
    · go_enter Try.func23, Try.ntmps23
      go_wp2_with fail
      go_ret
      exact ⟨ret_bool (by simp [hasF, h]; omega), (Below.refl _ _).alloc (Nat.le_refl _) _⟩

set_option maxHeartbeats 1000000 in
theorem take_any (x0 x1 x2 row : Int) (g : Nat) (w : World) (b : -9223372036854775808 ≤ x0) (hg : Blk w g 3 #[.int .i64 row]) :
    Calls Try.prog 22 #[.agg #[.int .i64 x0, .int .u64 x1, .int .i64 x2], .pointer (some ⟨g, 0, none⟩)] w fun e w' => e = .returned (.bool (hasF row (x0, x1, x2))) ∧ Below w.heap.size w w' := by
  have c := (hg.alloc (.cells #[.int .i64 x0, .int .u64 x1, .int .i64 x2] 47)).cell 0
  have R := hide (has_any x0 x1 x2 row (w.alloc (.cells #[.int .i64 x0, .int .u64 x1, .int .i64 x2] 47)) b)
  go_enter Try.func22, Try.ntmps22
  go_wp2_with (go_at_call 23; go_must (refine R.out.mono ?_; rintro e w' ⟨rfl, hb⟩))
  go_ret
  exact ⟨rfl, ((Below.refl _ _).alloc (Nat.le_refl _) _).trans (hb.mono (by simp))⟩

set_option maxHeartbeats 1000000 in
theorem index_any (A : Option Addr) (n c : Nat) (row : Int) (g : Nat) (l : List It) (w : World) (B : Nat) (hB : B ≤ w.heap.size) (ha : Rd w B 3 A n (l.flatMap itc)) (hn : n ≤ 200000) (hg : Blk w g 3 #[.int .i64 row]) (hl0 : ∀ x ∈ l, -9223372036854775808 ≤ x.1) :
    Calls Try.prog 21 #[.slice A n c, .func (.func 22) #[] #[.pointer (some ⟨g, 0, none⟩)]] w fun e w' => e = .returned (.int .i64 ((idxF row 0 l).elim (-1) fun k => (k : Int))) ∧ Below w.heap.size w w' := by
  have hl := hide (ha.len itc_len (by omega))
  have HL := hide hl0
  have gl := hg.lt
  clear hl0
  go_enter Try.func21, Try.ntmps21
  go_wp2_with fail
  go_loopw [8] (fun i wr => ∃ (k : Nat), k ≤ n ∧ i = .int .i64 k ∧ Below w.heap.size w wr ∧ Hid (idxF row 0 l = idxF row k (l.drop k))) (fun i _ => n - (intOf i).toNat)
  case atStart => exact ⟨0, by omega, rfl, Below.refl _ _, hide rfl⟩
  case round =>
    obtain ⟨k, hk, rfl, hb, H⟩ := hrel
    by_cases hlt : k < n
    · obtain ⟨b, off, x0, x1, x2, rfl, hbB, hx, c1, c2, c3⟩ := items_at (ha.below (hb.mono hB)) hlt
      have R := take_any x0 x1 x2 row g wr (HL.out _ (List.mem_of_getElem? hx)) (hg.below hb gl)
      have Hx := hide hx
      clear hx
      cases hh : hasF row (x0, x1, x2)
      · rw [hh] at R
        have R' := hide R
        have HH := hide hh
        clear R hh
        go_wp2_with (go_at_call 22; go_must (refine R'.out.mono ?_; rintro e w' ⟨rfl, hb'⟩))
        go_roundw
        case rel => exact ⟨k + 1, by omega, by go_num, hb.trans (hb'.mono hb.size), hide (by rw [H.out, drop_at Hx.out]; simp [idxF, HH.out])⟩
        case measure => simp [intOf]; omega
      · rw [hh] at R
        have R' := hide R
        have HH := hide hh
        clear R hh
        go_wp2_with (go_at_call 22; go_must (refine R'.out.mono ?_; rintro e w' ⟨rfl, hb'⟩))
        go_ret
        exact ⟨ret_int (by rw [H.out, drop_at Hx.out]; simp [idxF, HH.out]), hb.trans (hb'.mono hb.size)⟩
    · go_wp2_with fail
      go_ret
      exact ⟨ret_int (by rw [H.out, List.drop_of_length_le (by rw [hl.out]; omega)]; simp [idxF]), hb⟩

set_option maxHeartbeats 1000000 in
theorem find_any (A : Option Addr) (n c : Nat) (row : Int) (l : List It) (w : World) (B : Nat) (hB : B ≤ w.heap.size) (ha : Rd w B 3 A n (l.flatMap itc)) (hn : n ≤ 200000) (hl0 : ∀ x ∈ l, -9223372036854775808 ≤ x.1) :
    Calls Try.prog 19 #[.slice A n c, .int .i64 row] w fun e w' => e = .returned (.tuple #[.int .i64 ((idxF row 0 l).getD 0 : Nat), .bool (idxF row 0 l).isSome]) ∧ Below w.heap.size w w' := by
  have R := hide (index_any A n c row w.heap.size l (w.alloc (.cells #[.int .i64 row] 3)) B (by simp; omega) (ha.alloc hB _) hn (Blk.new _ _ _) hl0)
  have hmf : ∀ (fn : Fn) (first cap : Array Value) (w : World), (Instr.makeFunc fn first cap).run Try.prog w = .ok (.func fn first cap) w := fun _ _ _ _ => rfl
  clear hl0
  cases hi : idxF row 0 l with
  | none =>
    rw [hi] at R
    have hm := fun W => max2_ Try.prog #[3, 3] 3 (k := .i64) (show (0 : Int) = max 0 (-1) by omega) W
    clear hi
    go_enter Try.func19, Try.ntmps19
    go_wp2_with (go_at_call 21; go_must (refine R.out.mono ?_; rintro e w' ⟨rfl, hb'⟩))
    go_ret2
    exact ⟨rfl, ((Below.refl _ _).alloc (Nat.le_refl _) _).trans (hb'.mono (by simp))⟩
  | some k =>
    rw [hi] at R
    have hm := fun W => max2_ Try.prog #[3, 3] 3 (k := .i64) (show (k : Int) = max (0 : Int) (k : Int) by omega) W
    clear hi
    go_enter Try.func19, Try.ntmps19
    go_wp2_with (go_at_call 21; go_must (refine R.out.mono ?_; rintro e w' ⟨rfl, hb'⟩))
    go_ret2
    exact ⟨rfl, ((Below.refl _ _).alloc (Nat.le_refl _) _).trans (hb'.mono (by simp))⟩
end Go.Proofs.Ytdmiaciembcebaa
