/-
  The walk of borders, for bytes as they are and as small letters. No condition but the string's length.
-/
import Derived.Test.YtkcmpddefohkeaaBytesOf
import Derived.BigQuiet
namespace Go.Proofs.Ytkcmpddefohkeaa
open Go.RowKit Go.Proofs
set_option linter.unusedVariables false
theorem Try.info3' : (Try.prog.info? 3).map (fun i => (i.zero, i.size, i.bytes)) = some (some (.int .i64 0), 1, 8) := by kernel_rfl
/-- A row of numbers. -/
def Tab (w : World) (g : Nat) (bs : List Int) : Prop := Blk w g 3 (bs.map (Value.int .i64)).toArray
theorem Tab.cell {w : World} {g : Nat} {bs : List Int} (h : Tab w g bs) {i : Nat} {b : Int} (hb : bs[i]? = some b) : w.cell? ⟨g, i, none⟩ = some (.int .i64 b) := by
  rw [Blk.cell h]; simp [hb]
theorem Tab.frozen {w : World} {g : Nat} {bs : List Int} (h : Tab w g bs) (i : Nat) : w.frozen? ⟨g, i, none⟩ = false := Blk.frozen h i
theorem Tab.set_ {w : World} {g : Nat} {bs : List Int} (h : Tab w g bs) (i : Nat) (b : Int) : Tab (w.setCell ⟨g, i, none⟩ (.int .i64 b)) g (bs.set i b) := by
  have := Blk.set_ h i (.int .i64 b)
  unfold Tab
  rw [List.map_set]
  simpa using this
theorem Tab.drewN {w : World} {g : Nat} {bs : List Int} (h : Tab w g bs) (q : Nat) : Tab (w.drewN q) g bs := Blk.drewN h q
theorem Tab.made (w : World) (n : Nat) : Tab (w.alloc (.cells (madeCells #[.int .i64 0] n) 3)) w.heap.size (List.replicate n 0) := by
  have e : madeCells #[Value.int .i64 0] n = ((List.replicate n (0 : Int)).map (Value.int .i64)).toArray := by
    apply Array.ext'
    rw [toList_madeCells_one]
    simp
  unfold Tab
  rw [e]
  exact Blk.new _ _ _
theorem Tab.first (w : World) (n : Nat) : Tab (w.alloc (.cells ((madeCells #[.int .i64 0] (n + 1)).setIfInBounds 0 (.int .i64 (-1))) 3)) w.heap.size ((-1) :: List.replicate n 0) := by
  have e : (madeCells #[Value.int .i64 0] (n + 1)).setIfInBounds 0 (.int .i64 (-1)) = (((-1 : Int) :: List.replicate n (0 : Int)).map (Value.int .i64)).toArray := by
    apply Array.ext'
    rw [Array.toList_setIfInBounds, toList_madeCells_one]
    simp [List.replicate_succ]
  unfold Tab
  rw [e]
  exact Blk.new _ _ _
/-- The table of borders, in a row of the call's own. -/
def BordPost (N : List Int) (n : Nat) (w : World) (e : Ending) (w' : World) : Prop :=
  ∃ bs : List Int, e = .returned (.slice (some ⟨w.heap.size, 0, none⟩) (n + 1) (n + 1)) ∧ Tab w' w.heap.size bs ∧
    (∀ (j : Nat), j ≤ n → ∃ b, bs[j]? = some b ∧ IsB N j b) ∧ Below w.heap.size w w'
def plainF (x : Int) : Int := x
theorem plainF_any (x : Int) (w : World) (h0 : 0 ≤ x) (h1 : x ≤ 255) : Calls Try.prog 28 #[.int .u8 x] w fun e w' => e = .returned (.int .u8 (plainF x)) ∧ w' = w := plain_any x w
/-- The table so far: the borders up to i, noughts behind. -/
structure Bs (N : List Int) (n i : Nat) (bs : List Int) : Prop where
  len : bs.length = n + 1
  upto : ∀ j, j ≤ i → ∃ b, bs[j]? = some b ∧ IsB N j b
  behind : ∀ j, i < j → j ≤ n → bs[j]? = some 0
variable {N : List Int} {n i k : Nat} {bs : List Int}
theorem Bs.start (n : Nat) : Bs N n 0 ((-1) :: List.replicate n 0) :=
  ⟨by simp, fun j hj => by obtain rfl : j = 0 := by omega
                           exact ⟨-1, by simp, .inl ⟨rfl, rfl⟩⟩, fun j h1 h2 => by
    cases j with
    | zero => omega
    | succ j => rw [List.getElem?_cons_succ, List.getElem?_replicate, if_pos (by omega)]⟩
theorem Bs.hit (h : Bs N n i bs) (hi : i < n) (hk : Best N N (i + 1) (i + 1) (k + 1)) : Bs N n (i + 1) (bs.set (i + 1) ((k + 1 : Nat) : Int)) :=
  ⟨by rw [List.length_set]; exact h.len, fun j hj => by
    by_cases e : j = i + 1
    · subst e; exact ⟨_, by rw [List.getElem?_set_self (by rw [h.len]; omega)], isB_of_best hk⟩
    · obtain ⟨b, hb, hI⟩ := h.upto j (by omega)
      exact ⟨b, by rw [List.getElem?_set_ne (by omega)]; exact hb, hI⟩, fun j h1 h2 => by
    rw [List.getElem?_set_ne (by omega)]; exact h.behind j (by omega) h2⟩
theorem Bs.miss (h : Bs N n i bs) (hi : i < n) (hk : Best N N (i + 1) (i + 1) 0) : Bs N n (i + 1) bs :=
  ⟨h.len, fun j hj => by
    by_cases e : j = i + 1
    · subst e; exact ⟨0, h.behind _ (by omega) (by omega), isB_of_best hk⟩
    · exact h.upto j (by omega), fun j h1 h2 => h.behind j (by omega) h2⟩
theorem isB_lt {b : Int} (h : IsB N i b) : -1 ≤ b ∧ b < i := by
  rcases h with ⟨rfl, rfl⟩ | ⟨j, rfl, hj, _⟩ <;> omega
theorem cand_zero : Cand N N 0 0 (-1) := ⟨.inl rfl, fun j' h => by omega⟩
theorem cand_lt {T : List Int} {lim : Nat} {k : Int} (h : Cand T N i lim k) : -1 ≤ k ∧ k < lim ∨ k = -1 := by
  rcases h.1 with h | ⟨j, rfl, hj, _⟩
  · exact .inr h
  · exact .inl ⟨by omega, by omega⟩

set_option maxHeartbeats 2000000 in
theorem borders20 (s : ByteArray) (n : Nat) (w : World) (hs : s.size = n) (h0 : 0 < n) (h1 : n ≤ 400) :
    Calls Try.prog 37 #[.string s, .func (.func 28) #[] #[]] w (BordPost (bytesOf plainF s) n w) := by
  have hmk : ∀ w, (Instr.makeSlice 39 (.int .i64 ((n : Int) + 1)) (.int .i64 ((n : Int) + 1))).run Try.prog w = .ok (.slice (some ⟨w.heap.size, 0, none⟩) (n + 1) (n + 1)) (w.alloc (.cells (madeCells #[.int .i64 0] (n + 1)) 3)) :=
    run_make_row' (P := Try.prog) 39 3 (.int .i64 0) 8 Try.underlying39 Try.info3' rfl .i64 .i64 (n + 1) (by omega) (by omega)
  have hm0 : (madeCells #[Value.int IntKind.i64 0] (n + 1))[0]? = some (.int .i64 0) := by
    have := (Tab.made w (n + 1)).cell (i := 0) (b := 0) (by simp)
    rw [Blk.cell (Blk.new _ _ _)] at this
    exact this
  have hT := Tab.first w n
  have hN : (bytesOf plainF s).length = n := by rw [bytesOf_len, hs]
  have HN := hide hN
  clear hN
  go_enter Try.func37, Try.ntmps37
  go_wp2
  go_step3
  go_wp2
  go_step3
  go_wp2
  obtain ⟨w1, hw1⟩ : ∃ w1, w1 = w.alloc (.cells ((madeCells #[Value.int IntKind.i64 0] (n + 1)).setIfInBounds 0 (Value.int IntKind.i64 (-1))) 3) := ⟨_, rfl⟩
  have hb1 : Below w.heap.size w w1 := by rw [hw1]; exact (Below.refl _ _).alloc (Nat.le_refl _) _
  rw [← hw1] at hT
  simp only [← hw1]
  clear hw1 hmk hm0
  go_loopg [6, 7] n (fun g s6 s7 wr => ∃ (i : Nat) (k : Int) (bs : List Int), i + g = n ∧ s7 = .int .i64 i ∧ s6 = .int .i64 k ∧ Tab wr w.heap.size bs ∧ Hid (Bs (bytesOf plainF s) n i bs ∧ Cand (bytesOf plainF s) (bytesOf plainF s) i i k) ∧ Below w.heap.size w wr)
  case atStart => exact ⟨0, -1, _, by omega, rfl, rfl, hT, ⟨Bs.start n, cand_zero⟩, hb1⟩
  case round =>
    clear hT hb1
    obtain ⟨i, k, bs, hig, rfl, rfl, hT, HB, hb⟩ := hrel
    by_cases hlt : i < n
    · have hkl := cand_lt HB.out.2
      go_wp2
      go_loopg [6] (k + 1).toNat (fun g2 s6 wx => ∃ (k : Int), (k + 1).toNat = g2 ∧ s6 = .int .i64 k ∧ Hid (Cand (bytesOf plainF s) (bytesOf plainF s) i i k) ∧ Tab wx w.heap.size bs ∧ Below w.heap.size w wx)
      case atStart => exact ⟨k, rfl, rfl, HB.out.2, hT, hb⟩
      case round =>
        clear hkl hT hb
        obtain ⟨k, hk, rfl, HC, hT, hb⟩ := hrel
        have hkl := cand_lt HC.out
        by_cases hk0 : 0 ≤ k
        · obtain ⟨j, rfl⟩ : ∃ j : Nat, k = j := ⟨k.toNat, by omega⟩
          have hj : j < i := by omega
          have hjn : j < n := by omega
          have bi := byte_bounds s (i := i) (by omega)
          have bj := byte_bounds s (i := j) (by omega)
          have ei := hide (bytesOf_at plainF s (i := i) (by omega))
          have ej := hide (bytesOf_at plainF s (i := j) (by omega))
          by_cases heq : (plainF ((s[i]'(by omega)).toNat : Int) == plainF ((s[j]'(by omega)).toNat : Int)) = true
          · have hm : (bytesOf plainF s)[i]? = (bytesOf plainF s)[j]? := by rw [ei.out, ej.out, beq_iff_eq.1 heq]
            have hB := hide (best_hit HC.out (by rw [HN.out]; exact hlt) (by rw [HN.out]; omega) hm)
            clear hm
            obtain ⟨u, hu⟩ : ∃ u, bs[i + 1]? = some u := ⟨0, HB.out.1.behind _ (by omega) (by omega)⟩
            have c1 := hT.cell hu
            have c2 := hT.frozen (i + 1)
            go_wp2
            go_quiet ((go_at_call 28; exact Calls.quiet_of_same (plainF_any _ _ (by omega) (by omega))))
            go_wp2
            go_roundg (n - (i + 1))
            case measure => omega
            case rel => exact ⟨i + 1, ((j + 1 : Nat) : Int), bs.set (i + 1) ((j + 1 : Nat) : Int), by omega, by go_num, by go_num, by have := Tab.set_ (hT.drewN nq) (i + 1) ((j + 1 : Nat) : Int); simpa using this, ⟨HB.out.1.hit hlt hB.out, cand_of_best hB.out⟩, (below_drewN' hb nq).setCell (p := ⟨_, _, _⟩) (Nat.le_refl _) _⟩
          · rw [Bool.not_eq_true] at heq
            have hm : (bytesOf plainF s)[i]? ≠ (bytesOf plainF s)[j]? := by rw [ei.out, ej.out]; intro e; injection e with e; rw [e] at heq; simp at heq
            obtain ⟨b, hbj, hIB⟩ := HB.out.1.upto j (by omega)
            have hC := hide (cand_next HC.out hIB hm)
            have hlow := isB_lt hIB
            have c1 := hT.cell hbj
            clear hm hbj hIB
            go_wp2
            go_quiet ((go_at_call 28; exact Calls.quiet_of_same (plainF_any _ _ (by omega) (by omega))))
            go_wp2
            go_roundg (b + 1).toNat
            case measure => omega
            case rel => exact ⟨b, rfl, rfl, hC.out, hT.drewN nq, below_drewN' hb nq⟩
        · obtain rfl : k = -1 := by omega
          have hB := hide (best_miss HC.out (by rw [HN.out]; exact hlt))
          go_wp2
          go_roundg (n - (i + 1))
          case measure => omega
          case rel => exact ⟨i + 1, 0, bs, by omega, by go_num, rfl, hT, ⟨HB.out.1.miss hlt hB.out, cand_of_best hB.out⟩, hb⟩
    · obtain rfl : i = n := by omega
      have HP := hide (HB.out.1.upto)
      go_wp2
      try rw [Exit.noGoto_ret]
      go_ret
      exact ⟨bs, rfl, hT, HP.out, hb⟩

end Go.Proofs.Ytkcmpddefohkeaa
