/-
  The document's One, All and Waits, walked. No condition but bounds.
-/
import Derived.Test.YthbjjhoajecpcaaRBeg
namespace Go.Proofs.Ythbjjhoajecpcaa
open Go.RowKit Go.Proofs
set_option linter.unusedVariables false
theorem cutB_h {A : Option Addr} {n c k : Nat} (h : k ≤ c) (w : World) : (Instr.slice 22 (.slice A n c) none (some (.int .i64 (k : Int))) none).run Try.prog w = .ok (.slice A k c) w := by
  have := cut_h (P := Try.prog) (t := 22) (e := 5) (a := A) (len := n) (cap := c) (s := 1) Try.ub22 (by kernel_rfl) (H := (k : Int)) k rfl h w
  rw [cutA_zero] at this
  exact this
theorem is_num {l : List Int} (h : isB l = true) (hb : ∀ x ∈ l, IsByte x) : numberF l = numF l := by
  match l, h, hb with
  | [], h, _ => simp [isB] at h
  | [a], h, _ =>
    have h1 : sizeF a = 1 := by simpa [isB] using h
    show a = headF a
    unfold headF
    rw [if_neg (by omega), if_neg (by omega), if_neg (by omega)]
  | [a, b], h, _ =>
    have h1 : sizeF a = 2 ∧ inB a b = true := by simpa [isB] using h
    have h2 := size2.1 h1.1
    have h3 := inB_iff.1 h1.2
    rw [num2, if_neg (by omega), if_neg (by omega)]
    show _ = headF a * 64 + (b - 128)
    unfold headF
    rw [if_pos h1.1]
    omega
  | [a, b, c], h, _ =>
    have h1 : (sizeF a = 3 ∧ inB a b = true) ∧ tailB c = true := by simpa [isB] using h
    have h2 := size3.1 h1.1.1
    have h3 := inB_iff.1 h1.1.2
    have h4 := tailB_iff.1 h1.2
    rw [num3, if_neg (by omega), if_neg (by omega), if_neg (by omega)]
    show _ = (headF a * 64 + (b - 128)) * 64 + (c - 128)
    unfold headF
    rw [if_neg (by omega), if_pos h1.1.1]
    omega
  | [a, b, c, d], h, _ =>
    have h1 : ((sizeF a = 4 ∧ inB a b = true) ∧ tailB c = true) ∧ tailB d = true := by simpa [isB] using h
    have h2 := size4.1 h1.1.1.1
    have h3 := inB_iff.1 h1.1.1.2
    have h4 := tailB_iff.1 h1.1.2
    have h5 := tailB_iff.1 h1.2
    rw [num4, if_neg (by omega), if_neg (by omega), if_neg (by omega), if_neg (by omega)]
    show _ = ((headF a * 64 + (b - 128)) * 64 + (c - 128)) * 64 + (d - 128)
    unfold headF
    rw [if_neg (by omega), if_neg (by omega), if_pos h1.1.1.1]
    omega
  | _ :: _ :: _ :: _ :: _ :: _, h, _ => simp [isB] at h
/-- Beginnings that are no scalar's. -/
def NoIs (l : List Int) (k : Nat) : Prop := ∀ j, 1 ≤ j → j < k → isB (l.take j) = false
theorem noIs_step {l : List Int} {k : Nat} (h : NoIs l k) (hk : isB (l.take k) = false) : NoIs l (k + 1) := by
  intro j h1 h2
  rcases Nat.lt_or_ge j k with h3 | h3
  · exact h j h1 h3
  · obtain rfl : j = k := by omega
    exact hk
theorem whole_at {l : List Int} {k : Nat} (h : NoIs l k) (h1 : 1 ≤ k) (h4 : k ≤ 4) (hk : isB (l.take k) = true) : wholeN l = k := by
  have : k = 1 ∨ k = 2 ∨ k = 3 ∨ k = 4 := by omega
  unfold wholeN
  rcases this with rfl | rfl | rfl | rfl
  · rw [if_pos hk]
  · rw [if_neg (by rw [h 1 (by omega) (by omega)]; simp), if_pos hk]
  · rw [if_neg (by rw [h 1 (by omega) (by omega)]; simp), if_neg (by rw [h 2 (by omega) (by omega)]; simp), if_pos hk]
  · rw [if_neg (by rw [h 1 (by omega) (by omega)]; simp), if_neg (by rw [h 2 (by omega) (by omega)]; simp), if_neg (by rw [h 3 (by omega) (by omega)]; simp), if_pos hk]
theorem whole_none {l : List Int} {k : Nat} (h : NoIs l k) (h1 : 1 ≤ k) (hk : 4 < k ∨ l.length < k) (hl : 0 < l.length) : wholeN l = 0 := by
  have hj : ∀ j, 1 ≤ j → j ≤ 4 → isB (l.take j) = false := by
    intro j h2 h3
    rcases Nat.lt_or_ge j k with h5 | h5
    · exact h j h2 h5
    · have h6 : l.length < k := by omega
      have := h l.length hl (by omega)
      rw [List.take_length] at this
      rw [List.take_of_length_le (by omega)]
      exact this
  unfold wholeN
  rw [if_neg (by rw [hj 1 (by omega) (by omega)]; simp), if_neg (by rw [hj 2 (by omega) (by omega)]; simp), if_neg (by rw [hj 3 (by omega) (by omega)]; simp), if_neg (by rw [hj 4 (by omega) (by omega)]; simp)]
/-- The most that begins, of fewer than k. -/
def begTo (l : List Int) : Nat → Nat
  | 0 => 1
  | k + 1 => if k + 1 ≤ l.length ∧ begB (l.take (k + 1)) = true then k + 1 else begTo l k
theorem begTo_le (l : List Int) : ∀ k, 1 ≤ begTo l k ∧ begTo l k ≤ max k 1
  | 0 => ⟨Nat.le_refl _, by simp [begTo]⟩
  | k + 1 => by
    have := begTo_le l k
    unfold begTo
    split <;> omega
theorem begTo_more (l : List Int) {k : Nat} (h : l.length ≤ k) : begTo l (k + 1) = begTo l k := by
  show (if k + 1 ≤ l.length ∧ _ then _ else _) = _
  rw [if_neg (by omega)]
theorem begN_to {l : List Int} (hl : 0 < l.length) : begN l = begTo l 3 := by
  unfold begN
  have e3 : begTo l 3 = if 3 ≤ l.length ∧ begB (l.take 3) = true then 3 else begTo l 2 := rfl
  have e2 : begTo l 2 = if 2 ≤ l.length ∧ begB (l.take 2) = true then 2 else begTo l 1 := rfl
  have e1 : begTo l 1 = 1 := by show (if 1 ≤ l.length ∧ begB (l.take 1) = true then 1 else 1) = 1; split <;> rfl
  rw [e3, e2, e1]
  by_cases h3 : 3 ≤ l.length
  · have t3 : (l.take 3).length = 3 := by simp; omega
    have t2 : (l.take 2).length = 2 := by simp; omega
    have h2 : 2 ≤ l.length := by omega
    rw [t3, t2]
    cases begB (l.take 3) <;> cases begB (l.take 2) <;> simp [h3, h2]
  · by_cases h2 : 2 ≤ l.length
    · have e : l.take 3 = l.take 2 := by rw [List.take_of_length_le (by omega), List.take_of_length_le (by omega)]
      have t2 : (l.take 2).length = 2 := by simp; omega
      rw [e, t2]
      cases begB (l.take 2) <;> simp [h3, h2]
    · have e3 : l.take 3 = l := List.take_of_length_le (by omega)
      have e2 : l.take 2 = l := List.take_of_length_le (by omega)
      have e : l.length = 1 := by omega
      rw [e3, e2, e]
      cases begB l <;> simp
/-- What stands there, and how many bytes it has, handed back. -/
def OnePost (x : Int) (k : Nat) (w : World) (e : Ending) (w' : World) : Prop := e = .returned (.tuple #[.int .i32 x, .int .i64 (k : Int)]) ∧ Below w.heap.size w w'
set_option maxRecDepth 100000 in
set_option maxHeartbeats 4000000 in
theorem one_any (l : List Int) (A : Option Addr) (n c B : Nat) (w : World) (hl : Rd w B 1 A n (l.map b8)) (hB : B ≤ w.heap.size) (hq : ∀ x ∈ l, IsByte x) (hn0 : 1 ≤ n) (hn : n ≤ 1000000) (hc : n ≤ c) :
    Calls Try.prog 40 #[.slice A n c] w (OnePost (oneF l).1 (oneF l).2 w) := by
  have HL := hide hl.len1
  have hl0 := hide (hl.more hB)
  have HT := hide (fun (k : Nat) (x : Int) (h : x ∈ l.take k) => hq x (List.mem_of_mem_take h))
  have RT := hide (fun (k : Nat) (W : World) (hk : k ≤ n) (hW : Below w.heap.size w W) => show Rd W W.heap.size 1 A k ((l.take k).map b8) by
    have := ((hl.more hB).below hW).front hk
    rw [Nat.mul_one, ← List.map_take] at this
    exact this.more hW.size)
  have IS := hide (fun (k : Nat) (W : World) (hk : k ≤ n) (hk4 : k ≤ 4) (hW : Below w.heap.size w W) => is_any (l.take k) A k c W.heap.size W (RT.out k W hk hW) (Nat.le_refl _) (HT.out k) hk4)
  have NU := hide (fun (k : Nat) (W : World) (hk : k ≤ n) (hk4 : k ≤ 4) (hW : Below w.heap.size w W) => rnumber_any (l.take k) A k c W.heap.size W (RT.out k W hk hW) (Nat.le_refl _) (HT.out k) hk4)
  have BE := hide (fun (k : Nat) (W : World) (hk1 : 1 ≤ k) (hk : k ≤ n) (hk4 : k ≤ 4) (hW : Below w.heap.size w W) => begins_any (l.take k) A k c W.heap.size W (RT.out k W hk hW) (Nat.le_refl _) (HT.out k) hk1 hk4)
  have CU := hide (fun (k : Nat) (hk : k ≤ n) (W : World) => cutB_h (A := A) (n := n) (c := c) (k := k) (by omega) W)
  have HN := hide (show ∀ k, 1 ≤ k → k ≤ 4 → isB (l.take k) = true → numberF (l.take k) = numF (l.take k) from fun k h1 h4 h => is_num h (fun x hx => hq x (List.mem_of_mem_take hx)))
  clear hl hq
  go_enter Try.func40, Try.ntmps40
  go_wp2
  go_loopg [4] 5 (fun g s4 wr => ∃ k : Nat, k + g = 6 ∧ 1 ≤ k ∧ k ≤ 5 ∧ s4 = .int .i64 k ∧ Hid (NoIs l k) ∧ Hid (Below w.heap.size w wr))
  case atStart => exact ⟨1, by omega, by omega, by omega, rfl, (fun j h1 h2 => by omega), Below.refl _ _⟩
  case round =>
    obtain ⟨k, hkg, hk1, hk5, rfl, HI, HW⟩ := hrel
    by_cases hk4 : k ≤ 4
    · have d1 : decide ((k : Int) ≤ 4) = true := by simp; omega
      by_cases hkn : k ≤ n
      · have d2 : decide (k ≤ n) = true := by simpa using hkn
        have cu := CU.out k hkn
        cases hb : isB (l.take k) with
        | true =>
          have IS1 := IS.out k wr hkn hk4 HW.out
          rw [hb] at IS1
          have IS1 := hide IS1
          have HO := hide (show oneF l = (numberF (l.take k), k) by
            have hw := whole_at HI.out hk1 hk4 hb
            unfold oneF
            rw [hw, if_neg (by omega), HN.out k hk1 hk4 hb])
          obtain ⟨x, hx⟩ : ∃ x, numberF (l.take k) = x := ⟨_, rfl⟩
          have NU1 := fun (W : World) (hW : Below w.heap.size w W) => NU.out k W hkn hk4 hW
          rw [hx] at HO NU1
          have NU1 := hide NU1
          clear hb hx
          go_wp2_with (first | (go_at_call 50; go_must (refine (IS1.out).mono ?_; rintro e w1 ⟨rfl, b1⟩; have b1 := hide (HW.out.trans (b1.mono HW.out.size)))) | (go_at_call 51; go_must (refine (NU1.out _ b1.out).mono ?_; rintro e w2 ⟨rfl, b2⟩)))
          go_ret2
          rw [HO.out]
          exact ⟨rfl, b1.out.trans (b2.mono b1.out.size)⟩
        | false =>
          have IS1 := IS.out k wr hkn hk4 HW.out
          rw [hb] at IS1
          have IS1 := hide IS1
          have HI2 := hide (noIs_step HI.out hb)
          clear hb
          go_wp2_with (go_at_call 50; go_must (refine (IS1.out).mono ?_; rintro e w1 ⟨rfl, b1⟩; have b1 := hide (HW.out.trans (b1.mono HW.out.size))))
          go_roundg (6 - (k + 1))
          case measure => omega
          case rel => exact ⟨k + 1, by omega, by omega, by omega, by go_num, HI2.out, b1.out⟩
      · have d2 : decide (k ≤ n) = false := by simpa using hkn
        have HO := hide (show oneF l = (65533, begTo l 3) by
          have hl := HL.out
          unfold oneF
          rw [whole_none HI.out hk1 (.inr (by omega)) (by omega), if_pos rfl, begN_to (by omega)])
        go_wp2
        go_loopg [5, 6] 3 (fun g s5 s6 wr => ∃ k : Nat, k + g = 4 ∧ 1 ≤ k ∧ k ≤ 4 ∧ s6 = .int .i64 k ∧ s5 = .int .i64 (begTo l (k - 1)) ∧ Hid (Below w.heap.size w wr))
        case atStart => exact ⟨1, by omega, by omega, by omega, rfl, rfl, HW.out⟩
        case round =>
          clear hkg hk1 hk5 HI HW
          obtain ⟨k, hkg, hk1, hk5, rfl, rfl, HW⟩ := hrel
          by_cases hk3 : k ≤ 3
          · have d1 : decide ((k : Int) ≤ 3) = true := by simp; omega
            by_cases hkn : k ≤ n
            · have d2 : decide (k ≤ n) = true := by simpa using hkn
              have cu := CU.out k hkn
              have BE1 := BE.out k wr hk1 hkn (by omega) HW.out
              have hle := begTo_le l (k - 1)
              obtain ⟨b, hb⟩ : ∃ b, begB (l.take k) = b := ⟨_, rfl⟩
              rw [hb] at BE1
              have BE1 := hide BE1
              obtain ⟨m, hm⟩ : ∃ m, begTo l (k - 1) = m := ⟨_, rfl⟩
              rw [hm]
              have HM := hide (show begTo l k = if b = true then k else m by
                obtain ⟨j, rfl⟩ : ∃ j, k = j + 1 := ⟨k - 1, by omega⟩
                have hlen := HL.out
                show (if j + 1 ≤ l.length ∧ _ then _ else begTo l j) = _
                rw [hb, show begTo l j = m from hm]
                by_cases hbt : b = true
                · rw [if_pos ⟨by omega, hbt⟩, if_pos hbt]
                · rw [if_neg (fun h => hbt h.2), if_neg hbt])
              clear hb hm hle
              cases b with
              | true =>
                have HM := hide (show begTo l k = k from HM.out)
                go_wp2_with (go_at_call 41; go_must (refine (BE1.out).mono ?_; rintro e w1 ⟨rfl, b1⟩; have b1 := hide (HW.out.trans (b1.mono HW.out.size))))
                go_roundg (4 - (k + 1))
                case measure => omega
                case rel => exact ⟨k + 1, by omega, by omega, by omega, by go_num, by (rw [Nat.add_sub_cancel, HM.out]; first | done | simp), b1.out⟩
              | false =>
                have HM := hide (show begTo l k = m from HM.out)
                go_wp2_with (go_at_call 41; go_must (refine (BE1.out).mono ?_; rintro e w1 ⟨rfl, b1⟩; have b1 := hide (HW.out.trans (b1.mono HW.out.size))))
                go_roundg (4 - (k + 1))
                case measure => omega
                case rel => exact ⟨k + 1, by omega, by omega, by omega, by go_num, by (rw [Nat.add_sub_cancel, HM.out]; first | done | simp), b1.out⟩
            · have d2 : decide (k ≤ n) = false := by simpa using hkn
              have HM := hide (show begTo l 3 = begTo l (k - 1) by
                have hlen := HL.out
                have : k = 2 ∨ k = 3 := by omega
                rcases this with rfl | rfl
                · show begTo l (2 + 1) = begTo l 1; rw [begTo_more l (by omega), begTo_more l (k := 1) (by omega)]
                · show begTo l (2 + 1) = begTo l 2; rw [begTo_more l (by omega)])
              obtain ⟨m, hm⟩ : ∃ m, begTo l (k - 1) = m := ⟨_, rfl⟩
              rw [hm] at HM ⊢
              clear hm
              go_wp2
              go_ret2
              rw [HO.out, HM.out]
              exact ⟨rfl, HW.out⟩
          · obtain rfl : k = 4 := by omega
            obtain ⟨m, hm⟩ : ∃ m, begTo l (4 - 1) = m := ⟨_, rfl⟩
            have HM := hide (show begTo l 3 = m from hm)
            rw [hm]
            clear hm
            go_wp2
            go_ret2
            rw [HO.out, HM.out]
            exact ⟨rfl, HW.out⟩
    · have d1 : decide ((k : Int) ≤ 4) = false := by simp; omega
      have HO := hide (show oneF l = (65533, begTo l 3) by
        have hl := HL.out
        unfold oneF
        rw [whole_none HI.out hk1 (.inl (by omega)) (by omega), if_pos rfl, begN_to (by omega)])
      go_wp2
      go_loopg [5, 6] 3 (fun g s5 s6 wr => ∃ k : Nat, k + g = 4 ∧ 1 ≤ k ∧ k ≤ 4 ∧ s6 = .int .i64 k ∧ s5 = .int .i64 (begTo l (k - 1)) ∧ Hid (Below w.heap.size w wr))
      case atStart => exact ⟨1, by omega, by omega, by omega, rfl, rfl, HW.out⟩
      case round =>
        clear hkg hk1 hk5 HI HW
        obtain ⟨k, hkg, hk1, hk5, rfl, rfl, HW⟩ := hrel
        by_cases hk3 : k ≤ 3
        · have d1 : decide ((k : Int) ≤ 3) = true := by simp; omega
          by_cases hkn : k ≤ n
          · have d2 : decide (k ≤ n) = true := by simpa using hkn
            have cu := CU.out k hkn
            have BE1 := BE.out k wr hk1 hkn (by omega) HW.out
            have hle := begTo_le l (k - 1)
            obtain ⟨b, hb⟩ : ∃ b, begB (l.take k) = b := ⟨_, rfl⟩
            rw [hb] at BE1
            have BE1 := hide BE1
            obtain ⟨m, hm⟩ : ∃ m, begTo l (k - 1) = m := ⟨_, rfl⟩
            rw [hm]
            have HM := hide (show begTo l k = if b = true then k else m by
              obtain ⟨j, rfl⟩ : ∃ j, k = j + 1 := ⟨k - 1, by omega⟩
              have hlen := HL.out
              show (if j + 1 ≤ l.length ∧ _ then _ else begTo l j) = _
              rw [hb, show begTo l j = m from hm]
              by_cases hbt : b = true
              · rw [if_pos ⟨by omega, hbt⟩, if_pos hbt]
              · rw [if_neg (fun h => hbt h.2), if_neg hbt])
            clear hb hm hle
            cases b with
            | true =>
              have HM := hide (show begTo l k = k from HM.out)
              go_wp2_with (go_at_call 41; go_must (refine (BE1.out).mono ?_; rintro e w1 ⟨rfl, b1⟩; have b1 := hide (HW.out.trans (b1.mono HW.out.size))))
              go_roundg (4 - (k + 1))
              case measure => omega
              case rel => exact ⟨k + 1, by omega, by omega, by omega, by go_num, by (rw [Nat.add_sub_cancel, HM.out]; first | done | simp), b1.out⟩
            | false =>
              have HM := hide (show begTo l k = m from HM.out)
              go_wp2_with (go_at_call 41; go_must (refine (BE1.out).mono ?_; rintro e w1 ⟨rfl, b1⟩; have b1 := hide (HW.out.trans (b1.mono HW.out.size))))
              go_roundg (4 - (k + 1))
              case measure => omega
              case rel => exact ⟨k + 1, by omega, by omega, by omega, by go_num, by (rw [Nat.add_sub_cancel, HM.out]; first | done | simp), b1.out⟩
          · have d2 : decide (k ≤ n) = false := by simpa using hkn
            have HM := hide (show begTo l 3 = begTo l (k - 1) by
              have hlen := HL.out
              have : k = 2 ∨ k = 3 := by omega
              rcases this with rfl | rfl
              · show begTo l (2 + 1) = begTo l 1; rw [begTo_more l (by omega), begTo_more l (k := 1) (by omega)]
              · show begTo l (2 + 1) = begTo l 2; rw [begTo_more l (by omega)])
            obtain ⟨m, hm⟩ : ∃ m, begTo l (k - 1) = m := ⟨_, rfl⟩
            rw [hm] at HM ⊢
            clear hm
            go_wp2
            go_ret2
            rw [HO.out, HM.out]
            exact ⟨rfl, HW.out⟩
        · obtain rfl : k = 4 := by omega
          obtain ⟨m, hm⟩ : ∃ m, begTo l (4 - 1) = m := ⟨_, rfl⟩
          have HM := hide (show begTo l 3 = m from hm)
          rw [hm]
          clear hm
          go_wp2
          go_ret2
          rw [HO.out, HM.out]
          exact ⟨rfl, HW.out⟩
end Go.Proofs.Ythbjjhoajecpcaa
