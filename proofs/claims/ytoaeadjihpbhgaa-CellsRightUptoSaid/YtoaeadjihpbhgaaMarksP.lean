/-
  The plain law of marks: bytes in which nothing wrong is read are those of what is read. No program in sight.
-/
import Derived.Test.YtoaeadjihpbhgaaPlain2
import Derived.Test.YtoaeadjihpbhgaaWid
namespace Go.Proofs.Ytoaeadjihpbhgaa
open Go.RowKit
set_option linter.unusedVariables false
theorem put_num {s : List Int} (h : isB s = true) (hq : ∀ x ∈ s, IsByte x) : putF (numF s) = s := by
  match s, h, hq with
  | [], h, _ => simp [isB] at h
  | [a], h, hq =>
    have ha := hq a (by simp)
    simp only [isB, decide_eq_true_eq] at h
    unfold IsByte at ha
    have h1 : a < 128 := by unfold sizeF at h; (repeat' split at h) <;> omega
    have e : numF [a] = a := by simp [numF, headF, h]
    rw [e, put1 (by omega)]
  | [a, b], h, hq =>
    simp only [isB, Bool.and_eq_true, decide_eq_true_eq] at h
    obtain ⟨h, hb⟩ := h
    have h1 : 194 ≤ a ∧ a < 224 := by unfold sizeF at h; (repeat' split at h) <;> omega
    have hb2 : 128 ≤ b ∧ b ≤ 191 := by
      unfold inB loF hiF at hb
      rw [if_neg (by omega), if_neg (by omega), if_neg (by omega), if_neg (by omega)] at hb
      simpa using hb
    have e : numF [a, b] = (a - 192) * 64 + (b - 128) := by simp [numF, headF, h]
    rw [e, put2 (by omega)]
    congr 1
    · omega
    · congr 1; omega
  | [a, b, c], h, hq =>
    simp only [isB, Bool.and_eq_true, decide_eq_true_eq] at h
    obtain ⟨⟨h, hb⟩, hc⟩ := h
    have h1 : 224 ≤ a ∧ a < 240 := by unfold sizeF at h; (repeat' split at h) <;> omega
    have hb2 : 128 ≤ b ∧ b ≤ 191 ∧ (a = 224 → 160 ≤ b) ∧ (a = 237 → b ≤ 159) := by
      unfold inB loF hiF at hb
      simp only [Bool.and_eq_true, decide_eq_true_eq] at hb
      by_cases e1 : a = 224
      · rw [if_pos e1, if_neg (by omega), if_neg (by omega)] at hb; omega
      · by_cases e2 : a = 237
        · rw [if_neg e1, if_neg (by omega), if_pos e2] at hb; omega
        · rw [if_neg e1, if_neg (by omega), if_neg e2, if_neg (by omega)] at hb; omega
    have hc2 : 128 ≤ c ∧ c ≤ 191 := by unfold tailB at hc; simpa using hc
    have e : numF [a, b, c] = ((a - 224) * 64 + (b - 128)) * 64 + (c - 128) := by simp [numF, headF, h]
    rw [e, put3 (by omega) (by omega)]
    congr 1
    · omega
    · congr 1
      · omega
      · congr 1; omega
  | [a, b, c, d], h, hq =>
    simp only [isB, Bool.and_eq_true, decide_eq_true_eq] at h
    obtain ⟨⟨⟨h, hb⟩, hc⟩, hd⟩ := h
    have h1 : 240 ≤ a ∧ a ≤ 244 := by unfold sizeF at h; (repeat' split at h) <;> omega
    have hb2 : 128 ≤ b ∧ b ≤ 191 ∧ (a = 240 → 144 ≤ b) ∧ (a = 244 → b ≤ 143) := by
      unfold inB loF hiF at hb
      simp only [Bool.and_eq_true, decide_eq_true_eq] at hb
      by_cases e1 : a = 240
      · rw [if_neg (by omega), if_pos e1, if_neg (by omega), if_neg (by omega)] at hb; omega
      · by_cases e2 : a = 244
        · rw [if_neg (by omega), if_neg e1, if_neg (by omega), if_pos e2] at hb; omega
        · rw [if_neg (by omega), if_neg e1, if_neg (by omega), if_neg e2] at hb; omega
    have hc2 : 128 ≤ c ∧ c ≤ 191 := by unfold tailB at hc; simpa using hc
    have hd2 : 128 ≤ d ∧ d ≤ 191 := by unfold tailB at hd; simpa using hd
    have e : numF [a, b, c, d] = (((a - 240) * 64 + (b - 128)) * 64 + (c - 128)) * 64 + (d - 128) := by simp [numF, headF, h]
    rw [e, put4 (by omega)]
    congr 1
    · omega
    · congr 1
      · omega
      · congr 1
        · omega
        · congr 1; omega
  | _ :: _ :: _ :: _ :: _ :: _, h, _ => simp [isB] at h
theorem whole_is {b : List Int} (h : wholeN b ≠ 0) : isB (b.take (wholeN b)) = true := by
  unfold wholeN at h ⊢
  split
  · assumption
  · split
    · assumption
    · split
      · assumption
      · split
        · assumption
        · rename_i h1 h2 h3 h4; simp [h1, h2, h3, h4] at h
theorem back_all : ∀ (k : Nat) (b : List Int), b.length ≤ k → (∀ x ∈ b, IsByte x) → (∀ r ∈ allF b, r ≠ 65533) → (allF b).flatMap putF = b
  | _, [], _, _, _ => rfl
  | 0, x :: b, h, _, _ => by simp at h
  | k + 1, x :: b, hk, hq, hr => by
    rw [allF_cons (x :: b) (by simp)] at hr ⊢
    have hw : wholeN (x :: b) ≠ 0 := by
      intro h0
      refine hr (oneF (x :: b)).1 (by simp) ?_
      unfold oneF; rw [if_pos h0]
    have e1 : oneF (x :: b) = (numF ((x :: b).take (wholeN (x :: b))), wholeN (x :: b)) := by unfold oneF; rw [if_neg hw]
    rw [e1] at hr ⊢
    have hd := drop_one_le x b
    rw [e1] at hd
    rw [List.flatMap_cons, put_num (whole_is hw) (fun y hy => hq y (List.mem_of_mem_take hy)),
      back_all k _ (by simp at hk hd ⊢; omega) (fun y hy => hq y (List.mem_of_mem_drop hy)) (fun r hr' => hr r (List.mem_cons_of_mem _ hr')), List.take_append_drop]
theorem wid_wrong : widOf 65533 = 1 := by decide +kernel
theorem back_marks {b : List Int} (hq : ∀ x ∈ b, IsByte x) (h : ∀ r ∈ allF b, widOf r = 0) : (allF b).flatMap putF = b :=
  back_all b.length b (Nat.le_refl _) hq (fun r hr e => by have := h r hr; rw [e, wid_wrong] at this; omega)
/-- A string's bytes as numbers. -/
def numsOf (s : ByteArray) : List Int := s.data.toList.map (fun b => (b.toNat : Int))
theorem numsOf_len (s : ByteArray) : (numsOf s).length = s.size := by unfold numsOf; rw [List.length_map, Array.length_toList]; rfl
theorem numsOf_byte (s : ByteArray) : ∀ x ∈ numsOf s, IsByte x := by
  intro x hx
  obtain ⟨b, _, rfl⟩ := List.mem_map.1 hx
  have := b.toNat_lt
  unfold IsByte
  omega
theorem str_nums (s : ByteArray) : strOfNums (numsOf s) = s := by
  unfold strOfNums numsOf
  rw [List.map_map]
  have : ((fun n : Int => UInt8.ofNat n.toNat) ∘ fun b : UInt8 => (b.toNat : Int)) = id := by
    funext b
    show UInt8.ofNat (Int.toNat (b.toNat : Int)) = b
    rw [Int.toNat_natCast]; exact UInt8.ofNat_toNat
  rw [this, List.map_id]
/-- Is a text marks? -/
def marksB (s : ByteArray) : Bool := decide (s.size ≤ 32) && (allF (numsOf s)).all (fun r => decide (widOf r = 0))
theorem marks_no {s : ByteArray} (h : 32 < s.size) : marksB s = false := by unfold marksB; simp; omega
theorem marks_wid {s : ByteArray} {r : Int} (hr : r ∈ allF (numsOf s)) (h : widOf r ≠ 0) : marksB s = false := by
  unfold marksB
  rw [Bool.and_eq_false_iff]
  right
  rw [← Bool.not_eq_true, List.all_eq_true]
  intro h2
  exact h (by simpa using h2 r hr)
theorem marks_yes {s : ByteArray} (h0 : s.size ≤ 32) (h : ∀ r ∈ allF (numsOf s), widOf r = 0) : marksB s = true := by
  unfold marksB
  rw [Bool.and_eq_true, List.all_eq_true]
  exact ⟨by simpa using h0, fun r hr => by simpa using h r hr⟩
end Go.Proofs.Ytoaeadjihpbhgaa
