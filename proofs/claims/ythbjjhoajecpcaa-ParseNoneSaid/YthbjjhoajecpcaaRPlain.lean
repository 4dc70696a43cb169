/-
  The plain law of the document's Is and Begins: what they say is what a scalar's bytes, and their beginnings, are. No program in sight.
-/
import Derived.Test.YthbjjhoajecpcaaRPut
namespace Go.Proofs.Ythbjjhoajecpcaa
set_option linter.unusedVariables false
theorem scalarB_mk {r : Int} (h0 : 0 ≤ r) (h1 : r ≤ 1114111) (h : r < 55296 ∨ 57343 < r) : scalarB r = true := by
  unfold scalarB
  simp
  omega
theorem scalarB_no {r : Int} (h : r < 0 ∨ 1114111 < r ∨ (55296 ≤ r ∧ r ≤ 57343)) : scalarB r = false := by
  unfold scalarB
  simp
  omega
theorem put0 {r : Int} (h : r < 0 ∨ 1114111 < r ∨ (55296 ≤ r ∧ r ≤ 57343)) : putF r = [] := by unfold putF; rw [if_pos (scalarB_no h)]
theorem put1 {r : Int} (h : 0 ≤ r ∧ r ≤ 127) : putF r = [r] := by
  unfold putF; rw [if_neg (by rw [scalarB_mk (by omega) (by omega) (by omega)]; simp), if_pos h.2]
theorem put2 {r : Int} (h : 128 ≤ r ∧ r ≤ 2047) : putF r = [192 + r / 64, 128 + r % 64] := by
  unfold putF; rw [if_neg (by rw [scalarB_mk (by omega) (by omega) (by omega)]; simp), if_neg (by omega), if_pos h.2]
theorem put3 {r : Int} (h : 2048 ≤ r ∧ r ≤ 65535) (h2 : r < 55296 ∨ 57343 < r) : putF r = [224 + r / 64 / 64, 128 + r / 64 % 64, 128 + r % 64] := by
  unfold putF; rw [if_neg (by rw [scalarB_mk (by omega) (by omega) (by omega)]; simp), if_neg (by omega), if_neg (by omega), if_pos h.2]
theorem put4 {r : Int} (h : 65536 ≤ r ∧ r ≤ 1114111) : putF r = [240 + r / 64 / 64 / 64, 128 + r / 64 / 64 % 64, 128 + r / 64 % 64, 128 + r % 64] := by
  unfold putF; rw [if_neg (by rw [scalarB_mk (by omega) (by omega) (by omega)]; simp), if_neg (by omega), if_neg (by omega), if_neg (by omega)]
theorem num2 (a b : Int) : numberF [a, b] = if a - 192 < 0 ∨ 32 ≤ a - 192 then -1 else if b < 128 ∨ 191 < b then -1 else 64 * (a - 192) + b - 128 := rfl
theorem num3 (a b c : Int) : numberF [a, b, c] = if a - 224 < 0 ∨ 16 ≤ a - 224 then -1 else if b < 128 ∨ 191 < b then -1 else if c < 128 ∨ 191 < c then -1 else 64 * (64 * (a - 224) + b - 128) + c - 128 := rfl
theorem num4 (a b c d : Int) : numberF [a, b, c, d] = if a - 240 < 0 ∨ 8 ≤ a - 240 then -1 else if b < 128 ∨ 191 < b then -1 else if c < 128 ∨ 191 < c then -1 else if d < 128 ∨ 191 < d then -1 else 64 * (64 * (64 * (a - 240) + b - 128) + c - 128) + d - 128 := rfl
theorem size1 {a : Int} : sizeF a = 1 ↔ a < 128 := by unfold sizeF; (repeat' split) <;> omega
theorem size2 {a : Int} : sizeF a = 2 ↔ 194 ≤ a ∧ a < 224 := by unfold sizeF; (repeat' split) <;> omega
theorem size3 {a : Int} : sizeF a = 3 ↔ 224 ≤ a ∧ a < 240 := by unfold sizeF; (repeat' split) <;> omega
theorem size4 {a : Int} : sizeF a = 4 ↔ 240 ≤ a ∧ a ≤ 244 := by unfold sizeF; (repeat' split) <;> omega
theorem size_ge2 {a : Int} : 2 ≤ sizeF a ↔ 194 ≤ a ∧ a ≤ 244 := by unfold sizeF; (repeat' split) <;> omega
theorem size_ge3 {a : Int} : 3 ≤ sizeF a ↔ 224 ≤ a ∧ a ≤ 244 := by unfold sizeF; (repeat' split) <;> omega
theorem size_ge4 {a : Int} : 4 ≤ sizeF a ↔ 240 ≤ a ∧ a ≤ 244 := by unfold sizeF; (repeat' split) <;> omega
theorem inB_iff {a b : Int} : inB a b = true ↔ ((a = 224 → 160 ≤ b) ∧ (a = 240 → 144 ≤ b) ∧ 128 ≤ b) ∧ ((a = 237 → b ≤ 159) ∧ (a = 244 → b ≤ 143) ∧ b ≤ 191) := by
  unfold inB loF hiF
  rw [Bool.and_eq_true, decide_eq_true_iff, decide_eq_true_iff]
  (repeat' split) <;> omega
theorem tailB_iff {c : Int} : tailB c = true ↔ 128 ≤ c ∧ c ≤ 191 := by unfold tailB; simp
/-- Is. -/
theorem is_spec (l : List Int) (hl : l.length ≤ 4) (hb : ∀ x ∈ l, IsByte x) : (0 ≤ numberF l ∧ putF (numberF l) = l) ↔ isB l = true := by
  match l, hl, hb with
  | [], _, _ => simp [numberF, isB]
  | [a], _, hb =>
    have h := hb a (by simp)
    unfold IsByte at h
    show (0 ≤ a ∧ putF a = [a]) ↔ decide (sizeF a = 1) = true
    rw [decide_eq_true_iff, size1]
    by_cases h1 : a < 128
    · rw [put1 ⟨h.1, by omega⟩]; exact ⟨fun _ => h1, fun _ => ⟨h.1, rfl⟩⟩
    · rw [put2 ⟨by omega, by omega⟩]; simp; omega
  | [a, b], _, hb =>
    have h := hb a (by simp)
    have h2 := hb b (by simp)
    unfold IsByte at h h2
    have e : isB [a, b] = true ↔ (194 ≤ a ∧ a < 224) ∧ 128 ≤ b ∧ b ≤ 191 := by
      show (decide (sizeF a = 2) && inB a b) = true ↔ _
      rw [Bool.and_eq_true, decide_eq_true_iff, size2, inB_iff]
      omega
    rw [e, num2]
    by_cases c1 : a - 192 < 0 ∨ 32 ≤ a - 192
    · rw [if_pos c1]; exact ⟨fun h => by omega, fun h => by omega⟩
    · rw [if_neg c1]
      by_cases c2 : b < 128 ∨ 191 < b
      · rw [if_pos c2]; exact ⟨fun h => by omega, fun h => by omega⟩
      · rw [if_neg c2]
        by_cases c3 : a < 194
        · rw [put1 ⟨by omega, by omega⟩]; simp; omega
        · rw [put2 ⟨by omega, by omega⟩]; simp; omega
  | [a, b, c], _, hb =>
    have h := hb a (by simp)
    have h2 := hb b (by simp)
    have h3 := hb c (by simp)
    unfold IsByte at h h2 h3
    have e : isB [a, b, c] = true ↔ ((224 ≤ a ∧ a < 240) ∧ ((a = 224 → 160 ≤ b) ∧ 128 ≤ b) ∧ ((a = 237 → b ≤ 159) ∧ b ≤ 191)) ∧ 128 ≤ c ∧ c ≤ 191 := by
      show (decide (sizeF a = 3) && inB a b && tailB c) = true ↔ _
      rw [Bool.and_eq_true, Bool.and_eq_true, decide_eq_true_iff, size3, inB_iff, tailB_iff]
      omega
    rw [e, num3]
    by_cases c1 : a - 224 < 0 ∨ 16 ≤ a - 224
    · rw [if_pos c1]; exact ⟨fun h => by omega, fun h => by omega⟩
    · rw [if_neg c1]
      by_cases c2 : b < 128 ∨ 191 < b
      · rw [if_pos c2]; exact ⟨fun h => by omega, fun h => by omega⟩
      · rw [if_neg c2]
        by_cases c3 : c < 128 ∨ 191 < c
        · rw [if_pos c3]; exact ⟨fun h => by omega, fun h => by omega⟩
        · rw [if_neg c3]
          obtain ⟨r, hr⟩ : ∃ r, 64 * (64 * (a - 224) + b - 128) + c - 128 = r := ⟨_, rfl⟩
          rw [hr]
          by_cases c4 : r ≤ 127
          · rw [put1 ⟨by omega, c4⟩]; simp; omega
          · by_cases c5 : r ≤ 2047
            · rw [put2 ⟨by omega, c5⟩]; simp; omega
            · by_cases c6 : r < 55296 ∨ 57343 < r
              · rw [put3 ⟨by omega, by omega⟩ c6]; simp; omega
              · rw [put0 (by omega)]; simp; omega
  | [a, b, c, d], _, hb =>
    have h := hb a (by simp)
    have h2 := hb b (by simp)
    have h3 := hb c (by simp)
    have h4 := hb d (by simp)
    unfold IsByte at h h2 h3 h4
    have e : isB [a, b, c, d] = true ↔ (((240 ≤ a ∧ a ≤ 244) ∧ ((a = 240 → 144 ≤ b) ∧ 128 ≤ b) ∧ ((a = 244 → b ≤ 143) ∧ b ≤ 191)) ∧ 128 ≤ c ∧ c ≤ 191) ∧ 128 ≤ d ∧ d ≤ 191 := by
      show (decide (sizeF a = 4) && inB a b && tailB c && tailB d) = true ↔ _
      rw [Bool.and_eq_true, Bool.and_eq_true, Bool.and_eq_true, decide_eq_true_iff, size4, inB_iff, tailB_iff, tailB_iff]
      omega
    rw [e, num4]
    by_cases c1 : a - 240 < 0 ∨ 8 ≤ a - 240
    · rw [if_pos c1]; exact ⟨fun h => by omega, fun h => by omega⟩
    · rw [if_neg c1]
      by_cases c2 : b < 128 ∨ 191 < b
      · rw [if_pos c2]; exact ⟨fun h => by omega, fun h => by omega⟩
      · rw [if_neg c2]
        by_cases c3 : c < 128 ∨ 191 < c
        · rw [if_pos c3]; exact ⟨fun h => by omega, fun h => by omega⟩
        · rw [if_neg c3]
          by_cases c4 : d < 128 ∨ 191 < d
          · rw [if_pos c4]; exact ⟨fun h => by omega, fun h => by omega⟩
          · rw [if_neg c4]
            obtain ⟨r, hr⟩ : ∃ r, 64 * (64 * (64 * (a - 240) + b - 128) + c - 128) + d - 128 = r := ⟨_, rfl⟩
            rw [hr]
            by_cases c5 : r ≤ 127
            · rw [put1 ⟨by omega, c5⟩]; simp; omega
            · by_cases c6 : r ≤ 2047
              · rw [put2 ⟨by omega, c6⟩]; simp; omega
              · by_cases c7 : r ≤ 65535
                · by_cases c8 : r < 55296 ∨ 57343 < r
                  · rw [put3 ⟨by omega, by omega⟩ c8]; simp; omega
                  · rw [put0 (by omega)]; simp; omega
                · by_cases c8 : r ≤ 1114111
                  · rw [put4 ⟨by omega, by omega⟩]; simp; omega
                  · rw [put0 (by omega)]; simp; omega
  | _ :: _ :: _ :: _ :: _ :: _, hl, _ => simp at hl
/-! ### Begins -/
def fromF (n : Nat) : Int := if n = 2 then 128 else if n = 3 then 2048 else 65536
def toF (n : Nat) : Int := if n = 2 then 2047 else if n = 3 then 65535 else 1114111
/-- Does a scalar of just so many bytes begin so? -/
def okV (n : Nat) (lo hi : Int) : Bool := !(decide (lo < 0) || decide (hi < 0)) && (decide (max lo (fromF n) ≤ min hi (toF n)) && !(decide (55296 ≤ max lo (fromF n)) && decide (min hi (toF n) ≤ 57343)))
def okAt (n : Nat) (l : List Int) : Bool := okV n (numberF (l ++ List.replicate (n - l.length) 128)) (numberF (l ++ List.replicate (n - l.length) 191))
def begsF (k : Nat) (l : List Int) : Bool := if k = 2 then okAt 2 l || okAt 3 l || okAt 4 l else if k = 3 then okAt 3 l || okAt 4 l else if k = 4 then okAt 4 l else false
theorem begsF_step {k : Nat} {l : List Int} (h : 2 ≤ k) (h4 : k ≤ 4) : begsF k l = (okAt k l || begsF (k + 1) l) := by
  have : k = 2 ∨ k = 3 ∨ k = 4 := by omega
  rcases this with rfl | rfl | rfl
  · show (okAt 2 l || okAt 3 l || okAt 4 l) = (okAt 2 l || (okAt 3 l || okAt 4 l)); rw [Bool.or_assoc]
  · rfl
  · show okAt 4 l = (okAt 4 l || false); simp
theorem okV_iff {n : Nat} {lo hi : Int} : okV n lo hi = true ↔ 0 ≤ lo ∧ 0 ≤ hi ∧ max lo (fromF n) ≤ min hi (toF n) ∧ ¬ (55296 ≤ max lo (fromF n) ∧ min hi (toF n) ≤ 57343) := by
  unfold okV
  simp only [Bool.and_eq_true, Bool.not_eq_true', Bool.or_eq_false_iff, decide_eq_false_iff_not, decide_eq_true_iff, Bool.and_eq_false_iff]
  omega
theorem begs_spec (l : List Int) (h0 : l ≠ []) (hl : l.length ≤ 4) (hb : ∀ x ∈ l, IsByte x) : begsF (l.length + 1) l = begB l := by
  match l, h0, hl, hb with
  | [a], _, _, hb =>
    have h := hb a (by simp)
    unfold IsByte at h
    rw [Bool.eq_iff_iff]
    show (okV 2 (numberF [a, 128]) (numberF [a, 191]) || okV 3 (numberF [a, 128, 128]) (numberF [a, 191, 191]) || okV 4 (numberF [a, 128, 128, 128]) (numberF [a, 191, 191, 191])) = true ↔ decide (2 ≤ sizeF a) = true
    rw [decide_eq_true_iff, size_ge2, Bool.or_eq_true, Bool.or_eq_true, okV_iff, okV_iff, okV_iff, num2, num2, num3, num3, num4, num4]
    simp only [fromF, toF, show ¬ ((128 : Int) < 128 ∨ (191 : Int) < 128) by omega, show ¬ ((191 : Int) < 128 ∨ (191 : Int) < 191) by omega, if_false, if_true, Nat.reduceEqDiff]
    (repeat' split) <;> omega
  | [a, b], _, _, hb =>
    have h := hb a (by simp)
    have h2 := hb b (by simp)
    unfold IsByte at h h2
    rw [Bool.eq_iff_iff]
    show (okV 3 (numberF [a, b, 128]) (numberF [a, b, 191]) || okV 4 (numberF [a, b, 128, 128]) (numberF [a, b, 191, 191])) = true ↔ (decide (3 ≤ sizeF a) && inB a b) = true
    rw [Bool.and_eq_true, decide_eq_true_iff, size_ge3, inB_iff, Bool.or_eq_true, okV_iff, okV_iff, num3, num3, num4, num4]
    simp only [fromF, toF, show ¬ ((128 : Int) < 128 ∨ (191 : Int) < 128) by omega, show ¬ ((191 : Int) < 128 ∨ (191 : Int) < 191) by omega, if_false, if_true, Nat.reduceEqDiff]
    (repeat' split) <;> omega
  | [a, b, c], _, _, hb =>
    have h := hb a (by simp)
    have h2 := hb b (by simp)
    have h3 := hb c (by simp)
    unfold IsByte at h h2 h3
    rw [Bool.eq_iff_iff]
    show okV 4 (numberF [a, b, c, 128]) (numberF [a, b, c, 191]) = true ↔ (decide (4 ≤ sizeF a) && inB a b && tailB c) = true
    rw [Bool.and_eq_true, Bool.and_eq_true, decide_eq_true_iff, size_ge4, inB_iff, tailB_iff, okV_iff, num4, num4]
    simp only [fromF, toF, show ¬ ((128 : Int) < 128 ∨ (191 : Int) < 128) by omega, show ¬ ((191 : Int) < 128 ∨ (191 : Int) < 191) by omega, if_false, Nat.reduceEqDiff]
    (repeat' split) <;> omega
  | [a, b, c, d], _, _, _ => rfl
  | _ :: _ :: _ :: _ :: _ :: _, _, hl, _ => simp at hl
end Go.Proofs.Ythbjjhoajecpcaa
