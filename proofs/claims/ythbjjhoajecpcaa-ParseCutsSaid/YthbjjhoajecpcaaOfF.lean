/-
  The document's Of as a plain function. No program in sight.
-/
import Derived.Test.YthbjjhoajecpcaaRef
import Derived.Test.YthbjjhoajecpcaaAllP
namespace Go.Proofs.Ythbjjhoajecpcaa
set_option linter.unusedVariables false
/-- All of the bytes. -/
def ofFu (most : Nat) : Nat → List Int → Out
  | 0, _ => ⟨[], 0, 0, 0⟩
  | _ + 1, [] => ⟨[], 0, 0, 0⟩
  | k + 1, c :: l => if (restF most (c :: l)).n = (c :: l).length then restF most (c :: l) else (ofFu most k ((c :: l).drop (restF most (c :: l)).n)).more (restF most (c :: l)).evs (restF most (c :: l)).n
def ofF (most : Nat) (l : List Int) : Out := ofFu most l.length l
theorem ofFu_more (most : Nat) : ∀ (k j : Nat) (l : List Int), l.length ≤ k → l.length ≤ j → ofFu most k l = ofFu most j l
  | 0, 0, l, _, _ => rfl
  | 0, j + 1, [], _, _ => rfl
  | k + 1, 0, [], _, _ => rfl
  | k + 1, j + 1, [], _, _ => rfl
  | k + 1, j + 1, c :: l, h1, h2 => by
    have := (rest_len most (c :: l) (by simp)).1
    rw [List.length_cons] at h1 h2
    unfold ofFu
    split
    · rfl
    · rw [ofFu_more most k j _ (by rw [List.length_drop, List.length_cons]; omega) (by rw [List.length_drop, List.length_cons]; omega)]
theorem ofF_step (most : Nat) (l : List Int) (h : l ≠ []) : ofF most l = if (restF most l).n = l.length then restF most l else (ofF most (l.drop (restF most l).n)).more (restF most l).evs (restF most l).n := by
  cases l with
  | nil => exact absurd rfl h
  | cons c l =>
    have := (rest_len most (c :: l) (by simp)).1
    show ofFu most (l.length + 1) (c :: l) = _
    rw [ofFu]
    split
    · rfl
    · rw [ofFu_more most l.length _ _ (by rw [List.length_drop, List.length_cons]; omega) (Nat.le_refl _)]
      rfl
theorem ofF_nil (most : Nat) : ofF most [] = ⟨[], 0, 0, 0⟩ := rfl
theorem ofF_len (most : Nat) : ∀ (k : Nat) (l : List Int), l.length ≤ k → (ofF most l).evs.length ≤ 2 * l.length
  | k, [], _ => by simp [ofF_nil]
  | 0, c :: l, h => by simp at h
  | k + 1, c :: l, h => by
    have hr := rest_len most (c :: l) (by simp)
    rw [ofF_step most _ (by simp)]
    split
    · omega
    · have := ofF_len most k ((c :: l).drop (restF most (c :: l)).n) (by rw [List.length_drop]; omega)
      rw [List.length_drop] at this
      simp only [Out.more, List.length_append]
      omega
end Go.Proofs.Ythbjjhoajecpcaa
