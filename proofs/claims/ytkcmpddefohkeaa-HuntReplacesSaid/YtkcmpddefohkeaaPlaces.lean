/-
  The plain law of the places: ends of whole needles, places from the first on. No program in sight.
-/
import Derived.Test.YtkcmpddefohkeaaKmp
namespace Go.Proofs.Ytkcmpddefohkeaa
set_option linter.unusedVariables false
variable {T N : List Int}
/-- Does the needle stand at a place? -/
def standsB (T N : List Int) (p : Nat) : Bool := (T.drop p).take N.length == N
theorem stands_suf {p : Nat} (h : p + N.length ≤ T.length) : standsB T N p = true ↔ Suf T N (p + N.length) N.length := by
  unfold standsB
  rw [beq_iff_eq]
  constructor
  · intro e
    refine ⟨by omega, h, Nat.le_refl _, fun m hm => ?_⟩
    rw [show p + N.length - N.length + m = p + m by omega]
    have := congrArg (fun l => l[m]?) e
    simp only [List.getElem?_take, List.getElem?_drop] at this
    rw [if_pos hm] at this
    exact this
  · rintro ⟨_, _, _, h4⟩
    apply List.ext_getElem?
    intro m
    by_cases hm : m < N.length
    · rw [List.getElem?_take, if_pos hm, List.getElem?_drop]
      have := h4 m hm
      rwa [show p + N.length - N.length + m = p + m by omega] at this
    · rw [List.getElem?_take, if_neg hm, List.getElem?_eq_none (by omega)]
/-- The places below a bound. -/
def placesTo (T N : List Int) (b : Nat) : List Nat := (List.range b).filter (standsB T N)
/-- All places. -/
def placesF (T N : List Int) : List Nat := if N.length = 0 then [] else placesTo T N (T.length + 1 - N.length)
theorem placesTo_zero : placesTo T N 0 = [] := rfl
theorem placesTo_succ (b : Nat) : placesTo T N (b + 1) = placesTo T N b ++ (if standsB T N b = true then [b] else []) := by
  unfold placesTo
  rw [List.range_succ, List.filter_append]
  congr 1
  by_cases h : standsB T N b = true <;> simp [h]
/-- One byte further, with the most that stands behind it: a place. -/
theorem placesTo_hit {i : Nat} (h : Suf T N (i + 1) N.length) : placesTo T N (i + 2 - N.length) = placesTo T N (i + 1 - N.length) ++ [i + 1 - N.length] := by
  have h1 := h.1
  have h2 := h.2.1
  rw [show i + 2 - N.length = (i + 1 - N.length) + 1 by omega, placesTo_succ, if_pos]
  exact (stands_suf (by omega)).2 (by rwa [show i + 1 - N.length + N.length = i + 1 by omega])
theorem placesTo_miss {i k : Nat} (hi : i < T.length) (h : Best T N (i + 1) (N.length + 1) k) (hk : k < N.length) : placesTo T N (i + 2 - N.length) = placesTo T N (i + 1 - N.length) := by
  by_cases hl : N.length ≤ i + 1
  · rw [show i + 2 - N.length = (i + 1 - N.length) + 1 by omega, placesTo_succ, if_neg, List.append_nil]
    intro hs
    have := (stands_suf (by omega)).1 hs
    rw [show i + 1 - N.length + N.length = i + 1 by omega] at this
    have := h.2.2 _ (by omega) this
    omega
  · rw [show i + 2 - N.length = 0 by omega, show i + 1 - N.length = 0 by omega]
end Go.Proofs.Ytkcmpddefohkeaa
