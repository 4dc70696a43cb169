/-
  The plain law of the search: borders, and the longest beginning that stands ahead of a place. No program in sight.
-/
import Derived.Test.YtkcmpddefohkeaaBase
namespace Go.Proofs.Ytkcmpddefohkeaa
set_option linter.unusedVariables false

/-- The last k of T's first i are N's first k. -/
def Suf (T N : List Int) (i k : Nat) : Prop := k ≤ i ∧ i ≤ T.length ∧ k ≤ N.length ∧ ∀ m, m < k → T[i - k + m]? = N[m]?
variable {T N : List Int} {i k j : Nat}
theorem suf_zero (h : i ≤ T.length) : Suf T N i 0 := ⟨Nat.zero_le _, h, Nat.zero_le _, fun m hm => by omega⟩
theorem suf_succ (h : Suf T N i k) (hi : i < T.length) (hk : k < N.length) (e : T[i]? = N[k]?) : Suf T N (i + 1) (k + 1) := by
  obtain ⟨h1, h2, h3, h4⟩ := h
  refine ⟨by omega, by omega, by omega, fun m hm => ?_⟩
  rw [show i + 1 - (k + 1) + m = i - k + m by omega]
  by_cases hmk : m = k
  · subst hmk; rw [show i - m + m = i by omega]; exact e
  · exact h4 m (by omega)
theorem suf_pred (h : Suf T N (i + 1) (k + 1)) : Suf T N i k ∧ i < T.length ∧ k < N.length ∧ T[i]? = N[k]? := by
  obtain ⟨h1, h2, h3, h4⟩ := h
  refine ⟨⟨by omega, by omega, by omega, fun m hm => ?_⟩, by omega, by omega, ?_⟩
  · have := h4 m (by omega)
    rwa [show i + 1 - (k + 1) + m = i - k + m by omega] at this
  · have := h4 k (by omega)
    rwa [show i + 1 - (k + 1) + k = i by omega] at this
theorem suf_trans (h : Suf T N i k) (g : Suf N N k j) : Suf T N i j := by
  obtain ⟨h1, h2, h3, h4⟩ := h
  obtain ⟨g1, g2, g3, g4⟩ := g
  refine ⟨by omega, h2, g3, fun m hm => ?_⟩
  have := h4 (k - j + m) (by omega)
  rw [show i - k + (k - j + m) = i - j + m by omega] at this
  rw [this]
  exact g4 m hm
theorem suf_in (h : Suf T N i k) (g : Suf T N i j) (hj : j ≤ k) : Suf N N k j := by
  obtain ⟨h1, h2, h3, h4⟩ := h
  obtain ⟨g1, g2, g3, g4⟩ := g
  refine ⟨hj, h3, g3, fun m hm => ?_⟩
  have a := h4 (k - j + m) (by omega)
  rw [show i - k + (k - j + m) = i - j + m by omega] at a
  rw [← a]
  exact g4 m hm

/-- b is how long the longest border of N's first k is; of none −1. -/
def IsB (N : List Int) (k : Nat) (b : Int) : Prop := (k = 0 ∧ b = -1) ∨ ∃ j : Nat, b = j ∧ j < k ∧ Suf N N k j ∧ ∀ j' : Nat, j' < k → Suf N N k j' → j' ≤ j
/-- k is where the next byte may stand in the needle: no longer one can. -/
def Cand (T N : List Int) (i lim : Nat) (k : Int) : Prop :=
  (k = -1 ∨ ∃ j : Nat, k = j ∧ j < lim ∧ Suf T N i j) ∧ ∀ j' : Nat, j' < lim → Suf T N i j' → T[i]? = N[j']? → (j' : Int) ≤ k
theorem cand_next {lim : Nat} {b : Int} (h : Cand T N i lim (k : Int)) (hb : IsB N k b) (hne : T[i]? ≠ N[k]?) : Cand T N i lim b := by
  obtain ⟨h1, h2⟩ := h
  have hs : k < lim ∧ Suf T N i k := by
    rcases h1 with h1 | ⟨j, e, hj, hs⟩
    · omega
    · obtain rfl : k = j := by omega
      exact ⟨hj, hs⟩
  refine ⟨?_, fun j' hj' hs' he => ?_⟩
  · rcases hb with ⟨_, rfl⟩ | ⟨j, rfl, hj, hsj, _⟩
    · exact .inl rfl
    · exact .inr ⟨j, rfl, by omega, suf_trans hs.2 hsj⟩
  · have hle := h2 j' hj' hs' he
    have hlt : j' < k := by
      rcases Nat.lt_or_ge j' k with h | h
      · exact h
      · obtain rfl : j' = k := by omega
        exact absurd he hne
    rcases hb with ⟨e, rfl⟩ | ⟨j, rfl, hj, hsj, hmax⟩
    · omega
    · exact_mod_cast hmax j' hlt (suf_in hs.2 hs' (by omega))
/-- The most of N's beginnings that stand ahead of i, of those below lim. -/
def Best (T N : List Int) (i lim k : Nat) : Prop := Suf T N i k ∧ k < lim ∧ ∀ j', j' < lim → Suf T N i j' → j' ≤ k
theorem best_zero {lim : Nat} (h : 0 < lim) : Best T N 0 lim 0 := ⟨suf_zero (Nat.zero_le _), h, fun j' _ hs => hs.1⟩
theorem cand_of_best {lim : Nat} (h : Best T N i lim k) : Cand T N i lim (k : Int) :=
  ⟨.inr ⟨k, rfl, h.2.1, h.1⟩, fun j' hj' hs _ => by exact_mod_cast h.2.2 j' hj' hs⟩
/-- The byte stands there. -/
theorem best_hit {lim : Nat} (h : Cand T N i lim (k : Int)) (hi : i < T.length) (hl : lim ≤ N.length) (he : T[i]? = N[k]?) : Best T N (i + 1) (lim + 1) (k + 1) := by
  obtain ⟨h1, h2⟩ := h
  have hs : k < lim ∧ Suf T N i k := by
    rcases h1 with h1 | ⟨j, e, hj, hs⟩
    · omega
    · obtain rfl : k = j := by omega
      exact ⟨hj, hs⟩
  refine ⟨suf_succ hs.2 hi (by omega) he, by omega, fun j' hj' hs' => ?_⟩
  cases j' with
  | zero => omega
  | succ j' =>
    obtain ⟨g1, _, _, g4⟩ := suf_pred hs'
    have := h2 j' (by omega) g1 g4
    omega
/-- It stands nowhere. -/
theorem best_miss {lim : Nat} (h : Cand T N i lim (-1)) (hi : i < T.length) : Best T N (i + 1) (lim + 1) 0 := by
  refine ⟨suf_zero (by omega), by omega, fun j' hj' hs' => ?_⟩
  cases j' with
  | zero => omega
  | succ j' =>
    obtain ⟨g1, _, _, g4⟩ := suf_pred hs'
    have := h.2 j' (by omega) g1 g4
    omega
theorem isB_of_best (h : Best N N k k j) : IsB N k (j : Int) := .inr ⟨j, rfl, h.2.1, h.1, fun j' h1 h2 => h.2.2 j' h1 h2⟩
/-- Behind a whole needle. -/
theorem best_whole {b : Int} (hn : 0 < N.length) (h : Suf T N i N.length) (hb : IsB N N.length b) : ∃ j : Nat, b = j ∧ Best T N i N.length j := by
  rcases hb with ⟨e, _⟩ | ⟨j, rfl, hj, hsj, hmax⟩
  · omega
  · exact ⟨j, rfl, suf_trans h hsj, hj, fun j' h1 h2 => hmax j' h1 (suf_in h h2 (by omega))⟩
theorem best_less {lim : Nat} (h : Best T N i (lim + 1) k) (hk : k < lim) : Best T N i lim k := ⟨h.1, hk, fun j' h1 h2 => h.2.2 j' (by omega) h2⟩
end Go.Proofs.Ytkcmpddefohkeaa
