/-
  The plain laws of the places: a longer text, the needle itself, the first ones till enough is had, places apart, the next one and the one ahead. No program in sight.
-/
import Derived.Test.YtkcmpddefohkeaaPlaces
namespace Go.Proofs.Ytkcmpddefohkeaa
set_option linter.unusedVariables false
variable {H T N : List Int}
theorem drop_app (H T : List Int) (p : Nat) : (H ++ T).drop (H.length + p) = T.drop p := by
  rw [← List.drop_drop, List.drop_left]
theorem stands_app (p : Nat) : standsB (H ++ T) N (H.length + p) = standsB T N p := by
  unfold standsB
  rw [drop_app]
theorem placesTo_app : ∀ b, placesTo (H ++ T) N (H.length + b) = placesTo (H ++ T) N H.length ++ (placesTo T N b).map (· + H.length)
  | 0 => by simp [placesTo_zero]
  | b + 1 => by
    rw [← Nat.add_assoc, placesTo_succ, placesTo_succ, placesTo_app b, stands_app]
    by_cases h : standsB T N b = true
    · rw [if_pos h, if_pos h]; simp [Nat.add_comm]
    · rw [if_neg h, if_neg h]; simp
theorem placesTo_lt {b x : Nat} (h : x ∈ placesTo T N b) : x < b := by
  unfold placesTo at h
  exact List.mem_range.1 (List.mem_filter.1 h).1
/-- A longer text's places: some in front, then the text's own. -/
theorem placesF_app : ∃ pre, placesF (H ++ T) N = pre ++ (placesF T N).map (· + H.length) ∧ ∀ x ∈ pre, x < H.length := by
  unfold placesF
  by_cases h0 : N.length = 0
  · exact ⟨[], by simp [h0], by simp⟩
  · rw [if_neg h0, if_neg h0, List.length_append]
    by_cases h : N.length ≤ T.length + 1
    · rw [show H.length + T.length + 1 - N.length = H.length + (T.length + 1 - N.length) by omega, placesTo_app]
      exact ⟨_, rfl, fun x hx => placesTo_lt hx⟩
    · refine ⟨placesTo (H ++ T) N (H.length + T.length + 1 - N.length), ?_, fun x hx => ?_⟩
      · rw [show T.length + 1 - N.length = 0 by omega, placesTo_zero]; simp
      · have := placesTo_lt hx; omega
theorem self_mem (R : List Int) (h : N.length ≠ 0) : H.length ∈ placesF (H ++ N ++ R) N := by
  unfold placesF placesTo
  rw [if_neg h]
  refine List.mem_filter.2 ⟨List.mem_range.2 (by simp only [List.length_append]; omega), ?_⟩
  unfold standsB
  rw [List.append_assoc, List.drop_left, List.take_left]
  simp
theorem places_sorted (T N : List Int) : (placesF T N).Pairwise (· < ·) := by
  unfold placesF
  split
  · exact List.Pairwise.nil
  · unfold placesTo
    exact List.pairwise_lt_range.filter _
theorem placesF_lt {x : Nat} (h : x ∈ placesF T N) : x + N.length ≤ T.length := by
  unfold placesF at h
  split at h
  · simp at h
  · have := placesTo_lt h; omega
/-- Till enough is had. -/
def firsts (go : Nat → Bool) (l : List Nat) : List Nat := l.takeWhile go ++ (l.dropWhile go).take 1
theorem firsts_all {go : Nat → Bool} {l : List Nat} (h : ∀ x ∈ l, go x = true) : firsts go l = l := by
  unfold firsts
  have h1 : l.takeWhile go = l := by
    induction l with
    | nil => rfl
    | cons x l ih => rw [List.takeWhile_cons, if_pos (h x (by simp)), ih fun y hy => h y (by simp [hy])]
  have h2 : l.dropWhile go = [] := by
    have := List.takeWhile_append_dropWhile (p := go) (l := l)
    rw [h1] at this
    simpa using this
  rw [h1, h2]; simp
theorem firsts_stop {go : Nat → Bool} {a r : List Nat} {p : Nat} (h : ∀ x ∈ a, go x = true) (hp : go p = false) : firsts go (a ++ p :: r) = a ++ [p] := by
  unfold firsts
  induction a with
  | nil => simp [hp]
  | cons x a ih =>
    have hx := h x (by simp)
    have := ih fun y hy => h y (by simp [hy])
    simp only [List.cons_append, List.takeWhile_cons, List.dropWhile_cons, hx, if_true]
    rw [this]
/-- Apart: one that doesn't overlap the one that was taken before. -/
def apStep (n : Nat) (out : List Nat) (p : Nat) : List Nat := if out.length = 0 ∨ n + out.getLastD 0 ≤ p then out ++ [p] else out
def apF (n : Nat) (l : List Nat) : List Nat := l.foldl (apStep n) []
theorem apF_snoc (n : Nat) (l : List Nat) (p : Nat) : apF n (l ++ [p]) = apStep n (apF n l) p := by
  unfold apF; rw [List.foldl_append]; rfl
theorem apF_len (n : Nat) (l : List Nat) : (apF n l).length ≤ l.length := by
  suffices h : ∀ out, (l.foldl (apStep n) out).length ≤ out.length + l.length by have := h []; simpa [apF] using this
  induction l with
  | nil => intro out; simp
  | cons p l ih =>
    intro out
    have := ih (apStep n out p)
    rw [List.foldl_cons]
    have h2 : (apStep n out p).length ≤ out.length + 1 := by unfold apStep; split <;> simp
    simp only [List.length_cons]; omega
def endF (n : Nat) (out : List Nat) : Nat := if out.length = 0 then 0 else n + out.getLastD 0
theorem apStep_end (n : Nat) (out : List Nat) (p : Nat) : apStep n out p = if endF n out ≤ p then out ++ [p] else out := by
  unfold apStep endF
  by_cases h : out.length = 0
  · rw [if_pos (Or.inl h), if_pos h, if_pos (Nat.zero_le _)]
  · rw [if_neg h]
    by_cases h2 : n + out.getLastD 0 ≤ p
    · rw [if_pos (Or.inr h2), if_pos h2]
    · rw [if_neg (by omega), if_neg h2]
theorem endF_snoc (n : Nat) (out : List Nat) (p : Nat) : endF n (out ++ [p]) = n + p := by
  unfold endF; rw [if_neg (by simp)]; simp [List.getLastD_eq_getLast?]
/-- The least one from a place on. -/
def nextF (f : Int) (l : List Nat) : Option Nat := l.find? fun p => decide (f ≤ (p : Int))
/-- The greatest one below a place. -/
def aheadF (f : Int) (l : List Nat) : Option Nat := (l.filter fun p : Nat => decide ((p : Int) < f)).getLast?
def below_ (f : Int) (p : Nat) : Bool := decide ((p : Int) < f)
theorem nextF_snoc (f : Int) (l : List Nat) (p : Nat) : nextF f (l ++ [p]) = (nextF f l).or (if f ≤ (p : Int) then some p else none) := by
  unfold nextF
  rw [List.find?_append]
  congr 1
  by_cases h : f ≤ (p : Int) <;> simp [h]
theorem aheadF_snoc (f : Int) (l : List Nat) (p : Nat) : aheadF f (l ++ [p]) = if (p : Int) < f then some p else aheadF f l := by
  unfold aheadF
  rw [List.filter_append]
  by_cases h : (p : Int) < f
  · rw [if_pos h]; simp [h]
  · rw [if_neg h]; simp [h]
theorem nextF_none {f : Int} {l : List Nat} (h : ∀ x ∈ l, below_ f x = true) : nextF f l = none := by
  unfold nextF
  rw [List.find?_eq_none]
  intro x hx
  have := h x hx
  unfold below_ at this
  simp at this ⊢
  omega
theorem nextF_firsts (f : Int) (l : List Nat) : nextF f (firsts (below_ f) l) = nextF f l := by
  induction l with
  | nil => rfl
  | cons x l ih =>
    by_cases h : below_ f x = true
    · have e : firsts (below_ f) (x :: l) = x :: firsts (below_ f) l := by
        unfold firsts; simp [h]
      have h' : ¬ f ≤ (x : Int) := by unfold below_ at h; simp at h; omega
      rw [e]
      unfold nextF at ih ⊢
      rw [List.find?_cons_of_neg (by simpa using h'), List.find?_cons_of_neg (by simpa using h')]
      exact ih
    · have h0 : below_ f x = false := by simpa using h
      have e := firsts_stop (a := []) (r := l) (p := x) (go := below_ f) (by simp) h0
      have h' : f ≤ (x : Int) := by unfold below_ at h; simp at h; omega
      rw [List.nil_append] at e
      rw [e]
      unfold nextF
      rw [List.nil_append, List.find?_cons_of_pos (by simpa using h'), List.find?_cons_of_pos (by simpa using h')]
theorem aheadF_firsts (f : Int) (l : List Nat) (hs : l.Pairwise (· < ·)) : aheadF f (firsts (below_ f) l) = aheadF f l := by
  unfold aheadF
  congr 1
  induction l with
  | nil => rfl
  | cons x l ih =>
    rw [List.pairwise_cons] at hs
    by_cases h : below_ f x = true
    · have e : firsts (below_ f) (x :: l) = x :: firsts (below_ f) l := by
        unfold firsts; simp [h]
      rw [e, List.filter_cons, List.filter_cons, ih hs.2]
    · have h0 : below_ f x = false := by simpa using h
      have e := firsts_stop (a := []) (r := l) (p := x) (go := below_ f) (by simp) h0
      rw [List.nil_append, List.nil_append] at e
      rw [e]
      have h' : ¬ (x : Int) < f := by unfold below_ at h; simpa using h
      rw [List.filter_cons_of_neg (by simpa using h'), List.filter_cons_of_neg (by simpa using h')]
      exact (List.filter_eq_nil_iff.2 fun y hy => by have := hs.1 y hy; simp; omega).symm
end Go.Proofs.Ytkcmpddefohkeaa
