/-
  The plain law of widths: a number's width, texts, where clusters begin, what fits. No program in sight.
-/
import Derived.Test.YtoaeadjihpbhgaaBase
namespace Go.Proofs.Ytoaeadjihpbhgaa
set_option linter.unusedVariables false
def marksL : List (Int × Int) := [(768, 879), (1155, 1161), (1425, 1469), (1552, 1562), (1611, 1631), (2304, 2306), (2364, 2364), (2369, 2376), (3633, 3633), (3636, 3642), (6832, 6911), (7616, 7679), (8203, 8207), (8400, 8447), (8288, 8292), (65024, 65039), (65056, 65071), (65279, 65279), (917760, 917999)]
def widesL : List (Int × Int) := [(4352, 4447), (8986, 8987), (9001, 9002), (9193, 9196), (9725, 9726), (9748, 9749), (11904, 12350), (12353, 13311), (13312, 19903), (19968, 40959), (40960, 42191), (43360, 43391), (44032, 55203), (63744, 64255), (65072, 65135), (65280, 65376), (65504, 65510), (127744, 128591), (128640, 128767), (129280, 129535), (131072, 196605), (196608, 262141)]
def inR (l : List (Int × Int)) (r : Int) : Bool := l.any fun x => decide (x.1 ≤ r ∧ r ≤ x.2)
def noneB (r : Int) : Bool := decide (r < 32 ∨ (127 ≤ r ∧ r < 160) ∨ (55296 ≤ r ∧ r < 57344) ∨ 1114111 < r)
def widOf (r : Int) : Int := if noneB r = true then -1 else if inR marksL r = true then 0 else if inR widesL r = true then 2 else 1
theorem inR_low {l : List (Int × Int)} {r b : Int} (h : ∀ x ∈ l, b ≤ x.1) (hr : r < b) : inR l r = false := by
  unfold inR
  rw [List.any_eq_false]
  intro x hx
  have := h x hx
  simp; omega
theorem widOf_low {r : Int} (h : noneB r = false) (hr : r < 768) : widOf r = 1 := by
  unfold widOf
  rw [if_neg (by rw [h]; simp), if_neg (by rw [inR_low (b := 768) (by decide) hr]; simp), if_neg (by rw [inR_low (b := 768) (by decide) hr]; simp)]
theorem widOf_bounds (r : Int) : -1 ≤ widOf r ∧ widOf r ≤ 2 := by
  unfold widOf
  split
  · omega
  · split
    · omega
    · split <;> omega
/-- The columns of some. -/
def textF (l : List Int) : Int := (l.map fun r => max 0 (widOf r)).sum
theorem textF_nil : textF [] = 0 := rfl
theorem textF_append (a b : List Int) : textF (a ++ b) = textF a + textF b := by simp [textF]
theorem textF_cons (x : Int) (l : List Int) : textF (x :: l) = max 0 (widOf x) + textF l := rfl
theorem textF_bounds : ∀ l : List Int, 0 ≤ textF l ∧ textF l ≤ 2 * l.length
  | [] => by simp [textF]
  | x :: l => by
    have := textF_bounds l
    have := widOf_bounds x
    rw [textF_cons, List.length_cons]
    omega
theorem textF_snoc {l : List Int} {k : Nat} {x : Int} (h : l[k]? = some x) : textF (l.take (k + 1)) = textF (l.take k) + max 0 (widOf x) := by
  rw [take_snoc h, textF_append]; simp [textF]
/-- Does one begin at a place? -/
def nb (l : List Int) (i : Nat) : Bool := i == 0 || !(widOf (l.getD i 0) == 0 && decide (0 ≤ widOf (l.getD (i - 1) 0)))
/-- The next place, from one on, where one begins; or the end. -/
def nextB (l : List Int) (i : Nat) : Nat := if h : i < l.length then (if nb l i = true then i else nextB l (i + 1)) else l.length
termination_by l.length - i
theorem nextB_end {l : List Int} {i : Nat} (h : l.length ≤ i) : nextB l i = l.length := by rw [nextB, dif_neg (by omega)]
theorem nextB_hit {l : List Int} {i : Nat} (h : i < l.length) (hb : nb l i = true) : nextB l i = i := by rw [nextB, dif_pos h, if_pos hb]
theorem nextB_miss {l : List Int} {i : Nat} (h : i < l.length) (hb : nb l i = false) : nextB l i = nextB l (i + 1) := by rw [nextB, dif_pos h, if_neg (by rw [hb]; simp)]
theorem nextB_spec (l : List Int) : ∀ (d i : Nat), l.length - i = d → (i ≤ l.length → i ≤ nextB l i) ∧ nextB l i ≤ l.length ∧ (∀ j, i ≤ j → j < nextB l i → nb l j = false) ∧ (nextB l i < l.length → nb l (nextB l i) = true)
  | 0, i, h => by
    rw [nextB_end (by omega)]
    exact ⟨fun h => h, Nat.le_refl _, fun j h1 h2 => by omega, fun h => by omega⟩
  | d + 1, i, h => by
    have hi : i < l.length := by omega
    cases hb : nb l i with
    | true => rw [nextB_hit hi hb]; exact ⟨fun _ => Nat.le_refl _, by omega, fun j h1 h2 => by omega, fun _ => hb⟩
    | false =>
      rw [nextB_miss hi hb]
      obtain ⟨h1, h2, h3, h4⟩ := nextB_spec l d (i + 1) (by omega)
      refine ⟨fun _ => by have := h1 (by omega); omega, h2, fun j hj hj2 => ?_, h4⟩
      by_cases e : j = i
      · subst e; exact hb
      · exact h3 j (by omega) hj2
/-- Where the cluster that begins at a place ends. -/
def clEndF (l : List Int) (i : Nat) : Nat := nextB l (i + 1)
theorem clEndF_bounds {l : List Int} {i : Nat} (h : i < l.length) : i < clEndF l i ∧ clEndF l i ≤ l.length := by
  obtain ⟨h1, h2, _⟩ := nextB_spec l _ (i + 1) rfl
  have := h1 (by omega)
  exact ⟨by unfold clEndF; omega, h2⟩
/-- Where clusters begin, below a place. -/
def bF (l : List Int) (k : Nat) : List Nat := (List.range k).filter (nb l)
theorem bF_zero (l : List Int) : bF l 0 = [] := rfl
theorem bF_succ (l : List Int) (k : Nat) : bF l (k + 1) = bF l k ++ (if nb l k = true then [k] else []) := by
  unfold bF
  rw [List.range_succ, List.filter_append]
  congr 1
  by_cases h : nb l k = true <;> simp [h]
theorem bF_len (l : List Int) (k : Nat) : (bF l k).length ≤ k := by
  unfold bF
  have := List.length_filter_le (nb l) (List.range k)
  simpa using this
theorem bF_skip {l : List Int} {a b : Nat} (hab : a ≤ b) (h : ∀ j, a ≤ j → j < b → nb l j = false) : bF l b = bF l a := by
  induction b with
  | zero => obtain rfl : a = 0 := by omega
            rfl
  | succ b ih =>
    by_cases e : a = b + 1
    · rw [e]
    · rw [bF_succ, if_neg (by rw [h b (by omega) (by omega)]; simp), List.append_nil]
      exact ih (by omega) fun j h1 h2 => h j h1 (by omega)
/-- From a beginning on: to the next one. -/
theorem bF_end {l : List Int} {a : Nat} (ha : a < l.length) (hb : nb l a = true) : bF l (clEndF l a) = bF l a ++ [a] := by
  obtain ⟨h1, h2, h3, h4⟩ := nextB_spec l _ (a + 1) rfl
  rw [show clEndF l a = nextB l (a + 1) from rfl, bF_skip (h1 (by omega)) h3, bF_succ, if_pos hb]
theorem nb_end {l : List Int} {a : Nat} (h : clEndF l a < l.length) : nb l (clEndF l a) = true := (nextB_spec l _ (a + 1) rfl).2.2.2 h
theorem nb_zero (l : List Int) : nb l 0 = true := rfl
/-- A part. -/
def seg (l : List Int) (a b : Nat) : List Int := (l.drop a).take (b - a)
theorem text_seg {l : List Int} {a b : Nat} (h : a ≤ b) : textF (l.take b) = textF (l.take a) + textF (seg l a b) := by
  rw [← textF_append]
  congr 1
  unfold seg
  rw [show b = a + (b - a) by omega, List.take_add]
  simp
theorem text_mono {l : List Int} {a b : Nat} (h : a ≤ b) : textF (l.take a) ≤ textF (l.take b) := by
  rw [text_seg h]
  have := textF_bounds (seg l a b)
  omega
end Go.Proofs.Ytoaeadjihpbhgaa
