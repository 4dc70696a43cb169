/-
  The plain law of the longest hits: the hits' own answer is the one that is built place by place. No program in sight.
-/
import Derived.Test.YtkcmpddefohkeaaLongest
namespace Go.Proofs.Ytkcmpddefohkeaa
set_option linter.unusedVariables false
/-- The longest of the first needles that stand at a place, the first one of equals. -/
def bestTo (T : List Int) (L : List (List Int)) (p : Nat) : Nat → Option Nat
  | 0 => none
  | k + 1 => if standsF T (nth L k) p = true then (match bestTo T L p k with | none => some k | some b => if (nth L b).length < (nth L k).length then some k else some b) else bestTo T L p k
theorem best_stands {T : List Int} {L : List (List Int)} {p : Nat} : ∀ {k b : Nat}, bestTo T L p k = some b → b < k ∧ standsF T (nth L b) p = true
  | 0, b, h => by cases h
  | k + 1, b, h => by
    unfold bestTo at h
    split at h
    · rename_i hs
      split at h
      · injection h with h; subst h; exact ⟨by omega, hs⟩
      · rename_i c hc
        split at h
        · injection h with h; subst h; exact ⟨by omega, hs⟩
        · injection h with h; subst h
          have := best_stands hc
          exact ⟨by omega, this.2⟩
    · have := best_stands h
      exact ⟨by omega, this.2⟩
theorem best_succ (T : List Int) (L : List (List Int)) (p k : Nat) : bestTo T L p (k + 1) = if standsF T (nth L k) p = true then (match bestTo T L p k with | none => some k | some b => if (nth L b).length < (nth L k).length then some k else some b) else bestTo T L p k := rfl
/-- The hits of the places so far. -/
def stTo (T : List Int) (L : List (List Int)) (p : Nat) : List (Nat × Nat) × Nat := (hitsTo T L p).foldl (longStep L) ([], 0)
theorem long_new {L : List (List Int)} {out : List (Nat × Nat)} {e : Nat} {x : Nat × Nat} (hy : ∀ y ∈ out, y.1 < x.1) (he : e ≤ x.1) : longStep L (out, e) x = (out ++ [x], x.1 + (nth L x.2).length) := by
  rcases List.eq_nil_or_concat out with rfl | ⟨i, l, rfl⟩
  · exact long_app0 he
  · rw [List.concat_eq_append] at hy ⊢
    exact long_app (by have := hy l (by simp); omega) he
theorem at_fold {T : List Int} {L : List (List Int)} {p : Nat} {out : List (Nat × Nat)} {e : Nat} (hy : ∀ y ∈ out, y.1 < p) (he : e ≤ p) : ∀ k, (hitsAt T L p k).foldl (longStep L) (out, e) = match bestTo T L p k with | none => (out, e) | some b => (out ++ [(p, b)], p + (nth L b).length)
  | 0 => by simp [hitsAt, bestTo]
  | k + 1 => by
    rw [hitsAt_succ, List.foldl_append, at_fold hy he k]
    by_cases hs : standsF T (nth L k) p = true
    · rw [if_pos hs]
      rw [best_succ, if_pos hs]
      cases hb : bestTo T L p k with
      | none => exact long_new (x := (p, k)) hy he
      | some b =>
        by_cases hl : (nth L b).length < (nth L k).length
        · simp only [List.foldl_cons, List.foldl_nil, if_pos hl]
          exact long_put (l := (p, b)) (x := (p, k)) rfl hl
        · simp only [List.foldl_cons, List.foldl_nil, if_neg hl]
          exact long_same (l := (p, b)) (x := (p, k)) rfl hl
    · rw [if_neg hs]
      rw [best_succ, if_neg hs]; rfl
theorem stTo_succ (T : List Int) (L : List (List Int)) (p : Nat) : stTo T L (p + 1) = (hitsAt T L p L.length).foldl (longStep L) (stTo T L p) := by
  unfold stTo
  rw [hitsTo_succ, List.foldl_append]
theorem st_none {T : List Int} {L : List (List Int)} {p e : Nat} {out : List (Nat × Nat)} (h : stTo T L p = (out, e)) (hy : ∀ y ∈ out, y.1 < p) (he : e ≤ p) (hb : bestTo T L p L.length = none) : stTo T L (p + 1) = (out, e) := by
  rw [stTo_succ, h, at_fold hy he, hb]
theorem st_some {T : List Int} {L : List (List Int)} {p e b : Nat} {out : List (Nat × Nat)} (h : stTo T L p = (out, e)) (hy : ∀ y ∈ out, y.1 < p) (he : e ≤ p) (hb : bestTo T L p L.length = some b) : stTo T L (p + 1) = (out ++ [(p, b)], p + (nth L b).length) := by
  rw [stTo_succ, h, at_fold hy he, hb]
theorem off_fold {T : List Int} {L : List (List Int)} {p e : Nat} {out : List (Nat × Nat)} (hy : ∀ y ∈ out, y.1 < p) (he : p < e) : ∀ k, (hitsAt T L p k).foldl (longStep L) (out, e) = (out, e)
  | 0 => by simp [hitsAt]
  | k + 1 => by
    rw [hitsAt_succ, List.foldl_append, off_fold hy he k]
    by_cases hs : standsF T (nth L k) p = true
    · rw [if_pos hs]
      show longStep L (out, e) (p, k) = _
      rcases List.eq_nil_or_concat out with rfl | ⟨i, l, rfl⟩
      · exact long_off0 (x := (p, k)) (by simp; omega)
      · rw [List.concat_eq_append] at hy ⊢
        exact long_off (x := (p, k)) (by have := hy l (by simp); simp; omega) (by simp; omega)
    · rw [if_neg hs]; rfl
theorem st_skip {T : List Int} {L : List (List Int)} {p e : Nat} {out : List (Nat × Nat)} (h : stTo T L p = (out, e)) (hy : ∀ y ∈ out, y.1 < p) : ∀ d, p + d ≤ e → stTo T L (p + d) = (out, e)
  | 0, _ => h
  | d + 1, hd => by
    rw [show p + (d + 1) = (p + d) + 1 by omega, stTo_succ, st_skip h hy d (by omega)]
    exact off_fold (fun y hy' => by have := hy y hy'; omega) (by omega) _
end Go.Proofs.Ytkcmpddefohkeaa
