/-
  The plain law of a hunt: the hits of all needles, in order; the next one is the least of those that are still to come. No program in sight.
-/
import Derived.Test.YtkcmpddefohkeaaPlaces
import Derived.Test.YtkcmpddefohkeaaHeapP
namespace Go.Proofs.Ytkcmpddefohkeaa
set_option linter.unusedVariables false
def standsF (T N : List Int) (p : Nat) : Bool := decide (0 < N.length) && (decide (p + N.length ≤ T.length) && standsB T N p)
theorem mem_places {T N : List Int} {p : Nat} : p ∈ placesF T N ↔ standsF T N p = true := by
  unfold placesF standsF placesTo
  split
  · rename_i h; simp [h]
  · rename_i h
    rw [List.mem_filter, List.mem_range]
    simp only [Bool.and_eq_true, decide_eq_true_eq]
    constructor
    · rintro ⟨h1, h2⟩; exact ⟨by omega, by omega, h2⟩
    · rintro ⟨_, h1, h2⟩; exact ⟨by omega, h2⟩
theorem places_sorted (T N : List Int) : (placesF T N).Pairwise (· < ·) := by
  unfold placesF placesTo
  split
  · exact List.Pairwise.nil
  · exact List.Pairwise.filter _ List.pairwise_lt_range
/-- A hit ahead of another. -/
def hitLt (a b : Nat × Nat) : Prop := a.1 < b.1 ∨ (a.1 = b.1 ∧ a.2 < b.2)
def nth (L : List (List Int)) (i : Nat) : List Int := (L[i]?).getD []
/-- The hits at a place, of the first needles. -/
def hitsAt (T : List Int) (L : List (List Int)) (p k : Nat) : List (Nat × Nat) := ((List.range k).filter (fun i => standsF T (nth L i) p)).map (fun i => (p, i))
/-- The hits at the first places. -/
def hitsTo (T : List Int) (L : List (List Int)) (b : Nat) : List (Nat × Nat) := (List.range b).flatMap (fun p => hitsAt T L p L.length)
/-- All hits. -/
def hitsF (T : List Int) (L : List (List Int)) : List (Nat × Nat) := hitsTo T L T.length
theorem hitsAt_succ (T : List Int) (L : List (List Int)) (p k : Nat) : hitsAt T L p (k + 1) = hitsAt T L p k ++ (if standsF T (nth L k) p = true then [(p, k)] else []) := by
  unfold hitsAt
  rw [List.range_succ, List.filter_append, List.map_append]
  congr 1
  by_cases h : standsF T (nth L k) p = true <;> simp [h]
theorem hitsTo_succ (T : List Int) (L : List (List Int)) (b : Nat) : hitsTo T L (b + 1) = hitsTo T L b ++ hitsAt T L b L.length := by
  unfold hitsTo
  rw [List.range_succ, List.flatMap_append]; simp
theorem mem_hitsAt {T : List Int} {L : List (List Int)} {p k : Nat} {h : Nat × Nat} : h ∈ hitsAt T L p k ↔ h.1 = p ∧ h.2 < k ∧ standsF T (nth L h.2) p = true := by
  unfold hitsAt
  rw [List.mem_map]
  constructor
  · rintro ⟨i, hi, rfl⟩
    rw [List.mem_filter, List.mem_range] at hi
    exact ⟨rfl, hi.1, hi.2⟩
  · rintro ⟨h1, h2, h3⟩
    exact ⟨h.2, List.mem_filter.2 ⟨List.mem_range.2 h2, h3⟩, by rw [← h1]⟩
theorem stands_lt {T N : List Int} {p : Nat} (h : standsF T N p = true) : p < T.length := by
  unfold standsF at h
  simp only [Bool.and_eq_true, decide_eq_true_eq] at h
  omega
theorem mem_hitsF {T : List Int} {L : List (List Int)} {h : Nat × Nat} : h ∈ hitsF T L ↔ h.2 < L.length ∧ standsF T (nth L h.2) h.1 = true := by
  unfold hitsF hitsTo
  rw [List.mem_flatMap]
  constructor
  · rintro ⟨p, hp, hh⟩
    obtain ⟨h1, h2, h3⟩ := mem_hitsAt.1 hh
    subst h1
    exact ⟨h2, h3⟩
  · rintro ⟨h1, h2⟩
    exact ⟨h.1, List.mem_range.2 (stands_lt h2), mem_hitsAt.2 ⟨rfl, h1, h2⟩⟩
theorem hitsAt_sorted (T : List Int) (L : List (List Int)) (p k : Nat) : (hitsAt T L p k).Pairwise hitLt := by
  unfold hitsAt
  rw [List.pairwise_map]
  exact List.Pairwise.imp (fun h => .inr ⟨rfl, h⟩) (List.Pairwise.filter _ List.pairwise_lt_range)
theorem hitsTo_sorted (T : List Int) (L : List (List Int)) (b : Nat) : (hitsTo T L b).Pairwise hitLt := by
  induction b with
  | zero => exact List.Pairwise.nil
  | succ b ih =>
    rw [hitsTo_succ, List.pairwise_append]
    refine ⟨ih, hitsAt_sorted T L b _, fun x hx y hy => ?_⟩
    obtain ⟨p, hp, hx⟩ := List.mem_flatMap.1 hx
    have h1 := (mem_hitsAt.1 hx).1
    have h2 := (mem_hitsAt.1 hy).1
    have := List.mem_range.1 hp
    exact .inl (by omega)
theorem hitsF_sorted (T : List Int) (L : List (List Int)) : (hitsF T L).Pairwise hitLt := hitsTo_sorted T L _
theorem hitLt_ne {a b : Nat × Nat} (h : hitLt a b) : a ≠ b := by
  rintro rfl
  unfold hitLt at h
  omega
/-- The hits of the first needles, needle by needle. -/
def byNeedle (T : List Int) (L : List (List Int)) (k : Nat) : List (Nat × Nat) := (List.range k).flatMap (fun i => (placesF T (nth L i)).map (fun p => (p, i)))
theorem byNeedle_succ (T : List Int) (L : List (List Int)) (k : Nat) : byNeedle T L (k + 1) = byNeedle T L k ++ (placesF T (nth L k)).map (fun p => (p, k)) := by
  unfold byNeedle
  rw [List.range_succ, List.flatMap_append]; simp
theorem mem_byNeedle {T : List Int} {L : List (List Int)} {k : Nat} {h : Nat × Nat} : h ∈ byNeedle T L k ↔ h.2 < k ∧ standsF T (nth L h.2) h.1 = true := by
  unfold byNeedle
  rw [List.mem_flatMap]
  constructor
  · rintro ⟨i, hi, hh⟩
    obtain ⟨p, hp, rfl⟩ := List.mem_map.1 hh
    exact ⟨List.mem_range.1 hi, mem_places.1 hp⟩
  · rintro ⟨h1, h2⟩
    exact ⟨h.2, List.mem_range.2 h1, List.mem_map.2 ⟨h.1, mem_places.2 h2, rfl⟩⟩
theorem byNeedle_nodup (T : List Int) (L : List (List Int)) (k : Nat) : (byNeedle T L k).Nodup := by
  have : (byNeedle T L k).Pairwise (fun a b => a.2 < b.2 ∨ (a.2 = b.2 ∧ a.1 < b.1)) := by
    induction k with
    | zero => exact List.Pairwise.nil
    | succ k ih =>
      rw [byNeedle_succ, List.pairwise_append]
      refine ⟨ih, ?_, fun x hx y hy => ?_⟩
      · rw [List.pairwise_map]
        exact List.Pairwise.imp (fun h => .inr ⟨rfl, h⟩) (places_sorted T _)
      · have h1 := (mem_byNeedle.1 hx).1
        obtain ⟨p, _, rfl⟩ := List.mem_map.1 hy
        exact .inl h1
  exact List.Pairwise.imp (fun {a b} h e => by subst e; omega) this
theorem byNeedle_perm (T : List Int) (L : List (List Int)) : (byNeedle T L L.length).Perm (hitsF T L) := by
  rw [List.perm_ext_iff_of_nodup (byNeedle_nodup T L _) (List.Pairwise.imp (fun h => hitLt_ne h) (hitsF_sorted T L))]
  intro h
  rw [mem_byNeedle, mem_hitsF]
/-- Of hits in order that are those of a list, the first one is the list's least. -/
theorem least_first {L R : List (Nat × Nat)} {h : Nat × Nat} (hp : R.Perm L) (hs : L.Pairwise hitLt) (hm : h ∈ R) (hl : ∀ x ∈ R, ¬ hitLt x h) : ∃ L', L = h :: L' := by
  have hL : h ∈ L := hp.mem_iff.1 hm
  cases L with
  | nil => cases hL
  | cons x L' =>
    refine ⟨L', ?_⟩
    congr 1
    rcases List.mem_cons.1 hL with e | e
    · exact e.symm
    · exact absurd ((List.pairwise_cons.1 hs).1 h e) (hl x (hp.mem_iff.2 (by simp)))
end Go.Proofs.Ytkcmpddefohkeaa
