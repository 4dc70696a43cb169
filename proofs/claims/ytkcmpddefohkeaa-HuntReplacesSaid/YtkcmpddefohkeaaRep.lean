/-
  The plain law of replaced hits: hits that do not overlap, and the text in which others stand in their places. No program in sight.
-/
import Derived.Test.YtkcmpddefohkeaaBest
namespace Go.Proofs.Ytkcmpddefohkeaa
set_option linter.unusedVariables false
/-- Where the first hits end. -/
def endAt (ln : Nat → Nat) (l : List (Nat × Nat)) : Nat → Nat
  | 0 => 0
  | k + 1 => match l[k]? with | none => endAt ln l k | some x => x.1 + ln x.2
/-- The text up to the first hits' end, others in their places. -/
def repTo (t : ByteArray) (ln : Nat → Nat) (say : Nat → ByteArray) (l : List (Nat × Nat)) : Nat → ByteArray
  | 0 => ⟨#[]⟩
  | k + 1 => match l[k]? with | none => repTo t ln say l k | some x => (repTo t ln say l k ++ t.extract (endAt ln l k) x.1) ++ say x.2
/-- Hits that do not overlap, within a text. -/
def Apart (ln : Nat → Nat) (n m : Nat) (l : List (Nat × Nat)) : Prop := ∀ k x, l[k]? = some x → endAt ln l k ≤ x.1 ∧ x.1 + ln x.2 ≤ m ∧ x.2 < n
theorem endAt_succ {ln : Nat → Nat} {l : List (Nat × Nat)} {k : Nat} {x : Nat × Nat} (h : l[k]? = some x) : endAt ln l (k + 1) = x.1 + ln x.2 := by
  rw [endAt, h]
theorem repTo_succ {t : ByteArray} {ln : Nat → Nat} {say : Nat → ByteArray} {l : List (Nat × Nat)} {k : Nat} {x : Nat × Nat} (h : l[k]? = some x) : repTo t ln say l (k + 1) = (repTo t ln say l k ++ t.extract (endAt ln l k) x.1) ++ say x.2 := by
  rw [repTo, h]
theorem endAt_app {ln : Nat → Nat} {l : List (Nat × Nat)} (r : List (Nat × Nat)) : ∀ {k}, k ≤ l.length → endAt ln (l ++ r) k = endAt ln l k
  | 0, _ => rfl
  | k + 1, h => by
    rw [endAt, endAt, List.getElem?_append_left (by omega), endAt_app r (by omega)]
theorem endAt_le {ln : Nat → Nat} {n m : Nat} {l : List (Nat × Nat)} (h : Apart ln n m l) : ∀ k, endAt ln l k ≤ m
  | 0 => Nat.zero_le _
  | k + 1 => by
    rw [endAt]
    cases hk : l[k]? with
    | none => exact endAt_le h k
    | some x => exact (h k x hk).2.1
theorem apart_snoc {ln : Nat → Nat} {n m : Nat} {l : List (Nat × Nat)} {x : Nat × Nat} (h : Apart ln n m l) (h1 : endAt ln l l.length ≤ x.1) (h2 : x.1 + ln x.2 ≤ m) (h3 : x.2 < n) : Apart ln n m (l ++ [x]) := by
  intro k z hz
  by_cases hk : k < l.length
  · rw [List.getElem?_append_left hk] at hz
    rw [endAt_app _ (by omega)]
    exact h k z hz
  · have hkl : k = l.length := by
      have := (List.getElem?_eq_some_iff.1 hz).1
      simp at this; omega
    subst hkl
    rw [List.getElem?_append_right (Nat.le_refl _)] at hz
    simp at hz
    subst hz
    rw [endAt_app _ (Nat.le_refl _)]
    exact ⟨h1, h2, h3⟩
theorem end_snoc {ln : Nat → Nat} {l : List (Nat × Nat)} {x : Nat × Nat} : endAt ln (l ++ [x]) (l ++ [x]).length = x.1 + ln x.2 := by
  rw [List.length_append]
  exact endAt_succ (by rw [List.getElem?_append_right (Nat.le_refl _)]; simp)
/-- The longest hits do not overlap. -/
theorem st_apart (T : List Int) (L : List (List Int)) : ∀ p, p ≤ T.length → ∃ out e, stTo T L p = (out, e) ∧ (∀ y ∈ out, y.1 < p) ∧ out.length ≤ p ∧ e = endAt (fun y => (nth L y).length) out out.length ∧ Apart (fun y => (nth L y).length) L.length T.length out
  | 0, _ => ⟨[], 0, rfl, (fun y hy => by cases hy), Nat.le_refl _, rfl, fun k x h => by simp at h⟩
  | p + 1, hp => by
    obtain ⟨out, e, h1, h2, h3, h4, h5⟩ := st_apart T L p (by omega)
    by_cases he : e ≤ p
    · cases hb : bestTo T L p L.length with
      | none => exact ⟨out, e, st_none h1 h2 he hb, fun y hy => Nat.lt_succ_of_lt (h2 y hy), by omega, h4, h5⟩
      | some b =>
        have hbs := best_stands hb
        have hfit := hbs.2
        unfold standsF at hfit
        simp at hfit
        refine ⟨out ++ [(p, b)], p + (nth L b).length, st_some h1 h2 he hb, ?_, by simp; omega, (end_snoc (ln := fun y => (nth L y).length) (x := (p, b))).symm, apart_snoc h5 (by rw [← h4]; exact he) hfit.2.1 hbs.1⟩
        intro y hy
        rcases List.mem_append.1 hy with hy | hy
        · exact Nat.lt_succ_of_lt (h2 y hy)
        · rw [List.mem_singleton] at hy; subst hy; exact Nat.lt_succ_self p
    · exact ⟨out, e, by rw [stTo_succ, h1]; exact off_fold h2 (by omega) _, fun y hy => Nat.lt_succ_of_lt (h2 y hy), by omega, h4, h5⟩
theorem longF_apart (T : List Int) (L : List (List Int)) : (longF L (hitsF T L)).length ≤ T.length ∧ Apart (fun y => (nth L y).length) L.length T.length (longF L (hitsF T L)) := by
  obtain ⟨out, e, h1, h2, h3, h4, h5⟩ := st_apart T L T.length (Nat.le_refl _)
  have : longF L (hitsF T L) = out := by
    unfold longF longTo
    rw [List.take_length]
    exact congrArg Prod.fst h1
  rw [this]
  exact ⟨h3, h5⟩
theorem repTo_size {t : ByteArray} {ln : Nat → Nat} {say : Nat → ByteArray} {l : List (Nat × Nat)} {m q : Nat} (hm : t.size ≤ m) (hs : ∀ y, (say y).size ≤ q) : ∀ k, (repTo t ln say l k).size ≤ k * (m + q)
  | 0 => Nat.zero_le _
  | k + 1 => by
    rw [repTo]
    have hi := repTo_size (ln := ln) (l := l) hm hs k
    rw [Nat.add_mul]
    cases hk : l[k]? with
    | none => simp only; omega
    | some x =>
      simp only [ByteArray.size_append, ByteArray.size_extract]
      have := hs x.2
      omega
end Go.Proofs.Ytkcmpddefohkeaa
