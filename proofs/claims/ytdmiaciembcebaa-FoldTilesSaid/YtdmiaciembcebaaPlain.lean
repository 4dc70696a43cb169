/-
  The plain laws of folds: what is shown, row by row, is what Lay lists; what Clean keeps is right; what is listed tiles the rows. No condition.
-/
import Derived.Test.YtdmiaciembcebaaClean
import Derived.Test.YtdmiaciembcebaaFind
namespace Go.Proofs.Ytdmiaciembcebaa
open Go.RowKit

theorem rightF_ge {rows : Int} : ∀ (l : List Fd) (e : Int), rightF rows e l = true → ∀ f ∈ l, e ≤ f.1 ∧ f.1 < f.2.1
  | [], _, _, f, hf => by cases hf
  | g :: l, e, h, f, hf => by
    obtain ⟨h1, h2, h3, h4⟩ := rightF_cons h
    rcases List.mem_cons.1 hf with rfl | hf
    · exact ⟨h1, h2⟩
    · have := rightF_ge l g.2.1 h4 f hf
      omega
/-- Rows from a up to b. -/
def span (a b : Int) : List Int := (List.range (b - a).toNat).map fun (i : Nat) => a + (i : Int)
theorem span_none {a b : Int} (h : b ≤ a) : span a b = [] := by unfold span; rw [show (b - a).toNat = 0 by omega]; rfl
theorem span_cons {a b : Int} (h : a < b) : span a b = a :: span (a + 1) b := by
  unfold span
  rw [show (b - a).toNat = (b - (a + 1)).toNat + 1 by omega, List.range_succ_eq_map, List.map_cons, List.map_map]
  simp only [Int.natCast_zero, Int.add_zero]
  congr 1
  apply List.map_congr_left
  intro i _
  simp only [Function.comp, Nat.succ_eq_add_one]
  omega
theorem span_split {a c : Int} : ∀ (n : Nat) (b : Int), (b - a).toNat = n → a ≤ b → b ≤ c → span a c = span a b ++ span b c := by
  intro n
  induction n generalizing a with
  | zero => intro b h1 h2 h3; have : a = b := by omega
            subst this; rw [span_none (Int.le_refl _)]; rfl
  | succ n ih =>
    intro b h1 h2 h3
    rw [span_cons (show a < c by omega), span_cons (show a < b by omega), ih b (by omega) (by omega) h3]; rfl
theorem mem_span {a b x : Int} (h : x ∈ span a b) : a ≤ x ∧ x < b := by
  obtain ⟨i, hi, rfl⟩ := List.mem_map.1 h
  have := List.mem_range.1 hi
  omega
theorem rowsFrom_span (a b : Int) : rowsFrom a b = (span a b).map fun r => (r, 0, 0) := by simp [rowsFrom, span, List.map_map, Function.comp]
theorem flatMap_same {α β : Type} {f g : α → List β} : ∀ {l : List α}, (∀ x ∈ l, f x = g x) → l.flatMap f = l.flatMap g
  | [], _ => rfl
  | x :: l, h => by rw [List.flatMap_cons, List.flatMap_cons, h x (by simp), flatMap_same fun y hy => h y (by simp [hy])]
theorem flatMap_none {α β : Type} {f : α → List β} {l : List α} (h : ∀ x ∈ l, f x = []) : l.flatMap f = [] := by
  rw [flatMap_same (g := fun _ => []) h]; induction l with
  | nil => rfl
  | cons x l ih => rw [List.flatMap_cons, ih fun y hy => h y (by simp [hy])]; rfl
theorem flatMap_sing {α β : Type} (f : α → β) : ∀ l : List α, l.flatMap (fun x => [f x]) = l.map f
  | [] => rfl
  | x :: l => by rw [List.flatMap_cons, List.map_cons, flatMap_sing f l]; rfl
/-- Where no fold hides a row. -/
theorem refRow_free {l : List Fd} {row : Int} (h : ∀ f ∈ l, hitF row f = false) : refRow l row = [(row, 0, 0)] := by
  have h1 : l.flatMap (oneF row) = [] := flatMap_none fun f hf => by simp [oneF, h f hf]
  have h2 : l.any (hitF row) = false := by simpa using h
  simp [refRow, h1, h2]
theorem lay_ref {rows : Int} : ∀ (l : List Fd) (r : Int), rightF rows r l = true → r ≤ rows → layF rows r l = (span r rows).flatMap (refRow l)
  | [], r, _, _ => by
    rw [show layF rows r [] = rowsFrom r rows from rfl, rowsFrom_span, ← flatMap_sing]
    exact (flatMap_same fun x _ => refRow_free (by simp)).symm
  | f :: l, r, h, hr => by
    obtain ⟨h1, h2, h3, h4⟩ := rightF_cons h
    have hg := rightF_ge l f.2.1 h4
    have free : ∀ row, row < f.2.1 → ∀ g ∈ l, hitF row g = false := fun row hrow g hgm => by
      have := hg g hgm
      simp [hitF]; omega
    rw [span_split _ f.1 rfl h1 (by omega), List.flatMap_append, span_cons (show f.1 < rows by omega), List.flatMap_cons, span_split _ f.2.1 rfl (show f.1 + 1 ≤ f.2.1 by omega) h3, List.flatMap_append]
    have e1 : (span r f.1).flatMap (refRow (f :: l)) = rowsFrom r f.1 := by
      rw [rowsFrom_span, ← flatMap_sing]
      refine flatMap_same fun x hx => refRow_free fun g hgm => ?_
      have := mem_span hx
      rcases List.mem_cons.1 hgm with rfl | hgm
      · simp [hitF]; omega
      · exact free x (by omega) g hgm
    have e2 : refRow (f :: l) f.1 = [(f.1, f.2.2, f.2.1 - f.1)] := by
      have hf : hitF f.1 f = true := by simp [hitF]; omega
      have h1 : l.flatMap (oneF f.1) = [] := flatMap_none fun g hgm => by simp [oneF, free f.1 h2 g hgm]
      simp [refRow, h1, oneF, hf]
    have e3 : (span (f.1 + 1) f.2.1).flatMap (refRow (f :: l)) = [] := by
      refine flatMap_none fun x hx => ?_
      have hx' := mem_span hx
      have hf : hitF x f = true := by simp [hitF]; omega
      have h1 : l.flatMap (oneF x) = [] := flatMap_none fun g hgm => by simp [oneF, free x (by omega) g hgm]
      have h2 : oneF x f = [] := by simp [oneF]; omega
      simp [refRow, h1, h2, hf]
    have e4 : (span f.2.1 rows).flatMap (refRow (f :: l)) = (span f.2.1 rows).flatMap (refRow l) := by
      refine flatMap_same fun x hx => ?_
      have hx' := mem_span hx
      have hf : hitF x f = false := by simp [hitF]; omega
      have h2 : oneF x f = [] := by simp [oneF, hf]
      simp only [refRow, List.flatMap_cons, h2, List.nil_append, List.any_cons, hf, Bool.false_or]
    rw [e1, e2, e3, e4, ← lay_ref l f.2.1 h4 h3]
    simp [layF]
theorem lay_refLay {rows : Int} {l : List Fd} (h : rightF rows 0 l = true) (hr : 0 ≤ rows) : layF rows 0 l = refLay rows l := by
  rw [lay_ref l 0 h hr]
  unfold span refLay
  rw [Int.sub_zero, List.flatMap_map]
  refine flatMap_same fun i _ => ?_
  rw [Int.zero_add]
theorem lay_len {rows : Int} : ∀ (l : List Fd) (r : Int), rightF rows r l = true → r ≤ rows → ((layF rows r l).length : Int) = rows - r - hidF l
  | [], r, _, hr => by
    rw [show layF rows r [] = rowsFrom r rows from rfl, rowsFrom_len]; simp [hidF]; omega
  | f :: l, r, h, hr => by
    obtain ⟨h1, h2, h3, h4⟩ := rightF_cons h
    have := lay_len l f.2.1 h4 h3
    simp only [layF, List.length_append, List.length_cons, rowsFrom_len, hidF]
    omega

theorem clean_right {rows : Int} : ∀ (l : List Fd) (e : Int), 0 ≤ e → rightF rows e (cleanF rows e l) = true
  | [], _, _ => rfl
  | f :: l, e, he => by
    unfold cleanF
    by_cases h : max 0 f.1 < min f.2.1 rows ∧ e ≤ max 0 f.1
    · rw [if_pos h]
      simp only [rightF]
      rw [clean_right l (min f.2.1 rows) (by omega)]
      simp only [Bool.and_true, decide_eq_true_eq]
      omega
    · rw [if_neg h]
      exact clean_right l e he
theorem clean_keeps {rows : Int} : ∀ (l : List Fd) (e : Int), 0 ≤ e → rightF rows e l = true → (cleanF rows e l).length = l.length
  | [], _, _, _ => rfl
  | f :: l, e, he, h => by
    obtain ⟨h1, h2, h3, h4⟩ := rightF_cons h
    unfold cleanF
    rw [if_pos (by omega), List.length_cons, List.length_cons]
    rw [show min f.2.1 rows = f.2.1 by omega]
    rw [clean_keeps l f.2.1 (by omega) h4]
theorem clean_len {rows : Int} : ∀ (l : List Fd) (e : Int), (cleanF rows e l).length ≤ l.length
  | [], _ => by simp [cleanF]
  | f :: l, e => by
    unfold cleanF
    split
    · have := clean_len (rows := rows) l (min f.2.1 rows); simp; omega
    · have := clean_len (rows := rows) l e; simp; omega

/-- Items, one behind the other, from a row on: where they end; none: one isn't where the one ahead ends. -/
def tileF : Int → List It → Option Int
  | a, [] => some a
  | a, x :: l => if x.1 = a then tileF (a + max 1 x.2.2) l else none
theorem tile_append : ∀ (l m : List It) (a b : Int), tileF a l = some b → tileF a (l ++ m) = tileF b m
  | [], m, a, b, h => by simp [tileF] at h; subst h; rfl
  | x :: l, m, a, b, h => by
    simp only [tileF, List.cons_append] at h ⊢
    split at h
    · rename_i hx; rw [if_pos hx]; exact tile_append l m _ b h
    · cases h
theorem tile_rows : ∀ (n : Nat) (a b : Int), (b - a).toNat = n → a ≤ b → tileF a (rowsFrom a b) = some b
  | 0, a, b, h, hab => by rw [rowsFrom_none (by omega)]; simp [tileF]; omega
  | n + 1, a, b, h, hab => by
    rw [rowsFrom_span, span_cons (by omega), List.map_cons, ← rowsFrom_span]
    simp only [tileF, if_true]
    exact tile_rows n (a + max 1 0) b (by omega) (by omega)
theorem tile_lay {rows : Int} : ∀ (l : List Fd) (r : Int), rightF rows r l = true → r ≤ rows → tileF r (layF rows r l) = some rows
  | [], r, _, hr => tile_rows _ r rows rfl hr
  | f :: l, r, h, hr => by
    obtain ⟨h1, h2, h3, h4⟩ := rightF_cons h
    simp only [layF]
    rw [tile_append _ _ r f.1 (tile_rows _ r f.1 rfl h1)]
    simp only [tileF, if_true]
    rw [show f.1 + max 1 (f.2.1 - f.1) = f.2.1 by omega]
    exact tile_lay l f.2.1 h4 h3
theorem idx_lt {row : Int} : ∀ (l : List It) (k i : Nat), idxF row k l = some i → i < k + l.length
  | [], k, i, h => by simp [idxF] at h
  | x :: l, k, i, h => by
    simp only [idxF] at h
    split at h
    · simp at h; subst h; simp
    · have := idx_lt l (k + 1) i h; simp; omega
theorem idx_some {row : Int} : ∀ (l : List It) (k : Nat) (x : It), x ∈ l → hasF row x = true → (idxF row k l).isSome = true
  | [], k, x, h, _ => by cases h
  | y :: l, k, x, h, hx => by
    simp only [idxF]
    split
    · rfl
    · rename_i hy
      rcases List.mem_cons.1 h with rfl | h
      · exact absurd hx hy
      · exact idx_some l (k + 1) x h hx
theorem tile_le : ∀ (l : List It) (a b : Int), tileF a l = some b → a ≤ b
  | [], a, b, h => by simp [tileF] at h; omega
  | x :: l, a, b, h => by
    simp only [tileF] at h
    split at h
    · have := tile_le l _ b h; omega
    · cases h
theorem tile_at {l : List It} {k : Nat} {x : It} {a b : Int} (hx : l[k]? = some x) (h : tileF a (l.drop k) = some b) : x.1 = a ∧ tileF (a + max 1 x.2.2) (l.drop (k + 1)) = some b ∧ a + max 1 x.2.2 ≤ b := by
  rw [drop_at hx] at h
  simp only [tileF] at h
  split at h
  · rename_i hxa
    exact ⟨hxa, h, tile_le _ _ _ h⟩
  · cases h
theorem rows_at {a b : Int} {k : Nat} (h : a + k < b) : (rowsFrom a b)[k]? = some (a + k, 0, 0) := by
  unfold rowsFrom
  rw [List.getElem?_map, List.getElem?_range (by omega)]
  rfl
theorem rows_found {n : Int} {k : Nat} (h : (k : Int) < n) : (idxF k 0 (rowsFrom 0 n)).isSome = true := by
  have hx : (rowsFrom 0 n)[k]? = some ((k : Int), 0, 0) := by rw [rows_at (by omega)]; simp
  exact idx_some _ _ _ (List.mem_of_getElem? hx) (by simp [hasF])
theorem rows_ge {a b : Int} : ∀ x ∈ rowsFrom a b, a ≤ x.1 := by
  intro x hx
  obtain ⟨i, _, rfl⟩ := List.mem_map.1 hx
  simp only
  omega
theorem lay_ge {rows : Int} : ∀ (l : List Fd) (r : Int), rightF rows r l = true → ∀ x ∈ layF rows r l, r ≤ x.1
  | [], r, _, x, hx => rows_ge x hx
  | f :: l, r, h, x, hx => by
    obtain ⟨h1, h2, h3, h4⟩ := rightF_cons h
    simp only [layF, List.mem_append, List.mem_cons] at hx
    rcases hx with hx | rfl | hx
    · exact rows_ge x hx
    · exact h1
    · have := lay_ge l f.2.1 h4 x hx
      omega
end Go.Proofs.Ytdmiaciembcebaa
