/-
  The document's numbers of a head, byte by byte, are the program's. No program in sight.
-/
import Derived.Test.YthbjjhoajecpcaaParse
namespace Go.Proofs.Ythbjjhoajecpcaa
set_option linter.unusedVariables false
/-- Groups so far, the last group's numbers but one, its last number. -/
structure Nst where
  L : List (List Int)
  pre : List Int
  v : Int
def digF (v c : Int) : Int := min (10 * (if v < 0 then 0 else v) + (c - 48)) 65535
def nStep (s : Nst) (c : Int) : Nst := if c = 59 then ⟨s.L ++ [s.pre ++ [s.v]], [], -1⟩ else if c = 58 then ⟨s.L, s.pre ++ [s.v], -1⟩ else ⟨s.L, s.pre, digF s.v c⟩
def nFold (l : List Int) : Nst := l.foldl nStep ⟨[], [], -1⟩
theorem nFold_snoc {l : List Int} {k : Nat} {x : Int} (h : l[k]? = some x) : nFold (l.take (k + 1)) = nStep (nFold (l.take k)) x := by
  unfold nFold
  rw [take_snoc h, List.foldl_append]; rfl
theorem split_last {c : Int} : ∀ (l : List Int) (x : Int), ∃ P p, splitF c l = P ++ [p] ∧ splitF c (l ++ [x]) = if x = c then P ++ [p, []] else P ++ [p ++ [x]]
  | [], x => by
    refine ⟨[], [], rfl, ?_⟩
    simp only [List.nil_append, splitF]
    split <;> simp
  | y :: l, x => by
    obtain ⟨P, p, h1, h2⟩ := split_last (c := c) l x
    rw [List.cons_append, splitF, splitF, h1, h2]
    by_cases k : y = c
    · rw [if_pos k, if_pos k]
      refine ⟨[] :: P, p, rfl, ?_⟩
      split <;> rfl
    · rw [if_neg k, if_neg k]
      cases P with
      | nil =>
        refine ⟨[], y :: p, by simp, ?_⟩
        split <;> simp
      | cons q P =>
        refine ⟨(y :: q) :: P, p, by simp, ?_⟩
        split <;> simp
theorem value_snoc (p : List Int) (x : Int) (hx : 48 ≤ x) (hp : ∀ y ∈ p, 48 ≤ y) : valueF (p ++ [x]) = digF (valueF p) x := by
  have nn : ∀ (p : List Int) (a : Int), (∀ y ∈ p, 48 ≤ y) → 0 ≤ a → 0 ≤ p.foldl (fun n c => min (n * 10 + (c - 48)) 65535) a := by
    intro p
    induction p with
    | nil => intro a _ h; exact h
    | cons y p ih =>
      intro a h ha
      have := h y (by simp)
      exact ih _ (fun z hz => h z (List.mem_cons_of_mem _ hz)) (by show 0 ≤ min (a * 10 + (y - 48)) 65535; omega)
  unfold valueF digF
  rw [if_neg (by simp), List.foldl_append]
  by_cases k : p = []
  · subst k
    simp
  · rw [if_neg k]
    have := nn p 0 hp (by omega)
    rw [if_neg (by omega)]
    show min (_ * 10 + (x - 48)) 65535 = _
    rw [Int.mul_comm]
/-- All groups so far. -/
def groupsOf (s : Nst) : List (List Int) := s.L ++ [s.pre ++ [s.v]]
theorem nFold_split : ∀ (n : Nat) (l : List Int), l.length = n → (∀ x ∈ l, 48 ≤ x) → ∃ P p Q q, splitF 59 l = P ++ [p] ∧ splitF 58 p = Q ++ [q] ∧ (∀ y ∈ q, 48 ≤ y) ∧ nFold l = ⟨P.map (fun p => (splitF 58 p).map valueF), Q.map valueF, valueF q⟩
  | 0, l, hl, _ => by
    obtain rfl := List.eq_nil_of_length_eq_zero hl
    exact ⟨[], [], [], [], rfl, rfl, by simp, rfl⟩
  | n + 1, l, hl, hb => by
    obtain ⟨m, x, rfl⟩ : ∃ m x, l = m ++ [x] := by
      rcases List.eq_nil_or_concat l with h | ⟨m, x, h⟩
      · subst h; simp at hl
      · exact ⟨m, x, by simpa using h⟩
    have hm : m.length = n := by simpa using hl
    have hx := hb x (by simp)
    obtain ⟨P, p, Q, q, h1, h2, h3, h4⟩ := nFold_split n m hm (fun y hy => hb y (by simp [hy]))
    have hf : nFold (m ++ [x]) = nStep (nFold m) x := by unfold nFold; rw [List.foldl_append]; rfl
    obtain ⟨P', p', e1, e2⟩ := split_last (c := 59) m x
    obtain ⟨rfl, hp⟩ := List.append_inj' (h1.symm.trans e1) rfl
    obtain rfl : p = p' := by simpa using hp
    obtain ⟨Q', q', d1, d2⟩ := split_last (c := 58) p x
    obtain ⟨rfl, hq⟩ := List.append_inj' (h2.symm.trans d1) rfl
    obtain rfl : q = q' := by simpa using hq
    rw [hf, h4]
    unfold nStep
    by_cases k1 : x = 59
    · rw [if_pos k1] at e2
      rw [if_pos k1]
      refine ⟨P ++ [p], [], [], [], by simpa using e2, rfl, by simp, ?_⟩
      simp only [List.map_append, List.map_cons, List.map_nil, h2]
      rfl
    · rw [if_neg k1] at e2
      rw [if_neg k1]
      by_cases k2 : x = 58
      · rw [if_pos k2] at d2
        rw [if_pos k2]
        refine ⟨P, p ++ [x], Q ++ [q], [], e2, by simpa using d2, by simp, ?_⟩
        simp only [List.map_append, List.map_cons, List.map_nil]
        rfl
      · rw [if_neg k2] at d2
        rw [if_neg k2]
        refine ⟨P, p ++ [x], Q, q ++ [x], e2, d2, ?_, ?_⟩
        · intro y hy
          rw [List.mem_append, List.mem_singleton] at hy
          rcases hy with hy | rfl
          · exact h3 y hy
          · exact hx
        · rw [value_snoc q x hx h3]
/-- The document's numbers are the program's. -/
theorem nums_fold (l : List Int) (h : ∀ x ∈ l, 48 ≤ x) : numsF l = ((groupsOf (nFold l)).take 32).map (fun g => g.take 8) := by
  obtain ⟨P, p, Q, q, h1, h2, h3, h4⟩ := nFold_split l.length l rfl h
  have e : groupsOf (nFold l) = (splitF 59 l).map (fun p => (splitF 58 p).map valueF) := by
    unfold groupsOf
    rw [h4, h1, List.map_append, List.map_cons, List.map_nil, h2]
    simp
  rw [e]
  unfold numsF
  rw [← List.map_take, List.map_map]
  apply List.map_congr_left
  intro g _
  unfold groupF
  simp [List.map_take]
theorem nFold_len : ∀ (n : Nat) (l : List Int), l.length = n → (∀ x ∈ l, 48 ≤ x) → -1 ≤ (nFold l).v ∧ (nFold l).v ≤ 65535 ∧ (nFold l).L.length ≤ n ∧ (nFold l).pre.length ≤ n
  | 0, l, hl, _ => by
    obtain rfl := List.eq_nil_of_length_eq_zero hl
    simp [nFold]
  | n + 1, l, hl, hb => by
    obtain ⟨m, x, rfl⟩ : ∃ m x, l = m ++ [x] := by
      rcases List.eq_nil_or_concat l with h | ⟨m, x, h⟩
      · subst h; simp at hl
      · exact ⟨m, x, by simpa using h⟩
    have hm : m.length = n := by simpa using hl
    have hx := hb x (by simp)
    have := nFold_len n m hm (fun y hy => hb y (by simp [hy]))
    have hf : nFold (m ++ [x]) = nStep (nFold m) x := by unfold nFold; rw [List.foldl_append]; rfl
    rw [hf]
    unfold nStep
    split
    · simp; omega
    · split
      · simp; omega
      · simp only [digF]
        refine ⟨?_, Int.min_le_right _ _, by omega, by omega⟩
        split <;> omega
end Go.Proofs.Ythbjjhoajecpcaa
