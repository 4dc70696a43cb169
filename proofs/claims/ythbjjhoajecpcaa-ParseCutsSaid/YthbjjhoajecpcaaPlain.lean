/-
  The plain law of reading bytes as scalars: what a decoder reads step by step is what the document reads of all bytes. No program in sight.
-/
import Derived.Test.YthbjjhoajecpcaaBase
namespace Go.Proofs.Ythbjjhoajecpcaa
set_option linter.unusedVariables false

/-- How many bytes a scalar has whose first byte is c. -/
def sizeF (c : Int) : Nat := if c < 128 then 1 else if c < 194 ∨ 244 < c then 0 else if c < 224 then 2 else if c < 240 then 3 else 4
def loF (c : Int) : Int := if c = 224 then 160 else if c = 240 then 144 else 128
def hiF (c : Int) : Int := if c = 237 then 159 else if c = 244 then 143 else 191
/-- May b stand behind the first byte a? May c stand behind a later one? -/
def inB (a b : Int) : Bool := decide (loF a ≤ b) && decide (b ≤ hiF a)
def tailB (c : Int) : Bool := decide (128 ≤ c) && decide (c ≤ 191)
/-- Bytes that are a scalar's. -/
def isB : List Int → Bool
  | [a] => decide (sizeF a = 1)
  | [a, b] => decide (sizeF a = 2) && inB a b
  | [a, b, c] => decide (sizeF a = 3) && inB a b && tailB c
  | [a, b, c, d] => decide (sizeF a = 4) && inB a b && tailB c && tailB d
  | _ => false
/-- Bytes with which a scalar's begin, and go on. -/
def begB : List Int → Bool
  | [a] => decide (2 ≤ sizeF a)
  | [a, b] => decide (3 ≤ sizeF a) && inB a b
  | [a, b, c] => decide (4 ≤ sizeF a) && inB a b && tailB c
  | _ => false
/-- What a first byte of a scalar of so many bytes adds. -/
def headF (a : Int) : Int := if sizeF a = 2 then a - 192 else if sizeF a = 3 then a - 224 else if sizeF a = 4 then a - 240 else a
/-- What bytes say so far. -/
def numF : List Int → Int
  | [a] => headF a
  | [a, b] => headF a * 64 + (b - 128)
  | [a, b, c] => (headF a * 64 + (b - 128)) * 64 + (c - 128)
  | [a, b, c, d] => ((headF a * 64 + (b - 128)) * 64 + (c - 128)) * 64 + (d - 128)
  | _ => 0
def wholeN (b : List Int) : Nat := if isB (b.take 1) then 1 else if isB (b.take 2) then 2 else if isB (b.take 3) then 3 else if isB (b.take 4) then 4 else 0
def begN (b : List Int) : Nat := if begB (b.take 3) then (b.take 3).length else if begB (b.take 2) then (b.take 2).length else 1
/-- What stands at the beginning of bytes, and how many of them it has. -/
def oneF (b : List Int) : Int × Nat := if wholeN b = 0 then (65533, begN b) else (numF (b.take (wholeN b)), wholeN b)
def allFu : Nat → List Int → List Int
  | 0, _ => []
  | _ + 1, [] => []
  | k + 1, x :: b => (oneF (x :: b)).1 :: allFu k ((x :: b).drop (oneF (x :: b)).2)
/-- What is read of bytes. -/
def allF (b : List Int) : List Int := allFu b.length b
def waitsFu : Nat → List Int → Nat
  | 0, _ => 0
  | _ + 1, [] => 0
  | k + 1, x :: b => if (oneF (x :: b)).2 = (x :: b).length ∧ begB (x :: b) = true then (oneF (x :: b)).2 else waitsFu k ((x :: b).drop (oneF (x :: b)).2)
/-- How many bytes at the end wait. -/
def waitsF (b : List Int) : Nat := waitsFu b.length b
/-- A byte comes behind bytes that wait: what is read, and what waits then. -/
def firstF (c : Int) : List Int × List Int := if sizeF c = 1 then ([c], []) else if 2 ≤ sizeF c then ([], [c]) else ([65533], [])
def stepF (t : List Int) (c : Int) : List Int × List Int :=
  if t = [] then firstF c
  else if isB (t ++ [c]) then ([numF (t ++ [c])], []) else if begB (t ++ [c]) then ([], t ++ [c]) else (65533 :: (firstF c).1, (firstF c).2)
def endF (t : List Int) : List Int := if t = [] then [] else [65533]
/-- Step by step. -/
def readF : List Int → List Int → List Int × List Int
  | t, [] => ([], t)
  | t, c :: b => ((stepF t c).1 ++ (readF (stepF t c).2 b).1, (readF (stepF t c).2 b).2)

theorem sizeF_le (c : Int) : sizeF c ≤ 4 := by
  unfold sizeF
  (repeat' split) <;> omega
theorem beg_len {t : List Int} (h : begB t = true) : 0 < t.length ∧ t.length ≤ 3 := by
  match t, h with
  | [], h => simp [begB] at h
  | [_], _ => simp
  | [_, _], _ => simp
  | [_, _, _], _ => simp
  | _ :: _ :: _ :: _ :: _, h => simp [begB] at h
theorem one_pos (b : List Int) : 0 < (oneF b).2 := by
  unfold oneF
  split
  · unfold begN
    split
    · rename_i h; exact (beg_len h).1
    · split
      · rename_i h; exact (beg_len h).1
      · show 0 < 1; omega
  · show 0 < wholeN b
    omega
theorem drop_one_le (x : Int) (b : List Int) : ((x :: b).drop (oneF (x :: b)).2).length ≤ b.length := by
  have := one_pos (x :: b)
  rw [List.length_drop, List.length_cons]
  omega
theorem allFu_more : ∀ (k j : Nat) (b : List Int), b.length ≤ k → b.length ≤ j → allFu k b = allFu j b
  | 0, 0, b, _, _ => rfl
  | 0, j + 1, [], _, _ => rfl
  | k + 1, 0, [], _, _ => rfl
  | k + 1, j + 1, [], _, _ => rfl
  | k + 1, j + 1, x :: b, h1, h2 => by
    have h := drop_one_le x b
    rw [List.length_cons] at h1 h2
    unfold allFu
    rw [allFu_more k j _ (by omega) (by omega)]
theorem waitsFu_more : ∀ (k j : Nat) (b : List Int), b.length ≤ k → b.length ≤ j → waitsFu k b = waitsFu j b
  | 0, 0, b, _, _ => rfl
  | 0, j + 1, [], _, _ => rfl
  | k + 1, 0, [], _, _ => rfl
  | k + 1, j + 1, [], _, _ => rfl
  | k + 1, j + 1, x :: b, h1, h2 => by
    have h := drop_one_le x b
    rw [List.length_cons] at h1 h2
    unfold waitsFu
    rw [waitsFu_more k j _ (by omega) (by omega)]
theorem allF_nil : allF [] = [] := rfl
theorem allF_cons (b : List Int) (h : b ≠ []) : allF b = (oneF b).1 :: allF (b.drop (oneF b).2) := by
  cases b with
  | nil => exact absurd rfl h
  | cons x b =>
    show allFu (b.length + 1) (x :: b) = _
    rw [allFu, allFu_more b.length _ _ (drop_one_le x b) (Nat.le_refl _)]
    rfl
theorem waitsF_nil : waitsF [] = 0 := rfl
theorem waitsF_cons (b : List Int) (h : b ≠ []) : waitsF b = if (oneF b).2 = b.length ∧ begB b = true then (oneF b).2 else waitsF (b.drop (oneF b).2) := by
  cases b with
  | nil => exact absurd rfl h
  | cons x b =>
    show waitsFu (b.length + 1) (x :: b) = _
    rw [waitsFu, waitsFu_more b.length _ _ (drop_one_le x b) (Nat.le_refl _)]
    rfl
/-! ### what stands at the beginning -/
theorem one_is {s : List Int} (h : isB s = true) (rest : List Int) : oneF (s ++ rest) = (numF s, s.length) := by
  match s, h with
  | [], h => simp [isB] at h
  | [a], h => simp [oneF, wholeN, h]
  | [a, b], h =>
    have h' := h
    simp [isB] at h'
    have e1 : isB [a] = false := by simp [isB]; omega
    simp [oneF, wholeN, h, e1]
  | [a, b, c], h =>
    have h' := h
    simp [isB] at h'
    have e1 : isB [a] = false := by simp [isB]; omega
    have e2 : isB [a, b] = false := by simp [isB]; omega
    simp [oneF, wholeN, h, e1, e2]
  | [a, b, c, d], h =>
    have h' := h
    simp [isB] at h'
    have e1 : isB [a] = false := by simp [isB]; omega
    have e2 : isB [a, b] = false := by simp [isB]; omega
    have e3 : isB [a, b, c] = false := by simp [isB]; omega
    simp [oneF, wholeN, h, e1, e2, e3]
  | _ :: _ :: _ :: _ :: _ :: _, h => simp [isB] at h
theorem is_not_beg {s : List Int} (h : isB s = true) : begB s = false := by
  match s, h with
  | [], h => rfl
  | [a], h => simp [isB] at h; simp [begB]; omega
  | [a, b], h => simp [isB] at h; simp [begB]; omega
  | [a, b, c], h => simp [isB] at h; simp [begB]; omega
  | [a, b, c, d], h => rfl
  | _ :: _ :: _ :: _ :: _ :: _, h => rfl
theorem beg_not_is {s : List Int} (h : begB s = true) : isB s = false := by
  cases e : isB s with
  | false => rfl
  | true => rw [is_not_beg e] at h; cases h
/-- What begins, and doesn't go on. -/
theorem one_beg {t : List Int} (h : begB t = true) (rest : List Int) (hr : ∀ c r, rest = c :: r → isB (t ++ [c]) = false ∧ begB (t ++ [c]) = false) : oneF (t ++ rest) = (65533, t.length) := by
  match t, h, rest, hr with
  | [], h, _, _ => simp [begB] at h
  | [a], h, [], hr =>
    have e1 := beg_not_is h
    simp [oneF, wholeN, begN, h, e1]
  | [a], h, c :: r, hr =>
    obtain ⟨h2, h3⟩ := hr c r rfl
    simp only [List.cons_append, List.nil_append] at h2 h3
    have e1 := beg_not_is h
    have hs : ∀ x y, isB [a, c, x] = false ∧ isB [a, c, x, y] = false ∧ begB [a, c, x] = false := by
      intro x y
      simp [begB] at h
      simp only [isB, begB, Bool.and_eq_false_iff, decide_eq_false_iff_not] at h2 h3 ⊢
      rcases h3 with h3 | h3
      · exact ⟨.inl (.inl (by omega)), .inl (.inl (.inl (by omega))), .inl (.inl (by omega))⟩
      · exact ⟨.inl (.inr h3), .inl (.inl (.inr h3)), .inl (.inr h3)⟩
    match r with
    | [] => simp [oneF, wholeN, begN, e1, h2, h3]
    | [x] => simp [oneF, wholeN, begN, e1, h2, h3, (hs x 0).1, (hs x 0).2.2]
    | x :: y :: r => simp [oneF, wholeN, begN, e1, h2, h3, (hs x y).1, (hs x y).2.1, (hs x y).2.2]
  | [a, b], h, [], hr =>
    have e1 := beg_not_is h
    have e0 : isB [a] = false := by simp [begB] at h; simp [isB]; omega
    simp [oneF, wholeN, begN, h, e1, e0]
  | [a, b], h, c :: r, hr =>
    obtain ⟨h2, h3⟩ := hr c r rfl
    simp only [List.cons_append, List.nil_append] at h2 h3
    have e1 := beg_not_is h
    have e0 : isB [a] = false := by simp [begB] at h; simp [isB]; omega
    have hs : ∀ x, isB [a, b, c, x] = false := by
      intro x
      simp [begB] at h
      simp only [isB, begB, Bool.and_eq_false_iff, decide_eq_false_iff_not] at h2 h3 ⊢
      rcases h3 with (h3 | h3) | h3
      · exact .inl (.inl (.inl (by omega)))
      · exact .inl (.inl (.inr h3))
      · exact .inl (.inr h3)
    match r with
    | [] => simp [oneF, wholeN, begN, e1, e0, h2, h3, h]
    | x :: r => simp [oneF, wholeN, begN, e1, e0, h2, h3, h, hs x]
  | [a, b, c], h, rest, hr =>
    have e1 := beg_not_is h
    have e0 : isB [a] = false := by simp [begB] at h; simp [isB]; omega
    have e2 : isB [a, b] = false := by simp [begB] at h; simp [isB]; omega
    match rest with
    | [] => simp [oneF, wholeN, begN, h, e1, e0, e2]
    | x :: r =>
      have := (hr x r rfl).1
      simp only [List.cons_append, List.nil_append] at this
      simp [oneF, wholeN, begN, h, e1, e0, e2, this]
  | _ :: _ :: _ :: _ :: _, h, _, _ => simp [begB] at h
/-- A byte that no scalar's bytes begin with. -/
theorem one_none {c : Int} (h : sizeF c = 0) (rest : List Int) : oneF (c :: rest) = (65533, 1) := by
  match rest with
  | [] => simp [oneF, wholeN, begN, isB, begB, h]
  | [x] => simp [oneF, wholeN, begN, isB, begB, h]
  | [x, y] => simp [oneF, wholeN, begN, isB, begB, h]
  | x :: y :: z :: r => simp [oneF, wholeN, begN, isB, begB, h]

/-! ### step by step -/
/-- Where one stands: q is read as out, t waits. -/
structure At_ (q t out : List Int) : Prop where
  reads : ∀ rest, allF (q ++ (t ++ rest)) = out ++ allF (t ++ rest)
  alone : allF q = out
  left : ∀ rest, waitsF (q ++ (t ++ rest)) = waitsF (t ++ rest)
  waits : t = [] ∨ begB t = true
theorem at_nil : At_ [] [] [] := ⟨fun _ => rfl, rfl, fun _ => rfl, .inl rfl⟩
theorem chunk_all {s : List Int} {x : Int} (hs : s ≠ []) {rest : List Int} (h : oneF (s ++ rest) = (x, s.length)) : allF (s ++ rest) = x :: allF rest := by
  have hne : s ++ rest ≠ [] := fun e => hs (List.append_eq_nil_iff.1 e).1
  rw [allF_cons _ hne, h]
  simp
theorem chunk_left {s : List Int} {x : Int} (hs : s ≠ []) {rest : List Int} (h : oneF (s ++ rest) = (x, s.length)) (hb : begB s = false ∨ rest ≠ []) : waitsF (s ++ rest) = waitsF rest := by
  have hne : s ++ rest ≠ [] := fun e => hs (List.append_eq_nil_iff.1 e).1
  rw [waitsF_cons _ hne, h]
  simp only [List.drop_left]
  split
  · rename_i hh
    have h0 : rest = [] := by
      have := hh.1
      simp at this
      exact this
    rw [h0, List.append_nil] at hh
    rcases hb with hb | hb
    · rw [hb] at hh; cases hh.2
    · exact absurd h0 hb
  · rfl
theorem at_chunk {q t out s : List Int} {x : Int} (h : At_ q t out) (e : ∀ rest, t ++ ([] ++ rest) = t ++ rest) (c : Int) (hs : s = t ++ [c]) (h1 : ∀ rest, oneF (s ++ rest) = (x, s.length)) (hb : begB s = false) : At_ (q ++ s) [] (out ++ [x]) := by
  have hne : s ≠ [] := by rw [hs]; simp
  have r1 : ∀ rest, allF (q ++ s ++ ([] ++ rest)) = out ++ [x] ++ allF ([] ++ rest) := by
    intro rest
    have := h.reads ([c] ++ rest)
    rw [← List.append_assoc t, ← hs] at this
    rw [List.nil_append, List.append_assoc, this, chunk_all hne (h1 rest), List.append_assoc]
    rfl
  refine ⟨r1, ?_, fun rest => ?_, .inl rfl⟩
  · have := r1 []
    simpa [allF_nil] using this
  · have := h.left ([c] ++ rest)
    rw [← List.append_assoc t, ← hs] at this
    rw [List.nil_append, List.append_assoc, this, chunk_left hne (h1 rest) (.inl hb)]
theorem first_at {q out : List Int} (c : Int) (h : At_ q [] out) : ∃ q', q ++ [c] = q' ++ (firstF c).2 ∧ At_ q' (firstF c).2 (out ++ (firstF c).1) := by
  have hs := sizeF_le c
  unfold firstF
  by_cases h1 : sizeF c = 1
  · rw [if_pos h1]
    have hi : isB [c] = true := by simp [isB, h1]
    have e : numF [c] = c := by simp [numF, headF, h1]
    exact ⟨q ++ [c], by simp, at_chunk h (fun _ => rfl) c rfl (fun rest => by rw [one_is hi rest, e]) (is_not_beg hi)⟩
  · rw [if_neg h1]
    by_cases h2 : 2 ≤ sizeF c
    · rw [if_pos h2]
      refine ⟨q, rfl, fun rest => ?_, ?_, fun rest => ?_, .inr (by simp [begB, h2])⟩
      · have := h.reads ([c] ++ rest)
        simpa using this
      · simpa using h.alone
      · have := h.left ([c] ++ rest)
        simpa using this
    · rw [if_neg h2]
      exact ⟨q ++ [c], by simp, at_chunk h (fun _ => rfl) c rfl (fun rest => one_none (by omega) rest) (by simp [begB]; omega)⟩
theorem step_at {q t out : List Int} (c : Int) (h : At_ q t out) : ∃ q', q ++ t ++ [c] = q' ++ (stepF t c).2 ∧ At_ q' (stepF t c).2 (out ++ (stepF t c).1) := by
  unfold stepF
  by_cases h0 : t = []
  · subst h0
    rw [if_pos rfl, List.append_nil]
    exact first_at c h
  · rw [if_neg h0]
    have hb := h.waits.resolve_left h0
    by_cases h1 : isB (t ++ [c]) = true
    · rw [if_pos h1]
      exact ⟨q ++ (t ++ [c]), by simp, at_chunk h (fun _ => rfl) c rfl (one_is h1) (is_not_beg h1)⟩
    · rw [if_neg h1]
      by_cases h2 : begB (t ++ [c]) = true
      · rw [if_pos h2]
        refine ⟨q, by simp, fun rest => ?_, by simpa using h.alone, fun rest => ?_, .inr h2⟩
        · have := h.reads ([c] ++ rest)
          simpa using this
        · have := h.left ([c] ++ rest)
          simpa using this
      · rw [if_neg h2]
        have hk : ∀ rest, oneF (t ++ c :: rest) = (65533, t.length) := fun rest => one_beg hb _ (fun c' r e => by injection e with e1 e2; subst e1; exact ⟨by simpa using h1, by simpa using h2⟩)
        obtain ⟨q1, e, a⟩ := first_at (q := []) (out := []) c at_nil
        have hr : ∀ rest, allF (q ++ (t ++ q1) ++ ((firstF c).2 ++ rest)) = out ++ 65533 :: (firstF c).1 ++ allF ((firstF c).2 ++ rest) := by
          intro rest
          have e2 : q ++ (t ++ q1) ++ ((firstF c).2 ++ rest) = q ++ (t ++ (c :: rest)) := by
            have : q1 ++ ((firstF c).2 ++ rest) = c :: rest := by rw [← List.append_assoc, ← e]; rfl
            rw [List.append_assoc, List.append_assoc, this]
          have e3 := a.reads rest
          rw [← List.append_assoc, ← e] at e3
          rw [e2, h.reads (c :: rest), chunk_all h0 (hk rest), List.append_assoc]
          show out ++ 65533 :: allF ([] ++ [c] ++ rest) = _
          rw [e3]
          rfl
        refine ⟨q ++ (t ++ q1), by rw [List.append_assoc, List.append_assoc, List.append_assoc, ← e]; rfl, hr, ?_, fun rest => ?_, a.waits⟩
        · cases q1 with
          | nil =>
            have h1 := h.reads []
            have h3 := one_beg hb [] (fun c r e => by cases e)
            have h4 := chunk_all h0 h3
            have h5 := a.alone
            rw [List.append_nil] at h1 h4
            rw [List.append_nil, h1, h4, ← show allF [] = (firstF c).1 from h5]
          | cons x r =>
            have hn : (firstF c).2 = [] := by
              cases r with
              | nil => simp at e; exact e.2
              | cons y r => simp at e
            have := hr []
            rw [hn] at this
            simpa [allF_nil] using this
        · have e2 : q ++ (t ++ q1) ++ ((firstF c).2 ++ rest) = q ++ (t ++ (c :: rest)) := by
            have : q1 ++ ((firstF c).2 ++ rest) = c :: rest := by rw [← List.append_assoc, ← e]; rfl
            rw [List.append_assoc, List.append_assoc, this]
          have e3 := a.left rest
          rw [← List.append_assoc, ← e] at e3
          rw [e2, h.left (c :: rest), chunk_left h0 (hk rest) (.inr (by simp))]
          exact e3
theorem read_at : ∀ (b : List Int) {q t out : List Int}, At_ q t out → ∃ q', q ++ t ++ b = q' ++ (readF t b).2 ∧ At_ q' (readF t b).2 (out ++ (readF t b).1)
  | [], q, t, out, h => ⟨q, by simp [readF], by simpa [readF] using h⟩
  | c :: b, q, t, out, h => by
    obtain ⟨q1, e1, a1⟩ := step_at c h
    obtain ⟨q2, e2, a2⟩ := read_at b a1
    refine ⟨q2, ?_, ?_⟩
    · rw [← e1] at e2
      rw [show q ++ t ++ c :: b = q ++ t ++ [c] ++ b by simp, e2]
      rfl
    · simpa [readF] using a2
theorem all_end {t : List Int} (h : t = [] ∨ begB t = true) : allF t = endF t ∧ waitsF t = t.length := by
  by_cases h0 : t = []
  · subst h0; exact ⟨rfl, rfl⟩
  · have hb := h.resolve_left h0
    have h1 := one_beg hb [] (fun c r e => by cases e)
    rw [List.append_nil] at h1
    have := chunk_all h0 (rest := []) (by rw [List.append_nil]; exact h1)
    rw [List.append_nil] at this
    refine ⟨by rw [this, endF, if_neg h0]; rfl, ?_⟩
    rw [waitsF_cons _ h0, h1, if_pos ⟨rfl, hb⟩]
/-- What is read step by step, and at the end, is what is read of all. -/
theorem read_all (b : List Int) : allF b = (readF [] b).1 ++ endF (readF [] b).2 := by
  obtain ⟨q, e, a⟩ := read_at b at_nil
  have h := a.reads []
  rw [List.append_nil, ← e] at h
  simpa [(all_end a.waits).1] using h
/-- So far: what was read is what is read of all but those that wait. -/
theorem read_so_far (b : List Int) : waitsF b = (readF [] b).2.length ∧ (readF [] b).2.length ≤ b.length ∧ allF (b.take (b.length - (readF [] b).2.length)) = (readF [] b).1 := by
  obtain ⟨q, e, a⟩ := read_at b at_nil
  simp only [List.nil_append] at e a
  have h := a.left []
  rw [List.append_nil, ← e] at h
  have hl : b.length = q.length + (readF [] b).2.length := by
    have := congrArg List.length e
    simpa using this
  refine ⟨by rw [h, (all_end a.waits).2], by omega, ?_⟩
  rw [show b.length - (readF [] b).2.length = q.length by omega]
  have : b.take q.length = q := by rw [e]; simp
  rw [this, a.alone]
theorem readF_snoc : ∀ (b t : List Int) (c : Int), readF t (b ++ [c]) = ((readF t b).1 ++ (stepF (readF t b).2 c).1, (stepF (readF t b).2 c).2)
  | [], t, c => by simp [readF]
  | x :: b, t, c => by
    rw [List.cons_append, readF, readF_snoc b, readF]
    simp
end Go.Proofs.Ythbjjhoajecpcaa
