/-
  The plain law at rest: what the parser makes of any bytes is the document's answer. No program in sight.
-/
import Derived.Test.YthbjjhoajecpcaaDoc
namespace Go.Proofs.Ythbjjhoajecpcaa
set_option linter.unusedVariables false
theorem numF_hi {t : List Int} (h : isB t = true) (hb : ∀ x ∈ t, 0 ≤ x ∧ x ≤ 255) (h2 : 2 ≤ t.length) : 128 ≤ numF t := by
  match t, h, hb, h2 with
  | [a], _, _, h2 => simp at h2
  | [a, b], h, hb, _ =>
    have hz : sizeF a = 2 ∧ inB a b = true := by simpa [isB] using h
    have ha := hb a (by simp)
    have e : numF [a, b] = headF a * 64 + (b - 128) := rfl
    have hh : headF a = a - 192 := by unfold headF; rw [if_pos hz.1]
    have h3 := hz.1
    unfold sizeF at h3
    have : 194 ≤ a := by (repeat' split at h3) <;> omega
    have hi := hz.2
    unfold inB loF at hi
    have : 128 ≤ b := by rw [Bool.and_eq_true, decide_eq_true_eq] at hi; have := hi.1; (repeat' split at this) <;> omega
    rw [e, hh]; omega
  | [a, b, c], h, hb, _ =>
    have hz : (sizeF a = 3 ∧ inB a b = true) ∧ tailB c = true := by simpa [isB] using h
    have ha := hb a (by simp)
    have e : numF [a, b, c] = (headF a * 64 + (b - 128)) * 64 + (c - 128) := rfl
    have hh : headF a = a - 224 := by unfold headF; rw [if_neg (by omega), if_pos hz.1.1]
    have h3 := hz.1.1
    unfold sizeF at h3
    have h4 : 224 ≤ a := by (repeat' split at h3) <;> omega
    have hi := hz.1.2
    unfold inB loF at hi
    have h5 : 128 ≤ b ∧ (a = 224 → 160 ≤ b) := by rw [Bool.and_eq_true, decide_eq_true_eq] at hi; have := hi.1; (repeat' split at this) <;> omega
    have h6 : 128 ≤ c := by have := hz.2; unfold tailB at this; simp at this; omega
    rw [e, hh]
    by_cases k : a = 224
    · have := h5.2 k; omega
    · omega
  | [a, b, c, d], h, hb, _ =>
    have hz : ((sizeF a = 4 ∧ inB a b = true) ∧ tailB c = true) ∧ tailB d = true := by simpa [isB] using h
    have ha := hb a (by simp)
    have e : numF [a, b, c, d] = ((headF a * 64 + (b - 128)) * 64 + (c - 128)) * 64 + (d - 128) := rfl
    have hh : headF a = a - 240 := by unfold headF; rw [if_neg (by omega), if_neg (by omega), if_pos hz.1.1.1]
    have h3 := hz.1.1.1
    unfold sizeF at h3
    have h4 : 240 ≤ a := by (repeat' split at h3) <;> omega
    have hi := hz.1.1.2
    unfold inB loF at hi
    have h5 : 128 ≤ b ∧ (a = 240 → 144 ≤ b) := by rw [Bool.and_eq_true, decide_eq_true_eq] at hi; have := hi.1; (repeat' split at this) <;> omega
    have h6 : 128 ≤ c := by have := hz.1.2; unfold tailB at this; simp at this; omega
    have h7 : 128 ≤ d := by have := hz.2; unfold tailB at this; simp at this; omega
    rw [e, hh]
    by_cases k : a = 240
    · have := h5.2 k; omega
    · omega
  | _ :: _ :: _ :: _ :: _ :: _, h, _, _ => simp [isB] at h
/-- A parser at rest that has read t of a scalar. -/
def W (most : Nat) (t : List Int) : Ps := { newM most with dec := t }
theorem W_nil (most : Nat) : W most [] = newM most := rfl
theorem beg_hi {a : Int} {t : List Int} (h : begB (a :: t) = true) : 32 ≤ a := by
  have h2 : 2 ≤ sizeF a := by
    match t, h with
    | [], h => simpa [begB] using h
    | [_], h => simp [begB] at h; omega
    | [_, _], h => simp [begB] at h; omega
    | _ :: _ :: _ :: _, h => simp [begB] at h
  unfold sizeF at h2
  (repeat' split at h2) <;> omega
theorem print1_bad (most : Nat) (t : List Int) : print1 (W most t) 65533 = ([printE 65533], W most t) := by
  unfold print1
  rw [if_neg (by omega), if_neg (by omega), if_neg (by omega)]
theorem stepF_broken {t : List Int} {c : Int} (ht : t ≠ []) (h1 : isB (t ++ [c]) = false) (h2 : begB (t ++ [c]) = false) : stepF t c = (65533 :: (firstF c).1, (firstF c).2) := by
  unfold stepF
  rw [if_neg ht, if_neg (by rw [h1]; simp), if_neg (by rw [h2]; simp)]
theorem stepF_first (c : Int) : stepF [] c = firstF c := by unfold stepF; rw [if_pos rfl]
/-- A byte that doesn't go on: what was begun is told, and the byte is read at rest. -/
theorem step_bad {most : Nat} {t : List Int} {c : Int} (ht : t ≠ []) (h1 : isB (t ++ [c]) = false) (h2 : begB (t ++ [c]) = false) : stepM (W most t) c = (printE 65533 :: (stepM (newM most) c).1, (stepM (newM most) c).2) := by
  have he : endF t = [65533] := by unfold endF; rw [if_neg ht]
  have hp : printsM (newM most) [65533] = ([printE 65533], newM most) := by
    have := print1_bad most []
    rw [W_nil] at this
    simp [printsM, this]
  by_cases hc : stopB c = true
  · by_cases k : c = 24 ∨ c = 26
    · rw [step_cs (s := newM most) (most := most) rfl rfl k]
      unfold stepM
      rw [if_pos k]
      show ((printsM (newM most) (endF t)).1 ++ [execE c], enterM (printsM (newM most) (endF t)).2 0) = _
      rw [he, hp]
      rfl
    · have : c = 27 := by unfold stopB at hc; simp at hc; omega
      subst this
      rw [step_esc (s := newM most) (most := most) rfl rfl]
      unfold stepM
      rw [if_neg (by omega), if_pos rfl]
      show ((printsM (newM most) (endF t)).1 ++ endsM (printsM (newM most) (endF t)).2, enterM (printsM (newM most) (endF t)).2 1) = _
      rw [he, hp]
      rfl
  · have hc : stopB c = false := by simpa using hc
    have hc' := hc
    unfold stopB at hc'
    simp at hc'
    rw [step_rest hc, stepF_first]
    unfold stepM
    rw [if_neg (by omega), if_neg (by omega), if_pos (show (W most t).state = 0 from rfl)]
    show printsM (W most (stepF t c).2) (stepF t c).1 = (printE 65533 :: (printsM (W most (firstF c).2) (firstF c).1).1, (printsM (W most (firstF c).2) (firstF c).1).2)
    rw [stepF_broken ht h1 h2]
    simp only [printsM, print1_bad]
    rfl
theorem stop_not {t : List Int} {c : Int} (ht : begB t = true) (hc : c < 128) : isB (t ++ [c]) = false ∧ begB (t ++ [c]) = false := by
  have hi : ∀ a, inB a c = false := by
    intro a
    cases h : inB a c with
    | false => rfl
    | true => unfold inB loF at h; rw [Bool.and_eq_true, decide_eq_true_eq] at h; have := h.1; (repeat' split at this) <;> omega
  have hl : tailB c = false := by unfold tailB; simp; omega
  match t, ht with
  | [], ht => simp [begB] at ht
  | [a], _ => simp [isB, begB, hi]
  | [a, b], _ => simp [isB, begB, hl]
  | [a, b, d], _ => simp [isB, begB, hl]
  | _ :: _ :: _ :: _ :: _, ht => simp [begB] at ht
theorem step_go {most : Nat} {t : List Int} {c : Int} (hc : stopB c = false) : stepM (W most t) c = printsM (W most (stepF t c).2) (stepF t c).1 := by
  unfold stopB at hc
  simp at hc
  unfold stepM
  rw [if_neg (by omega), if_neg (by omega), if_pos (show (W most t).state = 0 from rfl)]
  rfl
theorem restF_hi (most : Nat) (a : Int) (m : List Int) (h : 32 ≤ a) : restF most (a :: m) = if (oneF (a :: m)).2 = (a :: m).length ∧ begB (a :: m) = true then ⟨[], 0, (oneF (a :: m)).2, (a :: m).length⟩ else if (oneF (a :: m)).1 = 127 then ⟨[], 0, 0, (oneF (a :: m)).2⟩
    else if 128 ≤ (oneF (a :: m)).1 ∧ (oneF (a :: m)).1 ≤ 159 then (lastF most ((oneF (a :: m)).1 - 64) ((a :: m).drop (oneF (a :: m)).2)).more [] (oneF (a :: m)).2 else ⟨[printE (oneF (a :: m)).1], 0, 0, (oneF (a :: m)).2⟩ := by
  rw [restF, if_neg (by omega), if_neg (by omega)]
theorem cont_k (most : Nat) (a l : List Int) (e : List Ev) : cont most (a ++ l) ⟨e, 0, 0, a.length⟩ = preT e (docR most l) := by
  unfold cont
  simp only [List.length_append, List.drop_left]
  split
  · rename_i h
    have : l = [] := List.length_eq_zero_iff.1 (by omega)
    subst this
    simp [docR_nil, preT]
  · rfl
/-- A whole scalar stands there. -/
theorem whole_law (most N : Nat) (ih : IHn most N) (s l : List Int) (hs : isB s = true) (h32 : ∀ a ∈ s.head?, 32 ≤ a) (hl : l.length ≤ N) (hb : ∀ x ∈ s ++ l, 0 ≤ x ∧ x ≤ 255) :
    preT (print1 (newM most) (numF s)).1 (res (print1 (newM most) (numF s)).2 l) = docR most (s ++ l) := by
  have hbl : ∀ x ∈ l, 0 ≤ x ∧ x ≤ 255 := fun x hx => hb x (List.mem_append_right _ hx)
  have hbs : ∀ x ∈ s, 0 ≤ x ∧ x ≤ 255 := fun x hx => hb x (List.mem_append_left _ hx)
  cases s with
  | nil => simp [isB] at hs
  | cons a s =>
    have ha : 32 ≤ a := h32 a (by simp)
    have hone := one_is hs l
    have hn32 : 32 ≤ numF (a :: s) := by
      cases s with
      | nil =>
        have h1 : sizeF a = 1 := by simpa [isB] using hs
        have : numF [a] = a := by simp [numF, headF, h1]
        rw [this]; exact ha
      | cons b s => have := numF_hi hs hbs (by simp); omega
    rw [docR_step _ _ (by simp), List.cons_append, restF_hi most a _ ha, ← List.cons_append, hone]
    simp only
    rw [if_neg ?_, List.drop_left]
    · unfold print1
      rw [if_neg (by omega)]
      by_cases k1 : numF (a :: s) = 127
      · rw [if_pos k1, if_pos k1, cont_k, ← ih l hl hbl]
      · rw [if_neg k1, if_neg k1]
        by_cases k2 : 128 ≤ numF (a :: s) ∧ numF (a :: s) < 160
        · rw [if_pos k2, if_pos (by omega), cont_mores, preT_nil]
          exact last_law most N ih rfl rfl rfl rfl _ l hl hbl
        · rw [if_neg k2, if_neg (by omega), cont_k, ← ih l hl hbl]
    · rintro ⟨h1, h2⟩
      rw [List.length_append] at h1
      have : l = [] := List.length_eq_zero_iff.1 (by omega)
      subst this
      rw [List.append_nil, is_not_beg hs] at h2
      cases h2
/-- Bytes of a scalar have been read. -/
theorem utf_law (most N : Nat) (ih : IHn most N) : ∀ (l t : List Int), begB t = true → (t ++ l).length ≤ N + 1 → (∀ x ∈ t ++ l, 0 ≤ x ∧ x ≤ 255) → res (W most t) l = docR most (t ++ l)
  | [], t, ht, hN, hb => by
    have hl := beg_len ht
    cases t with
    | nil => simp at hl
    | cons a t =>
      have ha : 32 ≤ a := beg_hi ht
      have hone := one_beg ht [] (fun c r e => by cases e)
      rw [List.append_nil] at hone
      rw [List.append_nil, docR_step _ _ (by simp), restF_hi most a _ ha, hone, if_pos ⟨rfl, ht⟩, res_nil]
      unfold cont
      rw [if_pos rfl]
      simp [W, newM, heldM, sizeM]
  | c :: l, t, ht, hN, hb => by
    have hl := beg_len ht
    have hne : t ≠ [] := by intro h; rw [h] at hl; simp at hl
    have hbl : ∀ x ∈ c :: l, 0 ≤ x ∧ x ≤ 255 := fun x hx => hb x (List.mem_append_right _ hx)
    have e1 : t ++ c :: l = (t ++ [c]) ++ l := by simp
    have hlen : (c :: l).length ≤ N := by rw [List.length_append] at hN; omega
    have ha : ∀ a ∈ t.head?, 32 ≤ a := by
      cases t with
      | nil => exact absurd rfl hne
      | cons a t =>
        intro x hx
        obtain rfl : a = x := by simpa using hx
        exact beg_hi ht
    by_cases h1 : isB (t ++ [c]) = true
    · have hc : stopB c = false := by
        cases hs : stopB c with
        | false => rfl
        | true =>
          have : c < 128 := by unfold stopB at hs; simp at hs; omega
          rw [(stop_not ht this).1] at h1; cases h1
      have hs : stepF t c = ([numF (t ++ [c])], []) := by unfold stepF; rw [if_neg hne, if_pos h1]
      rw [res_cons, step_go hc, hs, e1, ← whole_law most N ih (t ++ [c]) l h1 ?_ (by simp at hlen; omega) (by rw [← e1]; exact hb)]
      · simp only [printsM, W_nil, List.append_nil]
      · intro a hx
        cases t with
        | nil => exact absurd rfl hne
        | cons b t => exact ha a (by simpa using hx)
    · by_cases h2 : begB (t ++ [c]) = true
      · have hc : stopB c = false := by
          cases hs : stopB c with
          | false => rfl
          | true =>
            have : c < 128 := by unfold stopB at hs; simp at hs; omega
            rw [(stop_not ht this).2] at h2; cases h2
        have hs : stepF t c = ([], t ++ [c]) := by unfold stepF; rw [if_neg hne, if_neg h1, if_pos h2]
        rw [res_cons, step_go hc, hs, e1]
        exact utf_law most N ih l (t ++ [c]) h2 (by rw [← e1]; exact hN) (by rw [← e1]; exact hb)
      · have h1 : isB (t ++ [c]) = false := by simpa using h1
        have h2 : begB (t ++ [c]) = false := by simpa using h2
        have hone := one_beg ht (c :: l) (fun c' r e => by injection e with e1 e2; subst e1; exact ⟨h1, h2⟩)
        rw [res_cons, step_bad hne h1 h2]
        have hr := ih (c :: l) hlen hbl
        rw [res_cons] at hr
        cases t with
        | nil => exact absurd rfl hne
        | cons a t =>
          rw [docR_step _ _ (by simp), List.cons_append, restF_hi most a _ (ha a (by simp)), ← List.cons_append, hone, if_neg, if_neg (show ¬ (65533 : Int) = 127 by omega), if_neg (show ¬ ((128 : Int) ≤ 65533 ∧ (65533 : Int) ≤ 159) by omega), cont_k, ← hr]
          · rw [← preT_app]; rfl
          · rintro ⟨h, _⟩
            simp at h
theorem rest_law (most N : Nat) (ih : IHn most N) (c : Int) (l : List Int) (hN : l.length ≤ N) (hb : ∀ x ∈ c :: l, 0 ≤ x ∧ x ≤ 255) : res (newM most) (c :: l) = docR most (c :: l) := by
  have hbl : ∀ x ∈ l, 0 ≤ x ∧ x ≤ 255 := fun x hx => hb x (List.mem_cons_of_mem _ hx)
  have hc := hb c (by simp)
  by_cases k27 : c = 27
  · subst k27
    rw [docR_step _ _ (by simp), restF, if_pos rfl, cont_more, ← esc_law most N ih l [] hN hbl, res_cons, step_esc (s := newM most) (most := most) rfl rfl]
    rfl
  · by_cases k : c = 24 ∨ c = 26
    · rw [docR_step _ _ (by simp), restF, if_neg k27, if_pos (by omega), cont_one, ← ih l hN hbl, res_cons, step_cs (s := newM most) (most := most) rfl rfl k]
      rfl
    · have hs : stopB c = false := by unfold stopB; simp; omega
      by_cases k32 : c < 32
      · have hz : sizeF c = 1 := by unfold sizeF; rw [if_pos (by omega)]
        have hp : stepM (newM most) c = ([execE c], newM most) := by
          rw [← W_nil, step_go hs, stepF_first]
          unfold firstF
          rw [if_pos hz]
          simp [printsM, print1, k32]
        rw [docR_step _ _ (by simp), restF, if_neg k27, if_pos k32, cont_one, ← ih l hN hbl, res_cons, hp]
      · have hsz := sizeF_le c
        by_cases z1 : sizeF c = 1
        · have hi : isB [c] = true := by simp [isB, z1]
          have e : numF [c] = c := by simp [numF, headF, z1]
          have hw := whole_law most N ih [c] l hi (by simp; omega) hN hb
          rw [List.singleton_append] at hw
          rw [← hw, res_cons, ← W_nil, step_go hs, stepF_first]
          unfold firstF
          rw [if_pos z1, e]
          simp [printsM]
        · by_cases z2 : 2 ≤ sizeF c
          · have hu := utf_law most N ih l [c] (by simp [begB, z2]) (by simp; omega) hb
            rw [List.singleton_append] at hu
            rw [← hu, res_cons, ← W_nil, step_go hs, stepF_first]
            unfold firstF
            rw [if_neg z1, if_pos z2]
            rfl
          · have z0 : sizeF c = 0 := by omega
            have hone := one_none z0 l
            have hp : stepM (newM most) c = ([printE 65533], newM most) := by
              have := print1_bad most []
              rw [← W_nil, step_go hs, stepF_first]
              unfold firstF
              rw [if_neg z1, if_neg z2]
              simp [printsM, this]
            rw [docR_step _ _ (by simp), restF_hi most c _ (by omega), hone, if_neg, if_neg (show ¬ (65533 : Int) = 127 by omega), if_neg (show ¬ ((128 : Int) ≤ 65533 ∧ (65533 : Int) ≤ 159) by omega), cont_one, ← ih l hN hbl, res_cons, hp]
            rintro ⟨h1, h2⟩
            have : l = [] := List.length_eq_zero_iff.1 (by rw [List.length_cons] at h1; simp only at h1; omega)
            subst this
            simp [begB, z0] at h2
/-- The parser's answer is the document's. -/
theorem doc_law (most : Nat) : ∀ N, IHn most N
  | 0 => fun l hl _ => by
    obtain rfl : l = [] := List.length_eq_zero_iff.1 (by omega)
    rfl
  | N + 1 => fun l hl hb => by
    cases l with
    | nil => rfl
    | cons c l => exact rest_law most N (doc_law most N) c l (by simp at hl; omega) hb
theorem doc_all (most : Nat) (l : List Int) (hb : ∀ x ∈ l, 0 ≤ x ∧ x ≤ 255) : (allM (newM most) l).1 = (ofF most l).evs ∧ (allM (newM most) l).2.state = (ofF most l).st ∧ heldM (allM (newM most) l).2 = (ofF most l).held := by
  have h := doc_law most l.length l (Nat.le_refl _) hb
  unfold res docR at h
  injection h with h1 h
  injection h with h2 h3
  exact ⟨h1, h2, h3⟩
end Go.Proofs.Ythbjjhoajecpcaa
