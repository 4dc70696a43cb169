/-
  The plain law of a heap in a list: an element put in, the least one taken out. No program in sight.
-/
import Derived.Test.YtndnjdocdfjmcaaBase
namespace Go.Proofs.Ytndnjdocdfjmcaa
set_option linter.unusedVariables false
section
variable {α : Type}
/-- Two places changed. -/
def sw (l : List α) (i j : Nat) : List α := match l[i]?, l[j]? with | some a, some b => (l.set i b).set j a | _, _ => l
theorem sw_len (l : List α) (i j : Nat) : (sw l i j).length = l.length := by unfold sw; split <;> simp
theorem sw_eq {l : List α} {i j : Nat} {a b : α} (hi : l[i]? = some a) (hj : l[j]? = some b) : sw l i j = (l.set i b).set j a := by unfold sw; rw [hi, hj]
theorem sw_at {l : List α} {i j : Nat} (hi : i < l.length) (hj : j < l.length) (k : Nat) : (sw l i j)[k]? = if k = j then l[i]? else if k = i then l[j]? else l[k]? := by
  rw [sw_eq (List.getElem?_eq_getElem hi) (List.getElem?_eq_getElem hj), List.getElem?_set, List.getElem?_set, List.length_set]
  by_cases h1 : k = j
  · subst h1; simp [hj, List.getElem?_eq_getElem hi]
  · by_cases h2 : k = i
    · subst h2; simp [h1, hi, Ne.symm h1, List.getElem?_eq_getElem hj]
    · simp [h1, h2, Ne.symm h1, Ne.symm h2]
theorem sw_perm {l : List α} {i j : Nat} (hi : i < l.length) (hj : j < l.length) : (sw l i j).Perm l := by
  rw [sw_eq (List.getElem?_eq_getElem hi) (List.getElem?_eq_getElem hj)]
  exact List.set_set_perm hi hj
variable (lt : α → α → Bool)
/-- Is the element in place j less than that in place i? -/
def ltAt (l : List α) (j i : Nat) : Bool := match l[j]?, l[i]? with | some a, some b => lt a b | _, _ => false
theorem ltAt_eq {l : List α} {i j : Nat} {a b : α} (hj : l[j]? = some a) (hi : l[i]? = some b) : ltAt lt l j i = lt a b := by unfold ltAt; rw [hj, hi]
def upF (l : List α) (j : Nat) : List α :=
  if h : 0 < j ∧ ltAt lt l j ((j - 1) / 2) = true then upF (sw l ((j - 1) / 2) j) ((j - 1) / 2) else l
termination_by j
decreasing_by omega
theorem upF_stop {l : List α} {j : Nat} (h : j = 0 ∨ ltAt lt l j ((j - 1) / 2) = false) : upF lt l j = l := by
  rw [upF, dif_neg]
  rintro ⟨h1, h2⟩
  rcases h with h | h
  · omega
  · rw [h] at h2; cases h2
theorem upF_go {l : List α} {j : Nat} (h0 : 0 < j) (h : ltAt lt l j ((j - 1) / 2) = true) : upF lt l j = upF lt (sw l ((j - 1) / 2) j) ((j - 1) / 2) := by
  rw [upF, dif_pos ⟨h0, h⟩]
/-- The lesser child. -/
def kidF (l : List α) (i n : Nat) : Nat := if 2 * i + 2 < n ∧ ltAt lt l (2 * i + 2) (2 * i + 1) = true then 2 * i + 2 else 2 * i + 1
theorem kid_cases (l : List α) (i n : Nat) : kidF lt l i n = 2 * i + 1 ∨ (kidF lt l i n = 2 * i + 2 ∧ 2 * i + 2 < n) := by
  unfold kidF
  split
  · rename_i h; exact .inr ⟨rfl, h.1⟩
  · exact .inl rfl
def downF (l : List α) (i n : Nat) : List α :=
  if h : 2 * i + 1 < n ∧ ltAt lt l (kidF lt l i n) i = true then downF (sw l i (kidF lt l i n)) (kidF lt l i n) n else l
termination_by n - i
decreasing_by
  have := kid_cases lt l i n
  omega
theorem downF_stop {l : List α} {i n : Nat} (h : n ≤ 2 * i + 1 ∨ ltAt lt l (kidF lt l i n) i = false) : downF lt l i n = l := by
  rw [downF, dif_neg]
  rintro ⟨h1, h2⟩
  rcases h with h | h
  · omega
  · rw [h] at h2; cases h2
theorem downF_go {l : List α} {i n : Nat} (h0 : 2 * i + 1 < n) (h : ltAt lt l (kidF lt l i n) i = true) : downF lt l i n = downF lt (sw l i (kidF lt l i n)) (kidF lt l i n) n := by
  rw [downF, dif_pos ⟨h0, h⟩]
theorem upF_len : ∀ (j : Nat) (l : List α), (upF lt l j).length = l.length := by
  intro j
  induction j using Nat.strongRecOn with
  | _ j ih =>
    intro l
    rw [upF]
    split
    · rename_i h; rw [ih _ (by omega), sw_len]
    · rfl
theorem upF_perm : ∀ (j : Nat) (l : List α), j < l.length → (upF lt l j).Perm l := by
  intro j
  induction j using Nat.strongRecOn with
  | _ j ih =>
    intro l hj
    rw [upF]
    split
    · rename_i h
      exact (ih _ (by omega) _ (by rw [sw_len]; omega)).trans (sw_perm (by omega) hj)
    · exact .refl _
theorem downF_perm (n : Nat) : ∀ (d i : Nat) (l : List α), n - i ≤ d → n ≤ l.length → i < l.length → (downF lt l i n).Perm l ∧ ∀ k, n ≤ k → (downF lt l i n)[k]? = l[k]? := by
  intro d
  induction d with
  | zero =>
    intro i l hd hn hi
    rw [downF_stop lt (.inl (by omega))]
    exact ⟨.refl _, fun _ _ => rfl⟩
  | succ d ih =>
    intro i l hd hn hi
    rw [downF]
    split
    · rename_i h
      have hk := kid_cases lt l i n
      have hkl : kidF lt l i n < l.length := by omega
      obtain ⟨h1, h2⟩ := ih (kidF lt l i n) (sw l i (kidF lt l i n)) (by omega) (by rw [sw_len]; exact hn) (by rw [sw_len]; exact hkl)
      refine ⟨h1.trans (sw_perm hi hkl), fun k hk2 => ?_⟩
      rw [h2 k hk2, sw_at hi hkl, if_neg (by omega), if_neg (by omega)]
    · exact ⟨.refl _, fun _ _ => rfl⟩
end
section
variable {α : Type} {lt : α → α → Bool}
/-- An order: what isn't less, either way, goes on. -/
structure Ord (lt : α → α → Bool) : Prop where
  irr : ∀ a, lt a a = false
  asym : ∀ a b, lt a b = true → lt b a = false
  trans : ∀ a b c, lt b a = false → lt c b = false → lt c a = false
/-- No element is less than its parent. -/
def HeapOK (lt : α → α → Bool) (l : List α) (n : Nat) : Prop := ∀ k a b, 0 < k → k < n → l[k]? = some a → l[(k - 1) / 2]? = some b → lt a b = false
theorem heap_root (ho : Ord lt) {l : List α} {n : Nat} (h : HeapOK lt l n) (hn : n ≤ l.length) {r : α} (hr : l[0]? = some r) : ∀ (k : Nat) (a : α), k < n → l[k]? = some a → lt a r = false := by
  intro k
  induction k using Nat.strongRecOn with
  | _ k ih =>
    intro a hk ha
    rcases Nat.eq_zero_or_pos k with h0 | h0
    · subst h0; rw [hr] at ha; injection ha with ha; subst ha; exact ho.irr _
    · have hp : (k - 1) / 2 < l.length := by omega
      have h1 := ih ((k - 1) / 2) (by omega) _ (by omega) (List.getElem?_eq_getElem hp)
      have h2 := h k a _ h0 hk ha (List.getElem?_eq_getElem hp)
      exact ho.trans _ _ _ h1 h2
theorem up_heap (ho : Ord lt) {n : Nat} : ∀ (j : Nat) (l : List α), n ≤ l.length → j < n → (∀ k a b, 0 < k → k < n → k ≠ j → l[k]? = some a → l[(k - 1) / 2]? = some b → lt a b = false) →
    (∀ c a b, 0 < j → c < n → (c - 1) / 2 = j → 0 < c → l[c]? = some a → l[(j - 1) / 2]? = some b → lt a b = false) → HeapOK lt (upF lt l j) n := by
  intro j
  induction j using Nat.strongRecOn with
  | _ j ih =>
    intro l hn hj h1 h2
    by_cases hgo : 0 < j ∧ ltAt lt l j ((j - 1) / 2) = true
    · obtain ⟨h0, hlt⟩ := hgo
      rw [upF_go lt h0 hlt]
      obtain ⟨p, hp⟩ : ∃ p, (j - 1) / 2 = p := ⟨_, rfl⟩
      have hpj : p < j := by omega
      obtain ⟨x, hx⟩ : ∃ x, l[j]? = some x := ⟨_, List.getElem?_eq_getElem (by omega)⟩
      obtain ⟨y, hy⟩ : ∃ y, l[p]? = some y := ⟨_, List.getElem?_eq_getElem (by omega)⟩
      rw [hp] at hlt h2 ⊢
      rw [ltAt_eq lt hx hy] at hlt
      have hyx := ho.asym _ _ hlt
      have at_ := fun k => sw_at (l := l) (i := p) (j := j) (by omega) (by omega) k
      refine ih p hpj (sw l p j) (by rw [sw_len]; exact hn) (by omega) ?_ ?_
      · intro k a b hk0 hkn hkp ha hb
        rw [at_] at ha hb
        by_cases e1 : k = j
        · subst e1
          rw [if_pos rfl, hy] at ha
          rw [hp, if_neg (by omega), if_pos rfl, hx] at hb
          injection ha with ha; injection hb with hb; subst ha hb; exact hyx
        · rw [if_neg e1, if_neg hkp] at ha
          by_cases e2 : (k - 1) / 2 = j
          · rw [if_pos e2, hy] at hb
            injection hb with hb; subst hb
            exact h2 k a y h0 hkn e2 hk0 ha hy
          · rw [if_neg e2] at hb
            by_cases e3 : (k - 1) / 2 = p
            · rw [if_pos e3, hx] at hb
              injection hb with hb; subst hb
              have := h1 k a y hk0 hkn e1 ha (by rw [e3]; exact hy)
              exact ho.trans _ _ _ hyx this
            · rw [if_neg e3] at hb
              exact h1 k a b hk0 hkn e1 ha hb
      · intro c a b hp0 hcn hcp hc0 ha hb
        rw [at_] at ha hb
        obtain ⟨z, hz⟩ : ∃ z, l[(p - 1) / 2]? = some z := ⟨_, List.getElem?_eq_getElem (by omega)⟩
        have hyz := h1 p y z hp0 (by omega) (by omega) hy hz
        rw [if_neg (by omega), if_neg (by omega), hz] at hb
        injection hb with hb; subst hb
        by_cases e1 : c = j
        · subst e1
          rw [if_pos rfl, hy] at ha
          injection ha with ha; subst ha; exact hyz
        · rw [if_neg e1, if_neg (by omega)] at ha
          have := h1 c a y hc0 hcn e1 ha (by rw [hcp]; exact hy)
          exact ho.trans _ _ _ hyz this
    · rw [upF_stop lt (by
        rcases Nat.eq_zero_or_pos j with h | h
        · exact .inl h
        · refine .inr ?_
          cases hq : ltAt lt l j ((j - 1) / 2) with
          | false => rfl
          | true => exact absurd ⟨h, hq⟩ hgo)]
      intro k a b hk0 hkn ha hb
      by_cases e1 : k = j
      · subst e1
        cases hq : ltAt lt l k ((k - 1) / 2) with
        | false => rw [ltAt_eq lt ha hb] at hq; exact hq
        | true => exact absurd ⟨hk0, hq⟩ hgo
      · exact h1 k a b hk0 hkn e1 ha hb
theorem down_heap (ho : Ord lt) (n : Nat) : ∀ (d i : Nat) (l : List α), n - i ≤ d → n ≤ l.length → (∀ k a b, 0 < k → k < n → (k - 1) / 2 ≠ i → l[k]? = some a → l[(k - 1) / 2]? = some b → lt a b = false) →
    (∀ c a b, 0 < i → c < n → (c - 1) / 2 = i → 0 < c → l[c]? = some a → l[(i - 1) / 2]? = some b → lt a b = false) → HeapOK lt (downF lt l i n) n := by
  intro d
  induction d with
  | zero =>
    intro i l hd hn h1 h2
    rw [downF_stop lt (.inl (by omega))]
    intro k a b hk0 hkn ha hb
    exact h1 k a b hk0 hkn (by omega) ha hb
  | succ d ih =>
    intro i l hd hn h1 h2
    by_cases hend : n ≤ 2 * i + 1
    · rw [downF_stop lt (.inl hend)]
      intro k a b hk0 hkn ha hb
      exact h1 k a b hk0 hkn (by omega) ha hb
    · have hkc := kid_cases lt l i n
      obtain ⟨q, hq⟩ : ∃ q, kidF lt l i n = q := ⟨_, rfl⟩
      have hqn : q < n := by omega
      have hqi : (q - 1) / 2 = i := by omega
      obtain ⟨x, hx⟩ : ∃ x, l[i]? = some x := ⟨_, List.getElem?_eq_getElem (by omega)⟩
      obtain ⟨y, hy⟩ : ∃ y, l[q]? = some y := ⟨_, List.getElem?_eq_getElem (by omega)⟩
      -- the lesser child is no greater than any child
      have hmin : ∀ c a, c < n → (c - 1) / 2 = i → 0 < c → l[c]? = some a → lt a y = false := by
        intro c a hcn hci hc0 ha
        have hc : c = 2 * i + 1 ∨ c = 2 * i + 2 := by omega
        unfold kidF at hq
        split at hq
        · rename_i hk
          subst hq
          rcases hc with rfl | rfl
          · rw [ltAt_eq lt hy ha] at hk
            exact ho.asym _ _ hk.2
          · rw [ha] at hy; injection hy with hy; subst hy; exact ho.irr _
        · rename_i hk
          subst hq
          rcases hc with rfl | rfl
          · rw [ha] at hy; injection hy with hy; subst hy; exact ho.irr _
          · cases hl : ltAt lt l (2 * i + 2) (2 * i + 1) with
            | false => rw [ltAt_eq lt ha hy] at hl; exact hl
            | true => exact absurd ⟨hcn, hl⟩ hk
      rw [hq] at hkc
      by_cases hlt : ltAt lt l q i = true
      · rw [downF_go lt (by omega) (by rw [hq]; exact hlt), hq]
        rw [ltAt_eq lt hy hx] at hlt
        have hxy := ho.asym _ _ hlt
        have at_ := fun k => sw_at (l := l) (i := i) (j := q) (by omega) (by omega) k
        refine ih q (sw l i q) (by omega) (by rw [sw_len]; exact hn) ?_ ?_
        · intro k a b hk0 hkn hkq ha hb
          rw [at_] at ha hb
          rw [if_neg hkq] at hb
          by_cases e1 : k = q
          · subst e1
            rw [if_pos rfl, hx] at ha
            rw [hqi, if_pos rfl, hy] at hb
            injection ha with ha; injection hb with hb; subst ha hb; exact hxy
          · rw [if_neg e1] at ha
            by_cases e2 : k = i
            · subst e2
              rw [if_pos rfl, hy] at ha
              injection ha with ha; subst ha
              rw [if_neg (by omega)] at hb
              exact h2 q y b hk0 hqn hqi (by omega) hy hb
            · rw [if_neg e2] at ha
              by_cases e3 : (k - 1) / 2 = i
              · rw [if_pos e3, hy] at hb
                injection hb with hb; subst hb
                exact hmin k a hkn e3 hk0 ha
              · rw [if_neg e3] at hb
                exact h1 k a b hk0 hkn e3 ha hb
        · intro c a b hq0 hcn hcq hc0 ha hb
          rw [at_] at ha hb
          rw [hqi, if_neg (by omega), if_pos rfl, hy] at hb
          injection hb with hb; subst hb
          rw [if_neg (by omega), if_neg (by omega)] at ha
          exact h1 c a y hc0 hcn (by omega) ha (by rw [hcq]; exact hy)
      · rw [downF_stop lt (.inr (by rw [hq]; simpa using hlt))]
        rw [ltAt_eq lt hy hx] at hlt
        intro k a b hk0 hkn ha hb
        by_cases e3 : (k - 1) / 2 = i
        · rw [e3, hx] at hb
          injection hb with hb; subst hb
          exact ho.trans _ _ _ (by simpa using hlt) (hmin k a hkn e3 hk0 ha)
        · exact h1 k a b hk0 hkn e3 ha hb
/-- An element put in. -/
theorem push_heap (ho : Ord lt) {l : List α} (h : HeapOK lt l l.length) (x : α) : HeapOK lt (upF lt (l ++ [x]) l.length) (l.length + 1) ∧ (upF lt (l ++ [x]) l.length).Perm (l ++ [x]) := by
  refine ⟨up_heap ho _ _ (by simp) (by omega) ?_ ?_, upF_perm lt _ _ (by simp)⟩
  · intro k a b hk0 hkn hkj ha hb
    rw [List.getElem?_append_left (by omega)] at ha hb
    exact h k a b hk0 (by omega) ha hb
  · intro c a b hj hcn hcj hc0 ha hb
    omega
/-- What is left where the least one is taken out: the last one goes to the top, and down. -/
def popF (lt : α → α → Bool) (l : List α) : List α := (downF lt (sw l 0 (l.length - 1)) 0 (l.length - 1)).take (l.length - 1)
theorem popF_len (lt : α → α → Bool) (l : List α) : (popF lt l).length = l.length - 1 := by
  unfold popF
  rcases Nat.eq_zero_or_pos l.length with h | h
  · rw [List.length_take, h]; simp
  · have := (downF_perm lt (l.length - 1) _ 0 (sw l 0 (l.length - 1)) (Nat.le_refl _) (by rw [sw_len]; omega) (by rw [sw_len]; omega)).1.length_eq
    rw [List.length_take, this, sw_len]; omega
theorem pop_heap (ho : Ord lt) {l : List α} (h : HeapOK lt l l.length) {r : α} (hr : l[0]? = some r) :
    HeapOK lt (popF lt l) (popF lt l).length ∧ (r :: popF lt l).Perm l ∧ (downF lt (sw l 0 (l.length - 1)) 0 (l.length - 1)) = popF lt l ++ [r] ∧ ∀ a ∈ l, lt a r = false := by
  have h0 : 0 < l.length := (List.getElem?_eq_some_iff.1 hr).1
  obtain ⟨n, hn⟩ : ∃ n, l.length - 1 = n := ⟨_, rfl⟩
  have at_ := fun k => sw_at (l := l) (i := 0) (j := n) (by omega) (by omega) k
  have hd := down_heap ho n n 0 (sw l 0 n) (by omega) (by rw [sw_len]; omega) (fun k a b hk0 hkn hkp ha hb => by
    rw [at_, if_neg (by omega), if_neg (by omega)] at ha
    rw [at_, if_neg (by omega), if_neg hkp] at hb
    exact h k a b hk0 (by omega) ha hb) (fun c a b hi => by omega)
  obtain ⟨hp, hk⟩ := downF_perm lt n n 0 (sw l 0 n) (by omega) (by rw [sw_len]; omega) (by rw [sw_len]; omega)
  have hlen : (downF lt (sw l 0 n) 0 n).length = n + 1 := by rw [hp.length_eq, sw_len]; omega
  have hlast : (downF lt (sw l 0 n) 0 n)[n]? = some r := by rw [hk n (Nat.le_refl _), at_, if_pos rfl, hr]
  have hsplit : downF lt (sw l 0 n) 0 n = popF lt l ++ [r] := by
    unfold popF
    rw [hn]
    have := take_snoc hlast
    rw [List.take_of_length_le (by omega)] at this
    exact this
  refine ⟨?_, ?_, by rw [hn]; exact hsplit, ?_⟩
  · rw [popF_len, hn]
    intro k a b hk0 hkn ha hb
    have e : ∀ i, i < n → (popF lt l)[i]? = (downF lt (sw l 0 n) 0 n)[i]? := fun i hi => by rw [hsplit, List.getElem?_append_left (by rw [popF_len]; omega)]
    rw [e k hkn] at ha
    rw [e _ (by omega)] at hb
    exact hd k a b hk0 hkn ha hb
  · have h1 : (popF lt l ++ [r]).Perm l := by rw [← hsplit]; exact hp.trans (sw_perm (by omega) (by omega))
    exact (List.perm_append_comm (l₁ := [r]) (l₂ := popF lt l)).trans h1
  · intro a ha
    obtain ⟨k, hk⟩ := List.mem_iff_getElem?.1 ha
    exact heap_root ho h (Nat.le_refl _) hr k a (List.getElem?_eq_some_iff.1 hk).1 hk
end
end Go.Proofs.Ytndnjdocdfjmcaa
