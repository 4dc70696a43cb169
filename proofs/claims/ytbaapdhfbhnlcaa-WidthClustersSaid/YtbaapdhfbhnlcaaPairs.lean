/-
  The plain law of the beginnings: each cluster goes from one to the next; what fits is the last that has no more columns; a later part's clusters. No program in sight.
-/
import Derived.Test.YtbaapdhfbhnlcaaAwake
namespace Go.Proofs.Ytbaapdhfbhnlcaa
set_option linter.unusedVariables false
def Consec (l : List Int) (a : Nat) : Prop := ∀ (i x y : Nat), (bF l a ++ [a])[i]? = some x → (bF l a ++ [a])[i + 1]? = some y → endF l x = y
theorem consec_step {l : List Int} {a : Nat} (ha : a < l.length) (hb : nb l a = true) (h : Consec l a) : Consec l (endF l a) := by
  intro i x y hx hy
  rw [bF_end ha hb] at hx hy
  rcases Nat.lt_or_ge (i + 1) (bF l a ++ [a]).length with h1 | h1
  · rw [List.getElem?_append_left (by omega)] at hx
    rw [List.getElem?_append_left h1] at hy
    exact h i x y hx hy
  · rw [List.getElem?_append_right h1] at hy
    have hi : i + 1 - (bF l a ++ [a]).length = 0 := by
      have := (List.getElem?_eq_some_iff.1 hy).1
      simp at this
      simp
      omega
    rw [hi] at hy
    have hlen : (bF l a ++ [a]).length = (bF l a).length + 1 := by simp
    have hxi : i = (bF l a).length := by omega
    rw [List.getElem?_append_left (by omega), hxi, List.getElem?_append_right (Nat.le_refl _)] at hx
    simp at hx hy
    subst hx hy
    rfl
theorem consec_all (l : List Int) : ∀ (d a : Nat), l.length - a = d → a ≤ l.length → (a = l.length ∨ nb l a = true) → Consec l a → Consec l l.length := by
  intro d
  induction d using Nat.strongRecOn with
  | _ d ih =>
    intro a hd ha hb hc
    by_cases e : a = l.length
    · rw [← e]; exact hc
    · have h1 : a < l.length := by omega
      have h2 : nb l a = true := by rcases hb with h | h; omega; exact h
      obtain ⟨e1, e2⟩ := endF_bounds h1
      refine ih (l.length - endF l a) (by omega) (endF l a) rfl e2 ?_ (consec_step h1 h2 hc)
      rcases Nat.lt_or_ge (endF l a) l.length with h3 | h3
      · exact .inr (nb_end h3)
      · exact .inl (by omega)
theorem consec (l : List Int) : Consec l l.length :=
  consec_all l _ 0 rfl (Nat.zero_le _) (.inr (nb_zero l)) (by intro i x y hx hy; rw [bF_zero] at hy; simp at hy)
theorem bF_mem {l : List Int} {k x : Nat} (h : x ∈ bF l k) : x < k ∧ nb l x = true := by
  unfold bF at h
  obtain ⟨h1, h2⟩ := List.mem_filter.1 h
  exact ⟨List.mem_range.1 h1, h2⟩
theorem bs_mem {l : List Int} {n i x : Nat} (h : (bF l n ++ [n])[i]? = some x) : x ≤ n ∧ (x = n ∨ nb l x = true) := by
  rcases List.mem_append.1 (List.mem_of_getElem? h) with h | h
  · have := bF_mem h; exact ⟨by omega, .inr this.2⟩
  · rw [List.mem_singleton] at h; exact ⟨by omega, .inl h⟩
/-- Each cluster, by its two beginnings. -/
theorem clus_at {l : List Int} {i x y : Nat} (hi : i < (bF l l.length).length) (hx : (bF l l.length ++ [l.length])[i]? = some x) (hy : (bF l l.length ++ [l.length])[i + 1]? = some y) :
    (clF l l.length)[i]? = some (seg l x y) ∧ x ≤ y ∧ y ≤ l.length := by
  have he := consec l i x y hx hy
  rw [List.getElem?_append_left hi] at hx
  have hxm := bF_mem (List.mem_of_getElem? hx)
  have hb := endF_bounds hxm.1
  refine ⟨?_, by omega, (bs_mem hy).1⟩
  unfold clF
  rw [List.getElem?_map, hx, Option.map_some, he]
theorem bs_sorted (l : List Int) (n : Nat) : (bF l n ++ [n]).Pairwise (· < ·) := by
  rw [List.pairwise_append]
  refine ⟨List.pairwise_lt_range.filter _, List.pairwise_singleton _ _, fun a ha b hb => ?_⟩
  rw [List.mem_singleton] at hb
  have := bF_mem ha
  omega
/-- What was wanted so far: the last one that has no more columns. -/
structure Wn (l : List Int) (cols : Int) (i W : Nat) : Prop where
  le : W ≤ l.length
  text : textF (l.take W) ≤ cols
  at_ : W = 0 ∨ W = l.length ∨ nb l W = true
  all : ∀ k b, k < i → (bF l l.length ++ [l.length])[k]? = some b → textF (l.take b) ≤ cols → b ≤ W
theorem Wn.start {l : List Int} {cols : Int} (h : 0 ≤ cols) : Wn l cols 0 0 := ⟨Nat.zero_le _, by simpa [textF] using h, .inl rfl, fun k b hk => by omega⟩
theorem Wn.yes {l : List Int} {cols : Int} {i W x : Nat} (h : Wn l cols i W) (hx : (bF l l.length ++ [l.length])[i]? = some x) (ht : textF (l.take x) ≤ cols) : Wn l cols (i + 1) x := by
  obtain ⟨h1, h2⟩ := bs_mem hx
  refine ⟨h1, ht, .inr h2, fun k b hk hb _ => ?_⟩
  by_cases e : k = i
  · subst e; rw [hx] at hb; injection hb with hb; omega
  · have hs := bs_sorted l l.length
    rw [List.pairwise_iff_getElem] at hs
    obtain ⟨hk1, rfl⟩ := List.getElem?_eq_some_iff.1 hb
    obtain ⟨hi1, rfl⟩ := List.getElem?_eq_some_iff.1 hx
    have := hs k i hk1 hi1 (by omega)
    omega
theorem Wn.no {l : List Int} {cols : Int} {i W x : Nat} (h : Wn l cols i W) (hx : (bF l l.length ++ [l.length])[i]? = some x) (ht : ¬ textF (l.take x) ≤ cols) : Wn l cols (i + 1) W :=
  ⟨h.le, h.text, h.at_, fun k b hk hb hb2 => by
    by_cases e : k = i
    · subst e; rw [hx] at hb; injection hb with hb; subst hb; exact absurd hb2 ht
    · exact h.all k b (by omega) hb hb2⟩
theorem bs_has {l : List Int} {n r : Nat} (h1 : r ≤ n) (h2 : r = n ∨ nb l r = true) : ∃ k, k < (bF l n).length + 1 ∧ (bF l n ++ [n])[k]? = some r := by
  have : r ∈ bF l n ++ [n] := by
    rcases Nat.lt_or_ge r n with h | h
    · refine List.mem_append.2 (.inl ?_)
      unfold bF
      exact List.mem_filter.2 ⟨List.mem_range.2 h, by rcases h2 with h2 | h2; omega; exact h2⟩
    · exact List.mem_append.2 (.inr (by rw [List.mem_singleton]; omega))
  obtain ⟨k, hk, rfl⟩ := List.mem_iff_getElem.1 this
  exact ⟨k, by simpa using hk, List.getElem?_eq_getElem hk⟩
theorem Wn.done {l : List Int} {cols : Int} {W r : Nat} (hc : 0 ≤ cols) (h : Wn l cols ((bF l l.length).length + 1) W) (hf : Fits l cols r) : r = W := by
  obtain ⟨f1, f2, _, f4⟩ := hf
  obtain ⟨f5, f6⟩ := f4 hc
  obtain ⟨k, hk, hr⟩ := bs_has f1 f2
  have h1 := h.all k r hk hr f5
  rcases Nat.lt_or_ge r W with h2 | h2
  · exfalso
    have hw : W = l.length ∨ nb l W = true := by rcases h.at_ with h | h; omega; exact h
    have h3 : endF l r ≤ W := by
      rcases Nat.lt_or_ge W (endF l r) with h3 | h3
      · obtain ⟨_, n2, n3, _⟩ := nextB_spec l _ (r + 1) rfl
        have n4 := n3 W (by omega) h3
        have : W < l.length := Nat.lt_of_lt_of_le h3 n2
        rcases hw with hw | hw
        · omega
        · rw [n4] at hw; simp at hw
      · exact h3
    have h4 := text_mono (l := l) h3
    have := h.text
    rcases f6 with f6 | f6
    · have := h.le; omega
    · omega
  · omega
/-- A later part. -/
theorem nb_drop {l : List Int} {r i : Nat} (hi : 0 < i) : nb (l.drop r) i = nb l (r + i) := by
  unfold nb
  rw [show (i == 0) = false by simp; omega, show (r + i == 0) = false by simp; omega]
  simp only [List.getD_eq_getElem?_getD, List.getElem?_drop]
  rw [show r + i - 1 = r + (i - 1) by omega]
theorem nextB_drop {l : List Int} {r : Nat} (hr : r ≤ l.length) : ∀ (d i : Nat), l.length - (r + i) = d → 0 < i → nextB (l.drop r) i + r = (if r + i ≤ l.length then nextB l (r + i) else l.length)
  | 0, i, h, hi => by
    rw [nextB_end (by rw [List.length_drop]; omega), List.length_drop]
    split
    · rw [nextB_end (by omega)]; omega
    · omega
  | d + 1, i, h, hi => by
    have h1 : i < (l.drop r).length := by rw [List.length_drop]; omega
    rw [if_pos (by omega)]
    cases hb : nb l (r + i) with
    | true => rw [nextB_hit h1 (by rw [nb_drop hi]; exact hb), nextB_hit (by omega) hb]; omega
    | false =>
      rw [nextB_miss h1 (by rw [nb_drop hi]; exact hb), nextB_miss (by omega) hb]
      have := nextB_drop hr d (i + 1) (by omega) (by omega)
      rw [if_pos (by omega)] at this
      exact this
theorem endF_drop {l : List Int} {r : Nat} (hr : r < l.length) : endF (l.drop r) 0 + r = endF l r := by
  have := nextB_drop (l := l) (r := r) (by omega) _ 1 rfl (by omega)
  rw [if_pos (by omega)] at this
  exact this
theorem first_cluster {l : List Int} (h : 0 < l.length) : (clF l l.length)[0]? = some (seg l 0 (endF l 0)) ∧ 0 < (bF l l.length).length := by
  obtain ⟨k, hk, h0⟩ := bs_has (l := l) (n := l.length) (r := 0) (by omega) (.inr (nb_zero l))
  have hm : 0 ∈ bF l l.length := by
    unfold bF; exact List.mem_filter.2 ⟨List.mem_range.2 h, nb_zero l⟩
  have hp : 0 < (bF l l.length).length := List.length_pos_of_mem hm
  have hs : (bF l l.length)[0]? = some 0 := by
    have hsort := bs_sorted l l.length
    rw [List.pairwise_append] at hsort
    have h3 := hsort.1
    rw [List.pairwise_iff_getElem] at h3
    obtain ⟨j, hj, e⟩ := List.mem_iff_getElem.1 hm
    rcases Nat.eq_zero_or_pos j with hj0 | hj0
    · subst hj0; rw [List.getElem?_eq_getElem hj, e]
    · have := h3 0 j hp hj hj0; omega
  refine ⟨?_, hp⟩
  unfold clF
  rw [List.getElem?_map, hs]; rfl
theorem text_next {l : List Int} {r : Nat} (hr : r < l.length) : textF (l.take r) + textF (seg (l.drop r) 0 (endF (l.drop r) 0)) = textF (l.take (endF l r)) := by
  have hb := endF_bounds hr
  rw [text_seg (l := l) (a := r) (b := endF l r) (by omega)]
  congr 2
  unfold seg
  have := endF_drop hr
  rw [List.drop_zero, Nat.sub_zero, show endF (l.drop r) 0 = endF l r - r by omega]
theorem inR_mem {l : List (Int × Int)} {r : Int} {x : Int × Int} (hx : x ∈ l) (h1 : x.1 ≤ r) (h2 : r ≤ x.2) : inR l r = true := by
  unfold inR; rw [List.any_eq_true]; exact ⟨x, hx, by simp; omega⟩
theorem marks_wid {r : Int} {x : Int × Int} (hx : x ∈ marksL) (h1 : x.1 ≤ r) (h2 : r ≤ x.2) : widOf r = 0 := by
  have hd : ∀ x ∈ marksL, 160 ≤ x.1 ∧ (x.2 < 55296 ∨ 57344 ≤ x.1) ∧ x.2 ≤ 1114111 := by decide
  have h := hd x hx
  have hn : noneB r = false := by unfold noneB; simp; omega
  unfold widOf
  rw [if_neg (by rw [hn]; simp), if_pos (inR_mem hx h1 h2)]
theorem wides_wid {r : Int} {x : Int × Int} (hx : x ∈ widesL) (h1 : x.1 ≤ r) (h2 : r ≤ x.2) : widOf r = 2 := by
  have hd : ∀ x ∈ widesL, 160 ≤ x.1 ∧ (x.2 < 55296 ∨ 57344 ≤ x.1) ∧ x.2 ≤ 1114111 := by decide
  have hm : ∀ x ∈ widesL, ∀ y ∈ marksL, x.2 < y.1 ∨ y.2 < x.1 := by decide
  have h := hd x hx
  have hn : noneB r = false := by unfold noneB; simp; omega
  have hk : inR marksL r = false := by
    unfold inR
    rw [List.any_eq_false]
    intro y hy
    have := hm x hx y hy
    simp; omega
  unfold widOf
  rw [if_neg (by rw [hn]; simp), if_neg (by rw [hk]; simp), if_pos (inR_mem hx h1 h2)]
end Go.Proofs.Ytbaapdhfbhnlcaa
