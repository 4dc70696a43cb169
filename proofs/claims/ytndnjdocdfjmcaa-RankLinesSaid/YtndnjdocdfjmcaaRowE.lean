/-
  A row of elements of several cells in a block of the call's own, whatever the elements. No condition.
-/
import Derived.Test.YtndnjdocdfjmcaaMore
namespace Go.Proofs.Ytndnjdocdfjmcaa
open Go.RowKit Go.Proofs
set_option linter.unusedVariables false
/-- Block g holds elements l (each of s cells E), and what else is behind them. -/
structure RowE {α : Type} (e : TypeId) (E : α → List Value) (w : World) (g : Nat) (l : List α) (T : List Value) : Prop where
  blk : Blk w g e (l.flatMap E ++ T).toArray
section
variable {α : Type} {e : TypeId} {E : α → List Value} {s : Nat} {w w' : World} {g : Nat} {T : List Value} {l : List α}
theorem RowE.at_ (hE : ∀ x, (E x).length = s) (h : RowE e E w g l T) {k i : Nat} {c : α} {u : Value} (hk : l[k]? = some c) (hu : (E c)[i]? = some u) : w.cell? ⟨g, k * s + i, none⟩ = some u := by
  have hi : i < s := by rw [← hE c]; exact (List.getElem?_eq_some_iff.1 hu).1
  have hf := flat_at hE l k c i hk hi
  have hlt : k * s + i < (l.flatMap E).length := by
    rw [hu] at hf
    exact (List.getElem?_eq_some_iff.1 hf).1
  rw [h.blk.cell, List.getElem?_toArray, List.getElem?_append_left hlt, hf, hu]
theorem RowE.frozen (h : RowE e E w g l T) (i : Nat) : w.frozen? ⟨g, i, none⟩ = false := h.blk.frozen i
theorem RowE.set1 (hE : ∀ x, (E x).length = s) (h : RowE e E w g l T) {k i : Nat} {c d : α} (hk : l[k]? = some c) (hi : i < s) {u : Value} (hd : E d = (E c).set i u) :
    RowE e E (w.setCell ⟨g, k * s + i, none⟩ u) g (l.set k d) T := by
  have hb := h.blk.set_ (k * s + i) u
  have key : ∀ (l : List α) (k : Nat), l[k]? = some c → (l.flatMap E ++ T).set (k * s + i) u = (l.set k d).flatMap E ++ T := by
    intro l
    induction l with
    | nil => intro k hk; simp at hk
    | cons x l ih =>
      intro k hk
      cases k with
      | zero =>
        simp at hk
        subst hk
        rw [List.flatMap_cons, List.set_cons_zero, List.flatMap_cons, hd, List.append_assoc, List.append_assoc, Nat.zero_mul, Nat.zero_add, List.set_append_left _ _ (by rw [hE]; exact hi)]
      | succ k =>
        simp at hk
        rw [List.flatMap_cons, List.set_cons_succ, List.flatMap_cons, List.append_assoc, List.append_assoc, ← ih k hk]
        rw [List.set_append_right _ _ (by rw [hE, Nat.succ_mul]; omega), hE, show (k + 1) * s + i - s = k * s + i by rw [Nat.succ_mul]; omega]
  rw [List.setIfInBounds_toArray, key l k hk] at hb
  exact ⟨hb⟩
theorem RowE.below {B : Nat} (h : RowE e E w g l T) (hb : Below B w w') (hg : g < B) : RowE e E w' g l T := ⟨h.blk.below hb hg⟩
theorem RowE.frm {S : Nat → Prop} (h : RowE e E w g l T) (hf : Frm S w w') (hg : ¬ S g) : RowE e E w' g l T := ⟨h.blk.frm hf hg⟩
theorem RowE.drewN (h : RowE e E w g l T) (n : Nat) : RowE e E (w.drewN n) g l T := ⟨h.blk.drewN n⟩
theorem RowE.drew (h : RowE e E w g l T) : RowE e E w.drew g l T := ⟨h.blk.drew⟩
theorem RowE.alloc (h : RowE e E w g l T) (o : Obj) : RowE e E (w.alloc o) g l T := ⟨h.blk.alloc o⟩
/-- A row of the call's own: none, or a block of its own. -/
theorem own_rowE (hE : ∀ x, (E x).length = s) (hs : 0 < s) {base n c : Nat} {A : Option Addr} (h : w.ownsRow base e s (.slice A n c) n (l.flatMap E)) :
    (A = none ∧ n = 0 ∧ l = []) ∨ ∃ g T, A = some ⟨g, 0, none⟩ ∧ base ≤ g ∧ RowE e E w g l T ∧ n ≤ c ∧ (l.flatMap E ++ T).length = c * s ∧ c ≤ maxLen ∧ l.length = n := by
  have hln : l.length = n := (own_len (E := E) hE hs h).symm
  rcases h.2 with ⟨ev, h0⟩ | ⟨g, cap, cur, ev, hb, hh, hn, hm, hsz, ht⟩
  · injection ev with e1 e2 e3
    subst e1 e2
    exact .inl ⟨rfl, rfl, List.eq_nil_of_length_eq_zero (by omega)⟩
  · injection ev with e1 e2 e3
    subst e1 e3
    refine .inr ⟨g, cur.toList.drop (n * s), rfl, hb, ⟨?_⟩, hn, ?_, hm, hln⟩
    · have : l.flatMap E ++ cur.toList.drop (n * s) = cur.toList := by rw [← ht, List.take_append_drop]
      rw [this]
      exact hh
    · rw [← ht, List.take_append_drop, Array.length_toList, hsz]
theorem rowE_own (hE : ∀ x, (E x).length = s) {base n c : Nat} (h : RowE e E w g l T) (hb : base ≤ g) (hl : l.length = n) (hn : n ≤ c) (hsz : (l.flatMap E ++ T).length = c * s) (hm : c ≤ maxLen) :
    w.ownsRow base e s (.slice (some ⟨g, 0, none⟩) n c) n (l.flatMap E) := by
  have hf : (l.flatMap E).length = n * s := by rw [len_flat hE, hl]
  refine ⟨hf, .inr ⟨g, c, _, rfl, hb, h.blk, hn, hm, by rw [List.size_toArray, hsz], ?_⟩⟩
  show List.take (n * s) (l.flatMap E ++ T) = _
  rw [← hf, List.take_left]
/-- .. as many other elements in it. -/
theorem own_of_rowE (hE : ∀ x, (E x).length = s) {base n c : Nat} {m : List α} (hb : base ≤ g) (hnc : n ≤ c) (hsz : (l.flatMap E ++ T).length = c * s) (hm : c ≤ maxLen) (hl : l.length = n) (hlm : m.length = n) (hr : RowE e E w' g m T) :
    w'.ownsRow base e s (.slice (some ⟨g, 0, none⟩) n c) n (m.flatMap E) := by
  refine rowE_own hE hr hb hlm hnc ?_ hm
  rw [← hsz, List.length_append, List.length_append, len_flat hE, len_flat hE, hlm, hl]
theorem own_snocE {base n c : Nat} {A : Option Addr} {cs : List Value} (x : α) (h : w.ownsRow base e s (.slice A n c) n (l.flatMap E ++ cs)) (hc : cs = E x) : w.ownsRow base e s (.slice A n c) n ((l ++ [x]).flatMap E) := by
  subst hc
  rw [List.flatMap_append]; simpa using h
end
end Go.Proofs.Ytndnjdocdfjmcaa
