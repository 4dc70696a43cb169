/-
  The document's numbers in memory. No program in sight but its types.
-/
import Derived.Test.YthbjjhoajecpcaaPnum
namespace Go.Proofs.Ythbjjhoajecpcaa
open Go.RowKit Go.Proofs
set_option linter.unusedVariables false
/-- A row of one-celled elements of one's own that has some. -/
theorem own1 {w : World} {base e n c : Nat} {A : Option Addr} {xs : List Value} (h : w.ownsRow base e 1 (.slice A n c) n xs) (hn : 0 < n) :
    ∃ g cur, A = some ⟨g, 0, none⟩ ∧ base ≤ g ∧ Blk w g e cur ∧ n ≤ c ∧ c ≤ maxLen ∧ cur.size = c ∧ cur.toList.take n = xs := by
  rcases h.2 with ⟨e1, h0⟩ | ⟨g, cap, cur, e1, hb, hh, hnc, hm, hs, ht⟩
  · omega
  · injection e1 with e1 e2 e3
    subst e3
    exact ⟨g, cur, e1, hb, hh, hnc, hm, by simpa using hs, by simpa using ht⟩
theorem own1_cell {w : World} {g e n : Nat} {cur : Array Value} {xs : List Value} (hb : Blk w g e cur) (ht : cur.toList.take n = xs) {i : Nat} {u : Value} (hi : xs[i]? = some u) : w.cell? ⟨g, i, none⟩ = some u := by
  rw [hb.cell i]
  rw [← ht] at hi
  rw [List.getElem?_take] at hi
  split at hi
  · simpa using hi
  · cases hi
theorem own1_set {w : World} {base e n c g : Nat} {xs : List Value} (h : w.ownsRow base e 1 (.slice (some ⟨g, 0, none⟩) n c) n xs) (i : Nat) (u : Value) : (w.setCell ⟨g, i, none⟩ u).ownsRow base e 1 (.slice (some ⟨g, 0, none⟩) n c) n (xs.set i u) := by
  rcases Nat.eq_zero_or_pos n with h0 | h0
  · subst h0
    have : xs = [] := List.eq_nil_of_length_eq_zero (by have := h.1; omega)
    subst this
    rcases h.2 with ⟨e1, _⟩ | ⟨g', cap, cur, e1, hb, hh, hnc, hm, hs, ht⟩
    · cases e1
    · injection e1 with e1 _ e3
      injection e1 with e1
      injection e1 with e1
      subst e1 e3
      exact ⟨by simp, .inr ⟨g, c, _, rfl, hb, Blk.set_ hh i u, by omega, hm, by simpa using hs, by simp⟩⟩
  · obtain ⟨g', cur, e1, hb, hB, hnc, hm, hs, ht⟩ := own1 h h0
    injection e1 with e1
    injection e1 with e1
    subst e1
    refine ⟨by have := h.1; simpa using this, .inr ⟨g, c, _, rfl, hb, hB.set_ i u, hnc, hm, by simpa using hs, ?_⟩⟩
    rw [Array.toList_setIfInBounds, Nat.mul_one, ← ht, List.take_set]
/-- A group's numbers, in a block of their own. -/
def IntsC (w : World) (u : Value) (l : List Int) : Prop := ∃ g c cs, u = .slice (some ⟨g, 0, none⟩) l.length c ∧ l.length ≤ c ∧ c ≤ maxLen ∧ Blk w g 3 cs ∧ ∀ (j : Nat) (x : Int), l[j]? = some x → cs[j]? = some (iC x)
/-- .. below a block. -/
def IntsB (Bg : Nat) (w : World) (u : Value) (l : List Int) : Prop := ∃ g c cs, u = .slice (some ⟨g, 0, none⟩) l.length c ∧ l.length ≤ c ∧ c ≤ maxLen ∧ g < Bg ∧ Blk w g 3 cs ∧ ∀ (j : Nat) (x : Int), l[j]? = some x → cs[j]? = some (iC x)
theorem IntsC.at_ {w : World} {u : Value} {l : List Int} (h : IntsC w u l) : IntsAt w u l := by
  obtain ⟨g, c, cs, h1, h2, h3, h4, h5⟩ := h
  exact ⟨_, c, h1, fun _ => ⟨g, cs, rfl, h4, h5⟩⟩
theorem IntsC.front {w : World} {A : Option Addr} {n c : Nat} {l : List Int} (h : IntsC w (.slice A n c) l) {k : Nat} (hk : k < n) : IntsC w (.slice A k c) (l.take k) := by
  obtain ⟨g, c', cs, h1, h2, h3, h4, h5⟩ := h
  injection h1 with e1 e2 e3
  subst e1 e2 e3
  refine ⟨g, c, cs, by rw [List.length_take, Nat.min_eq_left (by omega)], by rw [List.length_take]; omega, h3, h4, fun j x hx => ?_⟩
  rw [List.getElem?_take] at hx
  split at hx
  · exact h5 j x hx
  · cases hx
theorem IntsC.keep {w w' : World} {u : Value} {l : List Int} (h : IntsC w u l) (hk : ∀ g cs, Blk w g 3 cs → Blk w' g 3 cs) : IntsC w' u l := by
  obtain ⟨g, c, cs, h1, h2, h3, h4, h5⟩ := h
  exact ⟨g, c, cs, h1, h2, h3, hk g cs h4, h5⟩
theorem IntsB.keep {Bg : Nat} {w w' : World} {u : Value} {l : List Int} (h : IntsB Bg w u l) (hk : ∀ g cs, g < Bg → Blk w g 3 cs → Blk w' g 3 cs) : IntsB Bg w' u l := by
  obtain ⟨g, c, cs, h1, h2, h3, h4, h5, h6⟩ := h
  exact ⟨g, c, cs, h1, h2, h3, h4, hk g cs h4 h5, h6⟩
theorem IntsB.c {Bg : Nat} {w : World} {u : Value} {l : List Int} (h : IntsB Bg w u l) : IntsC w u l := by
  obtain ⟨g, c, cs, h1, h2, h3, h4, h5, h6⟩ := h
  exact ⟨g, c, cs, h1, h2, h3, h5, h6⟩
theorem ints_of_own {w : World} {base c : Nat} {A : Option Addr} {l : List Int} (h : w.ownsRow base 3 1 (.slice A l.length c) l.length (l.map iC)) (hn : 0 < l.length) : IntsC w (.slice A l.length c) l := by
  obtain ⟨g, cur, rfl, hb, hB, hnc, hm, hs, ht⟩ := own1 h hn
  refine ⟨g, c, cur, rfl, hnc, hm, hB, fun j x hx => ?_⟩
  have := own1_cell hB ht (i := j) (u := iC x) (by rw [List.getElem?_map, hx]; rfl)
  rwa [hB.cell j] at this
/-- Groups, each with its slice. -/
def GRows (Bg : Nat) (w : World) (cells : List Value) (L : List (List Int)) : Prop := cells.length = L.length ∧ ∀ (i : Nat) (l : List Int), L[i]? = some l → ∃ u, cells[i]? = some u ∧ IntsB Bg w u l
theorem GRows.keep {Bg : Nat} {w w' : World} {cells : List Value} {L : List (List Int)} (h : GRows Bg w cells L) (hk : ∀ g cs, g < Bg → Blk w g 3 cs → Blk w' g 3 cs) : GRows Bg w' cells L :=
  ⟨h.1, fun i l hl => by obtain ⟨u, h1, h2⟩ := h.2 i l hl; exact ⟨u, h1, h2.keep hk⟩⟩
theorem snoc_at {α β : Type} {R : α → β → Prop} {xs : List α} {ys : List β} {a : α} {b : β} (hl : xs.length = ys.length) (h : ∀ (i : Nat) (y : β), ys[i]? = some y → ∃ x, xs[i]? = some x ∧ R x y) (hr : R a b) :
    ∀ (i : Nat) (y : β), (ys ++ [b])[i]? = some y → ∃ x, (xs ++ [a])[i]? = some x ∧ R x y := by
  intro i y hy
  rcases Nat.lt_or_ge i ys.length with hi | hi
  · rw [List.getElem?_append_left hi] at hy
    obtain ⟨x, h1, h2⟩ := h i y hy
    exact ⟨x, by rw [List.getElem?_append_left (by omega)]; exact h1, h2⟩
  · rw [List.getElem?_append_right hi] at hy
    have h0 : i - ys.length = 0 := by
      rcases Nat.eq_zero_or_pos (i - ys.length) with h | h
      · exact h
      · rw [List.getElem?_singleton] at hy; simp at hy; omega
    rw [h0] at hy
    simp at hy
    subst hy
    exact ⟨a, by rw [List.getElem?_append_right (by omega), hl, h0]; rfl, hr⟩
/-- The document's groups while it reads. -/
structure NI (B Bg : Nat) (w0 wr : World) (gO m c gl p1 cl : Nat) (cells : List Value) (s : Nst) : Prop where
  out : wr.ownsRow B 48 1 (.slice (some ⟨gO, 0, none⟩) m c) m (cells ++ [.slice (some ⟨gl, 0, none⟩) p1 cl])
  olds : GRows Bg wr cells s.L
  last : wr.ownsRow Bg 3 1 (.slice (some ⟨gl, 0, none⟩) p1 cl) p1 ((s.pre ++ [s.v]).map iC)
  below : Below B w0 wr
  hB : B ≤ Bg
  hBg : Bg ≤ wr.heap.size
  base : B ≤ w0.heap.size
section
variable {B Bg : Nat} {w0 wr w3 : World} {gO m c gl p1 cl : Nat} {cells : List Value} {s : Nst}
theorem NI.len (h : NI B Bg w0 wr gO m c gl p1 cl cells s) : m = s.L.length + 1 ∧ p1 = s.pre.length + 1 := by
  have h1 := h.out.1
  have h2 := h.last.1
  have h3 := h.olds.1
  simp at h1 h2
  omega
theorem NI.cells_ (h : NI B Bg w0 wr gO m c gl p1 cl cells s) : wr.cell? ⟨gO, s.L.length, none⟩ = some (.slice (some ⟨gl, 0, none⟩) p1 cl) ∧ wr.cell? ⟨gl, s.pre.length, none⟩ = some (.int .i64 s.v) ∧ (∀ i, wr.frozen? ⟨gO, i, none⟩ = false) ∧ (∀ i, wr.frozen? ⟨gl, i, none⟩ = false) ∧ gO < wr.heap.size ∧ gl < wr.heap.size ∧ gO ≠ gl := by
  obtain ⟨e1, e2⟩ := h.len
  obtain ⟨g, cur, k1, _, k2, _, _, _, k3⟩ := own1 h.out (by omega)
  obtain ⟨g2, cur2, j1, _, j2, _, _, _, j3⟩ := own1 h.last (by omega)
  injection k1 with k1
  injection k1 with k1
  injection j1 with j1
  injection j1 with j1
  subst k1 j1
  refine ⟨own1_cell k2 k3 ?_, own1_cell j2 j3 ?_, fun i => k2.frozen i, fun i => j2.frozen i, k2.lt, j2.lt, k2.ne_ j2 (by decide)⟩
  · rw [← h.olds.1, List.getElem?_append_right (Nat.le_refl _), Nat.sub_self]; rfl
  · rw [List.getElem?_map, List.getElem?_append_right (Nat.le_refl _), Nat.sub_self]; rfl
/-- A number of the last group, set. -/
theorem NI.set_ (h : NI B Bg w0 wr gO m c gl p1 cl cells s) (v : Int) : NI B Bg w0 (wr.setCell ⟨gl, s.pre.length, none⟩ (.int .i64 v)) gO m c gl p1 cl cells { s with v := v } := by
  obtain ⟨e1, e2⟩ := h.len
  obtain ⟨g2, cur2, j1, jb, j2, _, _, _, j3⟩ := own1 h.last (by omega)
  injection j1 with j1
  injection j1 with j1
  subst j1
  refine ⟨own_far (p := ⟨gl, s.pre.length, none⟩) h.out (own_ne h.out j2 (by decide)) _, h.olds.keep (fun g cs hg hb => hb.far (p := ⟨gl, s.pre.length, none⟩) (by show g ≠ gl; omega) _), ?_, h.below.setCell (p := ⟨gl, s.pre.length, none⟩) (Nat.le_trans h.hB jb) _, h.hB, by simpa using h.hBg, h.base⟩
  have := own1_set h.last s.pre.length (.int .i64 v)
  rw [List.map_append, List.set_append_right _ _ (by simp), List.length_map, Nat.sub_self] at this
  rw [List.map_append]
  exact this
theorem addr_of_own {w : World} {base e n c : Nat} {A : Option Addr} {xs : List Value} (h : w.ownsRow base e 1 (.slice A n c) n xs) (hn : 0 < n) : ∃ g, A = some ⟨g, 0, none⟩ := by
  obtain ⟨g, cur, k1, _⟩ := own1 h hn
  exact ⟨g, k1⟩
/-- A number more in the last group. -/
theorem NI.more {A' : Option Addr} {c' : Nat} (h : NI B Bg w0 wr gO m c gl p1 cl cells s) (app : App (wr.alloc (.cells #[.int .i64 (-1)] 3)) Bg 3 1 (.slice (some ⟨gl, 0, none⟩) p1 cl) (.slice A' (p1 + 1) c') (p1 + 1) ((s.pre ++ [s.v]).map iC ++ [.int .i64 (-1)]) w3) :
    ∃ g', A' = some ⟨g', 0, none⟩ ∧ w3.cell? ⟨gO, s.L.length, none⟩ = some (.slice (some ⟨gl, 0, none⟩) p1 cl) ∧ w3.frozen? ⟨gO, s.L.length, none⟩ = false ∧ gO < w3.heap.size ∧ NI B Bg w0 (w3.setCell ⟨gO, s.L.length, none⟩ (.slice (some ⟨g', 0, none⟩) (p1 + 1) c')) gO m c g' (p1 + 1) c' cells ⟨s.L, s.pre ++ [s.v], -1⟩ := by
  obtain ⟨e1, e2⟩ := h.len
  obtain ⟨g', hA⟩ := addr_of_own app.own (by omega)
  subst hA
  obtain ⟨g, cur, k1, kb, k2, _, _, _, k3⟩ := own1 h.out (by omega)
  injection k1 with k1
  injection k1 with k1
  subst k1
  have ol := h.last.alloc (.cells #[.int .i64 (-1)] 3)
  have o3 : w3.ownsRow B 48 1 _ _ _ := (h.out.alloc (.cells #[.int .i64 (-1)] 3)).kept app.grown (own_ne' (h.out.alloc _) ol (by decide))
  have b3 := app.blk (k2.alloc (.cells #[.int .i64 (-1)] 3)) ol (by decide)
  have o4 := own1_set o3 s.L.length (.slice (some ⟨g', 0, none⟩) (p1 + 1) c')
  have hz := app.grown.size
  have hB := h.hB
  have hBg := h.hBg
  have hbb := h.base
  rw [World.size_alloc] at hz
  refine ⟨g', rfl, ?_, b3.frozen _, b3.lt, ⟨?_, ?_, ?_, ?_, hB, ?_, hbb⟩⟩
  · rw [b3.cell]
    have := h.cells_.1
    rwa [k2.cell] at this
  · rw [← h.olds.1, List.set_append_right _ _ (Nat.le_refl _), Nat.sub_self] at o4
    rw [← h.olds.1]
    exact o4
  · refine h.olds.keep (fun g cs hg hb => ?_)
    have e3 : Blk w3 g 3 cs := (hb.alloc (.cells #[.int .i64 (-1)] 3)).grown app.grown (fun e => by have := (ol.lt g e.symm).1; omega)
    exact e3.far (p := ⟨gO, s.L.length, none⟩) (e3.ne_ b3 (by decide)) _
  · have := own_far (p := ⟨gO, s.L.length, none⟩) app.own (own_ne app.own b3 (by decide)) (.slice (some ⟨g', 0, none⟩) (p1 + 1) c')
    rw [List.map_append]
    exact this
  · exact (app.below ol (h.below.alloc (Nat.le_trans hB hBg) _) hB (by simp; omega)).setCell (p := ⟨gO, s.L.length, none⟩) kb _
  · simp; omega
/-- A group more. -/
theorem NI.group {A' : Option Addr} {c' : Nat} (h : NI B Bg w0 wr gO m c gl p1 cl cells s)
    (app : App ((wr.alloc (.cells #[.int .i64 (-1)] 3)).alloc (.cells #[.slice (some ⟨wr.heap.size, 0, none⟩) 1 1] 48)) B 48 1 (.slice (some ⟨gO, 0, none⟩) m c) (.slice A' (m + 1) c') (m + 1) ((cells ++ [.slice (some ⟨gl, 0, none⟩) p1 cl]) ++ [.slice (some ⟨wr.heap.size, 0, none⟩) 1 1]) w3) :
    ∃ g', A' = some ⟨g', 0, none⟩ ∧ NI B wr.heap.size w0 w3 g' (m + 1) c' wr.heap.size 1 1 (cells ++ [.slice (some ⟨gl, 0, none⟩) p1 cl]) ⟨s.L ++ [s.pre ++ [s.v]], [], -1⟩ := by
  obtain ⟨e1, e2⟩ := h.len
  obtain ⟨g', hA⟩ := addr_of_own app.own (by omega)
  subst hA
  have oo := (h.out.alloc (.cells #[.int .i64 (-1)] 3)).alloc (.cells #[.slice (some ⟨wr.heap.size, 0, none⟩) 1 1] 48)
  have keep : ∀ g cs, Blk wr g 3 cs → Blk w3 g 3 cs := fun g cs hb => app.blk ((hb.alloc _).alloc _) oo (by decide)
  have nb : Blk w3 wr.heap.size 3 #[.int .i64 (-1)] := app.blk ((Blk.new wr 3 #[.int .i64 (-1)]).alloc _) oo (by decide)
  have hz := app.grown.size
  rw [World.size_alloc, World.size_alloc] at hz
  have hBs := Nat.le_trans h.hB h.hBg
  refine ⟨g', rfl, app.own, ⟨by simp [h.olds.1], ?_⟩, ?_, ?_, hBs, by omega, h.base⟩
  · have hl : IntsB wr.heap.size wr (.slice (some ⟨gl, 0, none⟩) p1 cl) (s.pre ++ [s.v]) := by
      have hlen : (s.pre ++ [s.v]).length = p1 := by simp; omega
      have o := h.last
      rw [← hlen] at o ⊢
      obtain ⟨g, c2, cs, i1, i2, i3, i4, i5⟩ := ints_of_own o (by simp)
      injection i1 with i1 _ i1'
      injection i1 with i1
      injection i1 with i1
      subst i1 i1'
      exact ⟨gl, cl, cs, rfl, i2, i3, i4.lt, i4, i5⟩
    have h1 : ∀ (i : Nat) (l : List Int), s.L[i]? = some l → ∃ u, cells[i]? = some u ∧ IntsB wr.heap.size wr u l := fun i l hl2 => by
      obtain ⟨u, k1, g, c2, cs, k2, k3, k4, k5, k6, k7⟩ := h.olds.2 i l hl2
      exact ⟨u, k1, g, c2, cs, k2, k3, k4, Nat.lt_of_lt_of_le k5 h.hBg, k6, k7⟩
    intro i l hl2
    obtain ⟨u, k1, k2⟩ := snoc_at (R := fun u l => IntsB wr.heap.size wr u l) h.olds.1 h1 hl i l hl2
    exact ⟨u, k1, k2.keep (fun g cs _ hb => keep g cs hb)⟩
  · exact ⟨rfl, .inr ⟨wr.heap.size, 1, _, rfl, Nat.le_refl _, nb, Nat.le_refl _, by simp [maxLen], rfl, rfl⟩⟩
  · exact app.below oo ((h.below.alloc hBs _).alloc (by simp; omega) _) (Nat.le_refl _) (by simp; omega)
/-- All groups, when it has read. -/
theorem NI.all (h : NI B Bg w0 wr gO m c gl p1 cl cells s) : ∃ cur, Blk wr gO 48 cur ∧ B ≤ gO ∧ m ≤ c ∧ ∀ (i : Nat) (l : List Int), (groupsOf s)[i]? = some l → ∃ u, cur[i]? = some u ∧ IntsC wr u l := by
  obtain ⟨e1, e2⟩ := h.len
  obtain ⟨g, cur, k1, kb, k2, kc, _, _, k3⟩ := own1 h.out (by omega)
  injection k1 with k1
  injection k1 with k1
  subst k1
  refine ⟨cur, k2, kb, kc, fun i l hl => ?_⟩
  have hl2 : IntsC wr (.slice (some ⟨gl, 0, none⟩) p1 cl) (s.pre ++ [s.v]) := by
    have hlen : (s.pre ++ [s.v]).length = p1 := by simp; omega
    have o := h.last
    rw [← hlen] at o ⊢
    exact ints_of_own o (by simp)
  obtain ⟨u, j1, j2⟩ := snoc_at (R := fun u l => IntsC wr u l) h.olds.1 (fun i l hl => by obtain ⟨u, a1, a2⟩ := h.olds.2 i l hl; exact ⟨u, a1, a2.c⟩) hl2 i l hl
  refine ⟨u, ?_, j2⟩
  have := own1_cell k2 k3 (i := i) (u := u) (by exact j1)
  rwa [k2.cell i] at this
end
end Go.Proofs.Ythbjjhoajecpcaa
