/-
  What a ring's functions turn; Push, Pop, Set, At, All in that form; the walk of Clear. No condition but bounds.
-/
import Derived.Test.YtailflbhcmgnpaaHold
namespace Go.Proofs.Ytailflbhcmgnpaa
open Go.RowKit Go.Proofs
set_option linter.unusedVariables false
/-- From w to w' the ring's own blocks alone turned; new slots are the old ones, none, or fresh. -/
structure Turn (g : Nat) (S S' : Option Nat) (w w' : World) : Prop where
  frm : Frm (Own2 g S) w w'
  slots : ∀ s, S' = some s → S = some s ∨ w.heap.size ≤ s
  keep : Keep45 any w w'
theorem Turn.refl (g : Nat) (S : Option Nat) (w : World) : Turn g S S w w := ⟨Frm.refl _ _, fun s e => Or.inl e, Keep45.refl _ _⟩
theorem Turn.of_below {g : Nat} {S : Option Nat} {w w' : World} (h : Below w.heap.size w w') : Turn g S S w w' := ⟨Frm.of_below h fun i h1 h2 => by omega, fun s e => Or.inl e, Keep45.below h⟩
theorem Turn.trans {g : Nat} {S S1 S2 : Option Nat} {w w1 w2 : World} (h : Turn g S S1 w w1) (k : Turn g S1 S2 w1 w2) : Turn g S S2 w w2 := by
  refine ⟨h.frm.trans k.frm ?_, ?_, h.keep.trans k.keep⟩
  · rintro i hi (e | e)
    · exact Or.inl e
    · rcases h.slots i e with h1 | h1
      · exact Or.inr h1
      · omega
  · intro s e
    rcases k.slots s e with h1 | h1
    · exact h.slots s h1
    · exact Or.inr (Nat.le_trans h.frm.size h1)
/-- A block that is none of the ring's own lies as it lay. -/
theorem Turn.blk {g b : Nat} {S S' : Option Nat} {w w' : World} {t : TypeId} {cs : Array Value} (h : Turn g S S' w w') (hb : Blk w b t cs) (hg : b ≠ g) (hS : S ≠ some b) : Blk w' b t cs := hb.frm h.frm (by rintro (e | e); exact hg e; exact hS e)
theorem Turn.not {g b : Nat} {S S' : Option Nat} {w w' : World} (h : Turn g S S' w w') (hb : b < w.heap.size) (hS : S ≠ some b) : S' ≠ some b := by
  intro e
  rcases h.slots b e with h1 | h1
  · exact hS h1
  · omega
theorem push_t (g : Nat) (S : Option Nat) (L : List Row) (room gone : Nat) (v1 v2 : Value) (R : Row) (w : World) (h : RingAt any w g S L room gone) (hv : RowV any w (v1, v2) R) (hgn : gone ≤ 1000000000) :
    Calls Try.prog 10 #[.pointer (some ⟨g, 0, none⟩), .agg #[v1, v2]] w fun e w' => ∃ u1 u2 S', e = .returned (.tuple #[.agg #[u1, u2], .bool (pB room L)]) ∧ RowV any w' (u1, u2) (pO room L R) ∧ RingAt any w' g S' (pL room L R) room (pG room L gone) ∧ Turn g S S' w w' := by
  refine (push_any any any g S L room gone v1 v2 R w h hv (fun _ _ => trivial) hgn).mono ?_
  rintro e w' ⟨u1, u2, S', he, hr, ha, hS, hf, hk⟩
  refine ⟨u1, u2, S', he, hr, ha, hf, ?_, hk⟩
  intro s e
  rcases hS with h1 | ⟨s', h1, h2⟩
  · exact Or.inl (h1 ▸ e)
  · rw [h2] at e
    injection e with e
    exact Or.inr (by omega)
theorem pop_t (g : Nat) (S : Option Nat) (L : List Row) (R : Row) (room gone : Nat) (w : World) (h : RingAt any w g S (L ++ [R]) room gone) :
    Calls Try.prog 17 #[.pointer (some ⟨g, 0, none⟩)] w fun e w' => ∃ u1 u2, e = .returned (.tuple #[.agg #[u1, u2], .bool true]) ∧ RowV any w' (u1, u2) R ∧ RingAt any w' g S L room gone ∧ Turn g S S w w' := by
  obtain ⟨len, first, rows, h1⟩ := h
  refine (pop_in any g S L R room gone len first rows w h1).mono ?_
  rintro e w' ⟨u1, u2, he, hr, ha, hf, hk⟩
  exact ⟨u1, u2, he, hr, ha, hf, fun s e => Or.inl e, hk⟩
theorem pop_t0 (g : Nat) (S : Option Nat) (room gone : Nat) (w : World) (h : RingAt any w g S [] room gone) :
    Calls Try.prog 17 #[.pointer (some ⟨g, 0, none⟩)] w (RowOkPost any none false w) := by
  obtain ⟨len, first, rows, h1⟩ := h
  exact pop_empty any g S room gone len first rows w h1
theorem set_t (g : Nat) (S : Option Nat) (L : List Row) (room gone i : Nat) (v1 v2 : Value) (R : Row) (w : World) (h : RingAt any w g S L room gone) (hv : RowV any w (v1, v2) R) (hi : i < L.length) :
    Calls Try.prog 24 #[.pointer (some ⟨g, 0, none⟩), .int .i64 i, .agg #[v1, v2]] w fun e w' => e = .returned (.bool true) ∧ RingAt any w' g S (L.set i R) room gone ∧ Turn g S S w w' := by
  obtain ⟨len, first, rows, h1⟩ := h
  refine (set_in any any g S L room gone len first i rows v1 v2 R w h1 hv hi (fun _ _ => trivial)).mono ?_
  rintro e w' ⟨he, ha, hf, hk⟩
  exact ⟨he, ha, hf, fun s e => Or.inl e, hk⟩
theorem set_t0 (g : Nat) (S : Option Nat) (L : List Row) (room gone : Nat) (i : Int) (v1 v2 : Value) (R : Row) (w : World) (h : RingAt any w g S L room gone) (hv : RowV any w (v1, v2) R) (hi : i < 0 ∨ (L.length : Int) ≤ i) :
    Calls Try.prog 24 #[.pointer (some ⟨g, 0, none⟩), .int .i64 i, .agg #[v1, v2]] w fun e w' => e = .returned (.bool false) ∧ Below w.heap.size w w' := by
  obtain ⟨len, first, rows, h1⟩ := h
  exact set_out any any g S L room gone len first i rows v1 v2 R w h1 hv hi
theorem at_t (g : Nat) (S : Option Nat) (L : List Row) (room gone i : Nat) (R : Row) (w : World) (h : RingAt any w g S L room gone) (hR : L[i]? = some R) :
    Calls Try.prog 15 #[.pointer (some ⟨g, 0, none⟩), .int .i64 i] w (RowOkPost any R true w) := by
  obtain ⟨len, first, rows, h1⟩ := h
  exact at_in any any g S L room gone len first i rows R w h1 hR (fun _ _ => trivial)
theorem at_t0 (g : Nat) (S : Option Nat) (L : List Row) (room gone : Nat) (i : Int) (w : World) (h : RingAt any w g S L room gone) (hi : i < 0 ∨ (L.length : Int) ≤ i) :
    Calls Try.prog 15 #[.pointer (some ⟨g, 0, none⟩), .int .i64 i] w (RowOkPost any none false w) := by
  obtain ⟨len, first, rows, h1⟩ := h
  exact at_out any g S L room gone len first i rows w h1 hi
theorem all_t (g : Nat) (S : Option Nat) (L : List Row) (room gone : Nat) (w : World) (h : RingAt any w g S L room gone) :
    Calls Try.prog 16 #[.pointer (some ⟨g, 0, none⟩)] w (RowsPost any L w) := by
  obtain ⟨len, first, rows, h1⟩ := h
  exact all_any any any g S L room gone len first rows w h1 (fun _ _ => trivial)
theorem len_t (g : Nat) (S : Option Nat) (L : List Row) (room gone n : Nat) (w : World) (h : RingAt any w g S L room gone) (hn : L.length = n) :
    Calls Try.prog 13 #[.pointer (some ⟨g, 0, none⟩)] w fun e w' => e = .returned (.int .i64 n) ∧ w = w' := by
  obtain ⟨len, first, rows, h1⟩ := h
  rw [← hn]
  exact len_any _ _ _ _ _ _ _ _ h1.blk
theorem gone_t (g : Nat) (S : Option Nat) (L : List Row) (room gone : Nat) (w : World) (h : RingAt any w g S L room gone) :
    Calls Try.prog 14 #[.pointer (some ⟨g, 0, none⟩)] w fun e w' => e = .returned (.int .u64 gone) ∧ w = w' := by
  obtain ⟨len, first, rows, h1⟩ := h
  exact gone_any _ _ _ _ _ _ _ _ h1.blk
theorem room_t (g : Nat) (S : Option Nat) (L : List Row) (room gone : Nat) (w : World) (h : RingAt any w g S L room gone) :
    Calls Try.prog 21 #[.pointer (some ⟨g, 0, none⟩)] w fun e w' => e = .returned (.int .i64 room) ∧ w = w' := by
  obtain ⟨len, first, rows, h1⟩ := h
  exact room_any _ _ _ _ _ _ _ _ h1.blk
/-- A store into one of the ring's own cells. -/
theorem turn_set {g : Nat} {S S' : Option Nat} {w w' : World} {cs : Array Value} (h : Turn g S S' w w') (hb : Blk w' g 62 cs) (i : Nat) (v : Value) : Turn g S S' w (w'.setCell ⟨g, i, none⟩ v) :=
  ⟨h.frm.setCell (p := ⟨g, i, none⟩) (fun _ => Or.inl rfl) v, h.slots, h.keep.trans (keep45_set hb (by decide) i v)⟩
/-- A ring whose slots went. -/
theorem ring_empty {g room gone first : Nat} {w : World} (hr : room ≤ 100000) (h : Blk w g 62 (ringC none 0 room 0 0 gone)) : RingAt any w g none [] room gone :=
  ⟨0, 0, [], h, rfl, Nat.le_refl _, Nat.zero_le _, hr, fun _ => ⟨rfl, rfl⟩, (fun s e => by cases e), (fun i R hR => by simp at hR)⟩
set_option maxHeartbeats 1000000 in
theorem clear_t (g : Nat) (S : Option Nat) (L : List Row) (room gone n : Nat) (w : World) (h : RingAt any w g S L room gone) (hn : L.length = n) (hgn : gone ≤ 1000000000) :
    Calls Try.prog 23 #[.pointer (some ⟨g, 0, none⟩)] w fun e w' => ∃ S', e = .returned (.int .i64 n) ∧ RingAt any w' g S' [] room (gone + n) ∧ Turn g S S' w w' := by
  have H := hide h
  have LN := hide (len_t g S L room gone n w h hn)
  obtain ⟨len, first, rows, h1⟩ := h
  have hB := h1.blk
  have hle := h1.le
  have hlr := h1.ler
  have hrl := h1.roomle
  rw [hn] at hB hle
  obtain ⟨c0, c1, c2, c3, c4, f0, f1, f2, f3, f4⟩ := blk5 hB
  by_cases h0 : 0 < n
  · obtain ⟨q, hq⟩ : ∃ q, gone + n = q := ⟨_, rfl⟩
    have hq2 : (gone : Int) + n = q := by omega
    rw [hq]
    have d : decide (0 < n) = true := by simp; omega
    have d2 : decide (0 < (n : Int)) = true := by simp; omega
    have HB := hide hB
    clear h1 hB hn
    go_enter Try.func23, Try.ntmps23
    go_wp2_with (go_at_call 13; go_must (refine LN.out.mono ?_; rintro e w' ⟨rfl, rfl⟩))
    go_ret
    have b0 : Blk (w.setCell ⟨g, 0, none⟩ (.slice none 0 0)) g 62 (ringC none 0 room first n gone) := ring_slots (S' := none) (len' := 0) HB.out
    have b1 := ring_first (m := 0) b0
    have b2 := ring_n (m := 0) b1
    have b3 := ring_gone (m := q) b2
    have t0 : Turn g S none w w := ⟨Frm.refl _ _, (fun s e => by cases e), Keep45.refl _ _⟩
    exact ⟨none, rfl, ring_empty (first := 0) hrl b3, turn_set (turn_set (turn_set (turn_set t0 HB.out 0 _) b0 2 _) b1 3 _) b2 4 _⟩
  · have hz : n = 0 := by omega
    subst hz
    have hL : L = [] := by cases L with | nil => rfl | cons a l => simp at hn
    subst hL
    clear h1 hB hn h0
    go_enter Try.func23, Try.ntmps23
    go_wp2_with (go_at_call 13; go_must (refine LN.out.mono ?_; rintro e w' ⟨rfl, rfl⟩))
    go_ret
    exact ⟨S, rfl, H.out, Turn.refl _ _ _⟩
end Go.Proofs.Ytailflbhcmgnpaa
