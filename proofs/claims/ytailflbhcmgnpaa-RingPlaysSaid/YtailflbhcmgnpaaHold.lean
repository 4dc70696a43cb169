/-
  A ring whose blocks are all new since a world; the contracts in that form; awake's walk. No condition but bounds.
-/
import Derived.Test.YtailflbhcmgnpaaSet
namespace Go.Proofs.Ytailflbhcmgnpaa
open Go.RowKit Go.Proofs
set_option linter.unusedVariables false
/-- A ring that lies above a block. -/
structure Held (ok : Nat → Prop) (base : Nat) (w : World) (g : Nat) (S : Option Nat) (L : List Row) (room gone : Nat) : Prop where
  at_ : RingAt ok w g S L room gone
  gb : base ≤ g
  sb : ∀ s, S = some s → base ≤ s ∧ s < w.heap.size
section
variable {ok : Nat → Prop} {w w' : World} {base g room gone room' gone' : Nat} {S S' : Option Nat} {L L' : List Row}
theorem RingAt.below (h : RingAt ok w g S L room gone) (hb : Below w.heap.size w w') : RingAt ok w' g S L room gone := by
  obtain ⟨len, first, rows, h⟩ := h
  exact ⟨len, first, rows, h.below hb⟩
theorem RingAt.lt (h : RingAt ok w g S L room gone) : g < w.heap.size := by
  obtain ⟨len, first, rows, h⟩ := h
  exact h.lt
theorem Held.below (h : Held ok base w g S L room gone) (hb : Below w.heap.size w w') : Held ok base w' g S L room gone :=
  ⟨h.at_.below hb, h.gb, fun s e => ⟨(h.sb s e).1, Nat.lt_of_lt_of_le (h.sb s e).2 hb.size⟩⟩
theorem Held.frmb (h : Held ok base w g S L room gone) (hb : base ≤ w.heap.size) (f : Frm (Own2 g S) w w') : Below base w w' :=
  f.to_below hb fun i hi => by
    rcases hi with rfl | hi
    · exact h.gb
    · exact (h.sb i hi).1
theorem Held.to (h : Held ok base w g S L room gone) (h' : RingAt ok w' g S' L' room' gone') (hz : w.heap.size ≤ w'.heap.size) (hb : base ≤ w.heap.size) (hS : S' = S ∨ ∃ s, w.heap.size ≤ s ∧ S' = some s) : Held ok base w' g S' L' room' gone' :=
  ⟨h', h.gb, fun s e => by
    obtain ⟨len, first, rows, h'⟩ := h'
    refine ⟨?_, (h'.slots s e).1.lt⟩
    rcases hS with rfl | ⟨s', h1, rfl⟩
    · exact (h.sb s e).1
    · injection e with e
      omega⟩
end
theorem held_new (ok : Nat → Prop) (room : Nat) (w : World) (h : room ≤ 100000) : Held ok w.heap.size (w.alloc (.cells (ringC none 0 room 0 0 0) 62)) w.heap.size none [] room 0 :=
  ⟨⟨0, 0, [], Blk.new _ _ _, rfl, Nat.le_refl _, Nat.zero_le _, h, fun _ => ⟨rfl, rfl⟩, (fun s e => by cases e), (fun i R hR => by simp at hR)⟩, Nat.le_refl _, (fun s e => by cases e)⟩
/-- What Push leaves, of a ring above a block. -/
def PushH (ok : Nat → Prop) (base g : Nat) (L : List Row) (room gone : Nat) (O : Row) (full : Bool) (w : World) (e : Ending) (w' : World) : Prop :=
  ∃ v1 v2 S', e = .returned (.tuple #[.agg #[v1, v2], .bool full]) ∧ RowV ok w' (v1, v2) O ∧ Held ok base w' g S' L room gone ∧ Below base w w' ∧ Keep45 ok w w'
theorem push_h (ok ok0 : Nat → Prop) (base g : Nat) (S : Option Nat) (L : List Row) (room gone : Nat) (v1 v2 : Value) (R : Row) (w : World) (h : Held ok base w g S L room gone) (hb : base ≤ w.heap.size) (hv : RowV ok0 w (v1, v2) R) (hok : ∀ b, w.heap.size ≤ b → ok b) (hgn : gone ≤ 1000000000) :
    Calls Try.prog 10 #[.pointer (some ⟨g, 0, none⟩), .agg #[v1, v2]] w (PushH ok base g (pL room L R) room (pG room L gone) (pO room L R) (pB room L) w) := by
  refine (push_any ok ok0 g S L room gone v1 v2 R w h.at_ hv hok hgn).mono ?_
  rintro e w' ⟨u1, u2, S', he, hr, ha, hS, hf, hk⟩
  exact ⟨u1, u2, S', he, hr, h.to ha hf.size hb hS, h.frmb hb hf, hk⟩
/-- What Pop leaves, of a ring above a block. -/
def PopH (ok : Nat → Prop) (base g : Nat) (S : Option Nat) (L : List Row) (room gone : Nat) (R : Row) (w : World) (e : Ending) (w' : World) : Prop :=
  ∃ v1 v2, e = .returned (.tuple #[.agg #[v1, v2], .bool true]) ∧ RowV ok w' (v1, v2) R ∧ Held ok base w' g S L room gone ∧ Frm (Own2 g S) w w' ∧ Below base w w' ∧ Keep45 ok w w'
theorem pop_h (ok : Nat → Prop) (base g : Nat) (S : Option Nat) (L : List Row) (room gone : Nat) (R : Row) (w : World) (h : Held ok base w g S (L ++ [R]) room gone) (hb : base ≤ w.heap.size) :
    Calls Try.prog 17 #[.pointer (some ⟨g, 0, none⟩)] w (PopH ok base g S L room gone R w) := by
  have h0 := h
  obtain ⟨⟨len, first, rows, h1⟩, h2, h3⟩ := h
  refine (pop_in ok g S L R room gone len first rows w h1).mono ?_
  rintro e w' ⟨u1, u2, he, hr, ha, hf, hk⟩
  exact ⟨u1, u2, he, hr, h0.to ha hf.size hb (Or.inl rfl), hf, h0.frmb hb hf, hk⟩
theorem len_h (ok : Nat → Prop) (base g : Nat) (S : Option Nat) (L : List Row) (room gone n : Nat) (w : World) (h : Held ok base w g S L room gone) (hn : L.length = n) :
    Calls Try.prog 13 #[.pointer (some ⟨g, 0, none⟩)] w fun e w' => e = .returned (.int .i64 n) ∧ w = w' := by
  obtain ⟨⟨len, first, rows, h1⟩, h2, h3⟩ := h
  rw [← hn]
  exact len_any _ _ _ _ _ _ _ _ h1.blk
theorem gone_h (ok : Nat → Prop) (base g : Nat) (S : Option Nat) (L : List Row) (room gone : Nat) (w : World) (h : Held ok base w g S L room gone) :
    Calls Try.prog 14 #[.pointer (some ⟨g, 0, none⟩)] w fun e w' => e = .returned (.int .u64 gone) ∧ w = w' := by
  obtain ⟨⟨len, first, rows, h1⟩, h2, h3⟩ := h
  exact gone_any _ _ _ _ _ _ _ _ h1.blk
theorem room_h (ok : Nat → Prop) (base g : Nat) (S : Option Nat) (L : List Row) (room gone : Nat) (w : World) (h : Held ok base w g S L room gone) :
    Calls Try.prog 21 #[.pointer (some ⟨g, 0, none⟩)] w fun e w' => e = .returned (.int .i64 room) ∧ w = w' := by
  obtain ⟨⟨len, first, rows, h1⟩, h2, h3⟩ := h
  exact room_any _ _ _ _ _ _ _ _ h1.blk
theorem at_h (ok ok' : Nat → Prop) (base g : Nat) (S : Option Nat) (L : List Row) (room gone i : Nat) (R : Row) (w : World) (h : Held ok base w g S L room gone) (hR : L[i]? = some R) (hok : ∀ b, w.heap.size ≤ b → ok' b) :
    Calls Try.prog 15 #[.pointer (some ⟨g, 0, none⟩), .int .i64 i] w (RowOkPost ok' R true w) := by
  obtain ⟨⟨len, first, rows, h1⟩, h2, h3⟩ := h
  exact at_in ok ok' g S L room gone len first i rows R w h1 hR hok
def any (_ : Nat) : Prop := True
set_option maxHeartbeats 4000000 in
theorem awake_any (w : World) : Calls Try.prog 8 #[] w fun e w' => e = .returned (.bool true) ∧ Below w.heap.size w w' := by
  have N := hide (new_any 2 w (by omega))
  have RW := hide (fun (k : Int) (W : World) (h0 : -2147483648 ≤ k) (h1 : k ≤ 2147483647) => row_any any k W h0 h1 (fun _ _ => trivial))
  have PU := hide (fun (L : List Row) (S : Option Nat) (gone : Nat) (v1 v2 : Value) (R : Row) (W : World) (h : Held any w.heap.size W w.heap.size S L 2 gone) (hb : w.heap.size ≤ W.heap.size) (hv : RowV any W (v1, v2) R) (hg : gone ≤ 1000000000) => push_h any any w.heap.size w.heap.size S L 2 gone v1 v2 R W h hb hv (fun _ _ => trivial) hg)
  have ON := hide (fun (v1 v2 u1 u2 : Value) (R : Row) (W : World) (h : RowV any W (v1, v2) R) (h' : RowV any W (u1, u2) R) => one_any any any v1 v2 u1 u2 R W h h')
  have hN := hide (held_new any 2 w (by omega))
  go_enter Try.func8, Try.ntmps8
  go_upto_region 4 with (go_at_call 9; go_must (refine N.out.mono ?_; rintro e w0 ⟨rfl, rfl⟩))
  go_name_world W0 hW0
  have K0 := hide (show Held any w.heap.size W0 w.heap.size none [] 2 0 by rw [← hW0]; exact hN.out)
  have B0 := hide (show Below w.heap.size w W0 by rw [← hW0]; exact (Below.refl _ _).alloc (Nat.le_refl _) _)
  clear hW0
  go_upto_region 5 with (first
    | (go_at_call 11; go_must (refine (RW.out 1 _ (by omega) (by omega)).mono ?_; rintro e w1 ⟨v1, v2, rfl, r1, b1⟩; have z1 := Nat.le_trans B0.out.size b1.size))
    | (go_at_call 10; go_must (refine (PU.out _ _ _ v1 v2 (some 1) _ (K0.out.below b1) z1 r1 (by omega)).mono ?_; rintro e w2 ⟨o1, o2, S2, rfl, ro2, K2, b2, k2⟩)))
  have K2 := hide (show Held any w.heap.size w2 w.heap.size S2 [some 1] 2 0 from K2)
  have B2 := hide ((below_in B0.out b1 (Nat.le_refl _)).trans b2)
  clear r1 b1 z1 ro2 b2 k2
  go_upto_region 6 with (first
    | (go_at_call 11; go_must (refine (RW.out 2 _ (by omega) (by omega)).mono ?_; rintro e w3 ⟨v1, v2, rfl, r1, b1⟩; have z1 := Nat.le_trans B2.out.size b1.size))
    | (go_at_call 10; go_must (refine (PU.out _ _ _ v1 v2 (some 2) _ (K2.out.below b1) z1 r1 (by omega)).mono ?_; rintro e w4 ⟨p1, p2, S4, rfl, ro2, K4, b2, k2⟩)))
  have K4 := hide (show Held any w.heap.size w4 w.heap.size S4 [some 1, some 2] 2 0 from K4)
  have B4 := hide ((below_in B2.out b1 (Nat.le_refl _)).trans b2)
  clear r1 b1 z1 ro2 b2 k2
  go_upto_region 7 with (first
    | (go_at_call 11; go_must (refine (RW.out 3 _ (by omega) (by omega)).mono ?_; rintro e w5 ⟨v1, v2, rfl, r1, b1⟩; have z1 := Nat.le_trans B4.out.size b1.size))
    | (go_at_call 10; go_must (refine (PU.out _ _ _ v1 v2 (some 3) _ (K4.out.below b1) z1 r1 (by omega)).mono ?_; rintro e w6 ⟨q1, q2, S6, rfl, ro2, K6, b2, k2⟩; obtain ⟨Aq, mq, cq, bq, rfl, rfl⟩ := row_form ro2)))
  have K6 := hide (show Held any w.heap.size w6 w.heap.size S6 [some 2, some 3] 2 1 from K6)
  have ro := hide (show RowV any w6 (.slice Aq mq cq, .bool bq) (some 1) from ro2)
  have B6 := hide ((below_in B4.out b1 (Nat.le_refl _)).trans b2)
  have e6 : pB 2 [some 1, some 2] = true := rfl
  rw [e6]
  clear r1 b1 z1 ro2 b2 k2
  go_name_world W7 hW7
  have n7 : Below w6.heap.size w6 W7 := by rw [← hW7]; exact (Below.refl _ _).alloc (Nat.le_refl _) _
  have q7 : Blk W7 w6.heap.size 30 #[.slice Aq mq cq, .bool bq] := by rw [← hW7]; exact Blk.new _ _ _
  have K7 := K6.out.below n7
  have B7 := hide (below_in B6.out n7 (Nat.le_refl _))
  have PO := hide (pop_h any w.heap.size w.heap.size S6 [some 2] 2 1 (some 3) W7 K7 (B7.out.size))
  have s6 : ∀ s, S6 = some s → s ≠ w6.heap.size := fun s e => by have := (K6.out.sb s e).2; omega
  have hz6 := B6.out.size
  have g6 : w.heap.size ≠ w6.heap.size := by have := K6.out.at_.lt; omega
  have K7 := hide K7
  have Q7 := hide q7
  have n7 := hide n7
  clear hW7 q7
  go_upto_region 8 with (go_at_call 17; go_must (refine (PO.out).mono ?_; rintro e w8 ⟨t1, t2, rfl, ro8, K8, f8, b8, k8⟩; obtain ⟨At, mt, ct, bt, rfl, rfl⟩ := row_form ro8))
  have q8 := Q7.out.frm f8 (by rintro (e | e); exact g6 e.symm; exact s6 _ e rfl)
  have ra := ro.out.keep ((Keep45.below n7.out).trans k8)
  have B8 := B7.out.trans b8
  have K8 := hide K8
  have ra := hide ra
  have ro8 := hide ro8
  clear PO Q7 f8 k8 b8
  go_name_world W9 hW9
  have n9 : Below w8.heap.size w8 W9 := by rw [← hW9]; exact (Below.refl _ _).alloc (Nat.le_refl _) _
  have q9 : Blk W9 w8.heap.size 30 #[.slice At mt ct, .bool bt] := by rw [← hW9]; exact Blk.new _ _ _
  have p9 := q8.below n9 q8.lt
  have B9 := hide (below_in B8 n9 (Nat.le_refl _))
  have K9 := hide (K8.out.below n9)
  have r9 := hide (And.intro (ra.out.keep (Keep45.below n9)) (ro8.out.keep (Keep45.below n9)))
  clear hW9 B8 q8 n9
  obtain ⟨x0, x1, _, _⟩ := blk2 p9
  obtain ⟨y0, y1, _, _⟩ := blk2 q9
  have z6 := p9.lt
  have z8 := q9.lt
  have E0 := hide (show ∀ W, Below W9.heap.size W9 W → W.cell? ⟨w6.heap.size, 0, none⟩ = some (.slice Aq mq cq) ∧ W.cell? ⟨w6.heap.size, 1, none⟩ = some (.bool bq) ∧ W.cell? ⟨w8.heap.size, 0, none⟩ = some (.slice At mt ct) ∧ W.cell? ⟨w8.heap.size, 1, none⟩ = some (.bool bt) from
    fun W hW => ⟨(hW.cell (p := ⟨w6.heap.size, 0, none⟩) z6).trans x0, (hW.cell (p := ⟨w6.heap.size, 1, none⟩) z6).trans x1, (hW.cell (p := ⟨w8.heap.size, 0, none⟩) z8).trans y0, (hW.cell (p := ⟨w8.heap.size, 1, none⟩) z8).trans y1⟩)
  have ed := E0.out _ (Below.refl _ _)
  have LN := hide (fun (W : World) (h : Below W9.heap.size W9 W) => len_h any w.heap.size w.heap.size S6 [some 2] 2 1 1 W (K9.out.below h) rfl)
  have GN := hide (fun (W : World) (h : Below W9.heap.size W9 W) => gone_h any w.heap.size w.heap.size S6 [some 2] 2 1 W (K9.out.below h))
  clear x0 x1 y0 y1 p9 q9
  go_region_held3 (fun W => W.cell? ⟨w6.heap.size, 0, none⟩ = some (.slice Aq mq cq) ∧ W.cell? ⟨w6.heap.size, 1, none⟩ = some (.bool bq) ∧ W.cell? ⟨w8.heap.size, 0, none⟩ = some (.slice At mt ct) ∧ W.cell? ⟨w8.heap.size, 1, none⟩ = some (.bool bt))
    (first | (exact ed) | (exact E0.out _ C4) | (exact E0.out _ C3) | (exact E0.out _ C2) | (exact E0.out _ C1) | go_keep)
    (first
      | (go_at_call_of 11 (1 : Int); (refine (RW.out 1 _ (by omega) (by omega)).mono ?_); rintro e u1 ⟨c1, c2, rfl, rv1, bb⟩; have C1 := below_in (Below.refl W9.heap.size W9).drew bb (Nat.le_refl _))
      | (go_at_call_of 12 Aq; (refine (ON.out _ _ _ _ (some 1) _ (r9.out.1.keep (Keep45.below C1)) rv1).mono ?_); rintro e u2 ⟨rfl, bb2⟩; have C2 := below_in C1 bb2 (Nat.le_refl _))
      | (go_at_call_of 11 (3 : Int); (refine (RW.out 3 _ (by omega) (by omega)).mono ?_); rintro e u3 ⟨c3, c4, rfl, rv3, bb3⟩; have C3 := below_in C2 bb3 (Nat.le_refl _))
      | (go_at_call_of 12 At; (refine (ON.out _ _ _ _ (some 3) _ (r9.out.2.keep (Keep45.below C3)) rv3).mono ?_); rintro e u4 ⟨rfl, bb4⟩; have C4 := below_in C3 bb4 (Nat.le_refl _))
      | (go_at_call 13; (refine (LN.out _ C4).mono ?_); rintro e u5 ⟨rfl, rfl⟩)
      | (go_at_call 14; (refine (GN.out _ C4).mono ?_); rintro e u6 ⟨rfl, rfl⟩))
  go_wp2_with fail
  go_ret
  exact ⟨rfl, below_in B9.out C4 (Nat.le_refl _)⟩
end Go.Proofs.Ytailflbhcmgnpaa
