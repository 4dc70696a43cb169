/-
  does, walked: Pop, Push. No condition but bounds.
-/
import Derived.Test.YtailflbhcmgnpaaTwo
namespace Go.Proofs.Ytailflbhcmgnpaa
open Go.RowKit Go.Proofs
set_option linter.unusedVariables false
/-- A box beside the two rings lies as it lay behind a call of the document's. -/
theorem Two.box {base g m gR gM room b : Nat} {w w' : World} {S : Option Nat} {v v' : Value} {LR LM : List Row} {t : TypeId} {cs : Array Value} (hb : Blk w b t cs) (tt : TurnM m v v' w w') (h1 : b ≠ m) (h2 : v.ownBlock ≠ some b) : Blk w' b t cs :=
  hb.frm tt.frm (by rintro (e | e); exact h1 e; exact h2 e)
theorem Two.not {base g m gR gM room b : Nat} {w : World} {S : Option Nat} {v : Value} {LR LM : List Row} (h : Two base w g m S v LR gR LM gM room) (hb : w.heap.size ≤ b) : b ≠ m ∧ b ≠ g ∧ v.ownBlock ≠ some b ∧ S ≠ some b := by
  have hl := h.lt
  obtain ⟨hB, rows, ho, hrr⟩ := h.ref
  refine ⟨by omega, by omega, fun e => ?_, fun e => ?_⟩
  · have := (ho.lt b e).2; omega
  · obtain ⟨cs, k⟩ := h.blks e; have := k.lt; omega
set_option maxRecDepth 100000 in
set_option maxHeartbeats 4000000 in
theorem does_pop (base g m : Nat) (S : Option Nat) (v : Value) (L : List Row) (gone room : Nat) (N : Int) (w : World) (h : Two base w g m S v L gone L gone room) (hb : base ≤ w.heap.size) (hr : room ≤ 255) (hg : gone ≤ 100000000) :
    Calls Try.prog 18 #[.pointer (some ⟨g, 0, none⟩), .pointer (some ⟨m, 0, none⟩), .agg #[.int .i64 0, .int .i64 N]] w (DoesPost base g m room gone w) := by
  have hl := h.len
  have hw0 : Below w.heap.size w (w.alloc (.cells #[.int .i64 0, .int .i64 N] 55)) := (Below.refl _ _).alloc (Nat.le_refl _) _
  have q0 := blk2 (Blk.new w 55 #[.int .i64 0, .int .i64 N])
  obtain ⟨q0, q1, _, _⟩ := q0
  have h0 := hide (h.below hw0)
  have HW0 := hide hw0
  have ON := hide (fun (v1 v2 u1 u2 : Value) (R : Row) (W : World) (h : RowV any W (v1, v2) R) (h' : RowV any W (u1, u2) R) => one_any any any v1 v2 u1 u2 R W h h')
  have zb := Nat.le_trans hb hw0.size
  clear hw0
  rcases List.eq_nil_or_concat L with rfl | ⟨L0, R, rfl⟩
  · have P1 := hide (pop_t0 g S room gone _ h0.out.ring)
    have P2 := hide (fun (W : World) (hW : Two base W g m S v [] gone [] gone room) => rpop_t0 base m v room gone W hW.ref)
    clear h
    go_enter Try.func18, Try.ntmps18
    go_upto_region 4 with (go_at_call 17; go_must (refine P1.out.mono ?_; rintro e w1 ⟨u1, u2, rfl, ru, b1⟩; obtain ⟨rfl, rfl⟩ := ru))
    go_name_world W2 hW2
    have B2 : Below w1.heap.size w1 W2 := by rw [← hW2]; exact (Below.refl _ _).alloc (Nat.le_refl _) _
    have x2 : Blk W2 w1.heap.size 30 #[.slice none 0 0, .bool false] := by rw [← hW2]; exact Blk.new _ _ _
    have T2 := hide ((h0.out.below b1).below B2)
    have BB2 := hide ((HW0.out.mono hb).trans ((b1.mono zb).trans (B2.mono (Nat.le_trans zb b1.size))))
    clear hW2
    go_upto_region 5 with (go_at_call 29; go_must (refine (P2.out _ T2.out).mono ?_; rintro e w3 ⟨u1, u2, rfl, ru, b3⟩; obtain ⟨rfl, rfl⟩ := ru))
    go_name_world W4 hW4
    have B4 : Below w3.heap.size w3 W4 := by rw [← hW4]; exact (Below.refl _ _).alloc (Nat.le_refl _) _
    have y4 : Blk W4 w3.heap.size 30 #[.slice none 0 0, .bool false] := by rw [← hW4]; exact Blk.new _ _ _
    have B24 := b3.trans (B4.mono b3.size)
    have x4 := x2.below B24 x2.lt
    have T4 := hide (T2.out.below B24)
    have z4 := Nat.le_trans hb BB2.out.size
    have BB4 := hide (BB2.out.trans (B24.mono z4))
    obtain ⟨x0, x1, _, _⟩ := blk2 x4
    obtain ⟨y0, y1, _, _⟩ := blk2 y4
    have z5 := Nat.le_trans z4 B24.size
    clear hW4
    go_wp2_with (go_at_call 12; go_must (refine (ON.out _ _ _ _ none _ rfl rfl).mono ?_; rintro e w5 ⟨rfl, b5⟩))
    go_ret
    exact ⟨rfl, S, v, [], gone, T4.out.below b5, by omega, BB4.out.trans (b5.mono z5)⟩
  · rw [List.concat_eq_append] at *
    obtain ⟨n, hn⟩ : ∃ n, L0.length = n := ⟨_, rfl⟩
    have hn2 : n ≤ 1000000 := by have := hl.1; simp at this; omega
    have P1 := hide (pop_t g S L0 R room gone _ h0.out.ring)
    have P2 := hide (fun (W : World) (S' : Option Nat) (LR : List Row) (gR : Nat) (hW : Two base W g m S' v LR gR (L0 ++ [R]) gone room) (hz : base ≤ W.heap.size) => rpop_t base m v L0 R room gone n W hW.ref hn hn2 hz)
    clear h hn
    go_enter Try.func18, Try.ntmps18
    go_upto_region 4 with (go_at_call 17; go_must (refine P1.out.mono ?_; rintro e w1 ⟨u1, u2, rfl, ru, r1, t1⟩; obtain ⟨Ao, mo, co, bo, rfl, rfl⟩ := row_form ru))
    have T1 := h0.out.turn r1 t1 zb
    have b1 := h0.out.base_turn t1 zb
    have z1 := Nat.le_trans zb b1.size
    go_name_world W2 hW2
    have B2 : Below w1.heap.size w1 W2 := by rw [← hW2]; exact (Below.refl _ _).alloc (Nat.le_refl _) _
    have x2 : Blk W2 w1.heap.size 30 #[.slice Ao mo co, .bool bo] := by rw [← hW2]; exact Blk.new _ _ _
    have nx := T1.not (Nat.le_refl _)
    have T2 := hide (T1.below B2)
    have R2 := hide (ru.keep (Keep45.below B2))
    have z2 := Nat.le_trans z1 B2.size
    have BB2 := hide ((HW0.out.mono hb).trans (b1.trans (B2.mono z1)))
    have X2 := hide (And.intro x2 nx)
    clear hW2 ru r1 t1 T1 nx x2
    go_upto_region 5 with (go_at_call 29; go_must (refine (P2.out _ _ _ _ T2.out z2).mono ?_; rintro e w3 ⟨p1, p2, v3, rfl, rp, r3, t3⟩; obtain ⟨Ap, mp, cp, bp, rfl, rfl⟩ := row_form rp))
    have T3 := T2.out.turnM r3 t3 z2
    have b3 := T2.out.base_turnM t3 z2
    have z3 := Nat.le_trans z2 b3.size
    have x3 := Two.box (base := base) (g := g) (gR := gone) (gM := gone) (room := room) (S := S) (LR := L0) (LM := L0) X2.out.1 t3 X2.out.2.1 X2.out.2.2.2.1
    have R3 := hide (R2.out.keep t3.keep)
    go_name_world W4 hW4
    have B4 : Below w3.heap.size w3 W4 := by rw [← hW4]; exact (Below.refl _ _).alloc (Nat.le_refl _) _
    have y4 : Blk W4 w3.heap.size 30 #[.slice Ap mp cp, .bool bp] := by rw [← hW4]; exact Blk.new _ _ _
    have x4 := x3.below B4 x3.lt
    have T4 := hide (T3.below B4)
    have BB4 := hide (BB2.out.trans (b3.trans (B4.mono z3)))
    have R4 := hide (And.intro (R3.out.keep (Keep45.below B4)) (rp.keep (Keep45.below B4)))
    obtain ⟨x0, x1, _, _⟩ := blk2 x4
    obtain ⟨y0, y1, _, _⟩ := blk2 y4
    have z5 := Nat.le_trans z3 B4.size
    clear hW4 rp r3 t3 T3 x3 b1 b3
    go_wp2_with (go_at_call 12; go_must (refine (ON.out _ _ _ _ R _ R4.out.1 R4.out.2).mono ?_; rintro e w5 ⟨rfl, b5⟩))
    go_ret
    exact ⟨rfl, S, v3, L0, gone, T4.out.below b5, by omega, BB4.out.trans (b5.mono z5)⟩
set_option maxRecDepth 100000 in
set_option maxHeartbeats 4000000 in
theorem does_push (base g m : Nat) (S : Option Nat) (v : Value) (L : List Row) (gone room : Nat) (K N : Int) (w : World) (h : Two base w g m S v L gone L gone room) (hb : base ≤ w.heap.size) (hr : room ≤ 255) (hg : gone ≤ 100000000)
    (hK : K < 0 ∨ 4 < K) (hN : -9223372036854775808 ≤ N ∧ N ≤ 9223372036854775807) :
    Calls Try.prog 18 #[.pointer (some ⟨g, 0, none⟩), .pointer (some ⟨m, 0, none⟩), .agg #[.int .i64 K, .int .i64 N]] w (DoesPost base g m room gone w) := by
  have hl := h.len
  have hw0 : Below w.heap.size w (w.alloc (.cells #[.int .i64 K, .int .i64 N] 55)) := (Below.refl _ _).alloc (Nat.le_refl _) _
  have q0 := Blk.new w 55 #[.int .i64 K, .int .i64 N]
  have h0 := hide (h.below hw0)
  have HW0 := hide hw0
  have ON := hide (fun (v1 v2 u1 u2 : Value) (R : Row) (W : World) (h : RowV any W (v1, v2) R) (h' : RowV any W (u1, u2) R) => one_any any any v1 v2 u1 u2 R W h h')
  have RW := hide (fun (k : Int) (W : World) (h0 : -2147483648 ≤ k) (h1 : k ≤ 2147483647) => row_any any k W h0 h1 (fun _ _ => trivial))
  have zb := Nat.le_trans hb hw0.size
  have k0 : (K == 0) = false := by simp; omega
  have k1 : (K == 1) = false := by simp; omega
  have k2 : (K == 2) = false := by simp; omega
  have k3 : (K == 3) = false := by simp; omega
  have k4 : (K == 4) = false := by simp; omega
  obtain ⟨r, hrr⟩ : ∃ r, N.tmod 1000 = r := ⟨_, rfl⟩
  have hr1 : -1000 < r ∧ r < 1000 := by
    have h1 := Int.tmod_lt_of_pos N (show (0 : Int) < 1000 by omega)
    have h2 := Int.lt_tmod_of_pos N (show (0 : Int) < 1000 by omega)
    omega
  have hr1a := hr1.1
  have hr1b := hr1.2
  have hwr : IntKind.i64.wrap r = r := IntWalk.i64_in _ ⟨by omega, by omega⟩
  obtain ⟨n, hn⟩ : ∃ n, L.length = n := ⟨_, rfl⟩
  have nbox := h.not (Nat.le_refl _)
  have HN := hide (And.intro hn (And.intro nbox q0))
  obtain ⟨q0, q1, _, _⟩ := blk2 q0
  obtain ⟨pb, hpb⟩ : ∃ pb, pB room L = pb := ⟨_, rfl⟩
  have PR := hide (fun (v1 v2 : Value) (W : World) (hW : Two base W g m S v L gone L gone room) (rv : RowV any W (v1, v2) (some r)) => show Calls Try.prog 10 #[.pointer (some ⟨g, 0, none⟩), .agg #[v1, v2]] W fun e w' => ∃ u1 u2 S', e = .returned (.tuple #[.agg #[u1, u2], .bool pb]) ∧ RowV any w' (u1, u2) (pO room L (some r)) ∧ RingAt any w' g S' (pL room L (some r)) room (pG room L gone) ∧ Turn g S S' W w' by
    rw [← hpb]; exact push_t g S L room gone v1 v2 _ W hW.ring rv (by omega))
  have PM := hide (fun (S' : Option Nat) (LR : List Row) (gR : Nat) (v1 v2 : Value) (W : World) (hW : Two base W g m S' v LR gR L gone room) (rv : RowV any W (v1, v2) (some r)) (hz : base ≤ W.heap.size) => show Calls Try.prog 19 #[.pointer (some ⟨m, 0, none⟩), .agg #[v1, v2]] W (MRow base m v (pL room L (some r)) room (pG room L gone) (pO room L (some r)) pb W) by
    rw [← hpb]; exact rpush_t base m v L _ v1 v2 room gone n W hW.ref rv hn (by omega) (by omega) (by omega) hz)
  have gg : pG room L gone ≤ gone + 300 := by unfold pG; split <;> omega
  clear hw0 h hn nbox hr1 hK hpb
  go_enter Try.func18, Try.ntmps18
  go_upto_region 25 with (first
    | (go_at_call 11; go_must (refine (RW.out r _ (by omega) (by omega)).mono ?_; rintro e w1 ⟨v1, v2, rfl, rv, b1⟩; have T1 := hide (h0.out.below b1)))
    | (go_at_call 10; go_must (refine (PR.out v1 v2 _ T1.out rv).mono ?_; rintro e w2 ⟨u1, u2, S2, rfl, ru, r2, t2⟩; obtain ⟨Ao, mo, co, bo, rfl, rfl⟩ := row_form ru)))
  have z1 := Nat.le_trans zb b1.size
  have T2 := T1.out.turn r2 t2 z1
  have b2 := T1.out.base_turn t2 z1
  have z2 := Nat.le_trans z1 b2.size
  have x2 := t2.blk (HN.out.2.2.below b1 HN.out.2.2.lt) HN.out.2.1.2.1 HN.out.2.1.2.2.2
  go_name_world W3 hW3
  have B3 : Below w2.heap.size w2 W3 := by rw [← hW3]; exact (Below.refl _ _).alloc (Nat.le_refl _) _
  have y3 : Blk W3 w2.heap.size 30 #[.slice Ao mo co, .bool bo] := by rw [← hW3]; exact Blk.new _ _ _
  have x3 := x2.below B3 x2.lt
  have nx := T2.not (Nat.le_refl _)
  have T3 := hide (T2.below B3)
  have R3 := hide (ru.keep (Keep45.below B3))
  have z3 := Nat.le_trans z2 B3.size
  have BB3 := hide ((HW0.out.mono hb).trans ((b1.mono zb).trans (b2.trans (B3.mono z2))))
  obtain ⟨q0, q1, _, _⟩ := blk2 x3
  have Y3 := hide (And.intro y3 nx)
  clear hW3 ru r2 t2 T2 x2 b2 y3 nx x3 rv b1 T1
  go_upto_region 26 with (first
    | (go_at_call 11; go_must (refine (RW.out r _ (by omega) (by omega)).mono ?_; rintro e w4 ⟨v1, v2, rfl, rv, b4⟩; have T4 := hide (T3.out.below b4); have z4 := Nat.le_trans z3 b4.size))
    | (go_at_call 19; go_must (refine (PM.out _ _ _ v1 v2 _ T4.out rv z4).mono ?_; rintro e w5 ⟨p1, p2, v5, rfl, rp, r5, t5⟩; obtain ⟨Ap, mp, cp, bp, rfl, rfl⟩ := row_form rp)))
  have T5 := T4.out.turnM r5 t5 z4
  have b5 := T4.out.base_turnM t5 z4
  have z5 := Nat.le_trans z4 b5.size
  have y5 := Two.box (base := base) (g := g) (gR := gone) (gM := gone) (room := room) (S := S) (LR := L) (LM := L) (Y3.out.1.below b4 Y3.out.1.lt) t5 Y3.out.2.1 Y3.out.2.2.2.1
  have R5 := hide ((R3.out.keep (Keep45.below b4)).keep t5.keep)
  go_name_world W6 hW6
  have B6 : Below w5.heap.size w5 W6 := by rw [← hW6]; exact (Below.refl _ _).alloc (Nat.le_refl _) _
  have y6 : Blk W6 w5.heap.size 30 #[.slice Ap mp cp, .bool bp] := by rw [← hW6]; exact Blk.new _ _ _
  have x6 := y5.below B6 y5.lt
  have T6 := hide (T5.below B6)
  have BB6 := hide (BB3.out.trans ((b4.mono z3).trans (b5.trans (B6.mono z5))))
  have R6 := hide (And.intro (R5.out.keep (Keep45.below B6)) (rp.keep (Keep45.below B6)))
  obtain ⟨x0, x1, _, _⟩ := blk2 x6
  obtain ⟨y0, y1, _, _⟩ := blk2 y6
  have z6 := Nat.le_trans z5 B6.size
  clear hW6 rp r5 t5 T5 y5 b4 b5 y6 x6
  go_wp2_with (go_at_call 12; go_must (refine (ON.out _ _ _ _ _ _ R6.out.1 R6.out.2).mono ?_; rintro e w7 ⟨rfl, b7⟩))
  go_ret
  exact ⟨rfl, S2, v5, _, _, T6.out.below b7, gg, BB6.out.trans (b7.mono z6)⟩
end Go.Proofs.Ytailflbhcmgnpaa
