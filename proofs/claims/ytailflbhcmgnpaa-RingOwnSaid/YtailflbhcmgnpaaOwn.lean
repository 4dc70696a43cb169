/-
  RingOwn, walked. No condition but what the arguments' kinds bear.
-/
import Derived.Test.YtailflbhcmgnpaaNone
namespace Go.Proofs.Ytailflbhcmgnpaa
open Go.RowKit Go.Proofs
set_option linter.unusedVariables false
theorem RingAt.mono {ok ok' : Nat → Prop} {w : World} {g room gone : Nat} {S : Option Nat} {L : List Row} (h : RingAt ok w g S L room gone) (hk : ∀ b, b < w.heap.size → ok b → ok' b) : RingAt ok' w g S L room gone := by
  obtain ⟨len, first, rows, h⟩ := h
  exact ⟨len, first, rows, h.blk, h.rlen, h.le, h.ler, h.roomle, h.nil, h.slots, fun i R hR => by
    obtain ⟨p, h1, h2⟩ := h.rows i R hR
    exact ⟨p, h1, h2.mono hk⟩⟩
/-- A store into a block of cells that no row held means. -/
theorem RingAt.far {ok : Nat → Prop} {w : World} {g room gone b : Nat} {S : Option Nat} {L : List Row} {cs : Array Value} (h : RingAt ok w g S L room gone) (hb : Blk w b 45 cs) (hn : ¬ ok b) (i : Nat) (v : Value) : RingAt ok (w.setCell ⟨b, i, none⟩ v) g S L room gone := by
  obtain ⟨len, first, rows, h⟩ := h
  refine ⟨len, first, rows, h.keep (fun cs' k => k.far (p := ⟨b, i, none⟩) (k.ne_ hb (by decide)) v) (fun s cs' _ k => k.far (p := ⟨b, i, none⟩) (k.ne_ hb (by decide)) v) ?_⟩
  intro b' cs' ho k
  exact k.far (p := ⟨b, i, none⟩) (fun e => hn (by rw [show b = b' from e.symm]; exact ho)) v
/-- A row that shows a number, taken apart. -/
theorem row_some {ok : Nat → Prop} {w : World} {v1 v2 : Value} {k : Int} (h : RowV ok w (v1, v2) (some k)) : ∃ b c cs, v1 = .slice (some ⟨b, 0, none⟩) 1 c ∧ v2 = .bool (contK k) ∧ ok b ∧ Blk w b 45 cs ∧ 1 ≤ c ∧ cs[0]? = some (.int .i32 k) := by
  obtain ⟨b, c, cs, h1, h2, h3, h4, h5⟩ := h
  injection h1 with e1 e2
  refine ⟨b, c, cs, e1, e2, h2, h3, h5, ?_⟩
  have h : (cs.toList.take 8)[0]? = some (Value.int .i32 k) := by rw [h4]; rfl
  rw [List.getElem?_take, if_pos (by omega)] at h
  simpa using h
theorem blk_c0 {w : World} {b : Nat} {t : TypeId} {cs : Array Value} {v : Value} (h : Blk w b t cs) (hc : cs[0]? = some v) : w.cell? ⟨b, 0, none⟩ = some v ∧ w.frozen? ⟨b, 0, none⟩ = false :=
  ⟨by rw [h.cell]; exact hc, h.frozen 0⟩
theorem rows_one {ok : Nat → Prop} {w w' : World} {R : Row} {e : Ending} (h : RowsPost ok [R] w e w') : ∃ ga c p cur, e = .returned (.slice (some ⟨ga, 0, none⟩) 1 c) ∧ w.heap.size ≤ ga ∧ Blk w' ga 30 cur ∧ w'.cell? ⟨ga, 0, none⟩ = some p.1 ∧ w'.cell? ⟨ga, 1, none⟩ = some p.2 ∧ RowV ok w' p R ∧ Below w.heap.size w w' := by
  obtain ⟨A, c, rows, he, ho, hr, hb⟩ := h
  obtain ⟨p, hp, hv⟩ := hr.2 0 R rfl
  rcases ho.2 with ⟨_, h0⟩ | ⟨g, cap, cur, e1, h1, hh, hc, _, _, ht⟩
  · simp at h0
  · injection e1 with e2 e3 e4
    subst e2
    have hB : Blk w' g 30 cur := hh
    obtain ⟨f1, f2⟩ := flatP_at hp
    rw [← ht, List.getElem?_take] at f1 f2
    refine ⟨g, c, p, cur, he, h1, hB, ?_, ?_, hv, hb⟩
    · rw [hB.cell]; simpa using f1
    · rw [hB.cell]; simpa using f2
set_option maxHeartbeats 4000000 in
theorem lawown_walk (w : World) (a n : Nat) (ha : a ≤ 255) (hn : n ≤ 255) : Calls Try.prog 4 #[.int .u8 a, .int .u8 n] w fun e w' => e = .returned (.bool true) ∧ Below w.heap.size w w' := by
  obtain ⟨room, hroom⟩ : ∃ room, 1 + a = room := ⟨_, rfl⟩
  have hr2 : (1 : Int) + a = room := by omega
  have hr3 : (a : Int) + 1 = room := by omega
  have N := hide (new_any room w (by omega))
  have hN := hide (fun ok => held_new ok room w (by omega))
  have AW := hide awake_any
  have RW := hide (fun (W : World) => row_any (fun b => W.heap.size ≤ b) n W (by omega) (by omega) (fun _ h => h))
  have ON := hide (fun (ok1 ok2 : Nat → Prop) (v1 v2 u1 u2 : Value) (R : Row) (W : World) (h : RowV ok1 W (v1, v2) R) (h' : RowV ok2 W (u1, u2) R) => one_any ok1 ok2 v1 v2 u1 u2 R W h h')
  have B0 := (Below.refl w.heap.size w).alloc (Nat.le_refl _) (.cells (ringC none 0 room 0 0 0) 62)
  clear hroom
  go_enter Try.func4, Try.ntmps4
  go_upto_region 5 with (first
    | (go_at_call 9; go_must (refine N.out.mono ?_; rintro e w0 ⟨rfl, rfl⟩))
    | (go_at_call 8; go_must (refine (AW.out _).mono ?_; rintro e w1 ⟨rfl, b1⟩))
    | (go_at_call 11; go_must (refine (RW.out _).mono ?_; rintro e w2 ⟨v1, v2, rfl, r2, b2⟩; obtain ⟨bX, cX, csX, rfl, rfl, oX, kX, hX, eX⟩ := row_some r2)))
  obtain ⟨cb, hcb⟩ : ∃ cb, contK (n : Int) = cb := ⟨_, rfl⟩
  rw [hcb] at r2 ⊢
  have HCB := hide hcb
  clear hcb
  have hrm : 1 ≤ room := by omega
  have B2 := below_in (below_in B0 b1 (Nat.le_refl _)) b2 (Nat.le_refl _)
  have hg2 : w.heap.size < w2.heap.size := by have := b1.size; have := b2.size; simp at *; omega
  go_name_world W3 hW3
  have n3 : Below w2.heap.size w2 W3 := by rw [← hW3]; exact (Below.refl _ _).alloc (Nat.le_refl _) _
  have q3 : Blk W3 w2.heap.size 30 #[.slice (some ⟨bX, 0, none⟩) 1 cX, .bool cb] := by rw [← hW3]; exact Blk.new _ _ _
  have B3 := hide (below_in B2 n3 (Nat.le_refl _))
  have r3 := r2.keep (Keep45.below n3)
  have k3 := kX.below n3 kX.lt
  have zX := k3.lt
  have ring3 : RingAt (fun b => W3.heap.size ≤ b) W3 w.heap.size none [] room 0 := ((hN.out _).at_.below b1 |>.below b2 |>.below n3)
  have hgX : bX ≠ w.heap.size := by
    obtain ⟨len, first, rows, h⟩ := ring3
    exact k3.ne_ h.blk (by decide)
  have hbX : w.heap.size ≤ bX := by have := b1.size; have : w1.heap.size ≤ bX := oX; simp at *; omega
  have PU := push_any (fun b => W3.heap.size ≤ b) _ w.heap.size none [] room 0 _ _ _ W3 ring3 r3 (fun _ h => h) (by omega)
  have e1 : pL room [] (some (n : Int)) = [some (n : Int)] := by unfold pL; rw [if_pos (show ([] : List Row).length < room from hrm)]; rfl
  have e2 : pG room [] 0 = 0 := by unfold pG; rw [if_pos (show ([] : List Row).length < room from hrm)]
  rw [e1, e2] at PU
  have PU := hide PU
  obtain ⟨y0, y1, _, _⟩ := blk2 q3
  have Q3 := hide (And.intro q3 k3)
  clear hW3 b1 b2 n3 r2 r3 ring3 e1 e2 hrm B2 kX q3 k3 B0
  go_upto_region 6 with (go_at_call 10; go_must (refine PU.out.mono ?_; rintro e w4 ⟨o1, o2, S4, rfl, _, ring4, hS4, f4, k4⟩))
  have q4 := Q3.out.1.frm f4 (by rintro (e | e); omega; cases e)
  have kk4 := Q3.out.2.frm f4 (by rintro (e | e); exact hgX e; cases e)
  obtain ⟨p0, p1, _, _⟩ := blk2 q4
  obtain ⟨p2, p3⟩ := blk_c0 kk4 eX
  go_upto_region 7 with fail
  go_name_world W5 hW5
  have B4 : Below w.heap.size w w4 := B3.out.trans (f4.to_below B3.out.size (by rintro i (e | e); omega; cases e))
  have B5 := hide (show Below w.heap.size w W5 by rw [← hW5]; exact B4.setCell (p := ⟨bX, 0, none⟩) hbX _)
  have ring5 : RingAt (fun b => b < W5.heap.size) W5 w.heap.size S4 [some (n : Int)] room 0 := by
    rw [← hW5]
    exact (ring4.far kk4 (by omega) 0 _).mono fun b h1 _ => h1
  have AT := hide (show Calls Try.prog 15 #[.pointer (some ⟨w.heap.size, 0, none⟩), .int .i64 (0 : Nat)] W5 (RowOkPost (fun b => W5.heap.size ≤ b) (some (n : Int)) true W5) from by
    obtain ⟨len, first, rows, h⟩ := ring5
    exact at_in _ _ _ _ _ _ _ _ _ 0 rows _ W5 h rfl (fun _ h => h))
  have ring5 := hide ring5
  have HS4 := hide (show ∀ s, S4 = some s → w.heap.size ≤ s from fun s e => by
    rcases hS4 with h | ⟨s', h1, h2⟩
    · rw [h] at e; cases e
    · rw [h2] at e; injection e with e; have := B3.out.size; omega)
  clear hW5 B4 B3 f4 k4 q4 kk4 p0 p1 p2 p3 y0 y1 ring4 hS4 PU Q3 zX hgX hbX eX oX
  go_upto_region 8 with (go_at_call 15; go_must (refine AT.out.mono ?_; rintro e w6 ⟨v1, v2, rfl, r6, b6⟩; obtain ⟨bA, cA, csA, rfl, rfl, oA, kA, hA, eA⟩ := row_some r6))
  rw [HCB.out] at r6 ⊢
  have B6 := below_in B5.out b6 (Nat.le_refl _)
  have ring6 := ring5.out.below b6
  go_name_world W7 hW7
  have n7 : Below w6.heap.size w6 W7 := by rw [← hW7]; exact (Below.refl _ _).alloc (Nat.le_refl _) _
  have q7 : Blk W7 w6.heap.size 30 #[.slice (some ⟨bA, 0, none⟩) 1 cA, .bool cb] := by rw [← hW7]; exact Blk.new _ _ _
  have B7 := hide (below_in B6 n7 (Nat.le_refl _))
  have r7 := hide (r6.keep (Keep45.below n7))
  have ring7 := hide (ring6.below n7)
  have kA7 := kA.below n7 kA.lt
  have K7 := hide (And.intro q7 kA7)
  obtain ⟨x0, x1, _, _⟩ := blk2 q7
  have z7 := q7.lt
  clear hW7 B6 b6 n7 r6 ring6 kA q7 kA7 AT ring5
  have hn7 : IntKind.i64.wrap (n : Int) = n := IntWalk.i64_in _ ⟨by omega, by omega⟩
  have RW := hide (RW.out : ∀ W : World, Calls Try.prog 11 #[.int .i64 n] W (RowPost (fun b => W.heap.size ≤ b) (some (n : Int)) W))
  go_region_held3 (fun W => W.cell? ⟨w6.heap.size, 0, none⟩ = some (.slice (some ⟨bA, 0, none⟩) 1 cA) ∧ W.cell? ⟨w6.heap.size, 1, none⟩ = some (.bool cb))
    (first | (exact ⟨x0, x1⟩) | (exact ⟨(D2.cell (p := ⟨w6.heap.size, 0, none⟩) z7).trans x0, (D2.cell (p := ⟨w6.heap.size, 1, none⟩) z7).trans x1⟩) | (exact ⟨(D1.cell (p := ⟨w6.heap.size, 0, none⟩) z7).trans x0, (D1.cell (p := ⟨w6.heap.size, 1, none⟩) z7).trans x1⟩) | go_keep)
    (first
      | (go_at_call 11; (refine (RW.out _).mono ?_); rintro e u1 ⟨c1, c2, rfl, rv1, bb⟩; have D1 := below_in (Below.refl W7.heap.size W7).drew bb (Nat.le_refl _))
      | (go_at_call 12; (refine (ON.out _ _ _ _ _ _ (some (n : Int)) _ (r7.out.keep (Keep45.below D1)) rv1).mono ?_); rintro e u2 ⟨rfl, bb2⟩; have D2 := below_in D1 bb2 (Nat.le_refl _)))
  have q8 := K7.out.1.below D2 z7
  have k8 := K7.out.2.below D2 K7.out.2.lt
  obtain ⟨p0, p1, _, _⟩ := blk2 q8
  obtain ⟨p2, p3⟩ := blk_c0 k8 eA
  go_upto_region 11 with fail
  go_name_world W9 hW9
  have oA' : W5.heap.size ≤ bA := oA
  have z5 := B5.out.size
  have B9 := hide (show Below w.heap.size w W9 by rw [← hW9]; exact (below_in B7.out D2 (Nat.le_refl _)).setCell (p := ⟨bA, 0, none⟩) (Nat.le_trans z5 oA') _)
  have ring9 : RingAt (fun b => b < W5.heap.size) W9 w.heap.size S4 [some (n : Int)] room 0 := by
    rw [← hW9]
    exact (ring7.out.below D2).far k8 (by omega) 0 _
  have w59 : W5.heap.size ≤ W9.heap.size := by
    rw [← hW9]
    have h1 := D2.size
    have h2 := k8.lt
    simp
    have h3 := K7.out.2.lt
    omega
  have AL := hide (show Calls Try.prog 16 #[.pointer (some ⟨w.heap.size, 0, none⟩)] W9 (RowsPost (fun b => W9.heap.size ≤ b) [some (n : Int)] W9) from by
    obtain ⟨len, first, rows, h⟩ := ring9
    exact all_any _ _ _ _ _ _ _ _ _ rows W9 h (fun _ h => h))
  have ring9 := hide ring9
  clear hW9 D1 D2 bb bb2 rv1 q8 k8 p0 p1 p2 p3 K7 r7 ring7 x0 x1 z7 oA' z5
  go_upto_region 12 with (go_at_call 16; go_must (refine AL.out.mono ?_; rintro e wB hr; obtain ⟨gB, cB, pB', curB, rfl, oB, kB, cB0, cB1, rB, bB⟩ := rows_one hr))
  obtain ⟨pv1, pv2⟩ := pB'
  obtain ⟨bC, cC, csC, rfl, rfl, oC, kC, hC, eC⟩ := row_some rB
  rw [HCB.out] at rB cB1
  have cB0 : wB.cell? ⟨gB, 0, none⟩ = some (.slice (some ⟨bC, 0, none⟩) 1 cC) := cB0
  have cB1 : wB.cell? ⟨gB, 1, none⟩ = some (.bool cb) := cB1
  have BB := hide (below_in B9.out bB (Nat.le_refl _))
  have ringB := hide (ring9.out.below bB)
  have rB := hide rB
  have zB := kB.lt
  have KB := hide (And.intro (And.intro kB kC) oC)
  clear bB kB kC oC oB AL ring9
  go_region_held3 (fun W => W.cell? ⟨gB, 0, none⟩ = some (.slice (some ⟨bC, 0, none⟩) 1 cC) ∧ W.cell? ⟨gB, 1, none⟩ = some (.bool cb))
    (first | (exact ⟨cB0, cB1⟩) | (exact ⟨(D2.cell (p := ⟨gB, 0, none⟩) zB).trans cB0, (D2.cell (p := ⟨gB, 1, none⟩) zB).trans cB1⟩) | (exact ⟨(D1.cell (p := ⟨gB, 0, none⟩) zB).trans cB0, (D1.cell (p := ⟨gB, 1, none⟩) zB).trans cB1⟩) | go_keep)
    (first
      | (go_at_call 11; (refine (RW.out _).mono ?_); rintro e u1 ⟨c1, c2, rfl, rv1, bb⟩; have D1 := below_in (Below.refl wB.heap.size wB).drew bb (Nat.le_refl _))
      | (go_at_call 12; (refine (ON.out _ _ _ _ _ _ (some (n : Int)) _ (rB.out.keep (Keep45.below D1)) rv1).mono ?_); rintro e u2 ⟨rfl, bb2⟩; have D2 := below_in D1 bb2 (Nat.le_refl _)))
  have q8 := KB.out.1.1.below D2 zB
  have k8 := KB.out.1.2.below D2 KB.out.1.2.lt
  have p0 := (D2.cell (p := ⟨gB, 0, none⟩) zB).trans cB0
  obtain ⟨p2, p3⟩ := blk_c0 k8 eC
  go_upto_region 15 with fail
  go_name_world WC hWC
  have oC' : W9.heap.size ≤ bC := KB.out.2
  have z9 := B9.out.size
  have BC := hide (show Below w.heap.size w WC by rw [← hWC]; exact (below_in BB.out D2 (Nat.le_refl _)).setCell (p := ⟨bC, 0, none⟩) (Nat.le_trans z9 oC') _)
  have ringC' : RingAt (fun b => b < W5.heap.size) WC w.heap.size S4 ([] ++ [some (n : Int)]) room 0 := by
    rw [← hWC]
    exact (ringB.out.below D2).far k8 (by omega) 0 _
  have PO := hide (show Calls Try.prog 17 #[.pointer (some ⟨w.heap.size, 0, none⟩)] WC (RingRow (fun b => b < W5.heap.size) (fun b => b < W5.heap.size) w.heap.size S4 [] room 0 (some (n : Int)) WC) from by
    obtain ⟨len, first, rows, h⟩ := ringC'
    exact pop_in _ _ _ _ _ _ _ _ _ rows WC h)
  clear hWC D1 D2 bb bb2 rv1 q8 k8 p0 p2 p3 KB rB cB0 cB1 zB oC' z9
  go_upto_region 16 with (go_at_call 17; go_must (refine PO.out.mono ?_; rintro e wD ⟨v1, v2, rfl, rD, ringD, fD, kD⟩; obtain ⟨bD, cD, csD, rfl, rfl, oD, kkD, hD, eD⟩ := row_some rD))
  rw [HCB.out] at rD ⊢
  have BD : Below w.heap.size w wD := BC.out.trans (fD.to_below BC.out.size (by rintro i (e | e); omega; exact HS4.out _ e))
  go_name_world WE hWE
  have nE : Below wD.heap.size wD WE := by rw [← hWE]; exact (Below.refl _ _).alloc (Nat.le_refl _) _
  have qE : Blk WE wD.heap.size 30 #[.slice (some ⟨bD, 0, none⟩) 1 cD, .bool cb] := by rw [← hWE]; exact Blk.new _ _ _
  have BE := hide (below_in BD nE (Nat.le_refl _))
  have rE := hide (rD.keep (Keep45.below nE))
  obtain ⟨x0, x1, _, _⟩ := blk2 qE
  have zE := qE.lt
  clear hWE BD nE rD qE fD kD ringD oD kkD PO BC HS4
  go_region_held3 (fun W => W.cell? ⟨wD.heap.size, 0, none⟩ = some (.slice (some ⟨bD, 0, none⟩) 1 cD) ∧ W.cell? ⟨wD.heap.size, 1, none⟩ = some (.bool cb))
    (first | (exact ⟨x0, x1⟩) | (exact ⟨(D2.cell (p := ⟨wD.heap.size, 0, none⟩) zE).trans x0, (D2.cell (p := ⟨wD.heap.size, 1, none⟩) zE).trans x1⟩) | (exact ⟨(D1.cell (p := ⟨wD.heap.size, 0, none⟩) zE).trans x0, (D1.cell (p := ⟨wD.heap.size, 1, none⟩) zE).trans x1⟩) | go_keep)
    (first
      | (go_at_call 11; (refine (RW.out _).mono ?_); rintro e u1 ⟨c1, c2, rfl, rv1, bb⟩; have D1 := below_in (Below.refl WE.heap.size WE).drew bb (Nat.le_refl _))
      | (go_at_call 12; (refine (ON.out _ _ _ _ _ _ (some (n : Int)) _ (rE.out.keep (Keep45.below D1)) rv1).mono ?_); rintro e u2 ⟨rfl, bb2⟩; have D2 := below_in D1 bb2 (Nat.le_refl _)))
  go_wp2_with fail
  go_ret
  exact ⟨rfl, below_in BE.out D2 (Nat.le_refl _)⟩
theorem ringOwn_walk (w : World) (a : Int) (wa : (Lit.int .u8 a).wf = true) (b : Int) (wb : (Lit.int .u8 b).wf = true) :
    Calls Try.prog 4 #[.int .u8 a, .int .u8 b] w fun e w' => e = .returned (.bool true) ∧ Below w.heap.size w w' := by
  have ba := bounds_u8 wa
  have bb := bounds_u8 wb
  obtain ⟨a', rfl⟩ : ∃ a' : Nat, a = a' := ⟨a.toNat, by omega⟩
  obtain ⟨b', rfl⟩ : ∃ b' : Nat, b = b' := ⟨b.toNat, by omega⟩
  exact lawown_walk w a' b' (by omega) (by omega)
end Go.Proofs.Ytailflbhcmgnpaa
