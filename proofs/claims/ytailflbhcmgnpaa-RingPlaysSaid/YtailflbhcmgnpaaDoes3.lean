/-
  does, walked: Set, At. No condition but bounds.
-/
import Derived.Test.YtailflbhcmgnpaaDoes2
namespace Go.Proofs.Ytailflbhcmgnpaa
open Go.RowKit Go.Proofs
set_option linter.unusedVariables false
theorem own_set2 {w : World} {base g n c j : Nat} {rows : List (Value × Value)} {a b : Value} (h : w.ownsRow base 30 2 (.slice (some ⟨g, 0, none⟩) n c) n (flatP rows)) (hj : j < n) :
    ((w.setCell ⟨g, j * 2, none⟩ a).setCell ⟨g, j * 2 + 1, none⟩ b).ownsRow base 30 2 (.slice (some ⟨g, 0, none⟩) n c) n (flatP (rows.set j (a, b))) := by
  have hlen : rows.length = n := by have := h.1; rw [flatP_len] at this; omega
  rcases h.2 with ⟨e, _⟩ | ⟨g', cap, cur, e1, hb, hh, hc, hm, hs, ht⟩
  · cases e
  · injection e1 with e1 e2 e3
    injection e1 with e1
    injection e1 with e1
    subst e1 e3
    have hB : Blk w g 30 cur := hh
    have h2 := (hB.set_ (j * 2) a).set_ (j * 2 + 1) b
    refine ⟨by rw [flatP_len, List.length_set, hlen], .inr ⟨g, c, _, rfl, hb, h2, hc, hm, by simpa using hs, ?_⟩⟩
    rw [← flatP_set rows j a b (by omega), ← ht]
    simp only [Array.toList_setIfInBounds]
    rw [List.take_set, List.take_set]
theorem rowsIn_set {ok : Nat → Prop} {w : World} {rows : List (Value × Value)} {L : List Row} {p : Value × Value} {R : Row} {j : Nat} (h : RowsIn ok w rows L) (hv : RowV ok w p R) : RowsIn ok w (rows.set j p) (L.set j R) := by
  refine ⟨by simp [h.1], fun i S hS => ?_⟩
  by_cases e : j = i
  · subst e
    have hlt : j < L.length := by
      have := (List.getElem?_eq_some_iff.1 hS).1
      simpa using this
    rw [List.getElem?_set_self hlt] at hS
    injection hS with hS
    subst hS
    exact ⟨p, List.getElem?_set_self (by rw [h.1]; exact hlt), hv⟩
  · rw [List.getElem?_set_ne e] at hS
    obtain ⟨q, h1, h2⟩ := h.2 i S hS
    exact ⟨q, by rw [List.getElem?_set_ne e]; exact h1, h2⟩
theorem own_at {w : World} {base n c j : Nat} {A : Option Addr} {rows : List (Value × Value)} {L : List Row} {R : Row} (h : w.ownsRow base 30 2 (.slice A n c) n (flatP rows)) (hr : RowsIn any w rows L) (hR : L[j]? = some R) (hn : L.length = n) :
    ∃ g A1 n1 c1 b1, A = some ⟨g, 0, none⟩ ∧ base ≤ g ∧ g < w.heap.size ∧ w.cell? ⟨g, j * 2, none⟩ = some (.slice A1 n1 c1) ∧ w.cell? ⟨g, j * 2 + 1, none⟩ = some (.bool b1) ∧ w.frozen? ⟨g, j * 2, none⟩ = false ∧ w.frozen? ⟨g, j * 2 + 1, none⟩ = false ∧ RowV any w (.slice A1 n1 c1, .bool b1) R := by
  have hj := (List.getElem?_eq_some_iff.1 hR).1
  obtain ⟨p, hp, hv⟩ := hr.2 j R hR
  obtain ⟨v1, v2⟩ := p
  obtain ⟨A1, n1, c1, b1, rfl, rfl⟩ := row_form hv
  rcases h.2 with ⟨_, h1⟩ | ⟨g, cap, cur, e1, hb, hh, hc, _, _, ht⟩
  · omega
  · injection e1 with e1 e2 e3
    subst e1
    have hB : Blk w g 30 cur := hh
    obtain ⟨f1, f2⟩ := flatP_at hp
    rw [← ht, List.getElem?_take, if_pos (by omega)] at f1 f2
    exact ⟨g, A1, n1, c1, b1, rfl, hb, hB.lt, by rw [hB.cell]; simpa using f1, by rw [hB.cell]; simpa using f2, hB.frozen _, hB.frozen _, hv⟩
set_option maxRecDepth 100000 in
set_option maxHeartbeats 4000000 in
theorem does_set_in (base g m : Nat) (S : Option Nat) (v : Value) (L : List Row) (gone room : Nat) (j : Nat) (w : World) (h : Two base w g m S v L gone L gone room) (hb : base ≤ w.heap.size) (hr : room ≤ 255) (hg : gone ≤ 10000000) (hj : j < L.length) :
    Calls Try.prog 18 #[.pointer (some ⟨g, 0, none⟩), .pointer (some ⟨m, 0, none⟩), .agg #[.int .i64 2, .int .i64 j]] w (DoesPost base g m room gone w) := by
  have hl := h.len
  have hw0 : Below w.heap.size w (w.alloc (.cells #[.int .i64 2, .int .i64 j] 55)) := (Below.refl _ _).alloc (Nat.le_refl _) _
  have q0 := Blk.new w 55 #[.int .i64 2, .int .i64 j]
  have h0 := hide (h.below hw0)
  have HW0 := hide hw0
  have RW := hide (fun (W : World) => row_any any 7 W (by omega) (by omega) (fun _ _ => trivial))
  have zb := Nat.le_trans hb hw0.size
  obtain ⟨n, hn⟩ : ∃ n, L.length = n := ⟨_, rfl⟩
  have nbox := h.not (Nat.le_refl _)
  have hjn : j < n := by omega
  have hn255 : n ≤ 255 := by omega
  have HN := hide (And.intro hn nbox)
  have Q0 := hide q0
  have ltt := h.lt
  obtain ⟨q0, q1, _, _⟩ := blk2 q0
  clear hw0 h hn nbox hj hl
  go_enter Try.func18, Try.ntmps18
  go_upto_region 14 with fail
  go_name_world W0 hW0
  rw [hW0] at zb
  have T0 := show Two base W0 g m S v L gone L gone room by rw [← hW0]; exact h0.out
  have Q0 := show Blk W0 w.heap.size 55 #[.int .i64 2, .int .i64 j] by rw [← hW0]; exact Q0.out
  have HW0 := hide (show Below w.heap.size w W0 by rw [← hW0]; exact HW0.out)
  clear hW0 q0 q1 h0
  obtain ⟨R, hR⟩ : ∃ R, L[j]? = some R := ⟨_, List.getElem?_eq_getElem (by rw [HN.out.1]; exact hjn)⟩
  obtain ⟨hB, rows, ho, hrr⟩ := T0.ref
  obtain ⟨A, c, rfl⟩ := own_slice ho
  rw [HN.out.1] at ho hB
  obtain ⟨g3, A1, n1, c1, b1, rfl, hg3, hg3l, x0, x1, x2, x3, rv⟩ := own_at ho hrr hR HN.out.1
  obtain ⟨c0, c1, c2, f0, f1, f2⟩ := blk3 hB
  obtain ⟨q0, q1, _, _⟩ := blk2 Q0
  have hml := hB.lt
  have hql := Q0.lt
  have EF := hide (show ∀ W, Below W0.heap.size W0 W → W.cell? ⟨m, 1, none⟩ = some (.slice (some ⟨g3, 0, none⟩) n c) ∧ W.cell? ⟨w.heap.size, 1, none⟩ = some (.int .i64 j) from fun W hW => ⟨(hW.cell (p := ⟨m, 1, none⟩) hml).trans c1, (hW.cell (p := ⟨w.heap.size, 1, none⟩) hql).trans q1⟩)
  have ne1 : m ≠ g3 := fun e => own_ne ho hB (by decide) (by rw [e]; rfl)
  have ne2 : w.heap.size ≠ g3 := fun e => own_ne ho Q0 (by decide) (by rw [e]; rfl)
  have SC : ∀ (W : World) (a b u : Value) (k i : Nat), k ≠ g3 → W.cell? ⟨k, i, none⟩ = some u → ((W.setCell ⟨g3, j * 2, none⟩ a).setCell ⟨g3, j * 2 + 1, none⟩ b).cell? ⟨k, i, none⟩ = some u := fun W a b u k i hk e => (World.cell?_setCell_other _ _ _ _ (fun e2 => by injection e2 with e3; exact hk e3.symm)).trans ((World.cell?_setCell_other _ _ _ _ (fun e2 => by injection e2 with e3; exact hk e3.symm)).trans e)
  have SC := hide SC
  have OO := hide (And.intro ho (And.intro hrr Q0))
  have TT := hide T0
  have d1 : decide ((j : Int) < n) = true := by simp; omega
  clear hB ho hrr rv Q0 T0 hR
  go_wp2_with fail
  go_quiet (fail)
  go_wp2_with fail
  have ef := EF.out _ (drewN_below W0 nq)
  go_region_held3 (fun W => W.cell? ⟨m, 1, none⟩ = some (.slice (some ⟨g3, 0, none⟩) n c) ∧ W.cell? ⟨w.heap.size, 1, none⟩ = some (.int .i64 j))
    (first | (exact ef) | (exact EF.out _ C1) | (exact ⟨SC.out _ _ _ _ _ _ ne1 ef1.1, SC.out _ _ _ _ _ _ ne2 ef1.2⟩) | go_keep)
    ((go_at_call 11; (refine (RW.out _).mono ?_); rintro e w1 ⟨u1, u2, rfl, ru, bb⟩; obtain ⟨Ao, mo, co, bo, rfl, rfl⟩ := row_form ru; have C1 := below_in (drewN_below W0 nq).drew bb (Nat.le_refl _); have y0 := (C1.cell (p := ⟨g3, j * 2, none⟩) hg3l).trans x0; have y1 := (C1.cell (p := ⟨g3, j * 2 + 1, none⟩) hg3l).trans x1; have y2 := (C1.frozen (p := ⟨g3, j * 2, none⟩) hg3l).trans x2; have y3 := (C1.frozen (p := ⟨g3, j * 2 + 1, none⟩) hg3l).trans x3; have ef1 := EF.out _ C1))
  go_wp2_with fail
  go_name_world W2 hW2
  have T1 := TT.out.below C1
  have z1 := Nat.le_trans zb C1.size
  obtain ⟨ho, hrr, Q0⟩ := OO.out
  have ho1 := own_call ho C1
  have Q1 := Q0.below C1 hql
  obtain ⟨cur3, hB1⟩ : ∃ cur, Blk w1 g3 30 cur := by
    rcases ho1.2 with ⟨e, _⟩ | ⟨g', cap, cur, e1, _, hh, _⟩
    · cases e
    · injection e1 with e1 e2 e3
      injection e1 with e1
      injection e1 with e1
      subst e1
      exact ⟨cur, hh⟩
  have K12 : Keep45 any w1 W2 := by rw [← hW2]; exact (keep45_set hB1 (by decide) _ _).trans (keep45_set (hB1.set_ _ _) (by decide) _ _)
  have ref2 : RefAt base W2 m (.slice (some ⟨g3, 0, none⟩) n c) (L.set j (some 7)) room gone := by
    refine ⟨?_, rows.set j (.slice Ao mo co, .bool bo), ?_, rowsIn_set (hrr.keep ((Keep45.below C1).trans K12)) (ru.keep K12)⟩
    · rw [← hW2]
      have := T1.ref.blk
      rw [HN.out.1] at this
      exact (this.far (p := ⟨g3, _, none⟩) ne1 _).far (p := ⟨g3, _, none⟩) ne1 _
    · rw [List.length_set, HN.out.1, ← hW2]
      exact own_set2 ho1 hjn
  have tm : TurnM m (.slice (some ⟨g3, 0, none⟩) L.length c) (.slice (some ⟨g3, 0, none⟩) n c) w1 W2 := by
    refine ⟨?_, fun s e => Or.inl e, K12⟩
    rw [← hW2]
    exact ((Frm.refl _ _).setCell (p := ⟨g3, _, none⟩) (fun _ => Or.inr rfl) _).setCell (p := ⟨g3, _, none⟩) (fun _ => Or.inr rfl) _
  have T2 := hide (T1.turnM ref2 tm z1)
  have B12 := T1.base_turnM tm z1
  have z2 := Nat.le_trans z1 B12.size
  have BB2 := hide ((HW0.out.mono hb).trans ((C1.mono zb).trans B12))
  have Q2 : Blk W2 w.heap.size 55 _ := Q1.frm tm.frm (by rintro (e | e); exact HN.out.2.1 e; (simp [Value.ownBlock] at e; exact ne2 e.symm))
  obtain ⟨q0, q1, _, _⟩ := blk2 Q2
  have ST := hide (fun (v1 v2 : Value) (W : World) (hW : Two base W g m S (.slice (some ⟨g3, 0, none⟩) n c) L gone (L.set j (some 7)) gone room) (rv : RowV any W (v1, v2) (some 7)) => set_t g S L room gone j v1 v2 _ W hW.ring rv (by rw [HN.out.1]; exact hjn))
  have EF2 := hide (show ∀ W, Below W2.heap.size W2 W → W.cell? ⟨w.heap.size, 1, none⟩ = some (.int .i64 j) from fun W hW => (hW.cell (p := ⟨w.heap.size, 1, none⟩) Q2.lt).trans q1)
  have ef2 := EF2.out W2 (Below.refl _ _)
  have ngS : S ≠ some w.heap.size := HN.out.2.2.2.2
  have ngg : w.heap.size ≠ g := HN.out.2.2.1
  have Q2h := hide Q2
  clear hW2 ho hrr Q0 ho1 Q1 hB1 K12 ref2 tm B12 Q2 T1 ef ef1 x0 x1 x2 x3 c0 c1 c2 f0 f1 f2 y0 y1 y2 y3 q0 q1
  go_wp2_with fail
  go_region_held3 (fun W => W.cell? ⟨w.heap.size, 1, none⟩ = some (.int .i64 j))
    (first | (exact ef2) | (exact EF2.out _ D1) | (exact (blk2 qq).2.1) | go_keep)
    (first
      | (go_at_call 11; (refine (RW.out _).mono ?_); rintro e w3 ⟨u1, u2, rfl, ru3, bb3⟩; have D1 := below_in (Below.refl W2.heap.size W2).drew bb3 (Nat.le_refl _))
      | (go_at_call 24; (refine (ST.out _ _ _ (T2.out.below D1) ru3).mono ?_); rintro e w4 ⟨rfl, r4, t4⟩; have T4 := (T2.out.below D1).turn r4 t4 (Nat.le_trans z2 D1.size); have B4 := (T2.out.below D1).base_turn t4 (Nat.le_trans z2 D1.size); have qq := t4.blk (Q2h.out.below D1 Q2h.out.lt) ngg ngS))
  go_wp2_with fail
  go_ret
  exact ⟨rfl, S, _, _, _, T4, by omega, BB2.out.trans ((D1.mono z2).trans B4)⟩
end Go.Proofs.Ytailflbhcmgnpaa
