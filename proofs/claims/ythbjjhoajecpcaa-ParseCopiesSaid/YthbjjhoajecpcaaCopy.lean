/-
  The parser's Copy walked. No condition but bounds.
-/
import Derived.Test.YthbjjhoajecpcaaAllP
namespace Go.Proofs.Ythbjjhoajecpcaa
open Go.RowKit Go.Proofs
set_option linter.unusedVariables false
theorem one_b8 (l : List Int) : ∀ u ∈ l.map b8, u.oneCell' = true := by
  intro u hu
  obtain ⟨x, _, rfl⟩ := List.mem_map.1 hu
  rfl
/-- Behind one row's copy, ahead of its store. -/
theorem copy_stage {w W1 W2 : World} {A' : Option Addr} {m c' g i : Nat} {xs : List Value} {cs : Array Value} (hb : Below w.heap.size w W1) (hg : w.heap.size ≤ g) (ho : W1.ownsRow w.heap.size 5 1 (.slice none 0 0) 0 [])
    (app : App W1 w.heap.size 5 1 (.slice none 0 0) (.slice A' m c') m xs W2) (hG : Blk W1 g 56 cs) :
    Below w.heap.size w W2 ∧ W2.ownsRow w.heap.size 5 1 (.slice A' m c') m xs ∧ W2.cell? ⟨g, i, none⟩ = cs[i]? ∧ W2.frozen? ⟨g, i, none⟩ = false ∧ Blk W2 g 56 cs := by
  have k := app.blk hG ho (by decide)
  exact ⟨app.below ho hb (Nat.le_refl _) hb.size, app.own, k.cell i, k.frozen i, k⟩
theorem app_rb2 {W W3 : World} {A' : Option Addr} {m c' base k : Nat} {xs : List Value} (app : App W base 5 1 (.slice none 0 0) (.slice A' m c') m xs W3) (hk : RB A' k) : W.heap.size ≤ k := by
  have h1 := own_rb (n := m) (c := c') hk
  rcases app.at_ with h | ⟨g, h, hg⟩
  · rw [h] at h1; cases h1
  · rw [h] at h1
    injection h1 with h1
    subst h1
    exact hg
/-- Behind its store. -/
theorem copy_stored {w W1 W2 : World} {A' : Option Addr} {m c' g i : Nat} {xs : List Value} {cs : Array Value} {u : Value} (hb : Below w.heap.size w W1) (hg : w.heap.size ≤ g) (ho : W1.ownsRow w.heap.size 5 1 (.slice none 0 0) 0 [])
    (app : App W1 w.heap.size 5 1 (.slice none 0 0) (.slice A' m c') m xs W2) (hG : Blk W1 g 56 cs) :
    Below w.heap.size w (W2.setCell ⟨g, i, none⟩ u) ∧ (W2.setCell ⟨g, i, none⟩ u).ownsRow w.heap.size 5 1 (.slice A' m c') m xs ∧ Blk (W2.setCell ⟨g, i, none⟩ u) g 56 (cs.setIfInBounds i u) ∧
    (∀ (A2 : Option Addr) (m2 c2 : Nat) (ys : List Value), W1.ownsRow w.heap.size 5 1 (.slice A2 m2 c2) m2 ys → (W2.setCell ⟨g, i, none⟩ u).ownsRow w.heap.size 5 1 (.slice A2 m2 c2) m2 ys ∧ ∀ k, RB A2 k → RB A' k → False) ∧ (∀ k, RB A' k → w.heap.size ≤ k) := by
  have k := app.blk hG ho (by decide)
  refine ⟨(app.below ho hb (Nat.le_refl _) hb.size).setCell (p := ⟨g, i, none⟩) hg _, own_far (p := ⟨g, i, none⟩) app.own (own_ne app.own k (by decide)) u, k.set_ i u, fun A2 m2 c2 ys h2 => ⟨?_, fun j h1 h3 => ?_⟩, fun j h3 => ?_⟩
  · have := h2.kept app.grown (Classical.em _)
    exact own_far (p := ⟨g, i, none⟩) this (own_ne this k (by decide)) u
  · have e1 := (h2.lt j (own_rb h1)).2
    have e2 := app_rb2 app h3
    omega
  · exact Nat.le_trans hb.size (app_rb2 app h3)
theorem own_base {w : World} {base e s n : Nat} {v : Value} {xs : List Value} (h : w.ownsRow base e s v n xs) : w.ownsRow 0 e s v n xs := by
  refine ⟨h.1, ?_⟩
  rcases h.2 with h | ⟨g, cap, cur, e, hg, rest⟩
  · exact .inl h
  · exact .inr ⟨g, cap, cur, e, by omega, rest⟩
set_option maxRecDepth 100000 in
set_option maxHeartbeats 4000000 in
theorem copy_any (P : Nat) (s : Ps) (r : Rows3) (w : World) (h : PIn w P s r) (ho : POk s) :
    Calls Try.prog 18 #[.pointer (some ⟨P, 0, none⟩)] w fun e w' => ∃ Q r', e = .returned (.pointer (some ⟨Q, 0, none⟩)) ∧ PIn w' Q s r' ∧ (∀ k, PS Q r' k → w.heap.size ≤ k) ∧ Below w.heap.size w w' := by
  obtain ⟨n, need, have_, lo, hi, hB, hR⟩ := h.dec
  have HB := hide hB
  have c0 := hB.cell 0
  have c1 := hB.cell 1
  have c2 := hB.cell 2
  have c3 := hB.cell 3
  have c4 := hB.cell 4
  have c5 := hB.cell 5
  have c6 := hB.cell 6
  have c7 := hB.cell 7
  have c8 := hB.cell 8
  have c9 := hB.cell 9
  have c10 := hB.cell 10
  have c11 := hB.cell 11
  have c12 := hB.cell 12
  have c13 := hB.cell 13
  have hlt := hB.lt
  unfold decC pcOf at c0 c1 c2 c3 c4 c5 c6 c7 c8 c9 c10 c11 c12 c13
  simp only [List.getElem?_toArray, List.getElem?_cons_succ, List.getElem?_cons_zero] at c0 c1 c2 c3 c4 c5 c6 c7 c8 c9 c10 c11 c12 c13
  have HH := hide h
  have HR := hide hR
  have HO := hide ho
  clear h hB hR ho
  go_enter Try.func18, Try.ntmps18
  go_upto_region 4 with (fail)
  go_name_world W1 hW1
  have B1 := hide (show Below w.heap.size w W1 by rw [← hW1]; exact (Below.refl _ w).alloc (Nat.le_refl _) _)
  have G1 := hide (show Blk W1 w.heap.size 56 (decC (pcOf s r) n need have_ lo hi) by rw [← hW1]; exact Blk.new _ _ _)
  have P1 := hide (HH.out.call B1.out)
  obtain ⟨d0, d1, d2, d3, d4, d5, d6, d7, d8, dz, dl⟩ := P1.out.cells
  have z1 := B1.out.size
  have gl := G1.out.lt
  clear hW1 c0 c1 c2 c3 c4 c5 c6 c7 c8 c9 c10 c11 c12 c13
  have n1 := HO.out.head
  have n2 := HO.out.inter
  have n3 := HO.out.text
  have n4 := HO.out.most
  obtain ⟨m1, hm1⟩ : ∃ m1, s.head.length = m1 := ⟨_, rfl⟩
  obtain ⟨m2, hm2⟩ : ∃ m2, s.inter.length = m2 := ⟨_, rfl⟩
  obtain ⟨m3, hm3⟩ : ∃ m3, s.text.length = m3 := ⟨_, rfl⟩
  rw [hm1] at d1 n1
  rw [hm2] at d2 n2
  rw [hm3] at d3 n3
  have HM1 := hide hm1
  have HM2 := hide hm2
  have HM3 := hide hm3
  clear hm1 hm2 hm3
  have r1 : Rd W1 W1.heap.size 1 r.A1 m1 (s.head.map b8) := by have := Rd.of_own P1.out.head; rw [HM1.out] at this; exact this
  go_upto_region 5 with (at_builtin; go_must (refine wpList_appends Try.sl22 rfl _ _ rfl w.heap.size (.slice none 0 0) 0 [] W1 W1.heap.size r.A1 m1 r.c1 (s.head.map b8) rfl rfl (World.ownsRow_nil _ _ _ _) r1 (one_b8 _) (by simp only [maxLen]; omega) (by omega) z1 ?_; intro A1' c1' w2 app; rw [Nat.zero_add, List.nil_append] at app; have S2 := hide (copy_stage (i := 1) B1.out (Nat.le_refl _) (World.ownsRow_nil _ _ _ _) app G1.out); have T2 := hide (copy_stored (i := 1) (u := .slice A1' m1 c1') B1.out (Nat.le_refl _) (World.ownsRow_nil _ _ _ _) app G1.out); have e2 := S2.out.2.2.1; have f2 := S2.out.2.2.2.1; have gl2 := S2.out.2.2.2.2.lt; unfold decC pcOf at e2; simp only [List.getElem?_toArray, List.getElem?_cons_succ, List.getElem?_cons_zero] at e2))
  clear d0 d1 d2 d3 d4 d5 d6 d7 d8 dz e2 f2 r1
  go_name_world W2 hW2
  have T2 : Hid _ := T2.out
  rw [hW2] at T2
  have B2 := hide T2.out.1
  have G2 := hide T2.out.2.2.1
  have O1 := hide T2.out.2.1
  have P2 := hide (HH.out.call B2.out)
  obtain ⟨d0, d1, d2, d3, d4, d5, d6, d7, d8, dz, dl2⟩ := P2.out.cells
  rw [HM2.out] at d2
  have z2 := B2.out.size
  have r2 : Rd W2 W2.heap.size 1 r.A2 m2 (s.inter.map b8) := by have := Rd.of_own P2.out.inter; rw [HM2.out] at this; exact this
  go_upto_region 6 with (at_builtin; go_must (refine wpList_appends Try.sl22 rfl _ _ rfl w.heap.size (.slice none 0 0) 0 [] W2 W2.heap.size r.A2 m2 r.c2 (s.inter.map b8) rfl rfl (World.ownsRow_nil _ _ _ _) r2 (one_b8 _) (by simp only [maxLen]; omega) (by omega) z2 ?_; intro A2' c2' w3 app; rw [Nat.zero_add, List.nil_append] at app; have S3 := hide (copy_stage (i := 2) B2.out (Nat.le_refl _) (World.ownsRow_nil _ _ _ _) app G2.out); have T3 := hide (copy_stored (i := 2) (u := .slice A2' m2 c2') B2.out (Nat.le_refl _) (World.ownsRow_nil _ _ _ _) app G2.out); have e2 := S3.out.2.2.1; have f2 := S3.out.2.2.2.1; have gl3 := S3.out.2.2.2.2.lt; unfold decC pcOf at e2; simp only [List.setIfInBounds_toArray, List.set_cons_zero, List.set_cons_succ, List.getElem?_toArray, List.getElem?_cons_succ, List.getElem?_cons_zero] at e2))
  clear d0 d1 d2 d3 d4 d5 d6 d7 d8 dz e2 f2 r2
  go_name_world W3 hW3
  have T3 : Hid _ := T3.out
  rw [hW3] at T3
  have B3 := hide T3.out.1
  have G3 := hide T3.out.2.2.1
  have O2 := hide T3.out.2.1
  have O12 := hide (T3.out.2.2.2.1 _ _ _ _ O1.out)
  have P3 := hide (HH.out.call B3.out)
  obtain ⟨d0, d1, d2, d3, d4, d5, d6, d7, d8, dz, dl3⟩ := P3.out.cells
  rw [HM3.out] at d3
  have z3 := B3.out.size
  have r3 : Rd W3 W3.heap.size 1 r.A3 m3 (s.text.map b8) := by have := Rd.of_own P3.out.text; rw [HM3.out] at this; exact this
  go_upto_region 7 with (at_builtin; go_must (refine wpList_appends Try.sl22 rfl _ _ rfl w.heap.size (.slice none 0 0) 0 [] W3 W3.heap.size r.A3 m3 r.c3 (s.text.map b8) rfl rfl (World.ownsRow_nil _ _ _ _) r3 (one_b8 _) (by simp only [maxLen]; omega) (by omega) z3 ?_; intro A3' c3' w4 app; rw [Nat.zero_add, List.nil_append] at app; have S4 := hide (copy_stage (i := 3) B3.out (Nat.le_refl _) (World.ownsRow_nil _ _ _ _) app G3.out); have T4 := hide (copy_stored (i := 3) (u := .slice A3' m3 c3') B3.out (Nat.le_refl _) (World.ownsRow_nil _ _ _ _) app G3.out); have e2 := S4.out.2.2.1; have f2 := S4.out.2.2.2.1; have gl4 := S4.out.2.2.2.2.lt; unfold decC pcOf at e2; simp only [List.setIfInBounds_toArray, List.set_cons_zero, List.set_cons_succ, List.getElem?_toArray, List.getElem?_cons_succ, List.getElem?_cons_zero] at e2))
  clear d0 d1 d2 d3 d4 d5 d6 d7 d8 dz e2 f2 r3
  go_name_world W4 hW4
  have T4 : Hid _ := T4.out
  rw [hW4] at T4
  have G4 := T4.out.2.2.1
  have O3 := T4.out.2.1
  have O13 := T4.out.2.2.2.1 _ _ _ _ O12.out.1
  have O23 := T4.out.2.2.2.1 _ _ _ _ O2.out
  have B4 := hide T4.out.1
  have b3 := T4.out.2.2.2.2
  have b2 := T3.out.2.2.2.2
  have b1 := T2.out.2.2.2.2
  have HX := hide (show PIn W4 w.heap.size s ⟨A1', c1', A2', c2', A3', c3'⟩ ∧ ∀ k, PS w.heap.size ⟨A1', c1', A2', c2', A3', c3'⟩ k → w.heap.size ≤ k by
    refine ⟨⟨⟨n, need, have_, lo, hi, ?_, HR.out⟩, ?_, ?_, ?_, O12.out.2, O13.2, O23.2⟩, ?_⟩
    · unfold decC pcOf at G4
      simp only [List.setIfInBounds_toArray, List.set_cons_zero, List.set_cons_succ] at G4
      unfold decC pcOf
      rw [HM1.out, HM2.out, HM3.out]
      exact G4
    · rw [HM1.out]; exact own_base O13.1
    · rw [HM2.out]; exact own_base O23.1
    · rw [HM3.out]; exact own_base O3
    · rintro k (e | e | e | e)
      · omega
      · exact b1 k e
      · exact b2 k e
      · exact b3 k e)
  clear G4 O3 O13 O23 b1 b2 b3
  go_wp2
  go_ret
  exact ⟨_, _, rfl, HX.out.1, HX.out.2, B4.out⟩
theorem copy_none (w : World) : Calls Try.prog 18 #[.pointer none] w fun e w' => e = .returned (.pointer none) ∧ w' = w := by
  go_enter Try.func18, Try.ntmps18
  go_wp2
  go_ret
  exact ⟨rfl, rfl⟩
end Go.Proofs.Ythbjjhoajecpcaa
