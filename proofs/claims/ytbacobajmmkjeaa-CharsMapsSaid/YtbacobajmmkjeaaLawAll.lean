/-
  CharsAll, walked. No condition but what the arguments' kinds bear.
-/
import Derived.Test.YtbacobajmmkjeaaAll
import Derived.Test.YtbacobajmmkjeaaAwake
import Derived.Test.YtbacobajmmkjeaaRefMap
import Derived.Deep.RegionWith
namespace Go.Proofs.Ytbacobajmmkjeaa
open Go.RowKit Go.Proofs
set_option linter.unusedVariables false

set_option maxHeartbeats 2000000 in
theorem lawall_long (w : World) (a b c d u o : Int) (A : Option Addr) (n m : Nat) (hn : ¬ n ≤ 200) :
    Calls Try.prog 4 #[.agg #[.int .i64 a, .int .i64 b, .int .i64 c, .int .i64 d, .int .i64 u, .int .i64 o], .slice A n m] w fun e w' => e = .returned (.bool true) ∧ Below w.heap.size w w' := by
  have AW := hide (fun w => awake_any w)
  have t : decide (200 < (n : Int)) = true := decide_eq_true (by omega)
  go_enter Try.func4, Try.ntmps4
  go_wp2_with (go_at_call 11; go_must (refine (AW.out _).mono ?_; rintro e w6 ⟨rfl, hb6⟩))
  go_ret
  exact ⟨rfl, below_in ((Below.refl _ _).alloc (Nat.le_refl _) _) hb6 (Nat.le_refl _)⟩

set_option maxHeartbeats 2000000 in
theorem lawall_short (w : World) (a b c d u o : Int) (A : Option Addr) (n m : Nat) (l : List Int) (ha : Rd w w.heap.size 1 A n (l.map rn)) (hn : n ≤ 200) (hl : ∀ x ∈ l, -2147483648 ≤ x ∧ x ≤ 2147483647) :
    Calls Try.prog 4 #[.agg #[.int .i64 a, .int .i64 b, .int .i64 c, .int .i64 d, .int .i64 u, .int .i64 o], .slice A n m] w fun e w' => e = .returned (.bool true) ∧ Below w.heap.size w w' := by
  have AW := hide (fun w => awake_any w)
  have hlen := hide ha.len1
  have Hl := hide hl
  have ha0 := (ha.alloc (Nat.le_refl _) (.cells #[.int .i64 a, .int .i64 b, .int .i64 c, .int .i64 d, .int .i64 u, .int .i64 o] 24)).more (B' := w.heap.size + 1) (Nat.le_succ _)
  obtain ⟨z, hz⟩ : ∃ z, z = lastO o l := ⟨_, rfl⟩
  have ALL := hide (all_any a b c d u o l A n m (w.alloc (.cells #[.int .i64 a, .int .i64 b, .int .i64 c, .int .i64 d, .int .i64 u, .int .i64 o] 24)) (by simpa using ha0) hn hl)
  have F1 := hide (fun w => of_any a b c d u o w)
  have F2 := hide (fun w => of_any a b c d u z w)
  have t : decide (200 < (n : Int)) = false := decide_eq_false (by omega)
  clear hl ha0
  go_enter Try.func4, Try.ntmps4
  go_upto_region 4 with (go_at_call 12; go_must (refine ALL.out.mono ?_; rintro e w1 ⟨A1, k1, rfl, own1, hb1⟩))
  have g1 := (Blk.new w 24 #[.int .i64 a, .int .i64 b, .int .i64 c, .int .i64 d, .int .i64 u, .int .i64 o]).below hb1 (by simp)
  have H1 : Below w.heap.size w w1 := below_in ((Below.refl _ _).alloc (Nat.le_refl _) _) hb1 (Nat.le_refl _)
  have n1 : w.heap.size + 1 ≤ w1.heap.size := by have := hb1.size; simpa using this
  have r1 := Rd.of_own own1
  obtain ⟨w2, hw2⟩ : ∃ w2, w2 = w1.alloc (.cells #[.int .i64 a, .int .i64 b, .int .i64 c, .int .i64 d, .int .i64 u, .int .i64 z] 24) := ⟨_, rfl⟩
  have B0 : Blk w2 w.heap.size 24 #[.int .i64 a, .int .i64 b, .int .i64 c, .int .i64 d, .int .i64 u, .int .i64 o] := by rw [hw2]; exact g1.alloc _
  have B1 : Blk w2 w1.heap.size 24 #[.int .i64 a, .int .i64 b, .int .i64 c, .int .i64 d, .int .i64 u, .int .i64 z] := by rw [hw2]; exact Blk.new _ _ _
  have H2 : Below w.heap.size w w2 := by rw [hw2]; exact H1.alloc (by omega) _
  have n2 : w1.heap.size + 1 = w2.heap.size := by rw [hw2]; simp
  have r2 : Rd w2 w1.heap.size 1 A1 n ((allL a b c d u o l).map rn) := by rw [hw2]; exact r1.alloc (Nat.le_refl _) _
  simp only [← hz, ← hw2]
  clear hw2 g1 H1 r1 own1 hb1
  obtain ⟨d0, d1, d2, d3, d4, d5, df0, df1, df2, df3, df4, df5⟩ := blk6 B0
  go_upto_region 5 with (go_at_call 10; go_must (refine (F1.out _).mono ?_; rintro e w3 ⟨rfl, hb3⟩))
  have C1 := B1.below hb3 B1.lt
  have H3 := below_in H2 hb3 (Nat.le_refl _)
  have n3 := hb3.size
  have r3 := r2.below (hb3.mono (show w1.heap.size ≤ w2.heap.size by omega))
  clear d0 d1 d2 d3 d4 d5 df0 df1 df2 df3 df4 df5 B0
  obtain ⟨w4, hw4⟩ : ∃ w4, w4 = w3.alloc (.cells #[.int .i64 a, .int .i64 b, .int .i64 c, .int .i64 d, .int .i64 u, .int .i64 o] 28) := ⟨_, rfl⟩
  have E1 : Blk w4 w1.heap.size 24 #[.int .i64 a, .int .i64 b, .int .i64 c, .int .i64 d, .int .i64 u, .int .i64 z] := by rw [hw4]; exact C1.alloc _
  have E2 : Blk w4 w3.heap.size 28 #[.int .i64 a, .int .i64 b, .int .i64 c, .int .i64 d, .int .i64 u, .int .i64 o] := by rw [hw4]; exact Blk.new _ _ _
  have H4 : Below w.heap.size w w4 := by rw [hw4]; exact H3.alloc (by omega) _
  have n4 : w3.heap.size + 1 = w4.heap.size := by rw [hw4]; simp
  have r4 : Rd w4 w1.heap.size 1 A1 n ((allL a b c d u o l).map rn) := by rw [hw4]; exact r3.alloc (by omega) _
  have a4 := ha.below H4
  simp only [← hw4]
  clear hw4 B1 C1 H2 H3 r2 r3 hb3
  have hsz0 : w3.heap.size ≤ w4.heap.size := by omega
  go_upto_region 7 with fail
  go_loopw [8, 9] (fun v i wr => ∃ (k : Nat) (q : Int) (zs : List Int), k ≤ n ∧ i = .int .i64 k ∧ Blk wr w3.heap.size 28 #[.int .i64 a, .int .i64 b, .int .i64 c, .int .i64 d, .int .i64 u, .int .i64 q] ∧ Blk wr w1.heap.size 24 #[.int .i64 a, .int .i64 b, .int .i64 c, .int .i64 d, .int .i64 u, .int .i64 z] ∧
    wr.ownsRow w4.heap.size 21 1 v k (zs.map rn) ∧ Below w3.heap.size w4 wr ∧ Hid (allL a b c d u o l = zs ++ allL a b c d u q (l.drop k) ∧ lastO o l = lastO q (l.drop k))) (fun v i _ => n - (intOf i).toNat)
  case atStart => exact ⟨0, o, [], Nat.zero_le _, rfl, E2, E1, by simpa using World.ownsRow_nil _ _ _ _, Below.refl _ _, hide ⟨rfl, rfl⟩⟩
  case round =>
    obtain ⟨k, q, zs, hk, rfl, g1, g2, hown, hb, H⟩ := hrel
    obtain ⟨A0, c0, rfl⟩ := own_slice hown
    obtain ⟨d0, d1, d2, d3, d4, d5, df0, df1, df2, df3, df4, df5⟩ := blk6 g1
    have hsz := hb.size
    by_cases hlt : k < n
    · obtain ⟨bb, off, x, rfl, hbB, hx, c1⟩ := (a4.below (hb.mono (show w.heap.size ≤ w3.heap.size by omega))).at1 hlt
      have hx0 := Hl.out x (List.mem_of_getElem? hx)
      have Hx := hide hx
      clear hx
      unfold rn at c1
      obtain ⟨y, hy⟩ : ∃ y, y = shownF (setAt (usedF u q) a b c d) x := ⟨_, rfl⟩
      have E := hide (show allL a b c d u o l = (zs ++ [y]) ++ allL a b c d u 0 (l.drop (k + 1)) ∧ lastO o l = lastO 0 (l.drop (k + 1)) by
        have h := H.out
        rw [drop_at Hx.out] at h
        rw [h.1, h.2, hy, List.append_assoc]
        exact ⟨rfl, rfl⟩)
      have M := hide (fun w => (refmap_any a b c d u q x w hx0.1 hx0.2).mono fun _ _ h => mapPost hy h)
      clear hy
      go_upto_region 11 with (go_at_call 9; go_must (refine (M.out _).mono ?_; rintro e w5 ⟨rfl, hb5⟩; have k1 := g1.below hb5 g1.lt; have k2 := g2.below hb5 g2.lt; have own1 := own_call hown hb5; have own2 := own_six own1 (own_ne own1 k1 (by decide)) (.int .i64 a) (.int .i64 b) (.int .i64 c) (.int .i64 d) (.int .i64 u) (.int .i64 0); have HB2 := below_six (below_in hb hb5 hsz0) (Nat.le_refl w3.heap.size) (.int .i64 a) (.int .i64 b) (.int .i64 c) (.int .i64 d) (.int .i64 u) (.int .i64 0); have k3 := blk_six k1 (.int .i64 a) (.int .i64 b) (.int .i64 c) (.int .i64 d) (.int .i64 u) (.int .i64 0); have k4 := far_six k2 (show w1.heap.size ≠ w3.heap.size by omega) (.int .i64 a) (.int .i64 b) (.int .i64 c) (.int .i64 d) (.int .i64 u) (.int .i64 0); obtain ⟨y0, y1, y2, y3, y4, y5, yf0, yf1, yf2, yf3, yf4, yf5⟩ := blk6 k1))
      go_wp2_with (at_builtin; go_must (refine wpList_append1 Try.sl34 rfl _ _ rfl w4.heap.size (.slice A0 k c0) k (zs.map rn) #[.int .i32 y] _ 1 rfl rfl (by simp) own2 rfl (ones rfl) (by simp only [maxLen]; omega) (by omega) (by have := hb5.size; simp; omega) ?_; intro A2 c2 w6 app))
      go_roundw
      case rel =>
        have k5 := k3.alloc (.cells #[.int .i32 y] 21)
        have k6 := k4.alloc (.cells #[.int .i32 y] 21)
        have own3 := own2.alloc (.cells #[.int .i32 y] 21)
        have HB3 := HB2.alloc (Nat.le_trans hsz0 HB2.size) (.cells #[.int .i32 y] 21)
        exact ⟨k + 1, 0, zs ++ [y], by omega, by go_num, app.blk k5 own3 (by decide), app.blk k6 own3 (by decide), by simpa [rn] using app.own, app.below own3 HB3 hsz0 (Nat.le_trans hsz0 HB3.size), E⟩
      case measure => simp [intOf]; omega
    · have e : k = n := by omega
      subst e
      have en : l.drop k = [] := List.drop_of_length_le (by rw [hlen.out]; omega)
      have H' : allL a b c d u o l = zs ∧ lastO o l = q := by have h := H.out; rw [en] at h; simpa [allL, lastO] using h
      have hqz : q = z := by rw [hz]; exact H'.2.symm
      subst hqz
      have rz := Rd.of_own hown
      have rg : Rd wr w1.heap.size 1 A1 k (zs.map rn) := by rw [← H'.1]; exact r4.below (hb.mono (show w1.heap.size ≤ w3.heap.size by omega))
      have SAME := hide (fun w' (r1 : Rd w' w1.heap.size 1 A1 k (zs.map rn)) (r2 : Rd w' wr.heap.size 1 A0 k (zs.map rn)) => same_any zs zs A1 A0 k k k1 c0 w' r1 r2 (by omega) (by omega))
      have tt : (zs == zs) = true := by simp
      clear en H' H hz
      obtain ⟨p0, p1, p2, p3, p4, p5, pf0, pf1, pf2, pf3, pf4, pf5⟩ := blk6 g2
      go_upto_region 12 with fail
      go_region_with (first | (go_at_call 13; go_must (refine (SAME.out _ rg.drew rz.drew).mono ?_; rintro e w8 ⟨rfl, nd, rfl⟩)) | (go_at_call 10; go_must (refine (F2.out _).mono ?_; rintro e w8 ⟨rfl, hb8⟩; have G2 := (g1.drewN _).below hb8 g1.lt; have H8 : Below w.heap.size w w8 := below_in (below_drewN' (H4.trans (hb.mono (show w.heap.size ≤ w3.heap.size by omega))) _) hb8 (Nat.le_refl _); obtain ⟨x0, x1, x2, x3, x4, x5, xf0, xf1, xf2, xf3, xf4, xf5⟩ := blk6 G2)) | (go_at_call 11; go_must (refine (AW.out _).mono ?_; rintro e w9 ⟨rfl, hb9⟩; have H9 := below_in H8 hb9 (Nat.le_refl _))))
      all_goals go_wp2_with fail
      all_goals go_ret
      all_goals exact ⟨rfl, H9⟩
theorem lawall_walk (w : World) (a b c d u o : Int) (A : Option Addr) (n m : Nat) (l : List Int) (ha : Rd w w.heap.size 1 A n (l.map rn)) (hl : ∀ x ∈ l, -2147483648 ≤ x ∧ x ≤ 2147483647) :
    Calls Try.prog 4 #[.agg #[.int .i64 a, .int .i64 b, .int .i64 c, .int .i64 d, .int .i64 u, .int .i64 o], .slice A n m] w fun e w' => e = .returned (.bool true) ∧ Below w.heap.size w w' := by
  by_cases hn : n ≤ 200
  · exact lawall_short w a b c d u o A n m l ha hn hl
  · exact lawall_long w a b c d u o A n m hn
end Go.Proofs.Ytbacobajmmkjeaa
