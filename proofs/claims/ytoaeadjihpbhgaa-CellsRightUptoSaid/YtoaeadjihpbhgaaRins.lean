/-
  The document's Insert, walked. No condition but bounds. (printed by gen_rins.py)
-/
import Derived.Test.YtoaeadjihpbhgaaRmark2
namespace Go.Proofs.Ytoaeadjihpbhgaa
open Go.RowKit Go.Proofs
set_option linter.unusedVariables false
/-- What stands in a place behind an insertion. -/
def insE (x k bk bn : Int) (m : List Cell) (i : Nat) : Cell :=
  if x < 0 ∨ (m.length : Int) ≤ x ∨ k < 1 ∨ (i : Int) < x then (m[i]?).getD padC else if (i : Int) - x < k then blankC bk bn else (m[((i : Int) - k).toNat]?).getD padC
def insK (x k bk bn : Int) (m : List Cell) (j : Nat) : List Cell := (List.range j).map (insE x k bk bn m)
theorem insK_len (x k bk bn : Int) (m : List Cell) (j : Nat) : (insK x k bk bn m j).length = j := by unfold insK; simp
theorem insK_step (x k bk bn : Int) (m : List Cell) (j : Nat) : insK x k bk bn m (j + 1) = insK x k bk bn m j ++ [insE x k bk bn m j] := by unfold insK; rw [List.range_succ]; simp
theorem insK_all (x k bk bn : Int) (m : List Cell) : insK x k bk bn m m.length = insertIn x k bk bn m := by
  apply List.ext_getElem?
  intro i
  unfold insK insertIn
  rw [List.getElem?_map]
  rcases Nat.lt_or_ge i m.length with hi | hi
  · rw [List.getElem?_range hi, Option.map_some]
    unfold insE
    by_cases hc : 0 ≤ x ∧ x < m.length ∧ 1 ≤ k
    · rw [if_pos hc]
      obtain ⟨X, rfl⟩ : ∃ X : Nat, x = X := ⟨x.toNat, by omega⟩
      obtain ⟨K, hK⟩ : ∃ K : Nat, (min k ((m.length : Int) - X)).toNat = K := ⟨_, rfl⟩
      rw [hK]
      show some _ = (wipeAB bk bn X (X + K) (copyAB (X + K) X (m.length - X - K) m))[i]?
      unfold wipeAB copyAB
      have hl : ((m.take (X + K)) ++ ((m.drop X).take (m.length - X - K) ++ m.drop (X + K + (m.length - X - K)))).length = m.length := by simp; omega
      rcases Nat.lt_or_ge i X with h1 | h1
      · rw [if_pos (by omega), List.getElem?_append_left (by simp; omega), List.getElem?_take_of_lt h1, List.getElem?_append_left (by simp; omega), List.getElem?_take_of_lt (by omega), List.getElem?_eq_getElem hi]; rfl
      · rw [if_neg (by omega), List.getElem?_append_right (by simp; omega)]
        have lx : (List.take X ((m.take (X + K)) ++ ((m.drop X).take (m.length - X - K) ++ m.drop (X + K + (m.length - X - K))))).length = X := by rw [List.length_take, hl]; omega
        rw [lx]
        rcases Nat.lt_or_ge i (X + K) with h2 | h2
        · rw [if_pos (by omega), List.getElem?_append_left (by simp; omega), List.getElem?_replicate, if_pos (by omega)]
        · rw [if_neg (by omega), List.getElem?_append_right (by simp; omega), List.length_replicate, List.getElem?_drop, show X + K + (i - X - (X + K - X)) = i by omega,
            List.getElem?_append_right (by simp; omega), List.length_take, Nat.min_eq_left (by omega), List.getElem?_append_left (by simp; omega), List.getElem?_take_of_lt (by omega), List.getElem?_drop, show X + (i - (X + K)) = i - K by omega, show ((i : Int) - k).toNat = i - K by omega,
            List.getElem?_eq_getElem (by omega)]
          rfl
    · rw [if_neg hc, if_pos (by omega), List.getElem?_eq_getElem hi]; rfl
  · have e1 : (List.range m.length)[i]? = none := List.getElem?_eq_none (by simp; omega)
    have e2 : (insertIn x k bk bn m)[i]? = none := by
      refine List.getElem?_eq_none ?_
      unfold insertIn
      split
      · show (wipeAB _ _ _ _ _).length ≤ _
        rw [wipeAB_len _ _ (by omega) (by rw [copyAB_len (by omega) (by omega)]; omega), copyAB_len (by omega) (by omega)]; exact hi
      · exact hi
    unfold insertIn at e2
    rw [e1, e2]; rfl
theorem one8e (c : Cell) : ∀ u ∈ #[Value.int .i32 c.r, .string c.more, .int .i64 c.half, .int .i64 c.a.fk, .int .i64 c.a.fn, .int .i64 c.a.bk, .int .i64 c.a.bn, .int .i64 c.a.fl].toList, u.oneCell' = true := one8
set_option maxRecDepth 100000 in
set_option maxHeartbeats 4000000 in
theorem rinsertc_any (l : List Cell) (n c B : Nat) (A : Option Addr) (x kk bk bn : Int) (w : World) (hl : Rd w B 8 A n (l.flatMap cellE)) (hB : B ≤ w.heap.size) (hn : n ≤ 100000) :
    Calls Try.prog 29 #[.slice A n c, .int .i64 x, .int .i64 kk, .agg #[.int .i64 bk, .int .i64 bn]] w (RetRow (mendF (insertIn x kk bk bn (mendF l))) n w) := by
  have M1 := hide (rmend_any l n c B A (w.alloc (.cells #[.int .i64 bk, .int .i64 bn] 23)) (hl.alloc hB _) (by simp; omega) hn)
  have hll := hl.len (E := cellE) (fun _ => rfl) (by omega)
  obtain ⟨m, hm0⟩ : ∃ m, mendF l = m := ⟨_, rfl⟩
  have HM := hide (show m.length = n by rw [← hm0, mendF_len]; exact hll)
  rw [hm0] at M1 ⊢
  have BL := hide (fun (W : World) => rblank_any bk bn W)
  have ST := hide (fun (A1 : Option Addr) (c1 : Nat) (w1 : World) (o1 : w1.ownsRow (w.alloc (.cells #[.int .i64 bk, .int .i64 bn] 23)).heap.size 40 8 (.slice A1 n c1) n (m.flatMap cellE)) (b1 : Below (w.alloc (.cells #[.int .i64 bk, .int .i64 bn] 23)).heap.size (w.alloc (.cells #[.int .i64 bk, .int .i64 bn] 23)) w1) =>
    And.intro (Rd.of_own o1) (And.intro (((Below.refl w.heap.size w).alloc (Nat.le_refl _) (.cells #[.int .i64 bk, .int .i64 bn] 23)).trans (b1.mono (by simp)))
      (show Blk w1 w.heap.size 23 #[.int .i64 bk, .int .i64 bn] from (Blk.new w 23 #[.int .i64 bk, .int .i64 bn]).below b1 (by simp))))
  have RM := hide (fun (l : List Cell) (c : Nat) (A : Option Addr) (w1 W : World) (h : W.ownsRow w1.heap.size 40 8 (.slice A n c) n (l.flatMap cellE)) => rmend_any l n c W.heap.size A W (Rd.of_own h) (Nat.le_refl _) hn)
  clear hl hll hm0
  go_enter Try.func29, Try.ntmps29
  go_upto_region 2 with (go_at_call 21; go_must (refine (M1.out).mono ?_; rintro e w1 ⟨A1, c1, rfl, o1, h1, b1⟩; have S1 := hide (ST.out A1 c1 w1 o1 b1); clear o1 b1))
  have k1z := S1.out.2.2.lt
  have on := hide (World.ownsRow_nil w1 w1.heap.size 40 8)
  go_wp2
  go_loopg [10, 11] n (fun gg s2 s3 wr => ∃ (k : Nat) (A2 : Option Addr) (c2 : Nat), k ≤ n ∧ n - k ≤ gg ∧ s2 = .slice A2 k c2 ∧ s3 = .int .i64 k ∧ Hid (wr.ownsRow w1.heap.size 40 8 (.slice A2 k c2) k ((insK x kk bk bn m k).flatMap cellE)) ∧ Hid (Below w1.heap.size w1 wr))
  case atStart => exact ⟨0, none, 0, by omega, by omega, rfl, rfl, on.out, Below.refl _ _⟩
  case round =>
    obtain ⟨k, A2, c2, hkn, hgk, rfl, rfl, HO, HB⟩ := hrel
    by_cases hlt : k < n
    · have d0 : decide (k < n) = true := by simpa using hlt
      have RDR := hide (S1.out.1.below HB.out)
      have KB := hide (S1.out.2.2.below HB.out k1z)
      have HSTEP := hide (insK_step x kk bk bn m k)
      by_cases hold : x < 0 ∨ (n : Int) ≤ x ∨ kk < 1 ∨ (k : Int) < x
      · obtain ⟨b, off, u, rfl, hb, hu, u0, u1, u2, u3, u4, u5, u6, u7⟩ := RDR.out.eight hlt
        have HE := hide (show insE x kk bk bn m k = u by unfold insE; rw [HM.out, if_pos hold, hu]; rfl)
        have alt : x < 0 ∨ (0 ≤ x ∧ (n : Int) ≤ x) ∨ (0 ≤ x ∧ x < n ∧ kk < 1) ∨ (0 ≤ x ∧ x < n ∧ 1 ≤ kk ∧ (k : Int) < x) := by omega
        clear hold hu
        rcases alt with e1 | ⟨e0, e1⟩ | ⟨e0, e1, e2⟩ | ⟨e0, e1, e2, e3⟩
        · have d1 : decide (x < 0) = true := decide_eq_true e1
          go_wp2_with (at_builtin; go_must (refine wpList_append1 Try.sl26 rfl _ _ rfl w1.heap.size (.slice A2 k c2) k _ #[.int .i32 u.r, .string u.more, .int .i64 u.half, .int .i64 u.a.fk, .int .i64 u.a.fn, .int .i64 u.a.bk, .int .i64 u.a.bn, .int .i64 u.a.fl] wr 1 rfl rfl rfl HO.out rfl one8 (by simp only [maxLen]; omega) (by omega) HB.out.size ?_; intro A3 c3 w3 app; have O3 := hide (own_snoc u app.own rfl); have B3 := hide (app.below (HO.out.alloc _) (HB.out.alloc HB.out.size _) (Nat.le_refl _) (Nat.le_trans HB.out.size (by simp)))))
          go_roundg (n - (k + 1))
          case measure => omega
          case rel => exact ⟨k + 1, A3, c3, by omega, by omega, rfl, by go_num, by rw [HSTEP.out, HE.out]; exact O3.out, B3.out⟩
        · have d1 : decide (x < 0) = false := decide_eq_false (by omega)
          have d2 : decide ((n : Int) ≤ x) = true := decide_eq_true e1
          go_wp2_with (at_builtin; go_must (refine wpList_append1 Try.sl26 rfl _ _ rfl w1.heap.size (.slice A2 k c2) k _ #[.int .i32 u.r, .string u.more, .int .i64 u.half, .int .i64 u.a.fk, .int .i64 u.a.fn, .int .i64 u.a.bk, .int .i64 u.a.bn, .int .i64 u.a.fl] wr 1 rfl rfl rfl HO.out rfl one8 (by simp only [maxLen]; omega) (by omega) HB.out.size ?_; intro A3 c3 w3 app; have O3 := hide (own_snoc u app.own rfl); have B3 := hide (app.below (HO.out.alloc _) (HB.out.alloc HB.out.size _) (Nat.le_refl _) (Nat.le_trans HB.out.size (by simp)))))
          go_roundg (n - (k + 1))
          case measure => omega
          case rel => exact ⟨k + 1, A3, c3, by omega, by omega, rfl, by go_num, by rw [HSTEP.out, HE.out]; exact O3.out, B3.out⟩
        · have d1 : decide (x < 0) = false := decide_eq_false (by omega)
          have d2 : decide ((n : Int) ≤ x) = false := decide_eq_false (by omega)
          have d3 : decide (kk < 1) = true := decide_eq_true e2
          go_wp2_with (at_builtin; go_must (refine wpList_append1 Try.sl26 rfl _ _ rfl w1.heap.size (.slice A2 k c2) k _ #[.int .i32 u.r, .string u.more, .int .i64 u.half, .int .i64 u.a.fk, .int .i64 u.a.fn, .int .i64 u.a.bk, .int .i64 u.a.bn, .int .i64 u.a.fl] wr 1 rfl rfl rfl HO.out rfl one8 (by simp only [maxLen]; omega) (by omega) HB.out.size ?_; intro A3 c3 w3 app; have O3 := hide (own_snoc u app.own rfl); have B3 := hide (app.below (HO.out.alloc _) (HB.out.alloc HB.out.size _) (Nat.le_refl _) (Nat.le_trans HB.out.size (by simp)))))
          go_roundg (n - (k + 1))
          case measure => omega
          case rel => exact ⟨k + 1, A3, c3, by omega, by omega, rfl, by go_num, by rw [HSTEP.out, HE.out]; exact O3.out, B3.out⟩
        · have d1 : decide (x < 0) = false := decide_eq_false (by omega)
          have d2 : decide ((n : Int) ≤ x) = false := decide_eq_false (by omega)
          have d3 : decide (kk < 1) = false := decide_eq_false (by omega)
          have d4 : decide ((k : Int) < x) = true := decide_eq_true e3
          go_wp2_with (at_builtin; go_must (refine wpList_append1 Try.sl26 rfl _ _ rfl w1.heap.size (.slice A2 k c2) k _ #[.int .i32 u.r, .string u.more, .int .i64 u.half, .int .i64 u.a.fk, .int .i64 u.a.fn, .int .i64 u.a.bk, .int .i64 u.a.bn, .int .i64 u.a.fl] wr 1 rfl rfl rfl HO.out rfl one8 (by simp only [maxLen]; omega) (by omega) HB.out.size ?_; intro A3 c3 w3 app; have O3 := hide (own_snoc u app.own rfl); have B3 := hide (app.below (HO.out.alloc _) (HB.out.alloc HB.out.size _) (Nat.le_refl _) (Nat.le_trans HB.out.size (by simp)))))
          go_roundg (n - (k + 1))
          case measure => omega
          case rel => exact ⟨k + 1, A3, c3, by omega, by omega, rfl, by go_num, by rw [HSTEP.out, HE.out]; exact O3.out, B3.out⟩
      · have d1 : decide (x < 0) = false := decide_eq_false (by omega)
        have d2 : decide ((n : Int) ≤ x) = false := decide_eq_false (by omega)
        have d3 : decide (kk < 1) = false := decide_eq_false (by omega)
        have d4 : decide ((k : Int) < x) = false := decide_eq_false (by omega)
        have ex0 : 0 ≤ x := by omega
        have ex1 : x ≤ k := by omega
        by_cases hnew : (k : Int) - x < kk
        · have d5 : decide ((k : Int) - x < kk) = true := decide_eq_true hnew
          have HE := hide (show insE x kk bk bn m k = blankC bk bn by unfold insE; rw [HM.out, if_neg hold, if_pos hnew])
          have b0 := KB.out.cell 0
          have b1 := KB.out.cell 1
          simp at b0 b1
          clear hold hnew
          go_wp2_with (first
            | (go_at_call 25; go_must (refine (BL.out _).mono ?_; rintro e w2 ⟨rfl, b2⟩; have O2 := hide (own_call HO.out b2); have B2 := hide (below_in HB.out b2 (Nat.le_refl _)); clear b2))
            | (at_builtin; go_must (refine wpList_append1 Try.sl26 rfl _ _ rfl w1.heap.size (.slice A2 k c2) k _ #[.int .i32 0, .string { data := #[] }, .int .i64 0, .int .i64 0, .int .i64 0, .int .i64 bk, .int .i64 bn, .int .i64 0] w2 1 rfl rfl rfl O2.out rfl one8 (by simp only [maxLen]; omega) (by omega) B2.out.size ?_; intro A3 c3 w3 app; have O3 := hide (own_snoc (blankC bk bn) app.own rfl); have B3 := hide (app.below (O2.out.alloc _) (B2.out.alloc B2.out.size _) (Nat.le_refl _) (Nat.le_trans B2.out.size (by simp))))))
          go_roundg (n - (k + 1))
          case measure => omega
          case rel => exact ⟨k + 1, A3, c3, by omega, by omega, rfl, by go_num, by rw [HSTEP.out, HE.out]; exact O3.out, B3.out⟩
        · have d5 : decide ((k : Int) - x < kk) = false := decide_eq_false hnew
          obtain ⟨q, hq⟩ : ∃ q : Nat, (q : Int) = (k : Int) - kk := ⟨((k : Int) - kk).toNat, by omega⟩
          have hq' : (k : Int) - kk = q := hq.symm
          have hqn : q < n := by omega
          obtain ⟨b, off, u, rfl, hb, hu, u0, u1, u2, u3, u4, u5, u6, u7⟩ := RDR.out.eight hqn
          have HE := hide (show insE x kk bk bn m k = u by unfold insE; rw [HM.out, if_neg hold, if_neg hnew, hq', show (q : Int).toNat = q by omega, hu]; rfl)
          clear hold hnew hu hq
          go_wp2_with (at_builtin; go_must (refine wpList_append1 Try.sl26 rfl _ _ rfl w1.heap.size (.slice A2 k c2) k _ #[.int .i32 u.r, .string u.more, .int .i64 u.half, .int .i64 u.a.fk, .int .i64 u.a.fn, .int .i64 u.a.bk, .int .i64 u.a.bn, .int .i64 u.a.fl] wr 1 rfl rfl rfl HO.out rfl one8 (by simp only [maxLen]; omega) (by omega) HB.out.size ?_; intro A3 c3 w3 app; have O3 := hide (own_snoc u app.own rfl); have B3 := hide (app.below (HO.out.alloc _) (HB.out.alloc HB.out.size _) (Nat.le_refl _) (Nat.le_trans HB.out.size (by simp)))))
          go_roundg (n - (k + 1))
          case measure => omega
          case rel => exact ⟨k + 1, A3, c3, by omega, by omega, rfl, by go_num, by rw [HSTEP.out, HE.out]; exact O3.out, B3.out⟩
    · obtain rfl : k = n := by omega
      have d1 : decide (k < k) = false := by simp
      have HE := hide (show insK x kk bk bn m k = insertIn x kk bk bn m by rw [← HM.out]; exact insK_all x kk bk bn m)
      have M2 := hide (RM.out _ _ _ w1 wr HO.out)
      have BW := hide (below_in S1.out.2.1 HB.out (Nat.le_refl _))
      go_wp2_with (go_at_call 21; go_must (refine (M2.out).mono ?_; rintro e w3 ⟨A3, c3, rfl, o3, h3, b3⟩))
      go_ret
      rw [← HE.out]
      exact ⟨A3, c3, rfl, own_le o3 BW.out.size, h3, below_in BW.out b3 (Nat.le_refl _)⟩
end Go.Proofs.Ytoaeadjihpbhgaa
