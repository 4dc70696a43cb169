/-
  The document's Delete, walked. No condition but bounds. (printed by gen_rdel.py)
-/
import Derived.Test.YtoaeadjihpbhgaaRins
namespace Go.Proofs.Ytoaeadjihpbhgaa
open Go.RowKit Go.Proofs
set_option linter.unusedVariables false
/-- What stays of the first j cells, where the cells from X on, K of them, go. -/
def delK (X K j : Nat) (m : List Cell) : List Cell := (m.take j).take X ++ (m.take j).drop (X + K)
theorem delK_len {X K j : Nat} {m : List Cell} (hj : j ≤ m.length) : (delK X K j m).length = min j X + (j - (X + K)) := by unfold delK; simp; omega
theorem delK_stay {X K j : Nat} {m : List Cell} {u : Cell} (hu : m[j]? = some u) (h : j < X ∨ X + K ≤ j) : delK X K (j + 1) m = delK X K j m ++ [u] := by
  unfold delK
  have hj := (List.getElem?_eq_some_iff.1 hu).1
  have hl : (m.take j).length = j := by simp; omega
  rw [take_snoc hu]
  rcases h with h | h
  · rw [List.take_of_length_le (l := m.take j ++ [u]) (by simp; omega), List.take_of_length_le (l := m.take j) (by omega), List.drop_of_length_le (l := m.take j ++ [u]) (by simp; omega), List.drop_of_length_le (l := m.take j) (by omega)]
    simp
  · rw [List.take_append_of_le_length (by omega), List.drop_append_of_le_length (by omega), List.append_assoc]
theorem delK_go {X K j : Nat} {m : List Cell} {u : Cell} (hu : m[j]? = some u) (h1 : X ≤ j) (h2 : j < X + K) : delK X K (j + 1) m = delK X K j m := by
  unfold delK
  have hj := (List.getElem?_eq_some_iff.1 hu).1
  have hl : (m.take j).length = j := by simp; omega
  rw [take_snoc hu, List.take_append_of_le_length (by omega), List.drop_of_length_le (l := m.take j ++ [u]) (by simp; omega), List.drop_of_length_le (l := m.take j) (by omega)]
theorem delK_yes {x k bk bn : Int} {m : List Cell} {X K : Nat} (h : 0 ≤ x ∧ x < m.length ∧ 1 ≤ k) (hX : x = X) (hK : (K : Int) = min k (m.length - x)) : delK X K m.length m ++ List.replicate K (blankC bk bn) = deleteIn x k bk bn m := by
  subst hX
  unfold deleteIn
  rw [if_pos h]
  have e1 : (min k ((m.length : Int) - X)).toNat = K := by omega
  rw [e1]
  show _ = wipeAB bk bn (m.length - K) m.length (copyAB X (X + K) (m.length - X - K) m)
  unfold wipeAB copyAB delK
  rw [List.take_length, show m.length - (m.length - K) = K by omega]
  have e2 : (m.take X ++ ((m.drop (X + K)).take (m.length - X - K) ++ m.drop (X + (m.length - X - K)))).take (m.length - K) = m.take X ++ m.drop (X + K) := by
    rw [← List.append_assoc, List.take_append_of_le_length (by simp; omega), List.take_of_length_le (by simp; omega), List.take_of_length_le (l := m.drop (X + K)) (by simp; omega)]
  have e3 : (m.take X ++ ((m.drop (X + K)).take (m.length - X - K) ++ m.drop (X + (m.length - X - K)))).drop m.length = [] := List.drop_of_length_le (by simp; omega)
  rw [e2, e3, List.append_nil]
theorem delK_no {x k bk bn : Int} {m : List Cell} (h : ¬ (0 ≤ x ∧ x < m.length ∧ 1 ≤ k)) : delK m.length 0 m.length m ++ List.replicate 0 (blankC bk bn) = deleteIn x k bk bn m := by
  unfold deleteIn delK
  rw [if_neg h]; simp
set_option maxRecDepth 100000 in
set_option maxHeartbeats 4000000 in
theorem rdeletec_any (l : List Cell) (n c B : Nat) (A : Option Addr) (x kk bk bn : Int) (w : World) (hl : Rd w B 8 A n (l.flatMap cellE)) (hB : B ≤ w.heap.size) (hn : n ≤ 100000) :
    Calls Try.prog 30 #[.slice A n c, .int .i64 x, .int .i64 kk, .agg #[.int .i64 bk, .int .i64 bn]] w (RetRow (mendF (deleteIn x kk bk bn (mendF l))) n w) := by
  have M1 := hide (rmend_any l n c B A (w.alloc (.cells #[.int .i64 bk, .int .i64 bn] 23)) (hl.alloc hB _) (by simp; omega) hn)
  have hll := hl.len (E := cellE) (fun _ => rfl) (by omega)
  obtain ⟨m, hm0⟩ : ∃ m, mendF l = m := ⟨_, rfl⟩
  have hml : m.length = n := by rw [← hm0, mendF_len]; exact hll
  have HM := hide hml
  rw [hm0] at M1 ⊢
  have BL := hide (fun (W : World) => rblank_any bk bn W)
  have ST := hide (fun (A1 : Option Addr) (c1 : Nat) (w1 : World) (o1 : w1.ownsRow (w.alloc (.cells #[.int .i64 bk, .int .i64 bn] 23)).heap.size 40 8 (.slice A1 n c1) n (m.flatMap cellE)) (b1 : Below (w.alloc (.cells #[.int .i64 bk, .int .i64 bn] 23)).heap.size (w.alloc (.cells #[.int .i64 bk, .int .i64 bn] 23)) w1) =>
    And.intro (Rd.of_own o1) (And.intro (((Below.refl w.heap.size w).alloc (Nat.le_refl _) (.cells #[.int .i64 bk, .int .i64 bn] 23)).trans (b1.mono (by simp)))
      (show Blk w1 w.heap.size 23 #[.int .i64 bk, .int .i64 bn] from (Blk.new w 23 #[.int .i64 bk, .int .i64 bn]).below b1 (by simp))))
  have RM := hide (fun (l : List Cell) (c : Nat) (A : Option Addr) (w1 W : World) (h : W.ownsRow w1.heap.size 40 8 (.slice A n c) n (l.flatMap cellE)) => rmend_any l n c W.heap.size A W (Rd.of_own h) (Nat.le_refl _) hn)
  -- which cells go
  obtain ⟨X, K, hXn, hfin, hgo⟩ : ∃ X K : Nat, X + K ≤ n ∧ delK X K n m ++ List.replicate K (blankC bk bn) = deleteIn x kk bk bn m ∧
      ((K = 0 ∧ X = n ∧ (x < 0 ∨ (0 ≤ x ∧ (n : Int) ≤ x) ∨ (0 ≤ x ∧ x < n ∧ kk < 1))) ∨ (x = X ∧ x < n ∧ 1 ≤ kk ∧ (K : Int) = min kk (n - x))) := by
    by_cases hc : 0 ≤ x ∧ x < n ∧ 1 ≤ kk
    · refine ⟨x.toNat, (min kk ((n : Int) - x)).toNat, by omega, ?_, .inr ⟨by omega, hc.2.1, hc.2.2, by omega⟩⟩
      rw [← hml] at hc ⊢
      exact delK_yes hc (by omega) (by omega)
    · refine ⟨n, 0, by omega, ?_, .inl ⟨rfl, rfl, by omega⟩⟩
      rw [← hml] at hc ⊢
      exact delK_no hc
  have HFIN := hide hfin
  clear hl hll hm0 hml hfin
  go_enter Try.func30, Try.ntmps30
  go_upto_region 2 with (go_at_call 21; go_must (refine (M1.out).mono ?_; rintro e w1 ⟨A1, c1, rfl, o1, h1, b1⟩; have S1 := hide (ST.out A1 c1 w1 o1 b1); clear o1 b1))
  have k1z := S1.out.2.2.lt
  have on := hide (World.ownsRow_nil w1 w1.heap.size 40 8)
  go_wp2
  go_loopg [10, 11] n (fun gg s2 s3 wr => ∃ (k N : Nat) (A2 : Option Addr) (c2 : Nat), k ≤ n ∧ n - k ≤ gg ∧ N ≤ n ∧ s2 = .slice A2 N c2 ∧ s3 = .int .i64 k ∧ Hid ((delK X K k m).length = N) ∧ Hid (wr.ownsRow w1.heap.size 40 8 (.slice A2 N c2) N ((delK X K k m).flatMap cellE)) ∧ Hid (Below w1.heap.size w1 wr))
  case atStart => exact ⟨0, 0, none, 0, by omega, by omega, by omega, rfl, rfl, show (delK X K 0 m).length = 0 by unfold delK; simp, by rw [show delK X K 0 m = [] by unfold delK; simp]; exact on.out, Below.refl _ _⟩
  case round =>
    obtain ⟨k, N, A2, c2, hkn, hgk, hNn, rfl, rfl, HN, HO, HB⟩ := hrel
    by_cases hlt : k < n
    · have d0 : decide (k < n) = true := by simpa using hlt
      obtain ⟨b, off, u, rfl, hb, hu, u0, u1, u2, u3, u4, u5, u6, u7⟩ := (S1.out.1.below HB.out).eight hlt
      have HU := hide hu
      clear hu
      by_cases hst : k < X ∨ X + K ≤ k
      · have HE := hide (delK_stay HU.out hst)
        have HNL := hide (delK_len (X := X) (K := K) (j := k) (m := m) (by rw [HM.out]; omega))
        have hN1 : N + 1 ≤ n := by
          have := HNL.out
          rw [HN.out] at this
          omega
        have alt : x < 0 ∨ (0 ≤ x ∧ (n : Int) ≤ x) ∨ (0 ≤ x ∧ x < n ∧ kk < 1) ∨ (0 ≤ x ∧ x < n ∧ 1 ≤ kk ∧ (k : Int) < x) ∨ (0 ≤ x ∧ x < n ∧ 1 ≤ kk ∧ x ≤ (k : Int) ∧ kk ≤ (k : Int) - x) := by omega
        clear hst hgo
        rcases alt with e1 | ⟨e0, e1⟩ | ⟨e0, e1, e2⟩ | ⟨e0, e1, e2, e3⟩ | ⟨e0, e1, e2, e3, e4⟩
        · have d1 : decide (x < 0) = true := decide_eq_true e1
          go_wp2_with (at_builtin; go_must (refine wpList_append1 Try.sl26 rfl _ _ rfl w1.heap.size (.slice A2 N c2) N _ #[.int .i32 u.r, .string u.more, .int .i64 u.half, .int .i64 u.a.fk, .int .i64 u.a.fn, .int .i64 u.a.bk, .int .i64 u.a.bn, .int .i64 u.a.fl] wr 1 rfl rfl rfl HO.out rfl one8 (by simp only [maxLen]; omega) (by omega) HB.out.size ?_; intro A3 c3 w3 app; have O3 := hide (own_snoc u app.own rfl); have B3 := hide (app.below (HO.out.alloc _) (HB.out.alloc HB.out.size _) (Nat.le_refl _) (Nat.le_trans HB.out.size (by simp)))))
          go_roundg (n - (k + 1))
          case measure => omega
          case rel => exact ⟨k + 1, N + 1, A3, c3, by omega, by omega, hN1, rfl, by go_num, by rw [HE.out, List.length_append, HN.out]; rfl, by rw [HE.out]; exact O3.out, B3.out⟩
        · have d1 : decide (x < 0) = false := decide_eq_false (by omega)
          have d2 : decide ((n : Int) ≤ x) = true := decide_eq_true e1
          go_wp2_with (at_builtin; go_must (refine wpList_append1 Try.sl26 rfl _ _ rfl w1.heap.size (.slice A2 N c2) N _ #[.int .i32 u.r, .string u.more, .int .i64 u.half, .int .i64 u.a.fk, .int .i64 u.a.fn, .int .i64 u.a.bk, .int .i64 u.a.bn, .int .i64 u.a.fl] wr 1 rfl rfl rfl HO.out rfl one8 (by simp only [maxLen]; omega) (by omega) HB.out.size ?_; intro A3 c3 w3 app; have O3 := hide (own_snoc u app.own rfl); have B3 := hide (app.below (HO.out.alloc _) (HB.out.alloc HB.out.size _) (Nat.le_refl _) (Nat.le_trans HB.out.size (by simp)))))
          go_roundg (n - (k + 1))
          case measure => omega
          case rel => exact ⟨k + 1, N + 1, A3, c3, by omega, by omega, hN1, rfl, by go_num, by rw [HE.out, List.length_append, HN.out]; rfl, by rw [HE.out]; exact O3.out, B3.out⟩
        · have d1 : decide (x < 0) = false := decide_eq_false (by omega)
          have d2 : decide ((n : Int) ≤ x) = false := decide_eq_false (by omega)
          have d3 : decide (kk < 1) = true := decide_eq_true e2
          go_wp2_with (at_builtin; go_must (refine wpList_append1 Try.sl26 rfl _ _ rfl w1.heap.size (.slice A2 N c2) N _ #[.int .i32 u.r, .string u.more, .int .i64 u.half, .int .i64 u.a.fk, .int .i64 u.a.fn, .int .i64 u.a.bk, .int .i64 u.a.bn, .int .i64 u.a.fl] wr 1 rfl rfl rfl HO.out rfl one8 (by simp only [maxLen]; omega) (by omega) HB.out.size ?_; intro A3 c3 w3 app; have O3 := hide (own_snoc u app.own rfl); have B3 := hide (app.below (HO.out.alloc _) (HB.out.alloc HB.out.size _) (Nat.le_refl _) (Nat.le_trans HB.out.size (by simp)))))
          go_roundg (n - (k + 1))
          case measure => omega
          case rel => exact ⟨k + 1, N + 1, A3, c3, by omega, by omega, hN1, rfl, by go_num, by rw [HE.out, List.length_append, HN.out]; rfl, by rw [HE.out]; exact O3.out, B3.out⟩
        · have d1 : decide (x < 0) = false := decide_eq_false (by omega)
          have d2 : decide ((n : Int) ≤ x) = false := decide_eq_false (by omega)
          have d3 : decide (kk < 1) = false := decide_eq_false (by omega)
          have d4 : decide ((k : Int) < x) = true := decide_eq_true e3
          go_wp2_with (at_builtin; go_must (refine wpList_append1 Try.sl26 rfl _ _ rfl w1.heap.size (.slice A2 N c2) N _ #[.int .i32 u.r, .string u.more, .int .i64 u.half, .int .i64 u.a.fk, .int .i64 u.a.fn, .int .i64 u.a.bk, .int .i64 u.a.bn, .int .i64 u.a.fl] wr 1 rfl rfl rfl HO.out rfl one8 (by simp only [maxLen]; omega) (by omega) HB.out.size ?_; intro A3 c3 w3 app; have O3 := hide (own_snoc u app.own rfl); have B3 := hide (app.below (HO.out.alloc _) (HB.out.alloc HB.out.size _) (Nat.le_refl _) (Nat.le_trans HB.out.size (by simp)))))
          go_roundg (n - (k + 1))
          case measure => omega
          case rel => exact ⟨k + 1, N + 1, A3, c3, by omega, by omega, hN1, rfl, by go_num, by rw [HE.out, List.length_append, HN.out]; rfl, by rw [HE.out]; exact O3.out, B3.out⟩
        · have d1 : decide (x < 0) = false := decide_eq_false (by omega)
          have d2 : decide ((n : Int) ≤ x) = false := decide_eq_false (by omega)
          have d3 : decide (kk < 1) = false := decide_eq_false (by omega)
          have d4 : decide ((k : Int) < x) = false := decide_eq_false (by omega)
          have d5 : decide (kk ≤ (k : Int) - x) = true := decide_eq_true e4
          go_wp2_with (at_builtin; go_must (refine wpList_append1 Try.sl26 rfl _ _ rfl w1.heap.size (.slice A2 N c2) N _ #[.int .i32 u.r, .string u.more, .int .i64 u.half, .int .i64 u.a.fk, .int .i64 u.a.fn, .int .i64 u.a.bk, .int .i64 u.a.bn, .int .i64 u.a.fl] wr 1 rfl rfl rfl HO.out rfl one8 (by simp only [maxLen]; omega) (by omega) HB.out.size ?_; intro A3 c3 w3 app; have O3 := hide (own_snoc u app.own rfl); have B3 := hide (app.below (HO.out.alloc _) (HB.out.alloc HB.out.size _) (Nat.le_refl _) (Nat.le_trans HB.out.size (by simp)))))
          go_roundg (n - (k + 1))
          case measure => omega
          case rel => exact ⟨k + 1, N + 1, A3, c3, by omega, by omega, hN1, rfl, by go_num, by rw [HE.out, List.length_append, HN.out]; rfl, by rw [HE.out]; exact O3.out, B3.out⟩
      · have HE := hide (delK_go HU.out (X := X) (K := K) (by omega) (by omega))
        have d1 : decide (x < 0) = false := decide_eq_false (by omega)
        have d2 : decide ((n : Int) ≤ x) = false := decide_eq_false (by omega)
        have d3 : decide (kk < 1) = false := decide_eq_false (by omega)
        have d4 : decide ((k : Int) < x) = false := decide_eq_false (by omega)
        have d5 : decide (kk ≤ (k : Int) - x) = false := decide_eq_false (by omega)
        have ex0 : 0 ≤ x := by omega
        have ex1 : x ≤ k := by omega
        clear hst hgo
        go_wp2
        go_roundg (n - (k + 1))
        case measure => omega
        case rel => exact ⟨k + 1, N, A2, c2, by omega, by omega, hNn, rfl, by go_num, by rw [HE.out]; exact HN.out, by rw [HE.out]; exact HO.out, HB.out⟩
    · obtain rfl : k = n := by omega
      have d1 : decide (k < k) = false := by simp
      have hNK : N + K = k := by
        have := delK_len (X := X) (K := K) (j := k) (m := m) (by rw [HM.out]; omega)
        rw [HN.out] at this
        omega
      have k2z := Nat.lt_of_lt_of_le k1z HB.out.size
      clear hgo
      go_wp2
      go_loopg [10] k (fun gg s2 wx => ∃ (j N2 : Nat) (A3 : Option Addr) (c3 : Nat), j ≤ K ∧ N + j = N2 ∧ k - N2 ≤ gg ∧ s2 = .slice A3 N2 c3 ∧ Hid (wx.ownsRow w1.heap.size 40 8 (.slice A3 N2 c3) N2 ((delK X K k m ++ List.replicate j (blankC bk bn)).flatMap cellE)) ∧ Hid (Below w1.heap.size w1 wx))
      case atStart => exact ⟨0, N, A2, c2, by omega, rfl, by omega, rfl, by rw [List.replicate_zero, List.append_nil]; exact HO.out, HB.out⟩
      case round =>
        obtain ⟨j, N2, A3, c3, hjK, hN2, hgj, rfl, HO2, HB2⟩ := hrel
        by_cases hlt : N2 < k
        · have d2 : decide (N2 < k) = true := by simpa using hlt
          have HN2 := hide hN2
          have KB := hide (S1.out.2.2.below HB2.out k1z)
          have b0 := KB.out.cell 0
          have b1 := KB.out.cell 1
          simp at b0 b1
          have hjK2 : j + 1 ≤ K := by omega
          have HR := hide (show delK X K k m ++ List.replicate (j + 1) (blankC bk bn) = (delK X K k m ++ List.replicate j (blankC bk bn)) ++ [blankC bk bn] by rw [List.replicate_succ', List.append_assoc])
          clear hN2 hNK
          go_wp2_with (first
            | (go_at_call 25; go_must (refine (BL.out _).mono ?_; rintro e w2 ⟨rfl, b2⟩; have O2 := hide (own_call HO2.out b2); have B2 := hide (below_in HB2.out b2 (Nat.le_refl _)); clear b2))
            | (at_builtin; go_must (refine wpList_append1 Try.sl26 rfl _ _ rfl w1.heap.size (.slice A3 N2 c3) N2 _ #[.int .i32 0, .string { data := #[] }, .int .i64 0, .int .i64 0, .int .i64 0, .int .i64 bk, .int .i64 bn, .int .i64 0] w2 1 rfl rfl rfl O2.out rfl one8 (by simp only [maxLen]; omega) (by omega) B2.out.size ?_; intro A4 c4 w3 app; have O3 := hide (own_snoc (blankC bk bn) app.own rfl); have B3 := hide (app.below (O2.out.alloc _) (B2.out.alloc B2.out.size _) (Nat.le_refl _) (Nat.le_trans B2.out.size (by simp))))))
          go_roundg (k - (N2 + 1))
          case measure => omega
          case rel => exact ⟨j + 1, N2 + 1, A4, c4, by omega, by have := HN2.out; omega, by omega, rfl, by rw [HR.out]; exact O3.out, B3.out⟩
        · obtain rfl : N2 = k := by omega
          obtain rfl : j = K := by omega
          have d2 : decide (N2 < N2) = false := by simp
          have M2 := hide (RM.out _ _ _ w1 _ HO2.out)
          have BW := hide (below_in S1.out.2.1 HB2.out (Nat.le_refl _))
          clear hN2 hNK
          go_wp2_with (go_at_call 21; go_must (refine (M2.out).mono ?_; rintro e w3 ⟨A5, c5, rfl, o3, h3, b3⟩))
          go_ret
          rw [← HFIN.out]
          exact ⟨A5, c5, rfl, own_le o3 BW.out.size, h3, below_in BW.out b3 (Nat.le_refl _)⟩
end Go.Proofs.Ytoaeadjihpbhgaa
