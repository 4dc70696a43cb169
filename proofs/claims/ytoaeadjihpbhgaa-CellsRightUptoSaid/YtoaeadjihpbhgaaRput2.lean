/-
  The document's Put, walked. No condition but bounds. (printed by gen_rput.py)
-/
import Derived.Test.YtoaeadjihpbhgaaRput
namespace Go.Proofs.Ytoaeadjihpbhgaa
open Go.RowKit Go.Proofs
set_option linter.unusedVariables false
set_option maxRecDepth 100000 in
set_option maxHeartbeats 4000000 in
theorem rputc_any (l : List Cell) (n c B : Nat) (A : Option Addr) (x r : Int) (a : At8) (w : World) (hl : Rd w B 8 A n (l.flatMap cellE)) (hB : B ≤ w.heap.size) (hn : n ≤ 100000) :
    Calls Try.prog 26 #[.slice A n c, .int .i64 x, .int .i32 r, .agg #[.int .i64 a.fk, .int .i64 a.fn, .int .i64 a.bk, .int .i64 a.bn, .int .i64 a.fl]] w (RetRow (mendF (putIn x r a (mendF l))) n w) := by
  have M1 := hide (rmend_any l n c B A (w.alloc (.cells #[.int .i64 a.fk, .int .i64 a.fn, .int .i64 a.bk, .int .i64 a.bn, .int .i64 a.fl] 32)) (hl.alloc hB _) (by simp; omega) hn)
  have RM := hide (fun (l : List Cell) (c : Nat) (A : Option Addr) (W : World) (h : W.ownsRow w.heap.size 40 8 (.slice A n c) n (l.flatMap cellE)) => rmend_any l n c W.heap.size A W (Rd.of_own h) (Nat.le_refl _) hn)
  have hll := hl.len (E := cellE) (fun _ => rfl) (by omega)
  obtain ⟨m, hm0⟩ : ∃ m, mendF l = m := ⟨_, rfl⟩
  have HM := hide (show m.length = n by rw [← hm0, mendF_len]; exact hll)
  rw [hm0] at M1 ⊢
  have OF := hide (fun W => rof_any r W)
  obtain ⟨wd, hwd⟩ : ∃ wd, widOf r = wd := ⟨_, rfl⟩
  have hwb := widOf_bounds r
  rw [hwd] at OF hwb
  clear hl hll hm0
  -- behind the two calls
  have ST := hide (fun (A1 : Option Addr) (c1 : Nat) (w1 w2 : World) (o1 : w1.ownsRow (w.alloc (.cells #[.int .i64 a.fk, .int .i64 a.fn, .int .i64 a.bk, .int .i64 a.bn, .int .i64 a.fl] 32)).heap.size 40 8 (.slice A1 n c1) n (m.flatMap cellE)) (b1 : Below (w.alloc (.cells #[.int .i64 a.fk, .int .i64 a.fn, .int .i64 a.bk, .int .i64 a.bn, .int .i64 a.fl] 32)).heap.size (w.alloc (.cells #[.int .i64 a.fk, .int .i64 a.fn, .int .i64 a.bk, .int .i64 a.bn, .int .i64 a.fl] 32)) w1) (b2 : Below w1.heap.size w1 w2) =>
    And.intro (own_le (own_call o1 b2) (show w.heap.size + 1 ≤ (w.alloc (.cells #[.int .i64 a.fk, .int .i64 a.fn, .int .i64 a.bk, .int .i64 a.bn, .int .i64 a.fl] 32)).heap.size by simp)) (And.intro (below_in (((Below.refl w.heap.size w).alloc (Nat.le_refl _) (.cells #[.int .i64 a.fk, .int .i64 a.fn, .int .i64 a.bk, .int .i64 a.bn, .int .i64 a.fl] 32)).trans (b1.mono (by simp))) b2 (by have := b1.size; simp at this; omega))
      (show Blk w2 w.heap.size 32 #[.int .i64 a.fk, .int .i64 a.fn, .int .i64 a.bk, .int .i64 a.bn, .int .i64 a.fl] from ((Blk.new w 32 #[.int .i64 a.fk, .int .i64 a.fn, .int .i64 a.bk, .int .i64 a.bn, .int .i64 a.fl]).below b1 (by simp)).below b2 (by have := b1.size; simp at this; omega))))
  by_cases hone : wd = 1 ∧ 0 ≤ x ∧ x < n
  · obtain ⟨rfl, hx0, hxn⟩ := hone
    obtain ⟨k, rfl⟩ : ∃ k : Nat, x = k := ⟨x.toNat, by omega⟩
    have hkn : k < n := by omega
    have HP := hide (show putIn k r a m = m.set k ⟨r, { data := #[] }, 0, a⟩ by
      unfold putIn
      rw [hwd, if_pos ⟨rfl, by omega, by rw [HM.out]; omega⟩]
      simp)
    have d1 : decide ((0 : Int) ≤ k) = true := by simp
    have d2 : decide (k < n) = true := by simpa using hkn
    clear hwd hwb hxn hx0
    go_enter Try.func26, Try.ntmps26
    go_upto_region 4 with (first
      | (go_at_call 21; go_must (refine (M1.out).mono ?_; rintro e w1 ⟨A1, c1, rfl, o1, h1, b1⟩; have O1 := hide o1; have B1 := hide b1; clear o1 b1))
      | (go_at_call 42; go_must (refine (OF.out _).mono ?_; rintro e w2 ⟨rfl, b2⟩; have S2 := hide (ST.out A1 c1 w1 w2 O1.out B1.out b2); clear b2)))
    obtain ⟨o2, b2, k2⟩ := S2.out
    clear S2 O1 B1
    have bx0 := k2.cell 0
    have bx1 := k2.cell 1
    have bx2 := k2.cell 2
    have bx3 := k2.cell 3
    have bx4 := k2.cell 4
    simp at bx0 bx1 bx2 bx3 bx4
    rcases own_row o2 with ⟨rfl, rfl, rfl⟩ | ⟨g, T, rfl, hb, hr, hnc, hs, hm⟩
    · omega
    · obtain ⟨u, hu⟩ : ∃ u, m[k]? = some u := ⟨_, List.getElem?_eq_getElem (by rw [HM.out]; omega)⟩
      have e8 := hr.eight hu
      simp only [List.length_nil, Nat.zero_add] at e8
      obtain ⟨z0, z1, z2, z3, z4, z5, z6, z7⟩ := e8
      have f0 := fun i => hr.frozen i
      have r2 := hide (hr.set8 hu ⟨r, { data := #[] }, 0, a⟩ (o := k * 8) (by simp))
      have HS := hide (And.intro hb (And.intro hnc (And.intro hs hm)))
      have B2 := hide b2
      clear hr hb hs hm b2 hu o2 k2
      go_upto_region 8 with (fail)
      go_name_world W hW
      have OW := hide (show W.ownsRow w.heap.size 40 8 (.slice (some ⟨g, 0, none⟩) n c1) n ((putIn k r a m).flatMap cellE) by
        rw [← hW, HP.out]
        exact own_of_row (Nat.le_trans (Nat.le_succ _) HS.out.1) HS.out.2.1 HS.out.2.2.1 HS.out.2.2.2 HM.out (by simp; exact HM.out) r2.out)
      have BW := hide (show Below w.heap.size w W by rw [← hW]; exact B2.out.trans ((eight_frm (Frm.refl (fun k => k = g) w2) _ _ _ _ _ _ _ _).to_below B2.out.size (fun i e => by have e : i = g := e; rw [e]; exact Nat.le_trans (Nat.le_succ _) HS.out.1)))
      clear hW
      have M2 := hide (RM.out _ _ _ W OW.out)
      go_wp2_with (go_at_call 21; go_must (refine (M2.out).mono ?_; rintro e w3 ⟨A3, c3, rfl, o3, h3, b3⟩))
      go_ret
      exact ⟨A3, c3, rfl, own_le o3 BW.out.size, h3, below_in BW.out b3 (Nat.le_refl _)⟩
  · by_cases htwo : wd = 2 ∧ 0 ≤ x ∧ x + 1 < n
    · obtain ⟨rfl, hx0, hxn⟩ := htwo
      obtain ⟨k, rfl⟩ : ∃ k : Nat, x = k := ⟨x.toNat, by omega⟩
      obtain ⟨q, hq⟩ : ∃ q : Nat, k + 1 = q := ⟨_, rfl⟩
      have hqi : (k : Int) + 1 = q := by omega
      have hqn : q < n := by omega
      have hkn : k < n := by omega
      have HP := hide (show putIn k r a m = (m.set k ⟨r, { data := #[] }, 1, a⟩).set q ⟨r, { data := #[] }, 2, a⟩ by
        unfold putIn
        rw [hwd, if_neg (by omega), if_pos ⟨rfl, by omega, by rw [HM.out]; omega⟩, ← hq]
        rw [List.set_comm _ _ (by omega)]
        simp)
      have d1 : decide ((0 : Int) ≤ k) = true := by simp
      have d2 : decide ((k : Int) < (n : Int) - 1) = true := decide_eq_true (by omega)
      have HQ := hide hq
      clear hwd hwb hxn hx0 hone hq
      go_enter Try.func26, Try.ntmps26
      go_upto_region 6 with (first
        | (go_at_call 21; go_must (refine (M1.out).mono ?_; rintro e w1 ⟨A1, c1, rfl, o1, h1, b1⟩; have O1 := hide o1; have B1 := hide b1; clear o1 b1))
        | (go_at_call 42; go_must (refine (OF.out _).mono ?_; rintro e w2 ⟨rfl, b2⟩; have S2 := hide (ST.out A1 c1 w1 w2 O1.out B1.out b2); clear b2)))
      obtain ⟨o2, b2, k2⟩ := S2.out
      clear S2 O1 B1
      have bx0 := k2.cell 0
      have bx1 := k2.cell 1
      have bx2 := k2.cell 2
      have bx3 := k2.cell 3
      have bx4 := k2.cell 4
      simp at bx0 bx1 bx2 bx3 bx4
      rcases own_row o2 with ⟨rfl, rfl, rfl⟩ | ⟨g, T, rfl, hb, hr, hnc, hs, hm⟩
      · omega
      · obtain ⟨u, hu⟩ : ∃ u, m[k]? = some u := ⟨_, List.getElem?_eq_getElem (by rw [HM.out]; omega)⟩
        have e8 := hr.eight hu
        simp only [List.length_nil, Nat.zero_add] at e8
        obtain ⟨z0, z1, z2, z3, z4, z5, z6, z7⟩ := e8
        have f0 := fun i => hr.frozen i
        obtain ⟨v, hv⟩ : ∃ v, m[q]? = some v := ⟨_, List.getElem?_eq_getElem (by rw [HM.out]; omega)⟩
        have hv2 : (m.set k ⟨r, { data := #[] }, 1, a⟩)[q]? = some v := by rw [List.getElem?_set_ne (by have := HQ.out; omega)]; exact hv
        have HV := hide hv2
        have gz := hr.blk.lt
        have hbg : w.heap.size ≠ g := by omega
        have r2 := hide (hr.set8 hu ⟨r, { data := #[] }, 1, a⟩ (o := k * 8) (by simp))
        have HS := hide (And.intro hb (And.intro hnc (And.intro hs hm)))
        have B2 := hide b2
        have K2 := hide k2
        clear hr hb hs hm b2 hu hv hv2 o2 k2
        go_upto_region 7 with (fail)
        go_name_world W2 hW2
        have k3 : Blk W2 w.heap.size 32 #[.int .i64 a.fk, .int .i64 a.fn, .int .i64 a.bk, .int .i64 a.bn, .int .i64 a.fl] := by rw [← hW2]; exact K2.out.frm (eight_frm (Frm.refl (fun k => k = g) _) _ _ _ _ _ _ _ _) hbg
        have F3 := hide (show Frm (fun k => k = g) w2 W2 by rw [← hW2]; exact eight_frm (Frm.refl (fun k => k = g) _) _ _ _ _ _ _ _ _)
        have R3 : RowAt W2 g [] (m.set k ⟨r, { data := #[] }, 1, a⟩) T := by rw [← hW2]; exact r2.out
        clear hW2 bx0 bx1 bx2 bx3 bx4 z0 z1 z2 z3 z4 z5 z6 z7 f0
        have bx0 := k3.cell 0
        have bx1 := k3.cell 1
        have bx2 := k3.cell 2
        have bx3 := k3.cell 3
        have bx4 := k3.cell 4
        simp at bx0 bx1 bx2 bx3 bx4
        have e8 := R3.eight HV.out
        simp only [List.length_nil, Nat.zero_add] at e8
        obtain ⟨z0, z1, z2, z3, z4, z5, z6, z7⟩ := e8
        have f0 := fun i => R3.frozen i
        have r4 := hide (R3.set8 HV.out ⟨r, { data := #[] }, 2, a⟩ (o := q * 8) (by simp))
        clear R3 k3
        go_upto_region 8 with (fail)
        go_name_world W hW
        have OW := hide (show W.ownsRow w.heap.size 40 8 (.slice (some ⟨g, 0, none⟩) n c1) n ((putIn k r a m).flatMap cellE) by
          rw [← hW, HP.out]
          exact own_of_row (Nat.le_trans (Nat.le_succ _) HS.out.1) HS.out.2.1 HS.out.2.2.1 HS.out.2.2.2 HM.out (by simp; exact HM.out) r4.out)
        have BW := hide (show Below w.heap.size w W by rw [← hW]; exact B2.out.trans ((eight_frm F3.out _ _ _ _ _ _ _ _).to_below B2.out.size (fun i e => by have e : i = g := e; rw [e]; exact Nat.le_trans (Nat.le_succ _) HS.out.1)))
        clear hW
        have M2 := hide (RM.out _ _ _ W OW.out)
        go_wp2_with (go_at_call 21; go_must (refine (M2.out).mono ?_; rintro e w3 ⟨A3, c3, rfl, o3, h3, b3⟩))
        go_ret
        exact ⟨A3, c3, rfl, own_le o3 BW.out.size, h3, below_in BW.out b3 (Nat.le_refl _)⟩
    · have HP := hide (show putIn x r a m = m by unfold putIn; rw [hwd, HM.out, if_neg hone, if_neg htwo])
      have alt : (¬ wd = 1 ∧ ¬ wd = 2) ∨ (wd = 2 ∧ x < 0) ∨ (wd = 2 ∧ 0 ≤ x ∧ (n : Int) - 1 ≤ x) ∨ (wd = 1 ∧ x < 0) ∨ (wd = 1 ∧ 0 ≤ x ∧ n ≤ x) := by omega
      clear hwd hwb hone htwo
      rcases alt with ⟨e1, e2⟩ | ⟨rfl, e1⟩ | ⟨rfl, e0, e1⟩ | ⟨rfl, e1⟩ | ⟨rfl, e0, e1⟩
      · have d1 : (wd == 1) = false := by simpa using e1
        have d2 : (wd == 2) = false := by simpa using e2
        go_enter Try.func26, Try.ntmps26
        go_upto_region 8 with (first
          | (go_at_call 21; go_must (refine (M1.out).mono ?_; rintro e w1 ⟨A1, c1, rfl, o1, h1, b1⟩; have O1 := hide o1; have B1 := hide b1; clear o1 b1))
          | (go_at_call 42; go_must (refine (OF.out _).mono ?_; rintro e w2 ⟨rfl, b2⟩; have S2 := hide (ST.out A1 c1 w1 w2 O1.out B1.out b2); clear b2)))
        obtain ⟨o2, b2, k2⟩ := S2.out
        clear S2 O1 B1
        have OW := hide (own_le o2 (Nat.le_succ _))
        have BW := hide b2
        obtain ⟨W, hW⟩ : ∃ W, w2 = W := ⟨_, rfl⟩
        clear o2 b2 k2
        subst hW
        have M2 := hide (RM.out _ _ _ w2 OW.out)
        go_wp2_with (go_at_call 21; go_must (refine (M2.out).mono ?_; rintro e w3 ⟨A3, c3, rfl, o3, h3, b3⟩))
        go_ret
        rw [HP.out]
        exact ⟨A3, c3, rfl, own_le o3 BW.out.size, h3, below_in BW.out b3 (Nat.le_refl _)⟩
      · have d1 : decide (0 ≤ x) = false := by simpa using e1
        go_enter Try.func26, Try.ntmps26
        go_upto_region 8 with (first
          | (go_at_call 21; go_must (refine (M1.out).mono ?_; rintro e w1 ⟨A1, c1, rfl, o1, h1, b1⟩; have O1 := hide o1; have B1 := hide b1; clear o1 b1))
          | (go_at_call 42; go_must (refine (OF.out _).mono ?_; rintro e w2 ⟨rfl, b2⟩; have S2 := hide (ST.out A1 c1 w1 w2 O1.out B1.out b2); clear b2)))
        obtain ⟨o2, b2, k2⟩ := S2.out
        clear S2 O1 B1
        have OW := hide (own_le o2 (Nat.le_succ _))
        have BW := hide b2
        obtain ⟨W, hW⟩ : ∃ W, w2 = W := ⟨_, rfl⟩
        clear o2 b2 k2
        subst hW
        have M2 := hide (RM.out _ _ _ w2 OW.out)
        go_wp2_with (go_at_call 21; go_must (refine (M2.out).mono ?_; rintro e w3 ⟨A3, c3, rfl, o3, h3, b3⟩))
        go_ret
        rw [HP.out]
        exact ⟨A3, c3, rfl, own_le o3 BW.out.size, h3, below_in BW.out b3 (Nat.le_refl _)⟩
      · obtain ⟨k, rfl⟩ : ∃ k : Nat, x = k := ⟨x.toNat, by omega⟩
        have d1 : decide ((0 : Int) ≤ k) = true := by simp
        have d2 : decide ((k : Int) < (n : Int) - 1) = false := decide_eq_false (by omega)
        go_enter Try.func26, Try.ntmps26
        go_upto_region 8 with (first
          | (go_at_call 21; go_must (refine (M1.out).mono ?_; rintro e w1 ⟨A1, c1, rfl, o1, h1, b1⟩; have O1 := hide o1; have B1 := hide b1; clear o1 b1))
          | (go_at_call 42; go_must (refine (OF.out _).mono ?_; rintro e w2 ⟨rfl, b2⟩; have S2 := hide (ST.out A1 c1 w1 w2 O1.out B1.out b2); clear b2)))
        obtain ⟨o2, b2, k2⟩ := S2.out
        clear S2 O1 B1
        have OW := hide (own_le o2 (Nat.le_succ _))
        have BW := hide b2
        obtain ⟨W, hW⟩ : ∃ W, w2 = W := ⟨_, rfl⟩
        clear o2 b2 k2
        subst hW
        have M2 := hide (RM.out _ _ _ w2 OW.out)
        go_wp2_with (go_at_call 21; go_must (refine (M2.out).mono ?_; rintro e w3 ⟨A3, c3, rfl, o3, h3, b3⟩))
        go_ret
        rw [HP.out]
        exact ⟨A3, c3, rfl, own_le o3 BW.out.size, h3, below_in BW.out b3 (Nat.le_refl _)⟩
      · have d1 : decide (0 ≤ x) = false := by simpa using e1
        go_enter Try.func26, Try.ntmps26
        go_upto_region 8 with (first
          | (go_at_call 21; go_must (refine (M1.out).mono ?_; rintro e w1 ⟨A1, c1, rfl, o1, h1, b1⟩; have O1 := hide o1; have B1 := hide b1; clear o1 b1))
          | (go_at_call 42; go_must (refine (OF.out _).mono ?_; rintro e w2 ⟨rfl, b2⟩; have S2 := hide (ST.out A1 c1 w1 w2 O1.out B1.out b2); clear b2)))
        obtain ⟨o2, b2, k2⟩ := S2.out
        clear S2 O1 B1
        have OW := hide (own_le o2 (Nat.le_succ _))
        have BW := hide b2
        obtain ⟨W, hW⟩ : ∃ W, w2 = W := ⟨_, rfl⟩
        clear o2 b2 k2
        subst hW
        have M2 := hide (RM.out _ _ _ w2 OW.out)
        go_wp2_with (go_at_call 21; go_must (refine (M2.out).mono ?_; rintro e w3 ⟨A3, c3, rfl, o3, h3, b3⟩))
        go_ret
        rw [HP.out]
        exact ⟨A3, c3, rfl, own_le o3 BW.out.size, h3, below_in BW.out b3 (Nat.le_refl _)⟩
      · obtain ⟨k, rfl⟩ : ∃ k : Nat, x = k := ⟨x.toNat, by omega⟩
        have d1 : decide ((0 : Int) ≤ k) = true := by simp
        have d2 : decide (k < n) = false := decide_eq_false (by omega)
        go_enter Try.func26, Try.ntmps26
        go_upto_region 8 with (first
          | (go_at_call 21; go_must (refine (M1.out).mono ?_; rintro e w1 ⟨A1, c1, rfl, o1, h1, b1⟩; have O1 := hide o1; have B1 := hide b1; clear o1 b1))
          | (go_at_call 42; go_must (refine (OF.out _).mono ?_; rintro e w2 ⟨rfl, b2⟩; have S2 := hide (ST.out A1 c1 w1 w2 O1.out B1.out b2); clear b2)))
        obtain ⟨o2, b2, k2⟩ := S2.out
        clear S2 O1 B1
        have OW := hide (own_le o2 (Nat.le_succ _))
        have BW := hide b2
        obtain ⟨W, hW⟩ : ∃ W, w2 = W := ⟨_, rfl⟩
        clear o2 b2 k2
        subst hW
        have M2 := hide (RM.out _ _ _ w2 OW.out)
        go_wp2_with (go_at_call 21; go_must (refine (M2.out).mono ?_; rintro e w3 ⟨A3, c3, rfl, o3, h3, b3⟩))
        go_ret
        rw [HP.out]
        exact ⟨A3, c3, rfl, own_le o3 BW.out.size, h3, below_in BW.out b3 (Nat.le_refl _)⟩
end Go.Proofs.Ytoaeadjihpbhgaa
