/-
  RankOf, walked. No condition but the arguments' kinds.
-/
import Derived.Test.YtndnjdocdfjmcaaLawT
namespace Go.Proofs.Ytndnjdocdfjmcaa
open Go.RowKit Go.Proofs
set_option linter.unusedVariables false
theorem lk_del (L : List Ent) (t : ByteArray) : lk (delM L t) t = none := by
  cases h : lk (delM L t) t with
  | none => rfl
  | some e =>
    obtain ⟨h1, h2⟩ := lk_some h
    have := (List.mem_filter.1 h1).2
    rw [h2] at this
    simp at this
set_option maxRecDepth 100000 in
set_option maxHeartbeats 8000000 in
theorem rankOf_walk (w : World) (m : Int) (wm : (Lit.int .u8 m).wf = true) (A : Option Addr) (n c : Nat) (ls : List ByteArray) (hl : ls.length = n) (hnc : n ≤ c) (hcm : c ≤ maxLen) (ha : Rd w w.heap.size 1 A n (ls.map Value.string)) (hq : ∀ x ∈ ls, x.size ≤ maxLen) (t : ByteArray) (wt : t.size ≤ maxLen) :
    Calls Try.prog 6 #[.int .u8 m, .slice A n c, .string t] w fun e w' => e = .returned (.bool true) ∧ Below w.heap.size w w' := by
  have bm := bounds_u8 wm
  obtain ⟨m', rfl⟩ : ∃ m' : Nat, m = m' := ⟨m.toNat, by omega⟩
  have GR := hide (fun (W : World) => great_any A n c W)
  by_cases hg : 100 < n
  · have d1 : decide (100 < n) = true := by simpa using hg
    rw [d1] at GR
    clear ha hq hl hg
    go_enter Try.func6, Try.ntmps6
    go_wp2_with (first
      | (go_at_call 9; go_must (refine (GR.out _).mono ?_; rintro e w1 ⟨rfl, hw1⟩; obtain rfl := hw1.symm))
      | (go_at_call 10; go_must (refine (awake_any _).mono ?_; rintro e w2 ⟨rfl, b2⟩)))
    go_ret
    exact ⟨rfl, b2⟩
  · have d1 : decide (100 < n) = false := by simpa using hg
    rw [d1] at GR
    have MD := hide (fun (W : World) (hb : Below w.heap.size w W) => made_any m' (by omega) A n c ls W ((ha.below hb).more hb.size) hq (by omega))
    obtain ⟨k0, hk0⟩ : ∃ k0, 1 + m' % 20 = k0 := ⟨_, rfl⟩
    have hk2 : k0 ≤ 20 := by omega
    rw [hk0] at MD
    clear ha hq hl hg hk0
    go_enter Try.func6, Try.ntmps6
    go_upto_region 7 with (first
      | (go_at_call 9; go_must (refine (GR.out _).mono ?_; rintro e w1 ⟨rfl, hw1⟩; obtain rfl := hw1.symm))
      | (go_at_call 10; go_must (refine (awake_any _).mono ?_; rintro e w2 ⟨rfl, b2⟩; have B2 := hide b2; clear b2))
      | (go_at_call 17; go_must (refine (MD.out _ B2.out).mono ?_; rintro e w3 ⟨X, b, Y, uses, L, rfl, bo, hu, b3⟩; have BO := hide bo; have B3 := hide (below_in B2.out b3 (Nat.le_refl _)); clear bo b3)))
    go_name_world W4 hW4
    have D4 := hide (show Below w3.heap.size w3 W4 by rw [← hW4]; exact (Below.refl _ _).alloc (Nat.le_refl _) _)
    have E4 := hide (show Blk W4 w3.heap.size 55 (entC zeroE) by rw [← hW4]; exact Blk.new _ _ _)
    have BO4 := hide (BO.out.call D4.out)
    have B4 := hide (below_in B3.out D4.out (Nat.le_refl _))
    have hL := BO.out.len
    have hLL := hide hL
    have PW := hide (show L.Pairwise (fun a b => a.text ≠ b.text) by obtain ⟨_, M, _, hi⟩ := BO.out.led; exact hi.pw)
    obtain ⟨AY, nY, cY, y1, y2⟩ := BO.out.ref
    have hln := own_len entE_len (by omega) y2
    subst hln
    have Y1 := hide (y1.below D4.out y1.lt)
    have Y2 := hide (own_call y2 D4.out)
    have hYO := hide (show Y ≠ w3.heap.size from fun e => by have := BO.out.ref.lt; omega)
    have hRO := hide (show ∀ k, (Value.slice AY L.length cY).ownBlock = some k → k ≠ w3.heap.size from fun k hk e => by have := (y2.lt k hk).2; omega)
    obtain ⟨ll, hll⟩ : ∃ ll, L.length = ll := ⟨_, rfl⟩
    rw [hll] at Y1 Y2 hL hRO
    have HLL := hide hll
    clear hW4 y1 y2 hll
    go_wp2_with fail
    go_loopg [10, 11] ll (fun g s10 s11 wr => ∃ i : Nat, i + g = ll ∧ s11 = .int .i64 i ∧ s10 = .bool (lk (L.take i) t).isSome ∧ Hid (Blk wr w3.heap.size 55 (entC ((lk (L.take i) t).getD zeroE))) ∧ Hid (Frm (fun k => k = w3.heap.size) W4 wr))
    case atStart => exact ⟨0, by omega, rfl, rfl, E4.out, Frm.refl _ _⟩
    case round =>
      obtain ⟨i, hig, rfl, rfl, HE, HF⟩ := hrel
      have XR := hide (Y1.out.frm HF.out hYO.out)
      have OR := hide (own_frm Y2.out HF.out (fun k hk e => hRO.out k hk e))
      have x2 := XR.out.cell 2
      simp only [List.getElem?_toArray, List.getElem?_cons_succ, List.getElem?_cons_zero] at x2
      by_cases hlt : i < ll
      · obtain ⟨b1, off, x, hA, hbB, hx, q0, q1, q2⟩ := ent_at (Rd.of_own OR.out) hlt
        subst hA
        have HD := lk_snoc (t := t) hx PW.out
        have fz := fun j => HE.out.frozen j
        have o0 := HE.out.cell 0
        have o1 := HE.out.cell 1
        have o2 := HE.out.cell 2
        simp only [List.getElem?_toArray, List.getElem?_cons_succ, List.getElem?_cons_zero] at o0 o1 o2
        clear hx
        by_cases hxt : x.text = t
        · have st := str_eq hxt
          rw [if_pos hxt] at HD
          have HD := hide HD
          clear hxt
          have E5 := hide (blk_three HE.out (.string x.text) (.int .i64 x.cnt) (.int .i64 x.last))
          have F5 := hide (HF.out.trans (frm_three (g := w3.heap.size) (.string x.text) (.int .i64 x.cnt) (.int .i64 x.last)) (fun k _ e => e))
          go_wp2_with fail
          go_roundg (ll - (i + 1))
          case measure => omega
          case rel => exact ⟨i + 1, by omega, by go_num, by rw [HD.out]; rfl, by rw [HD.out]; exact E5.out, F5.out⟩
        · have st := str_ne hxt
          rw [if_neg hxt] at HD
          have HD := hide HD
          clear hxt o0 o1 o2 fz
          go_wp2_with fail
          go_roundg (ll - (i + 1))
          case measure => omega
          case rel => exact ⟨i + 1, by omega, by go_num, by rw [HD.out], by rw [HD.out]; exact HE.out, HF.out⟩
      · obtain rfl : i = ll := by omega
        have HT := hide (show L.take i = L from List.take_of_length_le (by rw [HLL.out]; exact Nat.le_refl _))
        rw [HT.out] at HE
        rw [HT.out]
        have LD := hide (show Led wr X b k0 uses L from BO4.out.led.frm HF.out (fun e => by have := BO.out.led.lt.1; omega) (fun e => by have := BO.out.led.lt.2; omega))
        have RF := hide (show RefL wr Y w2.heap.size k0 uses L from ⟨AY, i, cY, XR.out, OR.out⟩)
        have hw3 := hide B3.out.size
        have Bq := hide (B4.out.trans (HF.out.to_below B4.out.size (fun k (e : k = w3.heap.size) => by have := hw3.out; omega)))
        have OF := hide (of_led wr t wt LD.out)
        have FG := hide (fun (W : World) (hL : Led W X b k0 uses L) => forget_led W t wt hL)
        have hX := hide (Nat.le_trans B2.out.size BO.out.hX)
        have hb9 := hide (Nat.le_trans B2.out.size BO.out.hb)
        have hY := hide (Nat.le_trans B2.out.size BO.out.hY)
        have hb2 := hide (show w2.heap.size ≤ wr.heap.size from Nat.le_trans BO.out.hB (Nat.le_trans D4.out.size HF.out.size))
        have hdl := hide (show (delM L t).length ≤ 20 by have := del_len (L := L) (t := t); have := HLL.out; omega)
        obtain ⟨e0, he0⟩ : ∃ e0, (lk L t).getD zeroE = e0 := ⟨_, rfl⟩
        obtain ⟨ok, hok⟩ : ∃ ok, (lk L t).isSome = ok := ⟨_, rfl⟩
        rw [he0] at OF HE
        rw [hok] at OF FG
        rw [hok]
        unfold entA at OF
        have hneq := ent_neq e0
        clear he0 hok hlt
        go_upto_region 13 with (go_at_call 13; go_must (refine (OF.out).mono ?_; rintro e v1 ⟨rfl, bb⟩; have C1 := hide bb; clear bb))
        go_name_world W5 hW5
        have D5 := hide (show Below v1.heap.size v1 W5 by rw [← hW5]; exact (Below.refl _ _).alloc (Nat.le_refl _) _)
        have C5 := hide (show Below wr.heap.size wr W5 from below_in C1.out D5.out (Nat.le_refl _))
        have V5 := hide (show Blk W5 v1.heap.size 31 (entC e0) by rw [← hW5]; exact Blk.new _ _ _)
        have E5 := hide (HE.out.below C5.out HE.out.lt)
        have L5 := hide (LD.out.call C5.out)
        have R5 := hide (RF.out.call C5.out)
        have B5 := hide (below_in Bq.out C5.out (Nat.le_refl _))
        have o0 := E5.out.cell 0
        have o1 := E5.out.cell 1
        have o2 := E5.out.cell 2
        have v0 := V5.out.cell 0
        have v1' := V5.out.cell 1
        have v2 := V5.out.cell 2
        simp only [List.getElem?_toArray, List.getElem?_cons_succ, List.getElem?_cons_zero] at o0 o1 o2 v0 v1' v2
        clear hW5 x2
        go_upto_region 17 with (first
          | (go_at_call 20; go_must (refine (FG.out W5 L5.out).mono ?_; rintro e w6 ⟨rfl, l6, f6⟩; have L6 := hide l6; have R6 := hide (ref_keep R5.out L5.out f6); have B6 := hide (B5.out.trans (ls_below f6 B5.out.size hX.out hb9.out)); have DR := hide (drop_ref w6 t R6.out (Nat.le_trans hb2.out (Nat.le_trans C5.out.size f6.size)) (by have := HLL.out; omega)); clear l6 f6))
          | (go_at_call 21; go_must (refine (DR.out).mono ?_; rintro e w7 ⟨⟨bb, rfl⟩, r7, f7⟩; have R7 := hide r7; have L7 := hide (led_keep L6.out R6.out f7); have B7 := hide (B6.out.trans (f7.to_below B6.out.size (fun k (e : k = Y) => by have := hY.out; omega))); have O2 := of_led w7 t wt L7.out; rw [lk_del] at O2; unfold entA at O2; have O2 := hide O2; clear r7 f7))
          | (go_at_call 13; go_must (refine (O2.out).mono ?_; rintro e w8 ⟨rfl, bb⟩; have R8 := hide (R7.out.call bb); have L8 := hide (L7.out.call bb); have B8 := hide (below_in B7.out bb (Nat.le_refl _)); clear bb)))
        go_name_world W9 hW9
        have D9 := hide (show Below w8.heap.size w8 W9 by rw [← hW9]; exact (Below.refl _ _).alloc (Nat.le_refl _) _)
        have L9 := hide (L8.out.call D9.out)
        have R9 := hide (R8.out.call D9.out)
        have B9 := hide (below_in B8.out D9.out (Nat.le_refl _))
        clear hW9 o0 o1 o2 v0 v1' v2 hneq
        obtain ⟨L', hL'⟩ : ∃ L', delM L t = L' := ⟨_, rfl⟩
        rw [hL'] at L9 R9 hdl
        obtain ⟨AZ, nZ, cZ, z1, z2⟩ := R9.out
        have hYl := z1.lt
        have x2 := z1.cell 2
        simp only [List.getElem?_toArray, List.getElem?_cons_succ, List.getElem?_cons_zero] at x2
        have Z2 := hide z2
        have T2 := hide (fun (W : World) (hW : Below W9.heap.size W9 W) => show Calls Try.prog 15 #[.pointer (some ⟨X, 0, none⟩), .int .i64 1000] W (RetSlice 31 3 (L'.flatMap entE) W) from by have := top_led W 1000 (L9.out.call hW) (by omega); rwa [top_all 1000 L' (by have := hdl.out; omega)] at this)
        have S2 := hide (fun (A1 A2 : Option Addr) (n1 n2 c1 c2 B1 B2 : Nat) (W : World) (h1 : Rd W B1 3 A1 n1 (L'.flatMap entE)) (h2 : Rd W B2 3 A2 n2 (L'.flatMap entE)) => same_ents L' A1 A2 n1 n2 c1 c2 W h1 h2 (by have := h1.len entE_len (by omega); have := hdl.out; omega))
        clear z1 z2 hL'
        go_region_held3 (fun W => W.cell? ⟨Y, 2, none⟩ = some (.slice AZ nZ cZ))
          (first | (exact x2) | (exact z5) | (exact z4) | go_keep)
          (first
            | (go_at_call 18; (refine (S2.out A4 AZ n4 nZ c4 cZ _ _ _ (Rd.of_own O4.out) (Rd.of_own (own_call Z2.out D4'))).mono ?_); rintro e u5 ⟨rfl, bb⟩; have D5' := below_in D4' bb (Nat.le_refl _); have z5 := (D5'.cell (p := ⟨Y, 2, none⟩) hYl).trans x2; clear bb)
            | (go_at_call 15; (refine (T2.out _ (Below.refl W9.heap.size W9).drew).mono ?_); rintro e u4 ⟨A4, n4, c4, rfl, o4, bb⟩; have D4' := below_in (Below.refl W9.heap.size W9).drew bb (Nat.le_refl _); have O4 := hide o4; have z4 := (D4'.cell (p := ⟨Y, 2, none⟩) hYl).trans x2; clear bb o4))
        go_wp2_with fail
        go_ret
        exact ⟨rfl, below_in B9.out D5' (Nat.le_refl _)⟩
end Go.Proofs.Ytndnjdocdfjmcaa
