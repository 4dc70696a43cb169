/-
  The document's Use, walked. No condition but bounds.
-/
import Derived.Test.YtndnjdocdfjmcaaRefU
namespace Go.Proofs.Ytndnjdocdfjmcaa
open Go.RowKit Go.Proofs
set_option linter.unusedVariables false
theorem one_ents (l : List Ent) : ∀ u ∈ l.flatMap entE, u.oneCell' = true := by
  intro u hu
  obtain ⟨e, _, he⟩ := List.mem_flatMap.1 hu
  unfold entE at he
  simp at he
  rcases he with rfl | rfl | rfl <;> rfl
set_option maxRecDepth 100000 in
set_option maxHeartbeats 8000000 in
theorem use_ref {Y base most uses : Nat} {L : List Ent} (w : World) (t : ByteArray) (h0 : t ≠ ⟨#[]⟩) (h : RefL w Y base most uses L) (hY : base ≤ Y) (hb : base ≤ w.heap.size) (hpw : L.Pairwise (fun a b => a.text ≠ b.text)) (hc : ∀ x ∈ L, x.cnt ≤ 100000) (hl : L.length ≤ most) (hm : 1 ≤ most) (hm2 : most ≤ 10000) (hu : uses ≤ 100000) :
    Calls Try.prog 26 #[.pointer (some ⟨Y, 0, none⟩), .string t] w fun e w' => e = .returned (.tuple #[]) ∧ RefL w' Y base most (uses + 1) (useL most uses L t) ∧ Frm (fun k => k = Y) w w' := by
  have hs1 := str_ne h0
  have hs2 : t.toList.isEmpty = false := by
    cases hl : t.toList with
    | nil => rw [ByteArray.toList_eq] at hl; exact absurd (data_inj (b := ⟨#[]⟩) (by rw [hl])) h0
    | cons _ _ => rfl
  obtain ⟨A, n, c, h1, h2⟩ := h
  have hln := own_len entE_len (by omega) h2
  have H1 := hide h1
  have H2 := hide h2
  have HL := hide hln
  have PW := hide hpw
  have HC := hide hc
  have hn : n ≤ most := by omega
  obtain ⟨u1, hu1⟩ : ∃ u, uses + 1 = u := ⟨_, rfl⟩
  have hu2 : (uses : Int) + 1 = u1 := by omega
  have hu3 : IntKind.i64.wrap (u1 : Int) = u1 := IntWalk.i64_in _ ⟨by omega, by omega⟩
  have HU := hide hu1
  have x0 := h1.cell 0
  have x1 := h1.cell 1
  have x2 := h1.cell 2
  have fz := fun j => h1.frozen j
  simp at x0 x1 x2
  have F1 := hide (show Frm (fun k => k = Y) w (w.setCell ⟨Y, 1, none⟩ (.int .i64 u1)) from Frm.setCell (S := fun k => k = Y) (Frm.refl _ w) (p := ⟨Y, 1, none⟩) (fun _ => rfl) _)
  have X1 := hide (show Blk (w.setCell ⟨Y, 1, none⟩ (.int .i64 u1)) Y 53 #[.int .i64 most, .int .i64 u1, .slice A n c] from h1.set_ 1 _)
  have O1 := hide (own_far (p := ⟨Y, 1, none⟩) h2 (own_ne h2 h1 (by decide)) (.int .i64 u1))
  clear h0 h1 h2 hln hpw hc hu hu1 hl
  go_enter Try.func26, Try.ntmps26
  go_upto_region 3 with (fail)
  go_name_world W3 hW3
  have D3 := hide (show Below (w.setCell ⟨Y, 1, none⟩ (.int .i64 u1)).heap.size (w.setCell ⟨Y, 1, none⟩ (.int .i64 u1)) W3 by rw [← hW3]; exact (Below.refl _ _).alloc (Nat.le_refl _) _)
  have E3 := hide (show Blk W3 w.heap.size 55 #[.string t, .int .i64 1, .int .i64 u1] by rw [← hW3]; exact Blk.new' (by simp [World.setCell]) _ _)
  have X3 := hide (X1.out.below D3.out X1.out.lt)
  have O3 := hide (own_call O1.out D3.out)
  have F3 := hide (frm_call F1.out D3.out)
  have hEY := hide (show w.heap.size ≠ Y from fun e => by have := H1.out.lt; omega)
  have hW3z := hide (show w.heap.size < W3.heap.size from E3.out.lt)
  have NR := hide (show ∀ k, (Value.slice A n c).ownBlock = some k → k < w.heap.size from fun k hk => (H2.out.lt k hk).2)
  clear hW3 x0 x1 x2 fz
  go_wp2_with fail
  go_loopg [5] n (fun g s5 wr => ∃ (i : Nat), i + g = n ∧ s5 = .int .i64 i ∧ Hid (Blk wr w.heap.size 55 #[.string t, .int .i64 ((((lk (L.take i) t).getD zeroE).cnt + 1 : Nat) : Int), .int .i64 u1]) ∧ Hid (Frm (fun k => k = w.heap.size) W3 wr))
  case atStart => exact ⟨0, by omega, rfl, by exact E3.out, Frm.refl _ _⟩
  case round =>
    obtain ⟨i, hig, rfl, HE, HF⟩ := hrel
    have XR := hide (X3.out.frm HF.out (fun e => hEY.out e.symm))
    have OR := hide (own_frm O3.out HF.out (fun k hk e => by have := NR.out k hk; omega))
    have x2 := XR.out.cell 2
    have e1 := HE.out.cell 1
    have fz := fun j => HE.out.frozen j
    simp only [List.getElem?_toArray, List.getElem?_cons_succ, List.getElem?_cons_zero] at x2 e1
    by_cases hlt : i < n
    · obtain ⟨b, off, x, rfl, hbB, hx, q0, q1, q2⟩ := ent_at (Rd.of_own OR.out) hlt
      have HD := lk_snoc (t := t) hx PW.out
      have hxc := HC.out x (List.mem_of_getElem? hx)
      clear hx
      by_cases hxt : x.text = t
      · have st := str_eq hxt
        rw [if_pos hxt] at HD
        have HD := hide HD
        obtain ⟨c1, hc1⟩ : ∃ c, x.cnt + 1 = c := ⟨_, rfl⟩
        have hc2 : (x.cnt : Int) + 1 = c1 := by omega
        have hc3 : IntKind.i64.wrap (c1 : Int) = c1 := IntWalk.i64_in _ ⟨by omega, by omega⟩
        have HC1 := hide hc1
        have E4 := hide (show Blk (wr.setCell ⟨w.heap.size, 1, none⟩ (.int .i64 c1)) w.heap.size 55 #[.string t, .int .i64 c1, .int .i64 u1] by simpa using HE.out.set_ 1 (.int .i64 c1))
        have F4 := hide (Frm.setCell (S := fun k => k = w.heap.size) HF.out (p := ⟨w.heap.size, 1, none⟩) (fun _ => rfl) (.int .i64 c1))
        clear hxt hc1
        go_wp2_with fail
        go_roundg (n - (i + 1))
        case measure => omega
        case rel => exact ⟨i + 1, by omega, by go_num, by rw [HD.out, Option.getD_some, HC1.out]; exact E4.out, F4.out⟩
      · have st := str_ne hxt
        rw [if_neg hxt] at HD
        have HD := hide HD
        clear hxt
        go_wp2_with fail
        go_roundg (n - (i + 1))
        case measure => omega
        case rel => exact ⟨i + 1, by omega, by go_num, by rw [HD.out]; exact HE.out, HF.out⟩
    · obtain rfl : i = n := by omega
      have HT := hide (show L.take i = L from List.take_of_length_le (by rw [HL.out]; exact Nat.le_refl _))
      rw [HT.out] at HE e1
      obtain ⟨E, hE⟩ : ∃ E : Ent, (⟨t, ((lk L t).getD zeroE).cnt + 1, u1⟩ : Ent) = E := ⟨_, rfl⟩
      have HEE := hide hE
      have HEB := hide (show Blk wr w.heap.size 55 (entC E) by rw [← hE]; exact HE.out)
      clear hE e1 HE
      have FW := hide (show Frm (fun k => k = Y) w wr from F3.out.trans HF.out (fun k hk e => by omega))
      have hbr := hide (show base ≤ wr.heap.size from Nat.le_trans hb FW.out.size)
      have DR := hide (drop_ref (most := most) (uses := u1) wr t ⟨A, i, c, XR.out, OR.out⟩ hbr.out (by rw [← HL.out]; omega))
      obtain ⟨L1, hL1⟩ : ∃ L1, delM L t = L1 := ⟨_, rfl⟩
      rw [hL1] at DR
      have HL1 := hide hL1
      have hl1 : L1.length ≤ most := by rw [← hL1]; exact Nat.le_trans del_len (by rw [← HL.out]; exact hn)
      clear hL1 fz
      go_wp2_with (go_at_call 21; go_must (refine (DR.out).mono ?_; rintro e9 w4 ⟨⟨b9, rfl⟩, ⟨A4, n4, c4, x4, o4⟩, f4⟩; have X4 := hide x4; have O4 := hide o4; have F4 := hide f4; have y0 := x4.cell 0; have y2 := x4.cell 2; have fz := fun j => x4.frozen j; simp at y0 y2; clear x4 o4 f4))
      have hn4 : n4 = L1.length := own_len entE_len (by omega) O4.out
      have HN4 := hide hn4
      have hn5 : n4 ≤ most := by omega
      have hW4 := F4.out.size
      have E4 := hide (HEB.out.frm F4.out hEY.out)
      have FW4 := hide (show Frm (fun k => k = Y) w w4 from FW.out.trans F4.out (fun k _ e => e))
      clear hn4 x2
      go_quiet (fail)
      go_upto_if 64 with (fail)
      go_cut [7] (fun s7 wc => ∃ (n5 c5 : Nat), n5 ≤ most ∧ Hid (Blk wc Y 53 #[.int .i64 most, .int .i64 u1, .slice A4 n5 c5]) ∧ Hid (wc.ownsRow base 55 3 (.slice A4 n5 c5) n5 ((if L1.length = most then L1.take (most - 1) else L1).flatMap entE)) ∧ Hid (Frm (fun k => k = Y) w4 wc))
      case first =>
        by_cases hfull : n4 = most
        · obtain ⟨m1, hm1⟩ : ∃ m1, most - 1 = m1 := ⟨_, rfl⟩
          have hm3 : (most : Int) - 1 = m1 := by omega
          have hm5 : IntKind.i64.wrap (m1 : Int) = m1 := IntWalk.i64_in _ ⟨by omega, by omega⟩
          have hcap := (own_cap O4.out).1
          have sl := fun W => cut_h (P := Try.prog) (t := 50) (a := A4) (len := n4) (cap := c4) (s := 3) (e := 55) (by kernel_rfl) (by kernel_rfl) m1 (H := (m1 : Int)) rfl (by omega) W
          rw [cutA_zero] at sl
          have q1 : (n4 == most) = true := by simpa using hfull
          have q2 : ((n4 : Int) == (most : Int)) = true := by simp; omega
          have HIF := hide (show (if L1.length = most then L1.take (most - 1) else L1) = L1.take m1 by rw [if_pos (by rw [← HN4.out]; exact hfull), hm1])
          have hm4 := hide (show m1 ≤ most by omega)
          have OF := hide (show w4.ownsRow base 55 3 (.slice A4 m1 c4) m1 ((L1.take m1).flatMap entE) by
            have := own_front O4.out (k := m1) (by omega)
            rwa [flat_take entE_len] at this)
          have hi1 : (0 : Int) ≤ m1 := by omega
          have hi2 : (m1 : Int) ≤ c4 := by omega
          clear hfull hm1 hn5 hcap
          go_upto_region 10 with (fail)
          go_name_world W4n hW4n
          have X4n := hide (show Blk W4n Y 53 #[.int .i64 most, .int .i64 u1, .slice A4 n4 c4] by rw [← hW4n]; exact X4.out.drewN _)
          have O4n := hide (show W4n.ownsRow base 55 3 (.slice A4 m1 c4) m1 ((L1.take m1).flatMap entE) by rw [← hW4n]; exact own_drewN OF.out _)
          have F4n := hide (show Frm (fun k => k = Y) w4 W4n by rw [← hW4n]; exact (Frm.refl _ w4).drewN _)
          clear hW4n y0 y2 fz
          have y0 := X4n.out.cell 0
          have y2 := X4n.out.cell 2
          have fz := fun j => X4n.out.frozen j
          simp at y0 y2
          go_still_tail 13, (by kernel_rfl)
          obtain ⟨W5, hW5⟩ : ∃ W5, W5 = W4n.drew := ⟨_, rfl⟩
          change wpList _ _ _ _ _ W4n.drew
          rw [← hW5]
          have X5 := hide (show Blk W5 Y 53 #[.int .i64 most, .int .i64 u1, .slice A4 n4 c4] by rw [hW5]; exact X4n.out)
          have O5 := hide (show W5.ownsRow base 55 3 (.slice A4 m1 c4) m1 ((L1.take m1).flatMap entE) by rw [hW5]; exact O4n.out)
          have F5 := hide (show Frm (fun k => k = Y) w4 W5 by rw [hW5]; exact F4n.out.drew)
          clear hW5 y0 y2 fz
          have y0 := X5.out.cell 0
          have y2 := X5.out.cell 2
          have fz := fun j => X5.out.frozen j
          simp at y0 y2
          go_wp2_with fail
          go_meet
          refine ⟨m1, c4, hm4.out, X5.out.set_ 2 _, ?_, Frm.setCell (S := fun k => k = Y) F5.out (p := ⟨Y, 2, none⟩) (fun _ => rfl) _⟩
          rw [HIF.out]
          exact own_far (p := ⟨Y, 2, none⟩) O5.out (own_ne O5.out X5.out (by decide)) _
        · have q1 : (n4 == most) = false := by simpa using hfull
          have q2 : ((n4 : Int) == (most : Int)) = false := by rw [beq_eq_false_iff_ne]; omega
          have HIF := hide (show (if L1.length = most then L1.take (most - 1) else L1) = L1 by rw [if_neg (by rw [← HN4.out]; exact hfull)])
          clear hfull
          go_wp2_with fail
          go_meet
          refine ⟨n4, c4, hn5, X4.out.drewN _, ?_, (Frm.refl _ w4).drewN _⟩
          rw [HIF.out]
          exact own_drewN O4.out _
      case rest =>
        obtain ⟨n5, c5, hn6, X6, O6, F6⟩ := hcut
        obtain ⟨L2, hL2⟩ : ∃ L2, (if L1.length = most then L1.take (most - 1) else L1) = L2 := ⟨_, rfl⟩
        rw [hL2] at O6
        have HL2 := hide hL2
        have hn7 := hide (own_len entE_len (by omega) O6.out)
        have E6 := hide (E4.out.frm F6.out hEY.out)
        have FW6 := hide (show Frm (fun k => k = Y) w wc from FW4.out.trans F6.out (fun k _ e => e))
        have hbc := hide (show base ≤ wc.heap.size from Nat.le_trans hb FW6.out.size)
        have FIN := hide (show useL most uses L t = insE E L2 by unfold useL; rw [HL1.out, HL2.out, ← HEE.out, HU.out])
        clear hL2 y0 y2 fz hn5
        go_wp2_with fail
        go_loopg [6, 7] n5 (fun g s6 s7 wr => ∃ (k : Nat) (A7 : Option Addr) (c7 : Nat), k + g = n5 ∧ s7 = .int .i64 k ∧ s6 = .slice A7 k c7 ∧ Hid (∀ x ∈ L2.take k, betB x E = true) ∧ Hid (wr.ownsRow wc.heap.size 55 3 (.slice A7 k c7) k ((L2.take k).flatMap entE)) ∧ Hid (Below wc.heap.size wc wr))
        case atStart => exact ⟨0, none, 0, by omega, rfl, rfl, (fun x hx => by simp at hx), ⟨rfl, .inl ⟨rfl, rfl⟩⟩, Below.refl _ _⟩
        case round =>
          obtain ⟨k, A7, c7, hkg, rfl, rfl, HBT, HO, HB⟩ := hrel
          have XR := hide (X6.out.below HB.out X6.out.lt)
          have OR := hide (own_call O6.out HB.out)
          have ER := hide (E6.out.below HB.out E6.out.lt)
          have x2 := XR.out.cell 2
          have e0 := ER.out.cell 0
          have e1 := ER.out.cell 1
          have e2 := ER.out.cell 2
          simp only [List.getElem?_toArray, List.getElem?_cons_succ, List.getElem?_cons_zero] at x2 e0 e1 e2
          by_cases hlt : k < n5
          · obtain ⟨b, off, x, hA, hbB, hx, q0, q1, q2⟩ := ent_at (Rd.of_own OR.out) hlt
            have d1 : decide ((k : Int) < (n5 : Int)) = true := by simp; omega
            have d2 : decide (k < n5) = true := by simpa using hlt
            have i1 : (0 : Int) ≤ k := by omega
            have i2 : (k : Int) < n5 := by omega
            have BT := hide (fun (W : World) => rbetter_any x E W)
            have HX := hide hx
            have HTS := hide (take_snoc hx)
            have zY := XR.out.lt
            have zE := ER.out.lt
            have hzr := HB.out.size
            unfold entA at BT
            clear hx
            subst hA
            cases hbt : betB x E with
            | true =>
              rw [hbt] at BT
              have HBE := hide hbt
              clear hbt
              go_wp2_with fail
              go_region_held3 (fun W => W.cell? ⟨Y, 2, none⟩ = some (.slice (some ⟨b, off, none⟩) n5 c5) ∧ W.cell? ⟨b, off + k * 3, none⟩ = some (.string x.text) ∧ W.cell? ⟨b, off + k * 3 + 1, none⟩ = some (.int .i64 x.cnt) ∧ W.cell? ⟨b, off + k * 3 + 2, none⟩ = some (.int .i64 x.last) ∧ W.cell? ⟨w.heap.size, 0, none⟩ = some (.string E.text) ∧ W.cell? ⟨w.heap.size, 1, none⟩ = some (.int .i64 E.cnt) ∧ W.cell? ⟨w.heap.size, 2, none⟩ = some (.int .i64 E.last))
                (first | (exact ⟨x2, q0, q1, q2, e0, e1, e2⟩) | (exact ⟨z2, z3, z4, z5, z6, z7, z8⟩) | go_keep)
                ((go_at_call 32; (refine (BT.out _).mono ?_); rintro e9 v1 ⟨rfl, b1⟩; have z2 := (b1.cell (p := ⟨Y, 2, none⟩) zY).trans x2; have z3 := (b1.cell (p := ⟨b, off + k * 3, none⟩) hbB).trans q0; have z4 := (b1.cell (p := ⟨b, off + k * 3 + 1, none⟩) hbB).trans q1; have z5 := (b1.cell (p := ⟨b, off + k * 3 + 2, none⟩) hbB).trans q2; have z6 := (b1.cell (p := ⟨w.heap.size, 0, none⟩) zE).trans e0; have z7 := (b1.cell (p := ⟨w.heap.size, 1, none⟩) zE).trans e1; have z8 := (b1.cell (p := ⟨w.heap.size, 2, none⟩) zE).trans e2))
              have C1 := hide (show Below wr.heap.size wr v1 from below_in (Below.refl _ _).drew b1 (Nat.le_refl _))
              have O1 := hide (own_call HO.out C1.out)
              have B1 := hide (below_in HB.out C1.out (Nat.le_refl _))
              have hz1 := hide (show wc.heap.size ≤ v1.heap.size from B1.out.size)
              go_wp2_with (at_builtin; go_must (refine wpList_append1 Try.sl50 rfl _ _ rfl wc.heap.size (.slice A7 k c7) k _ #[.string x.text, .int .i64 x.cnt, .int .i64 x.last] v1 1 rfl rfl rfl O1.out rfl (three_cell rfl rfl rfl) (by simp only [maxLen]; omega) (by omega) hz1.out ?_; intro A8 c8 w8 app; have O8 := hide (own_snocE x app.own rfl); have B8 := hide (app.below (O1.out.alloc _) (B1.out.alloc hz1.out _) (Nat.le_refl _) (by have := hz1.out; simp; omega)); clear app))
              go_roundg (n5 - (k + 1))
              case measure => omega
              case rel =>
                refine ⟨k + 1, A8, c8, by omega, by go_num, rfl, ?_, by rw [HTS.out]; exact O8.out, B8.out⟩
                show ∀ y ∈ L2.take (k + 1), _
                rw [HTS.out]
                intro y hy
                rcases List.mem_append.1 hy with hy | hy
                · exact HBT.out y hy
                · rw [List.mem_singleton] at hy; rw [hy]; exact HBE.out
            | false =>
              rw [hbt] at BT
              have HBE := hide hbt
              clear hbt
              go_wp2_with fail
              go_region_held3 (fun W => W.cell? ⟨Y, 2, none⟩ = some (.slice (some ⟨b, off, none⟩) n5 c5) ∧ W.cell? ⟨b, off + k * 3, none⟩ = some (.string x.text) ∧ W.cell? ⟨b, off + k * 3 + 1, none⟩ = some (.int .i64 x.cnt) ∧ W.cell? ⟨b, off + k * 3 + 2, none⟩ = some (.int .i64 x.last) ∧ W.cell? ⟨w.heap.size, 0, none⟩ = some (.string E.text) ∧ W.cell? ⟨w.heap.size, 1, none⟩ = some (.int .i64 E.cnt) ∧ W.cell? ⟨w.heap.size, 2, none⟩ = some (.int .i64 E.last))
                (first | (exact ⟨x2, q0, q1, q2, e0, e1, e2⟩) | (exact ⟨z2, z3, z4, z5, z6, z7, z8⟩) | go_keep)
                ((go_at_call 32; (refine (BT.out _).mono ?_); rintro e9 v1 ⟨rfl, b1⟩; have z2 := (b1.cell (p := ⟨Y, 2, none⟩) zY).trans x2; have z3 := (b1.cell (p := ⟨b, off + k * 3, none⟩) hbB).trans q0; have z4 := (b1.cell (p := ⟨b, off + k * 3 + 1, none⟩) hbB).trans q1; have z5 := (b1.cell (p := ⟨b, off + k * 3 + 2, none⟩) hbB).trans q2; have z6 := (b1.cell (p := ⟨w.heap.size, 0, none⟩) zE).trans e0; have z7 := (b1.cell (p := ⟨w.heap.size, 1, none⟩) zE).trans e1; have z8 := (b1.cell (p := ⟨w.heap.size, 2, none⟩) zE).trans e2))
              have C1 := hide (show Below wr.heap.size wr v1 from below_in (Below.refl _ _).drew b1 (Nat.le_refl _))
              have O1 := hide (own_call HO.out C1.out)
              have B1 := hide (below_in HB.out C1.out (Nat.le_refl _))
              clear z2 z3 z4 z5 z6 z7 z8 x2 q0 q1 q2 e0 e1 e2
              have E1 := hide (ER.out.below C1.out ER.out.lt)
              have XX1 := hide (XR.out.below C1.out XR.out.lt)
              have e0 := E1.out.cell 0
              have e1 := E1.out.cell 1
              have e2 := E1.out.cell 2
              simp only [List.getElem?_toArray, List.getElem?_cons_succ, List.getElem?_cons_zero] at e0 e1 e2
              have sl := fun W => cut_l (P := Try.prog) (t := 50) (a := some ⟨b, off, none⟩) (len := n5) (cap := c5) (s := 3) Try.underlying50 (by kernel_rfl) k (L := (k : Int)) rfl (by omega) W
              have hcap := (own_cap O6.out).1
              have RD := (Rd.of_own O6.out).cutA (k := k) (cap := c5) (by omega) hcap
              rw [flat_drop entE_len] at RD
              have HRD := hide RD
              obtain ⟨D, hD⟩ : ∃ D, cutA (some ⟨b, off, none⟩) c5 k 3 = D := ⟨_, rfl⟩
              obtain ⟨n9, hn9⟩ : ∃ n9, n5 - k = n9 := ⟨_, rfl⟩
              obtain ⟨c9, hc9⟩ : ∃ c9, c5 - k = c9 := ⟨_, rfl⟩
              rw [hD, hn9] at HRD
              rw [hD, hn9, hc9] at sl
              have HN9 := hide (show k + 1 + n9 = n5 + 1 by omega)
              have hk9 : k + 1 + n9 ≤ 10001 := by omega
              have HSP := hide (show insE E L2 = L2.take k ++ E :: L2.drop k from insE_split HBT.out (fun y hy => by rw [HX.out] at hy; injection hy with hy; rw [← hy]; exact HBE.out) (by rw [← hn7.out]; omega))
              have hi1 : (0 : Int) ≤ k := by omega
              have hi2 : (k : Int) ≤ n5 := by omega
              have hzw := hide (show wc.heap.size ≤ v1.heap.size from B1.out.size)
              clear hD hn9 hc9 hcap RD
              go_wp2_with (first
                | (at_builtin; refine wpList_append1 Try.sl50 rfl _ _ rfl wc.heap.size (.slice A7 k c7) k _ #[.string E.text, .int .i64 E.cnt, .int .i64 E.last] v1 1 rfl rfl rfl O1.out rfl (three_cell rfl rfl rfl) (by simp only [maxLen]; omega) (by omega) hzw.out ?_; intro A8 c8 w8 app; have O8 := hide (own_snocE E app.own rfl); have B8 := hide (app.below (O1.out.alloc _) (B1.out.alloc hzw.out _) (Nat.le_refl _) (by have := hzw.out; simp; omega)); have X8 := hide (X6.out.below B8.out X6.out.lt); have x8 := X8.out.cell 2; have fz := fun j => X8.out.frozen j; have RD8 := hide (HRD.out.below B8.out); simp only [List.getElem?_toArray, List.getElem?_cons_succ, List.getElem?_cons_zero] at x8; clear app)
                | (at_builtin; refine wpList_appends Try.sl50 rfl _ _ rfl wc.heap.size (.slice A8 (k + 1) c8) (k + 1) _ w8 _ D n9 c9 ((L2.drop k).flatMap entE) rfl rfl O8.out RD8.out (one_ents _) (by simp only [maxLen]; omega) (by omega) B8.out.size ?_; intro A9 c9' w9 app; have O9 := hide app.own; have B9 := hide (app.below O8.out B8.out (Nat.le_refl _) B8.out.size); have X9 := hide (X6.out.below B9.out X6.out.lt); have x9 := X9.out.cell 2; have fz9 := fun j => X9.out.frozen j; simp only [List.getElem?_toArray, List.getElem?_cons_succ, List.getElem?_cons_zero] at x9; clear app))
              go_end0
              refine ⟨rfl, ⟨A9, k + 1 + n9, c9', by rw [HU.out]; exact X9.out.set_ 2 _, ?_⟩, Frm.setCell (S := fun k => k = Y) (frm_call FW6.out B9.out) (p := ⟨Y, 2, none⟩) (fun _ => rfl) _⟩
              have o9 := own_far (p := ⟨Y, 2, none⟩) O9.out (own_ne O9.out X9.out (by decide)) (.slice A9 (k + 1 + n9) c9')
              rw [FIN.out, HSP.out]
              have e9 : (L2.take k ++ [E]).flatMap entE ++ (L2.drop k).flatMap entE = (L2.take k ++ E :: L2.drop k).flatMap entE := by simp
              rw [e9] at o9
              exact own_mono o9 hbc.out
          · obtain rfl : k = n5 := by omega
            go_wp2_with fail
            go_quiet (fail)
            go_upto_region 16 with (fail)
            go_name_world V hV
            have C1 := hide (show Below wr.heap.size wr V by rw [← hV]; exact below_drewN' (Below.refl _ _) _)
            have O1 := hide (own_call HO.out C1.out)
            have B1 := hide (below_in HB.out C1.out (Nat.le_refl _))
            have E1 := hide (ER.out.below C1.out ER.out.lt)
            clear hV x2 e0 e1 e2
            have e0 := E1.out.cell 0
            have e1 := E1.out.cell 1
            have e2 := E1.out.cell 2
            simp only [List.getElem?_toArray, List.getElem?_cons_succ, List.getElem?_cons_zero] at e0 e1 e2
            have sl := fun W => cut_l (P := Try.prog) (t := 50) (a := A4) (len := k) (cap := c5) (s := 3) Try.underlying50 (by kernel_rfl) k (L := (k : Int)) rfl (by omega) W
            have hcap := (own_cap O6.out).1
            have RD := (Rd.of_own O6.out).cutA (k := k) (cap := c5) (by omega) hcap
            rw [flat_drop entE_len] at RD
            have HRD := hide RD
            obtain ⟨D, hD⟩ : ∃ D, cutA (A4) c5 k 3 = D := ⟨_, rfl⟩
            obtain ⟨n9, hn9⟩ : ∃ n9, k - k = n9 := ⟨_, rfl⟩
            obtain ⟨c9, hc9⟩ : ∃ c9, c5 - k = c9 := ⟨_, rfl⟩
            rw [hD, hn9] at HRD
            rw [hD, hn9, hc9] at sl
            have HN9 := hide (show k + 1 + n9 = k + 1 by omega)
            have hk9 : k + 1 + n9 ≤ 10001 := by omega
            have HSP := hide (show insE E L2 = L2.take k ++ E :: L2.drop k from insE_split HBT.out (fun y hy => by rw [List.getElem?_eq_none (by rw [← hn7.out]; exact Nat.le_refl _)] at hy; cases hy) (by rw [← hn7.out]; omega))
            have hi1 : (0 : Int) ≤ k := by omega
            have hi2 : (k : Int) ≤ k := by omega
            have hzw := hide (show wc.heap.size ≤ V.heap.size from B1.out.size)
            clear hD hn9 hc9 hcap RD
            go_wp2_with (first
              | (at_builtin; refine wpList_append1 Try.sl50 rfl _ _ rfl wc.heap.size (.slice A7 k c7) k _ #[.string E.text, .int .i64 E.cnt, .int .i64 E.last] V 1 rfl rfl rfl O1.out rfl (three_cell rfl rfl rfl) (by simp only [maxLen]; omega) (by omega) hzw.out ?_; intro A8 c8 w8 app; have O8 := hide (own_snocE E app.own rfl); have B8 := hide (app.below (O1.out.alloc _) (B1.out.alloc hzw.out _) (Nat.le_refl _) (by have := hzw.out; simp; omega)); have X8 := hide (X6.out.below B8.out X6.out.lt); have x8 := X8.out.cell 2; have fz := fun j => X8.out.frozen j; have RD8 := hide (HRD.out.below B8.out); simp only [List.getElem?_toArray, List.getElem?_cons_succ, List.getElem?_cons_zero] at x8; clear app)
              | (at_builtin; refine wpList_appends Try.sl50 rfl _ _ rfl wc.heap.size (.slice A8 (k + 1) c8) (k + 1) _ w8 _ D n9 c9 ((L2.drop k).flatMap entE) rfl rfl O8.out RD8.out (one_ents _) (by simp only [maxLen]; omega) (by omega) B8.out.size ?_; intro A9 c9' w9 app; have O9 := hide app.own; have B9 := hide (app.below O8.out B8.out (Nat.le_refl _) B8.out.size); have X9 := hide (X6.out.below B9.out X6.out.lt); have x9 := X9.out.cell 2; have fz9 := fun j => X9.out.frozen j; simp only [List.getElem?_toArray, List.getElem?_cons_succ, List.getElem?_cons_zero] at x9; clear app))
            go_end0
            refine ⟨rfl, ⟨A9, k + 1 + n9, c9', by rw [HU.out]; exact X9.out.set_ 2 _, ?_⟩, Frm.setCell (S := fun k => k = Y) (frm_call FW6.out B9.out) (p := ⟨Y, 2, none⟩) (fun _ => rfl) _⟩
            have o9 := own_far (p := ⟨Y, 2, none⟩) O9.out (own_ne O9.out X9.out (by decide)) (.slice A9 (k + 1 + n9) c9')
            rw [FIN.out, HSP.out]
            have e9 : (L2.take k ++ [E]).flatMap entE ++ (L2.drop k).flatMap entE = (L2.take k ++ E :: L2.drop k).flatMap entE := by simp
            rw [e9] at o9
            exact own_mono o9 hbc.out
end Go.Proofs.Ytndnjdocdfjmcaa
