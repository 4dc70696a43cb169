/-
  RankBounds, walked. No condition but the arguments' kinds.
-/
import Derived.Test.YtndnjdocdfjmcaaLawT
namespace Go.Proofs.Ytndnjdocdfjmcaa
open Go.RowKit Go.Proofs
set_option linter.unusedVariables false
/-- A ledger without an empty text. -/
def Full (L : List Ent) : Prop := ∀ x ∈ L, x.text ≠ ⟨#[]⟩
theorem use_mem {most uses : Nat} {L : List Ent} {t : ByteArray} {x : Ent} (h : x ∈ useL most uses L t) : x.text = t ∨ x ∈ L := by
  unfold useL at h
  rcases insE_mem.1 h with rfl | h
  · exact .inl rfl
  · right
    split at h
    · exact (List.mem_filter.1 (List.mem_of_mem_take h)).1
    · exact (List.mem_filter.1 h).1
theorem use_full_ne {most uses : Nat} {L : List Ent} {t : ByteArray} (h : Full L) (ht : t ≠ ⟨#[]⟩) : Full (useL most uses L t) := by
  intro x hx
  rcases use_mem hx with e | e
  · rw [e]; exact ht
  · exact h x e
theorem use_there {most uses : Nat} {L : List Ent} {t : ByteArray} : (lk (useL most uses L t) t).isSome = true := by
  cases h : lk (useL most uses L t) t with
  | some _ => rfl
  | none =>
    exact absurd rfl (lk_none h ⟨t, ((lk L t).getD zeroE).cnt + 1, uses + 1⟩ (by unfold useL; exact insE_mem.2 (.inl rfl)))
theorem full_none {L : List Ent} (h : Full L) : (lk L ⟨#[]⟩).isSome = false := by
  cases hl : lk L ⟨#[]⟩ with
  | none => rfl
  | some e => exact absurd (lk_some hl).2 (h e (lk_some hl).1)
theorem Led.len {w : World} {X b most uses : Nat} {L : List Ent} (h : Led w X b most uses L) : L.length ≤ most := by obtain ⟨_, M, _, hi⟩ := h; exact hi.len
set_option maxRecDepth 100000 in
set_option maxHeartbeats 8000000 in
theorem rankBounds_walk (w : World) (m : Int) (wm : (Lit.int .u8 m).wf = true) (A : Option Addr) (n c : Nat) (ls : List ByteArray) (hl : ls.length = n) (hnc : n ≤ c) (hcm : c ≤ maxLen) (ha : Rd w w.heap.size 1 A n (ls.map Value.string)) (hq : ∀ x ∈ ls, x.size ≤ maxLen) :
    Calls Try.prog 3 #[.int .u8 m, .slice A n c] w fun e w' => e = .returned (.bool true) ∧ Below w.heap.size w w' := by
  have bm := bounds_u8 wm
  obtain ⟨m', rfl⟩ : ∃ m' : Nat, m = m' := ⟨m.toNat, by omega⟩
  have GR := hide (fun (W : World) => great_any A n c W)
  by_cases hg : 100 < n
  · have d1 : decide (100 < n) = true := by simpa using hg
    rw [d1] at GR
    clear ha hq hl hg
    go_enter Try.func3, Try.ntmps3
    go_wp2_with (first
      | (go_at_call 9; go_must (refine (GR.out _).mono ?_; rintro e w1 ⟨rfl, hw1⟩; obtain rfl := hw1.symm))
      | (go_at_call 10; go_must (refine (awake_any _).mono ?_; rintro e w2 ⟨rfl, b2⟩)))
    go_ret
    exact ⟨rfl, b2⟩
  · have d1 : decide (100 < n) = false := by simpa using hg
    rw [d1] at GR
    obtain ⟨k0, hk0⟩ : ∃ k0, 1 + m' % 20 = k0 := ⟨_, rfl⟩
    have hk1 : (m' : Int) % 20 = ((m' % 20 : Nat) : Int) := by omega
    have hk2 : 1 ≤ k0 ∧ k0 ≤ 20 := by omega
    obtain ⟨r0, hr0⟩ : ∃ r0, m' % 20 = r0 := ⟨_, rfl⟩
    rw [hr0] at hk0 hk1
    have hk3 : (1 : Int) + r0 = k0 := by omega
    have hk4 : (m' : Int).tmod 20 = r0 := by rw [Int.tmod_eq_emod_of_nonneg (by omega)]; exact hk1
    have hk5 : IntKind.i64.wrap (k0 : Int) = k0 := IntWalk.i64_in _ ⟨by omega, by omega⟩
    have hk6 : IntKind.i64.wrap (r0 : Int) = r0 := IntWalk.i64_in _ ⟨by omega, by omega⟩
    have N1 := hide (fun (W : World) => new_any k0 W hk2.1 (by omega))
    have HR := hide ha
    have HQ := hide hq
    have hn : n ≤ 100 := by omega
    clear ha hq hl hg hr0 hk0
    go_enter Try.func3, Try.ntmps3
    go_wp2_with (first
      | (go_at_call 9; go_must (refine (GR.out _).mono ?_; rintro e w1 ⟨rfl, hw1⟩; obtain rfl := hw1.symm))
      | (go_at_call 10; go_must (refine (awake_any _).mono ?_; rintro e w2 ⟨rfl, b2⟩; have B2 := hide b2; clear b2))
      | (go_at_call 11; go_must (refine (N1.out _).mono ?_; rintro e w3 ⟨rfl, l3, b3⟩; have L3 := hide l3; have B3 := hide (below_in B2.out b3 (Nat.le_refl _)); clear l3 b3)))
    obtain ⟨X, hX⟩ : ∃ X, w2.heap.size + 1 = X := ⟨_, rfl⟩
    obtain ⟨b, hb⟩ : ∃ b, w2.heap.size = b := ⟨_, rfl⟩
    have hX9 := hide (show w.heap.size ≤ X by have := B2.out.size; omega)
    have hb9 := hide (show w.heap.size ≤ b by have := B2.out.size; omega)
    rw [hX, hb] at L3
    try rw [hX]
    clear hX hb
    go_loopg [8] n (fun g s8 wr => ∃ (i uses : Nat) (L : List Ent), i + g = n ∧ s8 = .int .i64 i ∧ uses ≤ i ∧ Hid (Led wr X b k0 uses L) ∧ Hid (Full L) ∧ Hid (Below w.heap.size w wr))
    case atStart => exact ⟨0, 0, [], by omega, rfl, Nat.le_refl _, L3.out, (fun x hx => by cases hx), B3.out⟩
    case round =>
      clear L3 B3
      obtain ⟨i, uses, L, hig, rfl, hui, LD, FL, HB⟩ := hrel
      by_cases hlt : i < n
      · obtain ⟨b1, off, x, rfl, hb1, hx, cx⟩ := (HR.out).at1 hlt
        have hxs := hide (HQ.out x (List.mem_of_getElem? hx))
        have cx0 := hide cx
        have cx1 := (HB.out.cell (p := ⟨b1, off + i, none⟩) hb1).trans cx
        clear hx cx
        by_cases hx0 : x = ⟨#[]⟩
        · subst hx0
          have st := str_eq (a := ⟨#[]⟩) (b := ⟨#[]⟩) rfl
          have UE := hide (fun (W : World) => use_empty (some ⟨X, 0, none⟩) W)
          have OF := of_led wr ⟨#[]⟩ (Nat.zero_le _) LD.out
          rw [full_none FL.out] at OF
          obtain ⟨e0, he0⟩ : ∃ e0, (lk L ⟨#[]⟩).getD zeroE = e0 := ⟨_, rfl⟩
          rw [he0] at OF
          unfold entA at OF
          have OF := hide OF
          have LN := hide (fun (W : World) (hL : Led W X b k0 uses L) => len_led W hL)
          have hle := LD.out.len
          obtain ⟨ll, hll⟩ : ∃ ll, L.length = ll := ⟨_, rfl⟩
          rw [hll] at LN hle
          have d2 : decide ((k0 : Int) < ll) = false := by simp; omega
          have d3 : decide (k0 < ll) = false := by simp; omega
          clear he0 hll
          go_wp2_with (first
            | (go_at_call 12; go_must (refine (UE.out _).mono ?_; rintro e w4 ⟨rfl, rfl⟩))
            | (go_at_call 13; go_must (refine (OF.out).mono ?_; rintro e w5 ⟨rfl, bb⟩; have D5 := hide (bb.alloc bb.size (.cells (entC e0) 31)); have L5 := hide (LD.out.call D5.out); have B5 := hide (below_in HB.out D5.out (Nat.le_refl _)); have cx5 := (B5.out.cell (p := ⟨b1, off + i, none⟩) hb1).trans cx0.out; have LN5 := hide (LN.out _ L5.out); clear bb))
            | (go_at_call 14; go_must (refine (LN5.out).mono ?_; rintro e w6 ⟨rfl, rfl⟩)))
          go_roundg (n - (i + 1))
          case measure => omega
          case rel => exact ⟨i + 1, uses, L, by omega, by go_num, by omega, L5.out, FL.out, B5.out⟩
        · have st := str_ne hx0
          have hne := hide hx0
          have st2 : x.toList.isEmpty = false := by
            cases hl : x.toList with
            | nil => rw [ByteArray.toList_eq] at hl; exact absurd (data_inj (b := ⟨#[]⟩) (by rw [hl])) hx0
            | cons _ _ => rfl
          have C1 := hide (use_led wr x hxs.out hx0 LD.out (by omega) (by omega) (by omega))
          obtain ⟨L', hL'⟩ : ∃ L', useL k0 uses L x = L' := ⟨_, rfl⟩
          have FL2 := hide (show Full L' by rw [← hL']; exact use_full_ne FL.out hx0)
          have TH := hide (show (lk L' x).isSome = true by rw [← hL']; exact use_there)
          rw [hL'] at C1
          obtain ⟨e0, he0⟩ : ∃ e0, (lk L' x).getD zeroE = e0 := ⟨_, rfl⟩
          have OF := hide (fun (W : World) (hL : Led W X b k0 (uses + 1) L') => show Calls Try.prog 13 #[.pointer (some ⟨X, 0, none⟩), .string x] W fun e w' => e = .returned (.tuple #[.agg #[.string e0.text, .int .i64 e0.cnt, .int .i64 e0.last], .bool true]) ∧ Below W.heap.size W w' from by have := of_led W x hxs.out hL; rw [TH.out, he0] at this; exact this)
          obtain ⟨ll, hll⟩ : ∃ ll, L'.length = ll := ⟨_, rfl⟩
          have LN := hide (fun (W : World) (hL : Led W X b k0 (uses + 1) L') => show Calls Try.prog 14 #[.pointer (some ⟨X, 0, none⟩)] W fun e w' => e = .returned (.int .i64 ll) ∧ w' = W from by have := len_led W hL; rwa [hll] at this)
          have HLL := hide hll
          clear hx0 hL' he0 hll
          go_upto_region 11 with (go_at_call 12; go_must (refine (C1.out).mono ?_; rintro e w4 ⟨rfl, l4, f4⟩; have L4 := hide l4; have B4 := hide (HB.out.trans (ls_below f4 HB.out.size hX9.out hb9.out)); have cx4 := (B4.out.cell (p := ⟨b1, off + i, none⟩) hb1).trans cx0.out; have OF4 := hide (OF.out w4 l4); clear l4 f4))
          have hle := L4.out.len
          rw [HLL.out] at hle
          have d2 : decide ((k0 : Int) < ll) = false := by simp; omega
          have d3 : decide (k0 < ll) = false := by simp; omega
          go_wp2_with (first
            | (go_at_call 13; go_must (refine (OF4.out).mono ?_; rintro e w5 ⟨rfl, bb⟩; have D5 := hide (bb.alloc bb.size (.cells (entC e0) 31)); have L5 := hide (L4.out.call D5.out); have B5 := hide (below_in B4.out D5.out (Nat.le_refl _)); have cx5 := (B5.out.cell (p := ⟨b1, off + i, none⟩) hb1).trans cx0.out; have LN5 := hide (LN.out _ L5.out); clear bb))
            | (go_at_call 14; go_must (refine (LN5.out).mono ?_; rintro e w6 ⟨rfl, rfl⟩)))
          go_roundg (n - (i + 1))
          case measure => omega
          case rel => exact ⟨i + 1, uses + 1, L', by omega, by go_num, by omega, L5.out, FL2.out, B5.out⟩
      · obtain rfl : i = n := by omega
        have TP := hide (show Calls Try.prog 15 #[.pointer (some ⟨X, 0, none⟩), .int .i64 k0] wr (RetSlice 31 3 (L.flatMap entE) wr) from by have := top_led wr k0 LD.out (by omega); rwa [top_all k0 L (by have := LD.out.len; omega)] at this)
        have hle := LD.out.len
        have HS := hide LD.out.srt
        have LN := hide (fun (W : World) (hW : Below wr.heap.size wr W) => len_led W (LD.out.call hW))
        go_wp2_with (go_at_call 15; go_must (refine (TP.out).mono ?_; rintro e w7 ⟨A7, n7, c7, rfl, o7, b7⟩; have O7 := hide o7; have B7 := hide (below_in HB.out b7 (Nat.le_refl _)); have C7 := hide b7; clear o7 b7))
        have hn7 : n7 = L.length := own_len entE_len (by omega) O7.out
        rw [← hn7] at LN
        have HN7 := hide hn7
        have hn8 : n7 ≤ 20 := by omega
        clear hn7 hle
        go_loopg [12] (n7 - 1) (fun g s12 wr => ∃ i : Nat, 1 ≤ i ∧ n7 - i = g ∧ s12 = .int .i64 i ∧ Hid (Below w7.heap.size w7 wr))
        case atStart => exact ⟨1, Nat.le_refl _, rfl, rfl, Below.refl _ _⟩
        case round =>
          obtain ⟨i, hi1, hig, rfl, HBq⟩ := hrel
          by_cases hlt2 : i < n7
          · obtain ⟨j, hj⟩ : ∃ j, i - 1 = j := ⟨_, rfl⟩
            have hj2 : (i : Int) - 1 = j := by omega
            have hj3 : j < n7 := by omega
            have hj4 : IntKind.i64.wrap (j : Int) = j := IntWalk.i64_in _ ⟨by omega, by omega⟩
            have OR := own_call O7.out HBq.out
            obtain ⟨b1, off, x, hA, hbB, hx, q0, q1, q2⟩ := ent_at (Rd.of_own OR) hj3
            obtain ⟨b2, off2, y, hA2, hbB2, hy, r2, r3, r4⟩ := ent_at (Rd.of_own OR) hlt2
            subst hA
            obtain ⟨rfl, rfl⟩ : b1 = b2 ∧ off = off2 := by injection hA2 with e9; injection e9 with e8 e7; exact ⟨e8, e7⟩
            have hbt : betB x y = true := by
              have hxe := (List.getElem?_eq_some_iff.1 hx)
              have hye := (List.getElem?_eq_some_iff.1 hy)
              have := List.pairwise_iff_getElem.1 HS.out j i hxe.1 hye.1 (by omega)
              rw [hxe.2, hye.2] at this
              exact this
            have f1 : decide ((x.cnt : Int) < y.cnt) = false ∧ decide (x.cnt < y.cnt) = false ∧ (((x.cnt : Int) == y.cnt) = true ∧ (x.cnt == y.cnt) = true ∧ decide ((x.last : Int) ≤ y.last) = false ∧ decide (x.last ≤ y.last) = false ∨ ((x.cnt : Int) == y.cnt) = false ∧ (x.cnt == y.cnt) = false) := by
              unfold betB at hbt
              by_cases hc : x.cnt = y.cnt
              · rw [if_pos hc] at hbt
                simp at hbt
                refine ⟨by simp; omega, by simp; omega, .inl ⟨by simp; omega, by simp; omega, by simp; omega, by simp; omega⟩⟩
              · rw [if_neg hc] at hbt
                simp at hbt
                refine ⟨by simp; omega, by simp; omega, .inr ⟨by rw [beq_eq_false_iff_ne]; omega, by rw [beq_eq_false_iff_ne]; omega⟩⟩
            have i1 : (0 : Int) ≤ j := by omega
            have i2 : (j : Int) < n7 := by omega
            have i3 : (0 : Int) ≤ i := by omega
            have i4 : (i : Int) < n7 := by omega
            have HI := hide (And.intro hi1 (And.intro hig hlt2))
            clear hj hx hy hA2 hbt hi1 hig OR
            obtain ⟨g1, g2, g3⟩ := f1
            rcases g3 with ⟨g3, g4, g5, g6⟩ | ⟨g3, g4⟩
            all_goals
              go_upto_region 18 with (fail)
              go_region
              · go_upto_region 19 with (fail)
                go_name_world W hW
                have kx : Blk W (wr.heap.size) 31 (entC x) := by rw [← hW]; exact ((Blk.new _ _ _).alloc _).drew
                have ky : Blk W (wr.heap.size + 1) 31 (entC y) := by rw [← hW]; exact (Blk.new' (by rw [World.size_alloc]) _ _).drew
                have BW := hide (show Below wr.heap.size wr W by rw [← hW]; exact (((Below.refl _ _).alloc (Nat.le_refl _) _).alloc (by rw [World.size_alloc]; omega) _).drew)
                have p0 := kx.cell 1
                have p1 := kx.cell 2
                have r0 := ky.cell 1
                have r1 := ky.cell 2
                simp only [List.getElem?_toArray, List.getElem?_cons_succ, List.getElem?_cons_zero] at p0 p1 r0 r1
                clear hW kx ky q0 q1 q2 r2 r3 r4
                go_wp2_with fail
                go_roundg (n7 - (i + 1))
                case measure => have := HI.out; omega
                case rel => exact ⟨i + 1, by omega, rfl, by go_num, below_in HBq.out BW.out (Nat.le_refl _)⟩
              · go_upto_region 19 with (fail)
                go_name_world W hW
                have kx : Blk W (wr.heap.size + 1) 31 (entC x) := by rw [← hW]; exact (Blk.new' (by rw [World.size_alloc]) _ _).drew
                have ky : Blk W (wr.heap.size) 31 (entC y) := by rw [← hW]; exact ((Blk.new _ _ _).alloc _).drew
                have BW := hide (show Below wr.heap.size wr W by rw [← hW]; exact (((Below.refl _ _).alloc (Nat.le_refl _) _).alloc (by rw [World.size_alloc]; omega) _).drew)
                have p0 := kx.cell 1
                have p1 := kx.cell 2
                have r0 := ky.cell 1
                have r1 := ky.cell 2
                simp only [List.getElem?_toArray, List.getElem?_cons_succ, List.getElem?_cons_zero] at p0 p1 r0 r1
                clear hW kx ky q0 q1 q2 r2 r3 r4
                go_wp2_with fail
                go_roundg (n7 - (i + 1))
                case measure => have := HI.out; omega
                case rel => exact ⟨i + 1, by omega, rfl, by go_num, below_in HBq.out BW.out (Nat.le_refl _)⟩
          · have d9 : decide (i < n7) = false := by simpa using hlt2
            go_wp2_with (go_at_call 14; go_must (refine (LN.out _ (C7.out.trans (HBq.out.mono C7.out.size))).mono ?_; rintro e w9 ⟨rfl, rfl⟩))
            go_ret
            exact ⟨rfl, below_in B7.out HBq.out (Nat.le_refl _)⟩
end Go.Proofs.Ytndnjdocdfjmcaa
