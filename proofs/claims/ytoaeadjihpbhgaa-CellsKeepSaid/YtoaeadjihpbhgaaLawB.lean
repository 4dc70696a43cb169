/-
  The laws CellsPlays, CellsOwn, walked. No condition but what the arguments' kinds bear, and bounds.
-/
import Derived.Test.YtoaeadjihpbhgaaLawA
namespace Go.Proofs.Ytoaeadjihpbhgaa
open Go.RowKit Go.Proofs
set_option linter.unusedVariables false
set_option maxRecDepth 100000 in
set_option maxHeartbeats 4000000 in
theorem cellsPlays_walk (W : World) (cols : Int) (wc : (Lit.int .u8 cols).wf = true) (p : Int × Int) (hp : True) (A : Option Addr) (n c : Nat) (l : List Op9) (hl : l.length = n) (hnc : n ≤ c) (hc : c ≤ maxLen) (hr : Rd W W.heap.size 9 A n (l.flatMap opE)) (hq : ∀ a ∈ l, True) :
    Calls Try.prog 3 #[.int .u8 cols, .agg (colE p).toArray, .slice A n c] W fun e W' => e = .returned (.bool true) ∧ Below W.heap.size W W' := by
  obtain ⟨bk, bn⟩ := p
  show Calls Try.prog 3 #[.int .u8 cols, .agg #[.int .i64 bk, .int .i64 bn], .slice A n c] W _
  have hcols : 0 ≤ cols ∧ cols ≤ 255 := wf_u8 wc
  obtain ⟨N, rfl⟩ : ∃ N : Nat, cols = N := ⟨cols.toNat, by omega⟩
  have hN : N ≤ 255 := by omega
  have AK := hide (fun (V : World) => awake_any V)
  have HR := hide hr
  have BB := hide (show Below W.heap.size W (W.alloc (.cells #[.int .i64 bk, .int .i64 bn] 23)) from (Below.refl _ _).alloc (Nat.le_refl _) _)
  clear wc hcols hr hl
  by_cases hbig : 40 < n
  · have d1 : decide (40 < n) = true := by simpa using hbig
    have d2 : decide ((40 : Int) < n) = true := decide_eq_true (by omega)
    go_enter Try.func3, Try.ntmps3
    go_wp2_with (go_at_call 8; go_must (refine (AK.out _).mono ?_; rintro e w5 ⟨rfl, b5⟩; have B5 := hide (below_in BB.out b5 (Nat.le_refl _)); clear b5))
    go_ret
    exact ⟨rfl, B5.out⟩
  · have d1 : decide (40 < n) = false := by simpa using hbig
    have d2 : decide ((40 : Int) < n) = false := decide_eq_false (by omega)
    have hw1 : IntKind.i64.wrap (N : Int) = N := IntWalk.i64_in _ (by omega)
    have C1 := hide (fun (V : World) => blanks_any N bk bn N (by omega) V)
    have C2 := hide (fun (V : World) => rblanks_any N bk bn N (by omega) V)
    have SA := hide (fun (L : List Cell) (c c' : Nat) (A A' : Option Addr) (V : World) (h : Rd V V.heap.size 8 A N (L.flatMap cellE)) (h' : Rd V V.heap.size 8 A' N (L.flatMap cellE)) => show Calls Try.prog 11 #[.slice A N c, .slice A' N c'] V fun e V' => e = .returned (.bool true) ∧ Below V.heap.size V V' by
      have := same_any L L N N c c' V.heap.size A A' V h h' (Nat.le_refl _) (by omega) (by omega)
      rwa [sameR_self] at this)
    have DO := hide (fun (L : List Cell) (o : Op9) (c1 : Nat) (A1 : Option Addr) (V : World) (h : Rd V V.heap.size 8 A1 N (L.flatMap cellE)) (hq : ∀ c ∈ L, More32 c) => does_any L o N c1 V.heap.size A1 V h (Nat.le_refl _) (by omega) (more_Q hq))
    have TX := hide (fun (L : List Cell) (hq : ∀ c ∈ L, More32 c) (T : ByteArray) (hT : ⟨(rowTextF L).toArray⟩ = T) (c1 : Nat) (A1 : Option Addr) (V : World) (h : Rd V V.heap.size 8 A1 N (L.flatMap cellE)) (hc1 : N ≤ c1) => show Calls Try.prog 13 #[.slice A1 N c1] V fun e V' => e = .returned (.string T) ∧ Below V.heap.size V V' by
      have := text_any L N c1 V.heap.size A1 V h (Nat.le_refl _) (by omega) hc1 (more_3 hq)
      rwa [hT] at this)
    have RX := hide (fun (L : List Cell) (hq : ∀ c ∈ L, More32 c) (T : ByteArray) (hT : ⟨(rowTextF L).toArray⟩ = T) (c1 : Nat) (A1 : Option Addr) (V : World) (h : Rd V V.heap.size 8 A1 N (L.flatMap cellE)) => show Calls Try.prog 14 #[.slice A1 N c1] V fun e V' => e = .returned (.string T) ∧ Below V.heap.size V V' by
      have := rtext_any L N c1 V.heap.size A1 V h (Nat.le_refl _) (by omega) (more_3 hq)
      rwa [hT] at this)
    have UX := hide (fun (L : List Cell) (u : Nat) (hu : usedF L = u) (c1 : Nat) (A1 : Option Addr) (V : World) (h : Rd V V.heap.size 8 A1 N (L.flatMap cellE)) => show Calls Try.prog 15 #[.slice A1 N c1] V fun e V' => e = .returned (.int .i64 u) ∧ V = V' by
      have := used_any L N c1 V.heap.size A1 V h (Nat.le_refl _) (by omega)
      rwa [hu] at this)
    have VX := hide (fun (L : List Cell) (u : Nat) (hu : usedF L = u) (c1 : Nat) (A1 : Option Addr) (V : World) (h : Rd V V.heap.size 8 A1 N (L.flatMap cellE)) => show Calls Try.prog 16 #[.slice A1 N c1] V fun e V' => e = .returned (.int .i64 u) ∧ V = V' by
      have := rused_any L N c1 V.heap.size A1 V h (Nat.le_refl _) (by omega)
      rwa [hu] at this)
    go_enter Try.func3, Try.ntmps3
    go_upto_region 3 with (fail)
    go_name_world W0 hW0
    have Q0 := hide (show Blk W0 W.heap.size 23 #[.int .i64 bk, .int .i64 bn] by rw [← hW0]; exact Blk.new _ _ _)
    have B0 := hide (show Below W.heap.size W W0 by rw [← hW0]; exact BB.out)
    clear hW0
    have q0 := Q0.out.cell 0
    have q1 := Q0.out.cell 1
    simp at q0 q1
    have CX := hide (fun (V : World) (hV : Below W0.drew.heap.size W0.drew V) => And.intro ((Q0.out.drew.below hV Q0.out.lt).cell 0) ((Q0.out.drew.below hV Q0.out.lt).cell 1))
    go_region_held3 (fun V => V.cell? ⟨W.heap.size, 0, none⟩ = some (.int .i64 bk) ∧ V.cell? ⟨W.heap.size, 1, none⟩ = some (.int .i64 bn))
      (with_reducible first | (exact ⟨q0, q1⟩) | (exact cc2) | (exact cc1) | go_keep)
      ((first
        | (go_at_call 9; (with_reducible refine (C1.out _).mono ?_); rintro e w1 ⟨A1, c1, rfl, o1, h1, b1⟩; have cc1 := CX.out w1 b1; simp at cc1)
        | (go_at_call 10; (with_reducible refine (C2.out _).mono ?_); rintro e w2 ⟨A2, c2, rfl, o2, h2, b2⟩; have cc2 := CX.out w2 (below_in b1 b2 (Nat.le_refl _)); simp at cc2)))
    have R1 := hide (rd_call (Rd.of_own o1) b2)
    have R2 := hide (Rd.of_own o2)
    have B2 := hide (below_in B0.out.drew (below_in b1 b2 (Nat.le_refl _)) (Nat.le_refl _))
    have S1 := hide (SA.out _ c1 c2 A1 A2 w2 R1.out R2.out)
    clear cc1 cc2 o1 o2 b1 b2 q0 q1
    go_wp2_with (go_at_call 11; go_must (refine (S1.out).mono ?_; rintro e w3 ⟨rfl, b3⟩; have R3 := hide (rd_call R1.out b3); have B3 := hide (below_in B2.out b3 (Nat.le_refl _)); clear b3))
    go_loopg [7, 9] n (fun gg s7 s9 wr => ∃ (k : Nat) (A3 : Option Addr) (c3 : Nat) (L : List Cell), k ≤ n ∧ n - k ≤ gg ∧ s7 = .slice A3 N c3 ∧ s9 = .int .i64 k ∧ Hid (Rd wr wr.heap.size 8 A3 N (L.flatMap cellE)) ∧ Hid (∀ c ∈ L, More32 c) ∧ Hid (Below W.heap.size W wr))
    case atStart => exact ⟨0, A1, c1, _, by omega, by omega, rfl, rfl, R3.out, blanks_more N bk bn, B3.out⟩
    case round =>
      obtain ⟨k, A3, c3, L, hkn, hgk, rfl, rfl, HL, HM, HB⟩ := hrel
      by_cases hlt : k < n
      · have d3 : decide (k < n) = true := by simpa using hlt
        have i1 : (0 : Int) ≤ k := by omega
        have i2 : (k : Int) ≤ n := by omega
        obtain ⟨b, off, o, rfl, hb, ho, x0, x1, x2, x3, x4, x5, x6, x7, x8⟩ := (HR.out.below HB.out).nine hlt
        have D2 := hide (DO.out L o c3 A3 wr HL.out HM.out)
        have HM2 := hide (alone_more o HM.out)
        obtain ⟨L2, hL2⟩ : ∃ L2, aloneF o L = L2 := ⟨_, rfl⟩
        rw [hL2] at D2 HM2
        obtain ⟨T, hT⟩ : ∃ T : ByteArray, ⟨(rowTextF L2).toArray⟩ = T := ⟨_, rfl⟩
        obtain ⟨u, hu⟩ : ∃ u, usedF L2 = u := ⟨_, rfl⟩
        have T1 := hide (TX.out L2 HM2.out T hT)
        have T2 := hide (RX.out L2 HM2.out T hT)
        have U1 := hide (UX.out L2 u hu)
        have U2 := hide (VX.out L2 u hu)
        clear ho hL2 hT hu
        go_wp2_with (first
          | (go_at_call 12; go_must (refine (D2.out).mono ?_; rintro e w4 ⟨A4, c4, A5, c5, rfl, r4, h4, r5, h5, b4⟩; have R4 := hide r4; have R5 := hide r5; have B4 := hide (below_in HB.out b4 (Nat.le_refl _)); have S4 := hide (SA.out L2 c4 c5 A4 A5 w4 R4.out R5.out); clear b4 r4 r5))
          | (go_at_call 11; go_must (refine (S4.out).mono ?_; rintro e w5 ⟨rfl, b5⟩; have R4b := hide (rd_call R4.out b5); have R5b := hide (rd_call R5.out b5); have B5 := hide (below_in B4.out b5 (Nat.le_refl _)); clear b5))
          | (go_at_call 13; go_must (refine (T1.out c4 A4 _ R4b.out h4).mono ?_; rintro e w6 ⟨rfl, b6⟩; have R4c := hide (rd_call R4b.out b6); have R5c := hide (rd_call R5b.out b6); have B6 := hide (below_in B5.out b6 (Nat.le_refl _)); clear b6))
          | (go_at_call 14; go_must (refine (T2.out c5 A5 _ R5c.out).mono ?_; rintro e w7 ⟨rfl, b7⟩; have R4d := hide (rd_call R4c.out b7); have R5d := hide (rd_call R5c.out b7); have B7 := hide (below_in B6.out b7 (Nat.le_refl _)); clear b7))
          | (go_at_call 15; go_must (refine (U1.out c4 A4 _ R4d.out).mono ?_; rintro e w8 ⟨rfl, rfl⟩))
          | (go_at_call 16; go_must (refine (U2.out c5 A5 _ R5d.out).mono ?_; rintro e w9 ⟨rfl, rfl⟩)))
        go_roundg (n - (k + 1))
        case measure => omega
        case rel => exact ⟨k + 1, A4, c4, L2, by omega, by omega, rfl, by go_num, R4d.out, HM2.out, B7.out⟩
      · obtain rfl : k = n := by omega
        have d3 : decide (k < k) = false := by simp
        go_wp2_with (go_at_call 8; go_must (refine (AK.out _).mono ?_; rintro e w5 ⟨rfl, b5⟩; have B5 := hide (below_in HB.out b5 (Nat.le_refl _)); clear b5))
        go_ret
        exact ⟨rfl, B5.out⟩
theorem own_void (w : World) : (w.alloc (.cells #[] 40)).ownsRow w.heap.size 40 8 (.slice (some ⟨w.heap.size, 0, none⟩) 0 0) 0 [] :=
  ⟨rfl, .inr ⟨w.heap.size, 0, #[], rfl, Nat.le_refl _, heap_alloc_new w _, Nat.le_refl _, by simp [maxLen], rfl, rfl⟩⟩
set_option maxRecDepth 100000 in
set_option maxHeartbeats 4000000 in
theorem cellsOwn_walk (W : World) (A : Option Addr) (n c : Nat) (l : List Cell) (hl : l.length = n) (hnc : n ≤ c) (hc : c ≤ maxLen) (hr : Rd W W.heap.size 8 A n (l.flatMap cellE)) (hq : ∀ a ∈ l, MoreQ a)
    (A' : Option Addr) (n' c' : Nat) (ops : List Op9) (hl' : ops.length = n') (hnc' : n' ≤ c') (hc' : c' ≤ maxLen) (hr' : Rd W W.heap.size 9 A' n' (ops.flatMap opE)) (hq' : ∀ a ∈ ops, True) :
    Calls Try.prog 4 #[.slice A n c, .slice A' n' c'] W fun e W' => e = .returned (.bool true) ∧ Below W.heap.size W W' := by
  have AK := hide (fun (V : World) => awake_any V)
  have HR := hide hr
  have HO := hide hr'
  by_cases hbig : 60 < n ∨ 20 < n'
  · have alt : 60 < n ∨ (¬ 60 < n ∧ 20 < n') := by omega
    clear hr hr' hl hl' hq
    rcases alt with h1 | ⟨h0, h1⟩
    · have d1 : decide (60 < n) = true := by simpa using h1
      have d2 : decide ((60 : Int) < n) = true := decide_eq_true (by omega)
      go_enter Try.func4, Try.ntmps4
      go_wp2_with (go_at_call 8; go_must (refine (AK.out _).mono ?_; rintro e w5 ⟨rfl, b5⟩))
      go_ret
      exact ⟨rfl, b5⟩
    · have d1 : decide (60 < n) = false := by simpa using h0
      have d2 : decide ((60 : Int) < n) = false := decide_eq_false (by omega)
      have d3 : decide (20 < n') = true := by simpa using h1
      have d4 : decide ((20 : Int) < n') = true := decide_eq_true (by omega)
      go_enter Try.func4, Try.ntmps4
      go_wp2_with (go_at_call 8; go_must (refine (AK.out _).mono ?_; rintro e w5 ⟨rfl, b5⟩))
      go_ret
      exact ⟨rfl, b5⟩
  · have d1 : decide (60 < n) = false := decide_eq_false (by omega)
    have d2 : decide ((60 : Int) < n) = false := decide_eq_false (by omega)
    have d3 : decide (20 < n') = false := decide_eq_false (by omega)
    have d4 : decide ((20 : Int) < n') = false := decide_eq_false (by omega)
    have hn : n ≤ 60 := by omega
    have hn' : n' ≤ 20 := by omega
    have AL := hide (fun (o : Op9) (V : World) (hV : Below W.heap.size W V) => alone_any l o n c W.heap.size A V (hr.below hV) hV.size (by omega) hq)
    have SA := hide (fun (A2 : Option Addr) (c2 : Nat) (V : World) (h : Rd V V.heap.size 8 A2 n (l.flatMap cellE)) (hV : Below W.heap.size W V) => show Calls Try.prog 11 #[.slice A n c, .slice A2 n c2] V fun e V' => e = .returned (.bool true) ∧ Below V.heap.size V V' by
      have := same_any l l n n c c2 V.heap.size A A2 V ((hr.below hV).more hV.size) h (Nat.le_refl _) (by omega) (by omega)
      rwa [sameR_self] at this)
    have OV := hide (own_void W)
    have LL := hide hl
    clear hr hr' hl hl' hq hbig
    go_enter Try.func4, Try.ntmps4
    go_wp2_with (at_builtin; go_must (refine wpList_appends Try.sl26 rfl _ _ rfl W.heap.size (.slice (some ⟨W.heap.size, 0, none⟩) 0 0) 0 [] _ W.heap.size A n c (l.flatMap cellE) rfl rfl OV.out (HR.out.alloc (Nat.le_refl _) _) (one_cells l) (by simp only [maxLen]; omega) (by omega) (by simp) ?_; intro A1 c1 w1 app; simp only [Nat.zero_add, List.nil_append] at app; have O1 := hide app.own; have B1 := hide (app.below OV.out ((Below.refl W.heap.size W).alloc (Nat.le_refl _) _) (Nat.le_refl _) (by simp)); clear app))
    have R1 := hide (Rd.of_own O1.out)
    go_loopg [6] n' (fun gg s wr => ∃ (k : Nat), k ≤ n' ∧ n' - k ≤ gg ∧ s = .int .i64 k ∧ Hid (Below w1.heap.size w1 wr))
    case atStart => exact ⟨0, by omega, by omega, rfl, Below.refl _ _⟩
    case round =>
      obtain ⟨k, hkn, hgk, rfl, HB⟩ := hrel
      have BW := hide (below_in B1.out HB.out (Nat.le_refl _))
      by_cases hlt : k < n'
      · have d5 : decide (k < n') = true := by simpa using hlt
        have i1 : (0 : Int) ≤ k := by omega
        have i2 : (k : Int) ≤ n' := by omega
        obtain ⟨b, off, o, rfl, hb, ho, x0, x1, x2, x3, x4, x5, x6, x7, x8⟩ := (HO.out.below BW.out).nine hlt
        have C2 := hide (AL.out o wr BW.out)
        clear ho
        go_wp2_with (go_at_call 17; go_must (refine (C2.out).mono ?_; rintro e w2 ⟨A3, c3, rfl, o3, h3, b3⟩; have O3 := hide o3; have B3 := hide b3; clear o3 b3))
        go_loopg [8] n (fun gg s wx => ∃ (j : Nat) (M : List Cell), j ≤ n ∧ n - j ≤ gg ∧ s = .int .i64 j ∧ Hid (wx.ownsRow wr.heap.size 40 8 (.slice A3 n c3) n (M.flatMap cellE)) ∧ Hid (Below wr.heap.size wr wx))
        case atStart => exact ⟨0, _, by omega, by omega, rfl, O3.out, B3.out⟩
        case round =>
          obtain ⟨j, M, hjn, hgj, rfl, HM, HX⟩ := hrel
          by_cases hlt2 : j < n
          · have d6 : decide (j < n) = true := by simpa using hlt2
            have hml := own_len (E := cellE) (size := 8) (fun _ => rfl) (by omega) HM.out
            obtain ⟨u, hu⟩ : ∃ u, M[j]? = some u := ⟨_, List.getElem?_eq_getElem (by omega)⟩
            rcases own_row HM.out with ⟨rfl, rfl, _⟩ | ⟨g, T, rfl, hb2, hrow, hnc2, hs, hm⟩
            · omega
            · have e8 := hrow.eight hu
              simp only [List.length_nil, Nat.zero_add] at e8
              obtain ⟨z0, _⟩ := e8
              have f0 := fun i => hrow.frozen i
              obtain ⟨rr, hrr⟩ : ∃ rr, IntKind.i32.wrap (u.r + 1) = rr := ⟨_, rfl⟩
              have R4 := hide (hrow.set1 hu (i := 0) (d := { u with r := rr }) (by omega) (u := .int .i32 rr) rfl)
              have HS := hide (And.intro hb2 (And.intro hnc2 (And.intro hs (And.intro hm hml))))
              have j1 : (0 : Int) ≤ j := by omega
              have j2 : (j : Int) ≤ n := by omega
              clear hrow hb2 hs hm hml hu
              go_wp2
              go_roundg (n - (j + 1))
              case measure => omega
              case rel =>
                refine ⟨j + 1, M.set j { u with r := rr }, by omega, by omega, by go_num, ?_, ?_⟩
                · have h := R4.out
                  simp only [List.length_nil, Nat.zero_add] at h
                  exact own_of_row HS.out.1 HS.out.2.1 HS.out.2.2.1 HS.out.2.2.2.1 HS.out.2.2.2.2.symm (by rw [List.length_set]; exact HS.out.2.2.2.2.symm) h
                · exact HX.out.setCell (p := ⟨g, j * 8, none⟩) HS.out.1 _
          · obtain rfl : j = n := by omega
            have d6 : decide (j < j) = false := by simp
            go_wp2
            go_roundg (n' - (k + 1))
            case measure => omega
            case rel => exact ⟨k + 1, by omega, by omega, by go_num, below_in HB.out HX.out (Nat.le_refl _)⟩
      · obtain rfl : k = n' := by omega
        have d5 : decide (k < k) = false := by simp
        have S2 := hide (SA.out A1 c1 wr ((R1.out.below HB.out).more HB.out.size) BW.out)
        go_wp2_with (first
          | (go_at_call 11; go_must (refine (S2.out).mono ?_; rintro e w4 ⟨rfl, b4⟩; have B4 := hide (below_in BW.out b4 (Nat.le_refl _)); clear b4))
          | (go_at_call 8; go_must (refine (AK.out _).mono ?_; rintro e w5 ⟨rfl, b5⟩; have B5 := hide (below_in B4.out b5 (Nat.le_refl _)); clear b5)))
        go_ret
        exact ⟨rfl, B5.out⟩
end Go.Proofs.Ytoaeadjihpbhgaa
