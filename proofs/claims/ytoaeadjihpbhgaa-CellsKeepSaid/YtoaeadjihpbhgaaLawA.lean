/-
  The laws CellsBlanks, CellsKeep, CellsRight, walked. No condition but what the arguments' kinds bear, and bounds.
-/
import Derived.Test.YtoaeadjihpbhgaaKeepP
namespace Go.Proofs.Ytoaeadjihpbhgaa
open Go.RowKit Go.Proofs
set_option linter.unusedVariables false
theorem wf_u8 {n : Int} (h : (Lit.int .u8 n).wf = true) : 0 ≤ n ∧ n ≤ 255 := by
  simp [Lit.wf, IntKind.min, IntKind.max, IntKind.signed, IntKind.bits] at h
  omega
def colE (p : Int × Int) : List Value := [.int .i64 p.1, .int .i64 p.2]
theorem Rd.nine {w : World} {B n : Nat} {A : Option Addr} {l : List Op9} (h : Rd w B 9 A n (l.flatMap opE)) {k : Nat} (hk : k < n) :
    ∃ b off o, A = some ⟨b, off, none⟩ ∧ b < B ∧ l[k]? = some o ∧ w.cell? ⟨b, off + k * 9, none⟩ = some (.int .i64 o.kd) ∧ w.cell? ⟨b, off + k * 9 + 1, none⟩ = some (.int .i64 o.x) ∧ w.cell? ⟨b, off + k * 9 + 2, none⟩ = some (.int .i64 o.n) ∧ w.cell? ⟨b, off + k * 9 + 3, none⟩ = some (.int .i32 o.r) ∧
      w.cell? ⟨b, off + k * 9 + 4, none⟩ = some (.int .i64 o.a.fk) ∧ w.cell? ⟨b, off + k * 9 + 5, none⟩ = some (.int .i64 o.a.fn) ∧ w.cell? ⟨b, off + k * 9 + 6, none⟩ = some (.int .i64 o.a.bk) ∧ w.cell? ⟨b, off + k * 9 + 7, none⟩ = some (.int .i64 o.a.bn) ∧ w.cell? ⟨b, off + k * 9 + 8, none⟩ = some (.int .i64 o.a.fl) := by
  obtain ⟨b, off, o, e, hb, hx, hc⟩ := Rd.row (E := opE) (fun _ => rfl) (by omega) h hk
  have hh : ∀ i u, (opE o)[i]? = some u → w.cell? ⟨b, off + k * 9 + i, none⟩ = some u := fun i u hu => by have := hc i u hu; rwa [← Nat.add_assoc] at this
  exact ⟨b, off, o, e, hb, hx, hh 0 _ rfl, hh 1 _ rfl, hh 2 _ rfl, hh 3 _ rfl, hh 4 _ rfl, hh 5 _ rfl, hh 6 _ rfl, hh 7 _ rfl, hh 8 _ rfl⟩
set_option maxRecDepth 100000 in
set_option maxHeartbeats 4000000 in
theorem cellsBlanks_walk (W : World) (n : Int) (wn : (Lit.int .i64 n).wf = true) (p : Int × Int) (hp : True) :
    Calls Try.prog 6 #[.int .i64 n, .agg (colE p).toArray] W fun e W' => e = .returned (.bool true) ∧ Below W.heap.size W W' := by
  obtain ⟨bk, bn⟩ := p
  show Calls Try.prog 6 #[.int .i64 n, .agg #[.int .i64 bk, .int .i64 bn]] W _
  obtain ⟨K, hK⟩ : ∃ K : Nat, (K : Int) = max 0 (min n 1000) := ⟨(max 0 (min n 1000)).toNat, by omega⟩
  have hK1 : K ≤ 1000 := by omega
  have C1 := hide (fun (V : World) => blanks_any n bk bn K hK V)
  have C2 := hide (fun (V : World) => rblanks_any n bk bn K hK V)
  obtain ⟨R, hR⟩ : ∃ R, List.replicate K (blankC bk bn) = R := ⟨_, rfl⟩
  have C3 := hide (fun (c c' : Nat) (A A' : Option Addr) (V : World) (h : Rd V V.heap.size 8 A K (R.flatMap cellE)) (h' : Rd V V.heap.size 8 A' K (R.flatMap cellE)) => show Calls Try.prog 11 #[.slice A K c, .slice A' K c'] V fun e V' => e = .returned (.bool true) ∧ Below V.heap.size V V' by
    have := same_any R R K K c c' V.heap.size A A' V h h' (Nat.le_refl _) (by omega) (by omega)
    rwa [sameR_self] at this)
  have C4 := hide (fun (c : Nat) (A : Option Addr) (V : World) (h : Rd V V.heap.size 8 A K (R.flatMap cellE)) => show Calls Try.prog 18 #[.slice A K c] V fun e V' => e = .returned (.bool true) ∧ Below V.heap.size V V' by
    have := right_any R K c V.heap.size A V h (Nat.le_refl _) (by omega)
    rwa [← hR, right_blanks] at this)
  have AK := hide (fun (V : World) => awake_any V)
  rw [hR] at C1 C2
  have KB := hide (fun (V : World) (hV : Below (W.alloc (.cells #[.int .i64 bk, .int .i64 bn] 23)).heap.size (W.alloc (.cells #[.int .i64 bk, .int .i64 bn] 23)) V) => And.intro (((Blk.new W 23 #[.int .i64 bk, .int .i64 bn]).below hV (by simp)).cell 0) (((Blk.new W 23 #[.int .i64 bk, .int .i64 bn]).below hV (by simp)).cell 1))
  have BB := hide (show Below W.heap.size W (W.alloc (.cells #[.int .i64 bk, .int .i64 bn] 23)) from (Below.refl _ _).alloc (Nat.le_refl _) _)
  clear hK hR
  go_enter Try.func6, Try.ntmps6
  go_wp2_with (first
    | (go_at_call 9; go_must (refine (C1.out _).mono ?_; rintro e w1 ⟨A1, c1, rfl, o1, h1, b1⟩; obtain ⟨x0, x1⟩ := KB.out w1 b1; simp at x0 x1; have R1 := hide (Rd.of_own o1); have B1 := hide (below_in BB.out b1 (Nat.le_refl _)); clear o1 b1))
    | (go_at_call 10; go_must (refine (C2.out _).mono ?_; rintro e w2 ⟨A2, c2, rfl, o2, h2, b2⟩; have R2 := hide (Rd.of_own o2); have R12 := hide (rd_call R1.out b2); have B2 := hide (below_in B1.out b2 (Nat.le_refl _)); clear o2 b2))
    | (go_at_call 11; go_must (refine (C3.out _ _ _ _ _ R12.out R2.out).mono ?_; rintro e w3 ⟨rfl, b3⟩; have R13 := hide (rd_call R12.out b3); have B3 := hide (below_in B2.out b3 (Nat.le_refl _)); clear b3))
    | (go_at_call 18; go_must (refine (C4.out _ _ _ R13.out).mono ?_; rintro e w4 ⟨rfl, b4⟩; have B4 := hide (below_in B3.out b4 (Nat.le_refl _)); clear b4))
    | (go_at_call 8; go_must (refine (AK.out _).mono ?_; rintro e w5 ⟨rfl, b5⟩; have B5 := hide (below_in B4.out b5 (Nat.le_refl _)); clear b5)))
  go_ret
  exact ⟨rfl, B5.out⟩
set_option maxRecDepth 100000 in
set_option maxHeartbeats 4000000 in
theorem cellsKeep_walk (W : World) (cols : Int) (wc : (Lit.int .u8 cols).wf = true) (A : Option Addr) (n c : Nat) (l : List Op9) (hl : l.length = n) (hnc : n ≤ c) (hc : c ≤ maxLen) (hr : Rd W W.heap.size 9 A n (l.flatMap opE)) (hq : ∀ a ∈ l, True) :
    Calls Try.prog 7 #[.int .u8 cols, .slice A n c] W fun e W' => e = .returned (.bool true) ∧ Below W.heap.size W W' := by
  have hcols : 0 ≤ cols ∧ cols ≤ 255 := wf_u8 wc
  obtain ⟨N, rfl⟩ : ∃ N : Nat, cols = N := ⟨cols.toNat, by omega⟩
  have hN : N ≤ 255 := by omega
  have AK := hide (fun (V : World) => awake_any V)
  have HR := hide hr
  clear wc hcols hr hl
  by_cases hbig : 60 < n
  · have d1 : decide (60 < n) = true := by simpa using hbig
    have d2 : decide ((60 : Int) < n) = true := decide_eq_true (by omega)
    go_enter Try.func7, Try.ntmps7
    go_wp2_with (go_at_call 8; go_must (refine (AK.out _).mono ?_; rintro e w5 ⟨rfl, b5⟩))
    go_ret
    exact ⟨rfl, b5⟩
  · have d1 : decide (60 < n) = false := by simpa using hbig
    have d2 : decide ((60 : Int) < n) = false := decide_eq_false (by omega)
    have hw1 : IntKind.i64.wrap (N : Int) = N := IntWalk.i64_in _ (by omega)
    have C1 := hide (fun (V : World) => blanks_any N 0 0 N (by omega) V)
    have AL := hide (fun (L : List Cell) (o : Op9) (c1 : Nat) (A1 : Option Addr) (V : World) (h : Rd V V.heap.size 8 A1 N (L.flatMap cellE)) (hq : ∀ c ∈ L, More32 c) => alone_any L o N c1 V.heap.size A1 V h (Nat.le_refl _) (by omega) (more_Q hq))
    have RT := hide (fun (L : List Cell) (hL : rightB L = true) (c1 : Nat) (A1 : Option Addr) (V : World) (h : Rd V V.heap.size 8 A1 N (L.flatMap cellE)) => show Calls Try.prog 18 #[.slice A1 N c1] V fun e V' => e = .returned (.bool true) ∧ Below V.heap.size V V' by
      have := right_any L N c1 V.heap.size A1 V h (Nat.le_refl _) (by omega)
      rwa [hL] at this)
    go_enter Try.func7, Try.ntmps7
    go_wp2_with (go_at_call 9; go_must (refine (C1.out _).mono ?_; rintro e w1 ⟨A1, c1, rfl, o1, h1, b1⟩; have R1 := hide (Rd.of_own o1); have B1 := hide b1; clear o1 b1))
    go_loopg [5, 6] n (fun gg s5 s6 wr => ∃ (k : Nat) (A2 : Option Addr) (c2 : Nat) (L : List Cell), k ≤ n ∧ n - k ≤ gg ∧ s5 = .slice A2 N c2 ∧ s6 = .int .i64 k ∧ Hid (Rd wr wr.heap.size 8 A2 N (L.flatMap cellE)) ∧ Hid (rightB L = true) ∧ Hid (∀ c ∈ L, More32 c) ∧ Hid (Below W.heap.size W wr))
    case atStart => exact ⟨0, A1, c1, _, by omega, by omega, rfl, rfl, R1.out, right_blanks N 0 0, blanks_more N 0 0, B1.out⟩
    case round =>
      obtain ⟨k, A2, c2, L, hkn, hgk, rfl, rfl, HL, HT, HM, HB⟩ := hrel
      by_cases hlt : k < n
      · have d3 : decide (k < n) = true := by simpa using hlt
        have i1 : (0 : Int) ≤ k := by omega
        have i2 : (k : Int) ≤ n := by omega
        obtain ⟨b, off, o, rfl, hb, ho, x0, x1, x2, x3, x4, x5, x6, x7, x8⟩ := (HR.out.below HB.out).nine hlt
        have C2 := hide (AL.out L o c2 A2 wr HL.out HM.out)
        have HT2 := hide (alone_right o HT.out)
        have HM2 := hide (alone_more o HM.out)
        clear ho
        go_wp2_with (first
          | (go_at_call 17; go_must (refine (C2.out).mono ?_; rintro e w2 ⟨A3, c3, rfl, o3, h3, b3⟩; have R3 := hide (Rd.of_own o3); have B3 := hide (below_in HB.out b3 (Nat.le_refl _)); have C3 := hide (RT.out _ HT2.out c3 A3 w2 R3.out); clear o3 b3))
          | (go_at_call 18; go_must (refine (C3.out).mono ?_; rintro e w3 ⟨rfl, b4⟩; have R4 := hide (rd_call R3.out b4); have B4 := hide (below_in B3.out b4 (Nat.le_refl _)); clear b4)))
        go_roundg (n - (k + 1))
        case measure => omega
        case rel => exact ⟨k + 1, A3, c3, _, by omega, by omega, rfl, by go_num, R4.out, HT2.out, HM2.out, B4.out⟩
      · obtain rfl : k = n := by omega
        have d3 : decide (k < k) = false := by simp
        go_wp2_with (go_at_call 8; go_must (refine (AK.out _).mono ?_; rintro e w5 ⟨rfl, b5⟩; have B5 := hide (below_in HB.out b5 (Nat.le_refl _)); clear b5))
        go_ret
        exact ⟨rfl, B5.out⟩
set_option maxRecDepth 100000 in
set_option maxHeartbeats 4000000 in
theorem cellsRight_walk (W : World) (A : Option Addr) (n c : Nat) (l : List Cell) (hl : l.length = n) (hnc : n ≤ c) (hc : c ≤ maxLen) (hr : Rd W W.heap.size 8 A n (l.flatMap cellE)) (hq : ∀ a ∈ l, a.more.size ≤ 3000000) :
    Calls Try.prog 5 #[.slice A n c] W fun e W' => e = .returned (.bool true) ∧ Below W.heap.size W W' := by
  have AK := hide (fun (V : World) => awake_any V)
  by_cases hbig : 200 < n
  · have d1 : decide (200 < n) = true := by simpa using hbig
    have d2 : decide ((200 : Int) < n) = true := decide_eq_true (by omega)
    clear hr hq hl
    go_enter Try.func5, Try.ntmps5
    go_wp2_with (go_at_call 8; go_must (refine (AK.out _).mono ?_; rintro e w5 ⟨rfl, b5⟩))
    go_ret
    exact ⟨rfl, b5⟩
  · have d1 : decide (200 < n) = false := by simpa using hbig
    have d2 : decide ((200 : Int) < n) = false := decide_eq_false (by omega)
    have PRE := hide (fun (V : World) (hV : Below W.heap.size W V) => And.intro (hr.below hV) hV.size)
    have hn : n ≤ 100000 := by omega
    obtain ⟨rb, hrb⟩ : ∃ rb, rightB l = rb := ⟨_, rfl⟩
    obtain ⟨u, hu⟩ : ∃ u, usedF l = u := ⟨_, rfl⟩
    obtain ⟨T, hT⟩ : ∃ T : ByteArray, ⟨(rowTextF l).toArray⟩ = T := ⟨_, rfl⟩
    have C1 := hide (fun (V : World) (hV : Below W.heap.size W V) => right_any l n c W.heap.size A V (PRE.out V hV).1 (PRE.out V hV).2 hn)
    have C2 := hide (fun (V : World) (hV : Below W.heap.size W V) => rright_any l n c W.heap.size A V (PRE.out V hV).1 (PRE.out V hV).2 hn hq)
    have C3 := hide (fun (V : World) (hV : Below W.heap.size W V) => mend_any l n c W.heap.size A V (PRE.out V hV).1 (PRE.out V hV).2 hn)
    have C4 := hide (fun (V : World) (hV : Below W.heap.size W V) => rmend_any l n c W.heap.size A V (PRE.out V hV).1 (PRE.out V hV).2 hn)
    have C5 := hide (fun (c1 c2 : Nat) (A1 A2 : Option Addr) (V : World) (h : Rd V V.heap.size 8 A1 n ((mendF l).flatMap cellE)) (h' : Rd V V.heap.size 8 A2 n ((mendF l).flatMap cellE)) => show Calls Try.prog 11 #[.slice A1 n c1, .slice A2 n c2] V fun e V' => e = .returned (.bool true) ∧ Below V.heap.size V V' by
      have := same_any (mendF l) (mendF l) n n c1 c2 V.heap.size A1 A2 V h h' (Nat.le_refl _) hn hn
      rwa [sameR_self] at this)
    have C6 := hide (fun (V : World) (hV : Below W.heap.size W V) => used_any l n c W.heap.size A V (PRE.out V hV).1 (PRE.out V hV).2 hn)
    have C7 := hide (fun (V : World) (hV : Below W.heap.size W V) => rused_any l n c W.heap.size A V (PRE.out V hV).1 (PRE.out V hV).2 hn)
    have C8 := hide (fun (V : World) (hV : Below W.heap.size W V) => text_any l n c W.heap.size A V (PRE.out V hV).1 (PRE.out V hV).2 hn hnc hq)
    have C9 := hide (fun (V : World) (hV : Below W.heap.size W V) => rtext_any l n c W.heap.size A V (PRE.out V hV).1 (PRE.out V hV).2 hn hq)
    rw [hrb] at C1 C2
    rw [mend_mend] at C3
    rw [hu] at C6 C7
    rw [hT] at C8 C9
    have B0 := hide (Below.refl W.heap.size W)
    clear hr hq hl hrb hu hT
    go_enter Try.func5, Try.ntmps5
    go_wp2_with (first
      | (go_at_call 18; go_must (refine (C1.out _ B0.out).mono ?_; rintro e w1 ⟨rfl, b1⟩; have B1 := hide (below_in B0.out b1 (Nat.le_refl _)); clear b1))
      | (go_at_call 19; go_must (refine (C2.out _ B1.out).mono ?_; rintro e w2 ⟨rfl, b2⟩; have B2 := hide (below_in B1.out b2 (Nat.le_refl _)); clear b2))
      | (go_at_call 20; go_must (refine (C3.out _ B2.out).mono ?_; rintro e w3 ⟨A3, c3, rfl, o3, h3, b3⟩; have R3 := hide (Rd.of_own o3); have B3 := hide (below_in B2.out b3 (Nat.le_refl _)); clear b3 o3))
      | (go_at_call 21; go_must (refine (C4.out _ B3.out).mono ?_; rintro e w4 ⟨A4, c4, rfl, o4, h4, b4⟩; have R4 := hide (Rd.of_own o4); have R34 := hide (rd_call R3.out b4); have B4 := hide (below_in B3.out b4 (Nat.le_refl _)); clear b4 o4))
      | (go_at_call 11; go_must (refine (C5.out _ _ _ _ _ R34.out R4.out).mono ?_; rintro e w5 ⟨rfl, b5⟩; have B5 := hide (below_in B4.out b5 (Nat.le_refl _)); clear b5))
      | (go_at_call 15; go_must (refine (C6.out _ B5.out).mono ?_; rintro e w6 ⟨rfl, rfl⟩))
      | (go_at_call 16; go_must (refine (C7.out _ B5.out).mono ?_; rintro e w7 ⟨rfl, rfl⟩))
      | (go_at_call 13; go_must (refine (C8.out _ B5.out).mono ?_; rintro e w8 ⟨rfl, b8⟩; have B8 := hide (below_in B5.out b8 (Nat.le_refl _)); clear b8))
      | (go_at_call 14; go_must (refine (C9.out _ B8.out).mono ?_; rintro e w9 ⟨rfl, b9⟩; have B9 := hide (below_in B8.out b9 (Nat.le_refl _)); clear b9))
      | (go_at_call 8; go_must (refine (AK.out _).mono ?_; rintro e w10 ⟨rfl, b10⟩; have B10 := hide (below_in B9.out b10 (Nat.le_refl _)); clear b10)))
    all_goals
      go_ret
      exact ⟨rfl, B10.out⟩
end Go.Proofs.Ytoaeadjihpbhgaa
