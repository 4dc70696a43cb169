/-
  HuntReplaces, walked. No condition but the arguments' kinds.
-/
import Derived.Test.YtkcmpddefohkeaaReplaceN
import Derived.Test.YtkcmpddefohkeaaLawsF
namespace Go.Proofs.Ytkcmpddefohkeaa
open Go.RowKit Go.Proofs
set_option linter.unusedVariables false
/-- What is said of a number. -/
def sayF (ws : List ByteArray) (y : Nat) : ByteArray := (ws[y]?).getD ⟨#[63]⟩
theorem sayF_size {ws : List ByteArray} (h : ∀ x ∈ ws, x.size ≤ 100) (y : Nat) : (sayF ws y).size ≤ 400 := by
  unfold sayF
  cases hy : ws[y]? with
  | none => show (⟨#[63]⟩ : ByteArray).size ≤ 400; decide
  | some x => have := h x (List.mem_of_getElem? hy); simp only [Option.getD]; omega
set_option maxHeartbeats 2000000 in
theorem say_any {B : Nat} (ws : List ByteArray) (bx : Nat) (A : Option Addr) (n c y : Nat) (w : World) (hb : Blk w bx 22 #[.slice A n c]) (hr : Rd w B 1 A n (ws.map Value.string)) (hn : n ≤ 100000) (hy : y ≤ 100000) :
    Calls Try.prog 22 #[.int .i64 y, .pointer (some ⟨bx, 0, none⟩)] w fun e w' => e = .returned (.string (sayF ws y)) ∧ w' = w := by
  have hln := hr.len1
  have c0 := hb.cell 0
  simp at c0
  by_cases hlt : y < n
  · obtain ⟨b, off, x, rfl, hB, hx, cx⟩ := hr.at1 hlt
    have HS := hide (show sayF ws y = x by unfold sayF; rw [hx]; rfl)
    clear hx
    go_enter Try.func22, Try.ntmps22
    go_wp2
    go_ret
    exact ⟨by rw [HS.out]; rfl, rfl⟩
  · have HS := hide (show sayF ws y = ⟨#[63]⟩ by unfold sayF; rw [List.getElem?_eq_none (by omega)]; rfl)
    have d1 : decide ((y : Int) < (n : Int)) = false := by simp; omega
    have d2 : decide (y < n) = false := by simp; omega
    have d3 : ¬ (y : Int) < (n : Int) := by omega
    go_enter Try.func22, Try.ntmps22
    go_wp2
    go_ret
    exact ⟨by rw [HS.out]; rfl, rfl⟩
/-- The hits' text, and the text where others stand, both so far. -/
theorem rep_nil_succ {t : ByteArray} {ln : Nat → Nat} {l : List (Nat × Nat)} {k : Nat} {x : Nat × Nat} (h : l[k]? = some x) : repTo t ln (fun _ => ⟨#[]⟩) l (k + 1) = repTo t ln (fun _ => ⟨#[]⟩) l k ++ t.extract (endAt ln l k) x.1 := by
  rw [repTo_succ h]
  exact ByteArray.append_empty ..
set_option maxHeartbeats 8000000 in
set_option maxRecDepth 100000 in
theorem huntReplaces_walk (w : World) (t : ByteArray) (wt : t.size ≤ maxLen) (A : Option Addr) (n c : Nat) (ns : List ByteArray) (hl : ns.length = n) (hnc : n ≤ c) (hcm : c ≤ maxLen) (ha : Rd w w.heap.size 1 A n (ns.map Value.string)) (hq : ∀ x ∈ ns, x.size ≤ maxLen)
    (A2 : Option Addr) (n2 c2 : Nat) (ws : List ByteArray) (hl2 : ws.length = n2) (hnc2 : n2 ≤ c2) (hcm2 : c2 ≤ maxLen) (ha2 : Rd w w.heap.size 1 A2 n2 (ws.map Value.string)) (hq2 : ∀ x ∈ ws, x.size ≤ maxLen) :
    Calls Try.prog 8 #[.string t, .slice A n c, .slice A2 n2 c2] w fun e w' => e = .returned (.bool true) ∧ Below w.heap.size w w' := by
  have BA := hide (show Below w.heap.size w (w.alloc (.cells #[.slice A2 n2 c2] 22)) from (Below.refl _ _).alloc (Nat.le_refl _) _)
  have VA := hide (show Blk (w.alloc (.cells #[.slice A2 n2 c2] 22)) w.heap.size 22 #[.slice A2 n2 c2] from Blk.new _ _ _)
  have GR := hide (fun (W : World) (hb : Below w.heap.size w W) => great_any t ns A n c W ((ha.below hb).more hb.size) wt hq (Nat.le_trans hnc hcm))
  obtain ⟨G, hG⟩ : ∃ G, greatB t ns = G := ⟨_, rfl⟩
  rw [hG] at GR
  have v0 := VA.out.cell 0
  simp at v0
  cases G with
  | true =>
    clear ha hq hl hG ha2 hq2 hl2
    go_enter Try.func8, Try.ntmps8
    go_wp2_with (first
      | (go_at_call 9; go_must (refine (GR.out _ BA.out).mono ?_; rintro e w1 ⟨rfl, b1⟩; have B1 := hide (below_in BA.out b1 (Nat.le_refl _)); clear b1))
      | (go_at_call 10; go_must (refine (awake_any _).mono ?_; rintro e w2 ⟨rfl, b2⟩; have B2 := hide (below_in B1.out b2 (Nat.le_refl _)); clear b2)))
    go_ret
    exact ⟨rfl, B2.out⟩
  | false =>
    by_cases h30 : 30 < n2
    · have d1 : decide ((30 : Int) < (n2 : Int)) = true := by simp; omega
      clear ha hq hl hG ha2 hq2 hl2
      go_enter Try.func8, Try.ntmps8
      go_wp2_with (first
        | (go_at_call 9; go_must (refine (GR.out _ BA.out).mono ?_; rintro e w1 ⟨rfl, b1⟩; have B1 := hide (below_in BA.out b1 (Nat.le_refl _)); have V1 := (VA.out.below b1 VA.out.lt).cell 0; simp at V1; clear b1))
        | (go_at_call 10; go_must (refine (awake_any _).mono ?_; rintro e w2 ⟨rfl, b2⟩; have B2 := hide (below_in B1.out b2 (Nat.le_refl _)); clear b2)))
      go_ret
      exact ⟨rfl, B2.out⟩
    · have d1 : decide ((30 : Int) < (n2 : Int)) = false := by simp; omega
      obtain ⟨g1, g2, g3⟩ := greatB_false hG
      rw [hl] at g2
      have gs : ∀ x ∈ ns, x.size ≤ 400 := fun x hx => by have := g3 x hx; omega
      have ht : t.size ≤ 400 := by omega
      have hLn : (needs ns).length = n := by simp [needs, hl]
      obtain ⟨m, hm⟩ : ∃ m, t.size = m := ⟨_, rfl⟩
      have hTm : (bytesOf plainF t).length = m := by rw [bytesOf_len, hm]
      obtain ⟨hN0, hap⟩ := longF_apart (bytesOf plainF t) (needs ns)
      rw [hTm, hLn] at hap
      rw [hTm] at hN0
      change (lgF t ns).length ≤ m at hN0
      change Apart (lnF ns) n m (lgF t ns) at hap
      have RL := hide (fun (W : World) (hb : Below w.heap.size w W) => show Calls Try.prog 19 #[.string t, .slice A n c] W (RetSlice 33 2 ((lgF t ns).flatMap hitE) W) from refLong_any t ns A n c W ((ha.below hb).more hb.size) ht gs (by omega) hnc)
      have RS := hide (fun (hws : ∀ x ∈ ws, x.size ≤ 100) (W : World) (hb : Below w.heap.size w W) (hV : Blk W w.heap.size 22 #[.slice A2 n2 c2]) => replace_say t ns A n c W 22 #[.pointer (some ⟨w.heap.size, 0, none⟩)] (sayF ws) ((ha.below hb).more hb.size) ht gs (by omega) hnc (fun _ _ => rfl) (sayF_size hws) (fun y W' hy hW' => (say_any (B := w.heap.size) ws w.heap.size A2 n2 c2 y W' (hV.below hW' hV.lt) (ha2.below (hb.trans (hW'.mono hb.size))) (by omega) (by omega)).mono (fun e w' h => ⟨h.1, by rw [h.2]; exact Below.refl _ _⟩)))
      have RN := hide (fun (W : World) (hb : Below w.heap.size w W) => replace_nil t ns A n c W ((ha.below hb).more hb.size) ht gs (by omega) hnc)
      have HF1 := hide (show repF t ns (sayF ws) = repTo t (lnF ns) (sayF ws) (lgF t ns) (lgF t ns).length ++ t.extract (endAt (lnF ns) (lgF t ns) (lgF t ns).length) m by rw [← hm]; rfl)
      have HF2 := hide (show repF t ns (fun _ => ⟨#[]⟩) = repTo t (lnF ns) (fun _ => ⟨#[]⟩) (lgF t ns) (lgF t ns).length ++ t.extract (endAt (lnF ns) (lgF t ns) (lgF t ns).length) m by rw [← hm]; rfl)
      obtain ⟨R1, hR1⟩ : ∃ R, repF t ns (sayF ws) = R := ⟨_, rfl⟩
      obtain ⟨R2, hR2⟩ : ∃ R, repF t ns (fun _ => ⟨#[]⟩) = R := ⟨_, rfl⟩
      rw [hR1] at RS HF1
      rw [hR2] at RN HF2
      obtain ⟨l, hll⟩ : ∃ l, lgF t ns = l := ⟨_, rfl⟩
      rw [hll] at hap hN0 RL HF1 HF2
      have AP := hide hap
      have HM := hide hm
      have SAY := hide (fun (W : World) (hb : Below w.heap.size w W) (hV : Blk W w.heap.size 22 #[.slice A2 n2 c2]) (y : Nat) (hy : y ≤ 100000) => say_any (B := w.heap.size) ws w.heap.size A2 n2 c2 y W hV (ha2.below hb) (by omega) hy)
      have HR := hide ha
      have HR2 := hide ha2
      have HW := hide hl2
      rw [hm] at ht
      have HGS := hide gs
      have hn : n ≤ 30 := by omega
      have hn2 : n2 ≤ 30 := by omega
      clear ha hq hl hG ha2 hq2 hl2 g1 g2 g3 gs hLn hTm hap hll hR1 hR2 h30
      go_enter Try.func8, Try.ntmps8
      go_wp2_with (first
        | (go_at_call 9; go_must (refine (GR.out _ BA.out).mono ?_; rintro e w1 ⟨rfl, b1⟩; have B1 := hide (below_in BA.out b1 (Nat.le_refl _)); have V1 := hide (VA.out.below b1 VA.out.lt); have v1 := V1.out.cell 0; simp at v1; clear b1))
        | (go_at_call 10; go_must (refine (awake_any _).mono ?_; rintro e w2 ⟨rfl, b2⟩; have B2 := hide (below_in B1.out b2 (Nat.le_refl _)); have V2 := hide (V1.out.below b2 V1.out.lt); clear b2)))
      clear v0 v1
      go_loopg [7] n2 (fun g s7 wr => ∃ k : Nat, k + g = n2 ∧ s7 = .int .i64 k ∧ Hid (∀ j x, j < k → ws[j]? = some x → x.size ≤ 100) ∧ Hid (Blk wr w.heap.size 22 #[.slice A2 n2 c2]) ∧ Hid (Below w.heap.size w wr))
      case atStart => exact ⟨0, by omega, rfl, (fun j x hj => by omega), V2.out, B2.out⟩
      case round =>
        clear V2 B2
        obtain ⟨k, hkg, rfl, HS, HV, HB⟩ := hrel
        have v0 := HV.out.cell 0
        simp at v0
        by_cases hlt : k < n2
        · obtain ⟨b, off, x, rfl, hbB, hx, cx⟩ := (HR2.out.below HB.out).at1 hlt
          by_cases hbig : 100 < x.size
          · have d2 : decide ((100 : Int) < (x.size : Int)) = true := by simp; omega
            clear hx
            go_wp2_with fail
            go_ret
            exact ⟨rfl, HB.out⟩
          · have d2 : decide ((100 : Int) < (x.size : Int)) = false := by simp; omega
            have HX := hide hx
            have HBG := hide hbig
            clear hx hbig
            go_wp2_with fail
            go_roundg (n2 - (k + 1))
            case measure => omega
            case rel =>
              refine ⟨k + 1, by omega, by go_num, ?_, HV.out, HB.out⟩
              show ∀ j x', j < k + 1 → ws[j]? = some x' → x'.size ≤ 100
              intro j x' hj hjx
              by_cases hjk : j < k
              · exact HS.out j x' hjk hjx
              · obtain rfl : j = k := by omega
                rw [HX.out] at hjx
                injection hjx with e
                subst e
                have := HBG.out
                exact Nat.le_of_not_lt this
        · obtain rfl : k = n2 := by omega
          have hws : ∀ x ∈ ws, x.size ≤ 100 := by
            intro x hx
            obtain ⟨j, hj, e⟩ := List.mem_iff_getElem.1 hx
            exact HS.out j x (by rw [← HW.out]; exact hj) (by rw [List.getElem?_eq_getElem hj, e])
          have HWS := hide hws
          have SZ1 := hide (fun k => repTo_size (t := t) (ln := lnF ns) (say := sayF ws) (l := l) (m := 400) (q := 400) (by rw [HM.out]; exact ht) (sayF_size hws) k)
          have SZ2 := hide (fun k => repTo_size (t := t) (ln := lnF ns) (say := fun _ => ⟨#[]⟩) (l := l) (m := 400) (q := 400) (by rw [HM.out]; exact ht) (fun _ => Nat.zero_le _) k)
          clear hws
          go_wp2_with (go_at_call 19; go_must (refine (RL.out _ HB.out).mono ?_; rintro e w4 ⟨A4, N1, c4, rfl, o4, b4⟩; have B4 := hide (below_in HB.out b4 (Nat.le_refl _)); have O4 := hide (own_mono o4 HB.out.size); have V4 := hide (HV.out.below b4 HV.out.lt); clear o4 b4))
          have HN1 := hide (own_len hitE_len (by omega) O4.out)
          have hN2 : N1 ≤ m := by rw [HN1.out]; exact hN0
          clear hN0 v0 HB HV
          go_loopg [9, 10, 11, 13] N1 (fun g s9 s10 s11 s13 wr => ∃ (i e : Nat), i + g = N1 ∧ s13 = .int .i64 i ∧ s11 = .int .i64 e ∧ s9 = .string (repTo t (lnF ns) (sayF ws) l i) ∧ s10 = .string (repTo t (lnF ns) (fun _ => ⟨#[]⟩) l i) ∧ Hid (endAt (lnF ns) l i = e) ∧ Hid (Blk wr w.heap.size 22 #[.slice A2 k c2]) ∧ Hid (wr.ownsRow w.heap.size 33 2 (.slice A4 N1 c4) N1 (l.flatMap hitE)) ∧ Hid (Below w.heap.size w wr))
          case atStart => exact ⟨0, 0, by omega, rfl, rfl, rfl, rfl, rfl, V4.out, O4.out, B4.out⟩
          case round =>
            clear V4 O4 B4
            obtain ⟨i, e, hkg, rfl, rfl, rfl, rfl, HE, HV, HO, HB⟩ := hrel
            have hem : e ≤ m := by rw [← HE.out]; exact endAt_le AP.out i
            have v0 := HV.out.cell 0
            simp at v0
            obtain ⟨a1, ha1⟩ : ∃ a, repTo t (lnF ns) (sayF ws) l i = a := ⟨_, rfl⟩
            obtain ⟨a2, ha2⟩ : ∃ a, repTo t (lnF ns) (fun _ => ⟨#[]⟩) l i = a := ⟨_, rfl⟩
            have z1 : a1.size ≤ i * 800 := by rw [← ha1]; exact SZ1.out i
            have z2 : a2.size ≤ i * 800 := by rw [← ha2]; exact SZ2.out i
            rw [ha1, ha2]
            by_cases hlt : i < N1
            · obtain ⟨b, off, x, y, rfl, hbB, hxy, q0, q1⟩ := hits_at (Rd.of_own HO.out) hlt
              obtain ⟨x1, x2, x3⟩ := AP.out i (x, y) hxy
              rw [HE.out] at x1
              simp only at x1 x2 x3
              obtain ⟨nb, noff, s, hA, hnb, hs, cs⟩ := (HR.out.below HB.out).at1 (k := y) x3
              subst hA
              obtain ⟨Z, hZ⟩ : ∃ Z, s.size = Z := ⟨_, rfl⟩
              have hlny : lnF ns y = Z := by unfold lnF; rw [nth_needs hs, bytesOf_len, hZ]
              have HE2 := endAt_succ (ln := lnF ns) hxy
              simp only [hlny] at HE2
              rw [hlny] at x2
              obtain ⟨e2, he2⟩ : ∃ e2, x + Z = e2 := ⟨_, rfl⟩
              rw [he2] at HE2 x2
              have HE2 := hide HE2
              have he3 : (x : Int) + Z = e2 := by omega
              have he4 : IntKind.i64.wrap (e2 : Int) = e2 := IntWalk.i64_in _ ⟨by omega, by omega⟩
              have hxm : x ≤ m := by omega
              have P1 := repTo_succ (t := t) (ln := lnF ns) (say := sayF ws) hxy
              have P2 := rep_nil_succ (t := t) (ln := lnF ns) hxy
              rw [ha1, HE.out] at P1
              rw [ha2, HE.out] at P2
              have hqz : (t.extract e x).size ≤ 400 := by rw [ByteArray.size_extract]; omega
              obtain ⟨q, hq⟩ : ∃ q, t.extract e x = q := ⟨_, rfl⟩
              have hyz := sayF_size HWS.out y
              obtain ⟨sy, hsy⟩ : ∃ sy, sayF ws y = sy := ⟨_, rfl⟩
              have SY := hide (fun (n' : Nat) => SAY.out (wr.drewN n') (below_drewN' HB.out _) (HV.out.drewN _) y (by omega))
              simp only at P1 P2
              rw [hsy] at P1 hyz SY
              rw [hq] at P1 P2 hqz
              obtain ⟨p1, hp1⟩ : ∃ p, a1 ++ q = p := ⟨_, rfl⟩
              have hpz : p1.size ≤ i * 800 + 400 := by rw [← hp1, ByteArray.size_append]; omega
              obtain ⟨p2, hp2⟩ : ∃ p, p1 ++ sy = p := ⟨_, rfl⟩
              obtain ⟨p3, hp3⟩ : ∃ p, a2 ++ q = p := ⟨_, rfl⟩
              rw [hp1, hp2] at P1
              rw [hp3] at P2
              have P1 := hide P1
              have P2 := hide P2
              have f1 : (9223372036854775807 < a1.size + q.size) = False := by simp; omega
              have f2 : (9223372036854775807 < p1.size + sy.size) = False := by simp; omega
              have f3 : (9223372036854775807 < a2.size + q.size) = False := by simp; omega
              have f4 : ((9223372036854775807 : Int) < a1.size + q.size) = False := by simp; omega
              have f5 : ((9223372036854775807 : Int) < p1.size + sy.size) = False := by simp; omega
              have f6 : ((9223372036854775807 : Int) < a2.size + q.size) = False := by simp; omega
              clear hxy hs ha1 ha2 hlny hsy HE z1 z2 hqz hyz hpz
              go_wp2_with fail
              go_quiet ((with_reducible exact Calls.quiet_of_same (SY.out _)))
              go_upto_region 17 with (fail)
              go_quiet (fail)
              go_wp2_with fail
              go_roundg (N1 - (i + 1))
              case measure => omega
              case rel => exact ⟨i + 1, e2, by omega, by go_num, rfl, by rw [P1.out], by rw [P2.out], HE2.out, (HV.out.drewN _), own_drewN HO.out _, below_drewN' HB.out _⟩
            · obtain rfl : i = N1 := by omega
              have hcz : (t.extract e m).size ≤ 400 := by rw [ByteArray.size_extract]; have := HM.out; omega
              obtain ⟨q, hq⟩ : ∃ q, t.extract e m = q := ⟨_, rfl⟩
              have F1 := HF1.out
              have F2 := HF2.out
              rw [← HN1.out, HE.out, hq] at F1 F2
              rw [ha1] at F1
              rw [ha2] at F2
              rw [hq] at hcz
              replace F1 := F1.symm
              replace F2 := F2.symm
              have f1 : (9223372036854775807 < a1.size + q.size) = False := by simp; omega
              have f3 : (9223372036854775807 < a2.size + q.size) = False := by simp; omega
              have f4 : ((9223372036854775807 : Int) < a1.size + q.size) = False := by simp; omega
              have f6 : ((9223372036854775807 : Int) < a2.size + q.size) = False := by simp; omega
              have RS1 := hide (fun (W : World) (h : Below wr.heap.size wr W) => RS.out HWS.out W (below_in HB.out h (Nat.le_refl _)) (HV.out.below h HV.out.lt))
              have RN1 := hide (fun (W : World) (h : Below wr.heap.size wr W) => RN.out W (below_in HB.out h (Nat.le_refl _)))
              have BF := hide HB.out
              clear ha1 ha2 HE z1 z2 hcz
              go_wp2_with fail
              go_region_held3 (fun W => True) (exact trivial)
                (first
                  | (go_at_call_of 23 Value.nilFunc; (refine (RN1.out _ D1).mono ?_); rintro e1 u2 ⟨rfl, bb2⟩; have D2 := below_in D1 bb2 (Nat.le_refl _))
                  | (go_at_call 23; (refine (RS1.out _ (Below.refl wr.heap.size wr).drew).mono ?_); rintro e1 u1 ⟨rfl, bb⟩; have D1 := below_in (Below.refl wr.heap.size wr).drew bb (Nat.le_refl _)))
              go_wp2_with fail
              go_ret
              exact ⟨rfl, below_in BF.out D2 (Nat.le_refl _)⟩
end Go.Proofs.Ytkcmpddefohkeaa
