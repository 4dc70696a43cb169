/-
  ParseSteps walked: byte by byte, the events so far, where one is, how many are held. No condition but bounds.
-/
import Derived.Test.YthbjjhoajecpcaaLawA
namespace Go.Proofs.Ythbjjhoajecpcaa
open Go.RowKit Go.Proofs
set_option linter.unusedVariables false
theorem PW.grown {B base : Nat} {u w3 : World} {P : Nat} {s : Ps} {r : Rows3} {m k : Nat} {v v' : Value} {xs ys : List Value} (h : PW B u P s r) (hown : u.ownsRow base 41 8 v k xs) (app : App u base 41 8 v v' m ys w3) : PW B w3 P s r := by
  have f : Frm (fun i => v.ownBlock = some i) u w3 := app.frm (Frm.refl _ u) (fun i hi _ => hi)
  exact ⟨h.at_.frm f (fun i hi hv => own_ps h.at_ hown (by decide) (by decide) hv hi), h.ok, h.own⟩
/-- Events more in a law's row. -/
theorem got_turn {B : Nat} {w0 u w3 : World} {A2 A3 : Option Addr} {k m c2 c3 : Nat} {evs evs2 : List Ev} {xs ys : List (Ev × Value)} (h1 : xs.map Prod.fst = evs) (h2 : u.ownsRow B 41 8 (.slice A2 k c2) k (xs.flatMap evC)) (h3 : ∀ x ∈ xs, NumsAt u x.2 x.1.nums) (k1 : ys.map Prod.fst = evs2) (k3 : ∀ x ∈ ys, NumsAt u x.2 x.1.nums)
    (app : App u B 41 8 (.slice A2 k c2) (.slice A3 (k + m) c3) (k + m) (xs.flatMap evC ++ ys.flatMap evC) w3) (hb : Below B w0 u) (hB : B ≤ u.heap.size) :
    EvRow w3 B (.slice A3 (k + m) c3) (k + m) (evs ++ evs2) ∧ Below B w0 w3 ∧ ∀ P s r, PW B u P s r → PW B w3 P s r :=
  ⟨EvRow.app h1 h2 h3 k1 k3 app, app.below h2 hb (Nat.le_refl _) hB, fun P s r h => h.grown h2 app⟩
set_option maxRecDepth 100000 in
set_option maxHeartbeats 8000000 in
theorem parseSteps_walk (w : World) (A : Option Addr) (n c : Nat) (l : List Int) (hl : l.length = n) (hnc : n ≤ c) (hcm : c ≤ maxLen) (hrd : Rd w w.heap.size 1 A n (l.map b8)) (hq : ∀ x ∈ l, IsByte x) (a : Int) (wa : (Lit.int .u8 a).wf = true) :
    Calls Try.prog 5 #[.slice A n c, .int .u8 a] w fun e w' => e = .returned (.bool true) ∧ Below w.heap.size w w' := by
  have AW := hide awake_any
  by_cases hbig : 60 < n
  · have d1 : decide (60 < n) = true := by simpa using hbig
    have d2 : decide (60 < (n : Int)) = true := by simp; omega
    clear hrd hq hl hcm
    go_enter Try.func5, Try.ntmps5
    go_wp2_with (go_at_call 10; go_must (refine (AW.out _).mono ?_; rintro e w1 ⟨rfl, b1⟩))
    go_ret
    exact ⟨rfl, b1⟩
  · have d1 : decide (60 < n) = false := by simpa using hbig
    have d2 : decide (60 < (n : Int)) = false := by simp; omega
    obtain ⟨h0, h1⟩ := byte_wf wa
    obtain ⟨m, rfl⟩ : ∃ m : Nat, a = m := ⟨a.toNat, by omega⟩
    obtain ⟨q, hqq⟩ : ∃ q, m + 1 = q := ⟨_, rfl⟩
    have MD := hide (fun (W : World) (hb : Below w.heap.size w W) => made_hand w.heap.size (m : Int) W hb.size (by omega) (by omega))
    have e0 : ((m : Int).toNat + 1 : Nat) = q := by simp; omega
    rw [e0] at MD
    have e2 : IntKind.i64.wrap (m : Int) = m := IntWalk.i64_in _ (by omega)
    have e3 : (m : Int) + 1 = q := by omega
    have hbt : ∀ k, ∀ x ∈ l.take k, 0 ≤ x ∧ x ≤ 255 := fun k x hx => hq x (List.mem_of_mem_take hx)
    have OF := hide (fun (j : Nat) (hj : j ≤ n) (W : World) (hb : Below w.heap.size w W) => of_any q (l.take j) A j c W (by have := ((hrd.below hb).more hb.size).front hj; rwa [Nat.mul_one, ← List.map_take] at this) (by omega) (by omega) (by omega) (hbt j))
    have DL := hide (fun j => doc_all q (l.take j) (hbt j))
    have FW := hide (fun j => all_few (l.take j) (newM q))
    have EL := hide (fun j => all_len (l.take j) (new_ok (most := q) (by omega)) (hbt j))
    have HR := hide hrd
    have HQ := hide hq
    have HL := hide hl
    have ST := hide (fun (W : World) (P : Nat) (s : Ps) (r : Rows3) (hW : PW w.heap.size W P s r) => state_hand hW)
    have HD := hide (fun (W : World) (P : Nat) (s : Ps) (r : Rows3) (hW : PW w.heap.size W P s r) => held_hand hW)
    clear hrd hq hl hcm hbt hqq
    go_enter Try.func5, Try.ntmps5
    go_wp2_with (first
      | (go_at_call 10; go_must (refine (AW.out _).mono ?_; rintro e w1 ⟨rfl, b1⟩; have B1 := hide b1; clear b1))
      | (go_at_call 11; go_must (refine (MD.out _ B1.out).mono ?_; rintro e w2 ⟨P, rfl, hP, b2, _⟩; have HP := hide hP; have B2 := hide (below_in B1.out b2 (Nat.le_refl _)); clear b2 hP)))
    go_loopg [6, 7, 8] n (fun g s6 s7 s8 wr => ∃ (k : Nat) (r : Rows3), k + g = n ∧ s7 = .int .i64 k ∧ Hid (PW w.heap.size wr P (allM (newM q) (l.take k)).2 r) ∧ Hid (EvRow wr w.heap.size s6 (allM (newM q) (l.take k)).1.length (allM (newM q) (l.take k)).1) ∧ Hid (Below w.heap.size w wr))
    case atStart => exact ⟨0, R0, by omega, rfl, HP.out, EvRow.nil _ _ 0, B2.out⟩
    case round =>
      clear HP B2
      obtain ⟨k, r, hk, rfl, HP, HE, HB⟩ := hrel
      by_cases hlt : k < n
      · obtain ⟨b1, off, x, rfl, hb1, hx, cx⟩ := (HR.out).at1 hlt
        obtain ⟨x0, x1⟩ := HQ.out x (List.mem_of_getElem? hx)
        have cx1 := (HB.out.cell (p := ⟨b1, off + k, none⟩) hb1).trans cx
        have hsn := all_snoc (l.take k) (newM q) x
        rw [← take_snoc hx] at hsn
        have el := EL.out k
        rw [List.length_take, HL.out] at el
        obtain ⟨j, hj⟩ : ∃ j, k + 1 = j := ⟨_, rfl⟩
        rw [hj] at hsn
        have hjn : j ≤ n := by omega
        obtain ⟨k1, k2, k3⟩ := DL.out j
        have few := FW.out j
        have el2 := EL.out j
        rw [List.length_take, HL.out] at el2
        obtain ⟨evs, hevs⟩ : ∃ evs, (allM (newM q) (l.take k)).1 = evs := ⟨_, rfl⟩
        obtain ⟨s, hs⟩ : ∃ s, (allM (newM q) (l.take k)).2 = s := ⟨_, rfl⟩
        rw [hevs] at HE el hsn
        rw [hs] at HP hsn
        have STP := step_hand HP.out HB.out.size x0 x1
        have sl := step_len HP.out.ok x x0 x1
        obtain ⟨evs2, hevs2⟩ : ∃ evs2, (stepM s x).1 = evs2 := ⟨_, rfl⟩
        obtain ⟨s2, hs2⟩ : ∃ s2, (stepM s x).2 = s2 := ⟨_, rfl⟩
        unfold EvW at STP
        rw [hevs2, hs2] at STP hsn
        rw [hevs2] at sl
        have HS := hide hsn
        rw [hsn] at k1 k2 k3 few el2
        have k1 : evs ++ evs2 = (ofF q (l.take j)).evs := k1
        have k2 : s2.state = (ofF q (l.take j)).st := k2
        have k3 : heldM s2 = (ofF q (l.take j)).held := k3
        have few : ∀ e ∈ evs ++ evs2, Few e.nums := few
        have el2 : (evs ++ evs2).length ≤ _ := el2
        have OFJ := OF.out j hjn
        unfold OfPost at OFJ
        rw [← k1, ← k2, ← k3] at OFJ
        obtain ⟨N, hN⟩ : ∃ N, evs.length = N := ⟨_, rfl⟩
        obtain ⟨M, hM⟩ : ∃ M, evs2.length = M := ⟨_, rfl⟩
        obtain ⟨L, hL⟩ : ∃ L, N + M = L := ⟨_, rfl⟩
        have hNM : (evs ++ evs2).length = L := by rw [List.length_append, hN, hM, hL]
        rw [hNM] at OFJ el2
        rw [hM] at STP sl
        obtain ⟨Ae, ce, rfl⟩ := HE.out.form
        rw [hN] at HE el ⊢
        obtain ⟨st, hst⟩ : ∃ st, s2.state = st := ⟨_, rfl⟩
        obtain ⟨hd, hhd⟩ : ∃ hd, heldM s2 = hd := ⟨_, rfl⟩
        have ST2 := ST.out
        have HD2 := HD.out
        rw [hst, hhd] at OFJ
        have ST2 := hide (fun (W : World) (r : Rows3) (hW : PW w.heap.size W P s2 r) => ST2 W P s2 r hW)
        have HD2 := hide (fun (W : World) (r : Rows3) (hW : PW w.heap.size W P s2 r) => HD2 W P s2 r hW)
        rw [hst] at ST2
        rw [hhd] at HD2
        have OFJ := hide OFJ
        have STP := hide STP
        have FEW := hide few
        have HNM := hide hNM
        have HLL := hide hL
        have ej : (k : Int) + 1 = j := by omega
        have ej2 : IntKind.i64.wrap (j : Int) = j := IntWalk.i64_in _ (by omega)
        have cu : ∀ W, (Instr.slice 22 (.slice (some ⟨b1, off, none⟩) n c) none (some (.int .i64 (j : Int))) none).run Try.prog W = .ok (.slice (some ⟨b1, off, none⟩) j c) W := fun W => by
          have := cut_h (P := Try.prog) (t := 22) (a := some ⟨b1, off, none⟩) (len := n) (cap := c) Try.u22 Try.size5 j (H := j) rfl (by omega) W
          rwa [cutA_zero] at this
        clear hx cx hsn hevs hs hevs2 hs2 hN hM hL hNM k1 k2 k3 few hst hhd hj
        go_upto_region 12 with (first
          | (go_at_call 12; go_must (refine STP.out.mono ?_; rintro e u1 ⟨A1, c1, r1, rfl, he2, hP1, hk1⟩; have he1 := hk1.evs _ _ _ _ HE.out; have P1 := hide hP1; have B1 := hide (HB.out.trans hk1.below); have z1 := B1.out.size; obtain ⟨xs, x1, x2, x3⟩ := he1; obtain ⟨ys, y1, y2, y3⟩ := he2; have X1 := hide x1; have X2 := hide x2; have X3 := hide x3; have Y1 := hide y1; have Y3 := hide y3; have hrd := Rd.of_own y2; clear x1 x2 x3 y1 y2 y3 hP1 hk1))
          | (at_builtin; go_must (refine wpList_appends Try.sl27 rfl _ _ rfl w.heap.size (.slice Ae N ce) N _ u1 u1.heap.size A1 M c1 _ rfl rfl X2.out hrd (one_evC ys (fun x hx => nums_one (Y3.out x hx))) (by simp only [maxLen]; omega) (by omega) z1 ?_; intro A3 c3 w3 app; have GT := got_turn X1.out X2.out X3.out Y1.out Y3.out app B1.out z1; rw [HLL.out] at GT ⊢; have E3 := hide GT.1; have B3 := hide GT.2.1; have P3 := hide (GT.2.2 P _ _ P1.out); clear GT app))
          | (go_at_call 14; go_must (refine (OFJ.out _ B3.out).mono ?_; rintro e w4 ⟨R, AE, cE, A2, c2, hR, rfl, kR, kE, b4⟩; have KR := hide kR; have KE := hide kE; have P4 := hide (P3.out.call b4); have E4 := hide (E3.out.call b4); have B4 := hide (below_in B3.out b4 (Nat.le_refl _)); clear kE b4)))
        have y0 := kR.cell 0
        have y1 := kR.cell 1
        have y2 := kR.cell 2
        simp only [List.getElem?_toArray, List.getElem?_cons_succ, List.getElem?_cons_zero] at y0 y1 y2
        have hRl := kR.lt
        clear kR
        go_region_held3 (fun W => W.cell? ⟨R, 0, none⟩ = some (.slice AE L cE) ∧ W.cell? ⟨R, 1, none⟩ = some (.int .i64 st) ∧ W.cell? ⟨R, 2, none⟩ = some (.int .i64 hd))
          (first | (exact ⟨y0, y1, y2⟩) | (exact z5) | (exact z6) | go_keep)
          (first
            | (go_at_call 15; (refine (sameE_any A3 AE L c3 cE _ _ (E4.out.call (Below.refl _ w4).drew).rd (KE.out.call (Below.refl _ w4).drew).rd (by omega) FEW.out).mono ?_); rintro e u5 ⟨rfl, bb⟩; have D5 := hide (show Below w4.heap.size w4 u5 from (Below.refl _ w4).drew.trans bb); have P5 := hide (P4.out.call D5.out); have R5 := hide (KR.out.below D5.out KR.out.lt); have z5 : u5.cell? ⟨R, 0, none⟩ = some (.slice AE L cE) ∧ u5.cell? ⟨R, 1, none⟩ = some (.int .i64 st) ∧ u5.cell? ⟨R, 2, none⟩ = some (.int .i64 hd) := ⟨R5.out.cell 0, R5.out.cell 1, R5.out.cell 2⟩; clear bb)
            | (go_at_call 17; (refine (ST2.out _ r1 P5.out).mono ?_); rintro e u6 ⟨rfl, rfl⟩)
            | (go_at_call 13; (refine (HD2.out _ r1 P5.out).mono ?_); rintro e u7 ⟨rfl, q7, rfl⟩; have z6 : (u6.drewN q7).cell? ⟨R, 0, none⟩ = some (.slice AE L cE) ∧ (u6.drewN q7).cell? ⟨R, 1, none⟩ = some (.int .i64 st) ∧ (u6.drewN q7).cell? ⟨R, 2, none⟩ = some (.int .i64 hd) := z5))
        go_wp2_with fail
        go_roundg (n - j)
        case measure => omega
        case rel =>
          have z := P5.out.call (below_drewN' (Below.refl _ u6) q7)
          have z2 := (E4.out.call D5.out).call (below_drewN' (Below.refl _ u6) q7)
          refine ⟨j, r1, by omega, rfl, ?_, ?_, below_drewN' (below_in B4.out D5.out (Nat.le_refl _)) q7⟩
          · show PW _ _ _ _ _
            rw [HS.out]
            exact z
          · show EvRow _ _ _ _ _
            rw [HS.out]
            rw [HNM.out]
            exact z2
      · go_wp2_with fail
        go_ret
        exact ⟨rfl, HB.out⟩
end Go.Proofs.Ythbjjhoajecpcaa
