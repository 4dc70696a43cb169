/-
  ParseCuts walked: however bytes are cut, the events are the same. No condition but bounds.
-/
import Derived.Test.YthbjjhoajecpcaaLawS
namespace Go.Proofs.Ythbjjhoajecpcaa
open Go.RowKit Go.Proofs
set_option linter.unusedVariables false
theorem apart_symm {P Q : Nat} {r r' : Rows3} (h : ∀ k, PS Q r' k → ¬ PS P r k) : ∀ k, PS P r k → ¬ PS Q r' k := fun k hk hq => h k hq hk
/-- Two parsers of the law's own, apart. -/
structure P2 (B : Nat) (w0 w : World) (P : Nat) (s : Ps) (r : Rows3) (Q : Nat) (t : Ps) (rq : Rows3) : Prop where
  p : PW B w P s r
  q : PW B w Q t rq
  apart : ∀ k, PS Q rq k → ¬ PS P r k
  below : Below B w0 w
  le : B ≤ w.heap.size
  le0 : B ≤ w0.heap.size
theorem P2.kp {B : Nat} {w0 w w' : World} {P Q : Nat} {s s' t : Ps} {r r' rq : Rows3} (h : P2 B w0 w P s r Q t rq) (hp : PW B w' P s' r') (hk : Kp B P r r' w w') : P2 B w0 w' P s' r' Q t rq :=
  ⟨hp, (hk.other Q t rq h.q h.apart).1, (hk.other Q t rq h.q h.apart).2, h.below.trans hk.below, Nat.le_trans h.le hk.below.size, h.le0⟩
theorem P2.kq {B : Nat} {w0 w w' : World} {P Q : Nat} {s t t' : Ps} {r rq rq' : Rows3} (h : P2 B w0 w P s r Q t rq) (hq : PW B w' Q t' rq') (hk : Kp B Q rq rq' w w') : P2 B w0 w' P s r Q t' rq' :=
  ⟨(hk.other P s r h.p (apart_symm h.apart)).1, hq, apart_symm (hk.other P s r h.p (apart_symm h.apart)).2, h.below.trans hk.below, Nat.le_trans h.le hk.below.size, h.le0⟩
theorem P2.call {B : Nat} {w0 w w' : World} {P Q : Nat} {s t : Ps} {r rq : Rows3} (h : P2 B w0 w P s r Q t rq) (hb : Below w.heap.size w w') : P2 B w0 w' P s r Q t rq :=
  ⟨h.p.call hb, h.q.call hb, h.apart, below_in h.below hb h.le0, Nat.le_trans h.le hb.size, h.le0⟩
theorem P2.grown {B : Nat} {w0 u w3 : World} {P Q : Nat} {s t : Ps} {r rq : Rows3} {m k : Nat} {v v' : Value} {xs ys : List Value} (h : P2 B w0 u P s r Q t rq) (hown : u.ownsRow B 41 8 v k xs) (app : App u B 41 8 v v' m ys w3) : P2 B w0 w3 P s r Q t rq :=
  have hb := app.below hown h.below (Nat.le_refl _) h.le
  ⟨h.p.grown hown app, h.q.grown hown app, h.apart, hb, Nat.le_trans h.le (app.frm (S := fun i => v.ownBlock = some i) (Frm.refl _ u) (fun i hi _ => hi)).size, h.le0⟩
set_option maxRecDepth 100000 in
set_option maxHeartbeats 8000000 in
theorem parseCuts_walk (w : World) (A : Option Addr) (n c : Nat) (l : List Int) (hl : l.length = n) (hnc : n ≤ c) (hcm : c ≤ maxLen) (hrd : Rd w w.heap.size 1 A n (l.map b8)) (hq : ∀ x ∈ l, IsByte x)
    (A' : Option Addr) (n' c' : Nat) (l' : List Int) (hl' : l'.length = n') (hnc' : n' ≤ c') (hcm' : c' ≤ maxLen) (hrd' : Rd w w.heap.size 1 A' n' (l'.map b8)) (hq' : ∀ x ∈ l', IsByte x) (a : Int) (wa : (Lit.int .u8 a).wf = true) :
    Calls Try.prog 6 #[.slice A n c, .slice A' n' c', .int .u8 a] w fun e w' => e = .returned (.bool true) ∧ Below w.heap.size w w' := by
  have AW := hide awake_any
  by_cases hbig : 400 < n
  · have d1 : decide (400 < n) = true := by simpa using hbig
    have d2 : decide (400 < (n : Int)) = true := by simp; omega
    clear hrd hq hl hcm hrd' hq' hl' hcm'
    go_enter Try.func6, Try.ntmps6
    go_wp2_with (go_at_call 10; go_must (refine (AW.out _).mono ?_; rintro e w1 ⟨rfl, b1⟩))
    go_ret
    exact ⟨rfl, b1⟩
  · have d1 : decide (400 < n) = false := by simpa using hbig
    have d2 : decide (400 < (n : Int)) = false := by simp; omega
    by_cases hbig' : 60 < n'
    · have d3 : decide (60 < n') = true := by simpa using hbig'
      have d4 : decide (60 < (n' : Int)) = true := by simp; omega
      clear hrd hq hl hcm hrd' hq' hl' hcm'
      go_enter Try.func6, Try.ntmps6
      go_wp2_with (go_at_call 10; go_must (refine (AW.out _).mono ?_; rintro e w1 ⟨rfl, b1⟩))
      go_ret
      exact ⟨rfl, b1⟩
    · have d3 : decide (60 < n') = false := by simpa using hbig'
      have d4 : decide (60 < (n' : Int)) = false := by simp; omega
      obtain ⟨h0, h1⟩ := byte_wf wa
      obtain ⟨q, hqq⟩ : ∃ q, a.toNat + 1 = q := ⟨_, rfl⟩
      have MD := hide (fun (W : World) (hb : Below w.heap.size w W) => made_hand w.heap.size a W hb.size h0 h1)
      rw [hqq] at MD
      have hqs : q ≤ 300 := by omega
      have HR := hide hrd
      have HQ := hide hq
      have HL := hide hl
      have HR' := hide hrd'
      have HQ' := hide hq'
      have ST := hide (fun (W : World) (P : Nat) (s : Ps) (r : Rows3) (hW : PW w.heap.size W P s r) => state_hand hW)
      have HD := hide (fun (W : World) (P : Nat) (s : Ps) (r : Rows3) (hW : PW w.heap.size W P s r) => held_hand hW)
      have ELq := hide (fun (j : Nat) => all_len (l.take j) (new_ok (most := q) (by omega)) (fun x hx => hq x (List.mem_of_mem_take hx)))
      have FEW := hide (all_few l (newM q))
      clear hrd hq hl hcm hrd' hq' hl' hcm' hqq
      go_enter Try.func6, Try.ntmps6
      go_wp2_with (first
        | (go_at_call 10; go_must (refine (AW.out _).mono ?_; rintro e w1 ⟨rfl, b1⟩; have B1 := hide b1; clear b1))
        | (go_at_call 11; (with_reducible refine (MD.out _ B1.out).mono ?_); rintro e w2 ⟨P, rfl, hP, b2, _⟩; have HP := hide hP; have B2 := hide (below_in B1.out b2 (Nat.le_refl _)); clear b2 hP)
        | (go_at_call 11; (with_reducible refine (MD.out _ B2.out).mono ?_); rintro e w3 ⟨Q, rfl, hQ, b3, hap⟩; have HPQ := hide (show P2 w.heap.size w w3 P (newM q) R0 Q (newM q) R0 from ⟨HP.out.call b3, hQ, fun k hk hk' => by have h1 := hap k hk; have h2 := ps_lt HP.out.at_ hk'; omega, below_in B2.out b3 (Nat.le_refl _), (below_in B2.out b3 (Nat.le_refl _)).size, Nat.le_refl _⟩); clear b3 hQ hap))
      go_loopg [9, 10, 11, 12] n' (fun g s9 s10 s11 s12 wr => ∃ (k m at_ : Nat) (D : Option Addr) (cc : Nat) (r : Rows3), k + g = n' ∧ s11 = .int .i64 k ∧ at_ + m = n ∧ s10 = .slice D m cc ∧ m ≤ cc ∧ Hid (Rd w w.heap.size 1 D m ((l.drop at_).map b8)) ∧ Hid (P2 w.heap.size w wr P (allM (newM q) (l.take at_)).2 r Q (newM q) R0) ∧ Hid (EvRow wr w.heap.size s9 (allM (newM q) (l.take at_)).1.length (allM (newM q) (l.take at_)).1))
      case atStart => exact ⟨0, n, 0, A, c, R0, by omega, rfl, by omega, rfl, hnc, HR.out, HPQ.out, EvRow.nil _ _ 0⟩
      case round =>
        clear HPQ
        obtain ⟨k, m, at_, D, cc, r, hk, rfl, hat, rfl, hmc, HD1, HPQ, HE⟩ := hrel
        have el := ELq.out at_
        rw [List.length_take, HL.out] at el
        by_cases hlt : k < n'
        · obtain ⟨b1, off, x, rfl, hb1, hx, cx⟩ := (HR'.out).at1 hlt
          obtain ⟨x0, x1⟩ := HQ'.out x (List.mem_of_getElem? hx)
          obtain ⟨x, rfl⟩ : ∃ y : Nat, x = y := ⟨x.toNat, by omega⟩
          have cx1 : wr.cell? ⟨b1, off + k, none⟩ = some (.int .u8 (x : Int)) := (HPQ.out.below.cell (p := ⟨b1, off + k, none⟩) hb1).trans cx
          obtain ⟨z, hz⟩ : ∃ z, min x m = z := ⟨_, rfl⟩
          have hzm : z ≤ m := by omega
          have mn := min2_ Try.prog #[3, 3] 3 (k := .i64) (x := (x : Int)) (y := (m : Int)) (z := (z : Int)) (by omega)
          have ex : IntKind.i64.wrap (x : Int) = x := IntWalk.i64_in _ (by omega)
          have cu : ∀ W, (Instr.slice 22 (.slice D m cc) none (some (.int .i64 (z : Int))) none).run Try.prog W = .ok (.slice D z cc) W := fun W => by
            have := cut_h (P := Try.prog) (t := 22) (a := D) (len := m) (cap := cc) Try.u22 Try.size5 z (H := z) rfl (by omega) W
            rwa [cutA_zero] at this
          have cu2 := fun W => cut_l (P := Try.prog) (t := 22) (a := D) (len := m) (cap := cc) Try.u22 Try.size5 z (L := z) rfl hzm W
          have rd1 : Rd w w.heap.size 1 D z (((l.drop at_).take z).map b8) := by have := HD1.out.front hzm; rwa [Nat.mul_one, ← List.map_take] at this
          have rd2 := HD1.out.cutA (k := z) (cap := cc) hzm hmc
          rw [Nat.mul_one, ← List.map_drop, List.drop_drop] at rd2
          obtain ⟨D2, hD2⟩ : ∃ D2, cutA D cc z 1 = D2 := ⟨_, rfl⟩
          rw [hD2] at cu2 rd2
          obtain ⟨m2, hm2⟩ : ∃ m2, m - z = m2 := ⟨_, rfl⟩
          obtain ⟨cc2, hcc2⟩ : ∃ cc2, cc - z = cc2 := ⟨_, rfl⟩
          rw [hm2] at rd2 cu2
          rw [hcc2] at cu2
          have hap := all_app (l.take at_) ((l.drop at_).take z) (newM q)
          rw [← List.take_add] at hap
          have hb3 : ∀ y ∈ (l.drop at_).take z, 0 ≤ y ∧ y ≤ 255 := fun y hy => HQ.out y (List.mem_of_mem_drop (List.mem_of_mem_take hy))
          have AL := fun (W : World) (hW : P2 w.heap.size w W P (allM (newM q) (l.take at_)).2 r Q (newM q) R0) => all_hand (c := cc) hW.p hW.le (rd1.below hW.below) (by omega) hb3
          have el2 := ELq.out (at_ + z)
          rw [List.length_take, HL.out, hap] at el2
          obtain ⟨evs, hevs⟩ : ∃ evs, (allM (newM q) (l.take at_)).1 = evs := ⟨_, rfl⟩
          obtain ⟨s, hs⟩ : ∃ s, (allM (newM q) (l.take at_)).2 = s := ⟨_, rfl⟩
          rw [hevs] at HE el hap el2
          rw [hs] at HPQ AL hap el2
          obtain ⟨evs2, hevs2⟩ : ∃ evs2, (allM s ((l.drop at_).take z)).1 = evs2 := ⟨_, rfl⟩
          obtain ⟨s2, hs2⟩ : ∃ s2, (allM s ((l.drop at_).take z)).2 = s2 := ⟨_, rfl⟩
          unfold EvW at AL
          rw [hevs2, hs2] at AL hap
          rw [hevs2] at el2
          have HS := hide hap
          have el2 : (evs ++ evs2).length ≤ 2 * min (at_ + z) n := el2
          obtain ⟨N, hN⟩ : ∃ N, evs.length = N := ⟨_, rfl⟩
          obtain ⟨M, hM⟩ : ∃ M, evs2.length = M := ⟨_, rfl⟩
          obtain ⟨L, hL⟩ : ∃ L, N + M = L := ⟨_, rfl⟩
          have hNM : (evs ++ evs2).length = L := by rw [List.length_append, hN, hM, hL]
          rw [hNM] at el2
          rw [hM] at AL
          obtain ⟨Ae, ce, rfl⟩ := HE.out.form
          rw [hN] at HE el ⊢
          have hL1 : N ≤ L ∧ M ≤ L := by omega
          have hLm : N + M ≤ 2000 := by omega
          have AL := hide AL
          have HNM := hide hNM
          have HLL := hide hL
          have RD2 := hide rd2
          clear cx hx hap hevs hs hevs2 hs2 hN hM hL hNM rd1 rd2 hz hD2 hb3
          go_wp2_with (first
            | (go_at_call 16; go_must (refine (AL.out _ HPQ.out).mono ?_; rintro e u1 ⟨A1, c1, r1, rfl, he2, hP1, hk1⟩; have he1 := hk1.evs _ _ _ _ HE.out; have PQ1 := hide (HPQ.out.kp hP1 hk1); have z1 := PQ1.out.le; obtain ⟨xs, x1, x2, x3⟩ := he1; obtain ⟨ys, y1, y2, y3⟩ := he2; have X1 := hide x1; have X2 := hide x2; have X3 := hide x3; have Y1 := hide y1; have Y3 := hide y3; have hrd := Rd.of_own y2; clear x1 x2 x3 y1 y2 y3 hP1 hk1))
            | (at_builtin; go_must (refine wpList_appends Try.sl27 rfl _ _ rfl w.heap.size (.slice Ae N ce) N _ u1 u1.heap.size A1 M c1 _ rfl rfl X2.out hrd (one_evC ys (fun x hx => nums_one (Y3.out x hx))) (by simp only [maxLen]; omega) (by omega) z1 ?_; intro A3 c3 w3 app; have PQ3 := hide (PQ1.out.grown X2.out app); have GT := (got_turn X1.out X2.out X3.out Y1.out Y3.out app PQ1.out.below z1).1; rw [HLL.out] at GT ⊢; have E3 := hide GT; clear GT app)))
          go_roundg (n' - (k + 1))
          case measure => omega
          case rel =>
            refine ⟨k + 1, m2, at_ + z, D2, cc2, r1, by omega, by go_num, by omega, rfl, by omega, RD2.out, ?_, ?_⟩
            · show P2 _ _ _ _ _ _ _ _ _
              rw [HS.out]
              exact PQ3.out
            · show EvRow _ _ _ _ _
              rw [HS.out, HNM.out]
              exact E3.out
        · have hap := all_app (l.take at_) (l.drop at_) (newM q)
          rw [List.take_append_drop] at hap
          have hb3 : ∀ y ∈ l.drop at_, 0 ≤ y ∧ y ≤ 255 := fun y hy => HQ.out y (List.mem_of_mem_drop hy)
          have AL := fun (W : World) (hW : P2 w.heap.size w W P (allM (newM q) (l.take at_)).2 r Q (newM q) R0) => all_hand (c := cc) hW.p hW.le (HD1.out.below hW.below) (by omega) hb3
          have AQ := fun (W : World) (P' : Nat) (s' : Ps) (r' : Rows3) (hW : P2 w.heap.size w W P' s' r' Q (newM q) R0) => all_hand (c := c) hW.q hW.le (HR.out.below hW.below) (by omega) HQ.out
          have el2 := ELq.out n
          have few := FEW.out
          rw [List.length_take, HL.out, List.take_of_length_le (by rw [HL.out]; exact Nat.le_refl _), hap] at el2
          rw [hap] at few
          have AQ : ∀ (W : World) (P' : Nat) (s' : Ps) (r' : Rows3) (hW : P2 w.heap.size w W P' s' r' Q (newM q) R0), Calls Try.prog 16 #[.pointer (some ⟨Q, 0, none⟩), .slice A n c] W (EvW w.heap.size Q R0 (allM (allM (newM q) (l.take at_)).2 (l.drop at_)).2 ((allM (newM q) (l.take at_)).1 ++ (allM (allM (newM q) (l.take at_)).2 (l.drop at_)).1) W) := fun W P' s' r' hW => by
            have := AQ W P' s' r' hW
            rw [hap] at this
            exact this
          obtain ⟨evs, hevs⟩ : ∃ evs, (allM (newM q) (l.take at_)).1 = evs := ⟨_, rfl⟩
          obtain ⟨s, hs⟩ : ∃ s, (allM (newM q) (l.take at_)).2 = s := ⟨_, rfl⟩
          rw [hevs] at HE el few el2 AQ
          rw [hs] at HPQ AL few el2 AQ
          obtain ⟨evs2, hevs2⟩ : ∃ evs2, (allM s (l.drop at_)).1 = evs2 := ⟨_, rfl⟩
          obtain ⟨s2, hs2⟩ : ∃ s2, (allM s (l.drop at_)).2 = s2 := ⟨_, rfl⟩
          unfold EvW at AL AQ
          rw [hevs2, hs2] at AL AQ
          rw [hevs2] at el2 few
          have few : ∀ e ∈ evs ++ evs2, Few e.nums := few
          have el2 : (evs ++ evs2).length ≤ 2 * min n n := el2
          obtain ⟨N, hN⟩ : ∃ N, evs.length = N := ⟨_, rfl⟩
          obtain ⟨M, hM⟩ : ∃ M, evs2.length = M := ⟨_, rfl⟩
          obtain ⟨L, hL⟩ : ∃ L, N + M = L := ⟨_, rfl⟩
          have hNM : (evs ++ evs2).length = L := by rw [List.length_append, hN, hM, hL]
          rw [hNM] at el2 AQ
          rw [hM] at AL
          obtain ⟨Ae, ce, rfl⟩ := HE.out.form
          rw [hN] at HE el ⊢
          have hL1 : N ≤ L ∧ M ≤ L := by omega
          have hLm : N + M ≤ 2000 := by omega
          have hL2 : L ≤ 2000 := by omega
          obtain ⟨st, hst⟩ : ∃ st, s2.state = st := ⟨_, rfl⟩
          obtain ⟨hd, hhd⟩ : ∃ hd, heldM s2 = hd := ⟨_, rfl⟩
          have ST2 := ST.out
          have HD2 := HD.out
          have ST2 := hide (fun (W : World) (P : Nat) (r : Rows3) (hW : PW w.heap.size W P s2 r) => ST2 W P s2 r hW)
          have HD2 := hide (fun (W : World) (P : Nat) (r : Rows3) (hW : PW w.heap.size W P s2 r) => HD2 W P s2 r hW)
          rw [hst] at ST2
          rw [hhd] at HD2
          have AL := hide AL
          have AQ := hide AQ
          have FEW := hide few
          have HLL := hide hL
          clear hap hevs hs hevs2 hs2 hN hM hL hNM hb3 few hst hhd
          go_wp2_with (first
            | (go_at_call 16; (with_reducible refine (AL.out _ HPQ.out).mono ?_); rintro e u1 ⟨A1, c1, r1, rfl, he2, hP1, hk1⟩; have he1 := hk1.evs _ _ _ _ HE.out; have PQ1 := hide (HPQ.out.kp hP1 hk1); have z1 := PQ1.out.le; obtain ⟨xs, x1, x2, x3⟩ := he1; obtain ⟨ys, y1, y2, y3⟩ := he2; have X1 := hide x1; have X2 := hide x2; have X3 := hide x3; have Y1 := hide y1; have Y3 := hide y3; have hrd := Rd.of_own y2; clear x1 x2 x3 y1 y2 y3 hP1 hk1)
            | (at_builtin; go_must (refine wpList_appends Try.sl27 rfl _ _ rfl w.heap.size (.slice Ae N ce) N _ u1 u1.heap.size A1 M c1 _ rfl rfl X2.out hrd (one_evC ys (fun x hx => nums_one (Y3.out x hx))) (by simp only [maxLen]; omega) (by omega) z1 ?_; intro A3 c3 w3 app; have PQ3 := hide (PQ1.out.grown X2.out app); have GT := (got_turn X1.out X2.out X3.out Y1.out Y3.out app PQ1.out.below z1).1; rw [HLL.out] at GT ⊢; have E3 := hide GT; clear GT app))
            | (go_at_call 16; (with_reducible refine (AQ.out _ _ _ _ PQ3.out).mono ?_); rintro e u4 ⟨A4, c4, r4, rfl, he4, hP4, hk4⟩; have E4 := hide (hk4.evs _ _ _ _ E3.out); have F4 := hide he4; have PQ4 := hide (PQ3.out.kq hP4 hk4); clear he4 hP4 hk4)
            | (go_at_call 15; go_must (refine (sameE_any A3 A4 L c3 c4 _ _ E4.out.rd F4.out.rd (by omega) FEW.out).mono ?_; rintro e u5 ⟨rfl, bb⟩; have PQ5 := hide (PQ4.out.call bb); clear bb))
            | (go_at_call 17; (with_reducible refine (ST2.out _ P _ PQ5.out.p).mono ?_); rintro e u6 ⟨rfl, hu6⟩; obtain rfl := hu6.symm)
            | (go_at_call 17; (with_reducible refine (ST2.out _ Q _ PQ5.out.q).mono ?_); rintro e u6 ⟨rfl, hu6⟩; obtain rfl := hu6.symm)
            | (go_at_call 13; (with_reducible refine (HD2.out _ P _ PQ5.out.p).mono ?_); rintro e u7 ⟨rfl, q7, hu7⟩; have PQ7 := hide (PQ5.out.call (below_drewN' (Below.refl _ _) q7)); rw [← hu7] at PQ7; clear hu7)
            | (go_at_call 13; (with_reducible refine (HD2.out _ Q _ PQ7.out.q).mono ?_); rintro e u8 ⟨rfl, q8, hu8⟩; have PQ8 := hide (PQ7.out.call (below_drewN' (Below.refl _ _) q8)); rw [← hu8] at PQ8; clear hu8))
          go_ret
          exact ⟨rfl, PQ8.out.below⟩
end Go.Proofs.Ythbjjhoajecpcaa
