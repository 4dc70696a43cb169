/-
  ParseCancels walked: what cancels makes one at rest. No condition but bounds.
-/
import Derived.Test.YthbjjhoajecpcaaLawC
import Derived.Test.YthbjjhoajecpcaaLawH
namespace Go.Proofs.Ythbjjhoajecpcaa
open Go.RowKit Go.Proofs
set_option linter.unusedVariables false
theorem Try.u27 : Try.prog.underlying 27 = some (.slice 41) := by kernel_rfl
theorem Try.size41 : (Try.prog.info? 41).map (·.size) = some 8 := by kernel_rfl
theorem print1_keep (s : Ps) (r : Int) : (print1 s r).2.most = s.most ∧ (print1 s r).2.dec = s.dec := by
  unfold print1 finalM enterM
  (repeat' split) <;> exact ⟨rfl, rfl⟩
theorem prints_keep : ∀ (l : List Int) (s : Ps), (printsM s l).2.most = s.most ∧ (printsM s l).2.dec = s.dec
  | [], s => ⟨rfl, rfl⟩
  | r :: l, s => by
    have h1 := print1_keep s r
    have h2 := prints_keep l (print1 s r).2
    exact ⟨h2.1.trans h1.1, h2.2.trans h1.2⟩
theorem step_cancel (s : Ps) {c : Int} (h : c = 24 ∨ c = 26) : ∃ pr, stepM s c = (pr ++ [execE c], newM s.most) := by
  have hk := prints_keep (endF s.dec) { s with dec := [] }
  refine ⟨(printsM { s with dec := [] } (endF s.dec)).1, ?_⟩
  unfold stepM
  rw [if_pos h]
  refine Prod.ext rfl ?_
  show enterM _ 0 = newM s.most
  unfold enterM newM
  rw [hk.1, hk.2]
theorem all_most : ∀ (l : List Int) (s : Ps), (allM s l).2.most = s.most
  | [], s => rfl
  | c :: l, s => (all_most l _).trans (step_most s c)
/-- Events from a place on. -/
theorem EvRd.cut {w : World} {A : Option Addr} {n k cap : Nat} {l : List Ev} (h : EvRd w A n l) (hk : k ≤ n) (hc : n ≤ cap) : EvRd w (cutA A cap k 8) (n - k) (l.drop k) := by
  obtain ⟨xs, rfl, h2, h3⟩ := h
  refine ⟨xs.drop k, List.map_drop, ?_, fun x hx => h3 x (List.mem_of_mem_drop hx)⟩
  have := h2.cutA hk hc
  rwa [flat_drop evC_len] at this
/-- An event told alone, as a literal lays it. -/
theorem lit_exec (w : World) (c : Int) : EvRd (w.alloc (.cells #[.int .i64 1, .int .i32 0, .int .u8 c, .int .u8 0, .slice none 0 0, .string ⟨#[]⟩, .string ⟨#[]⟩, .bool false] 41)) (some ⟨w.heap.size, 0, none⟩) 1 [execE c] := by
  have b3 : Blk (w.alloc (.cells #[.int .i64 1, .int .i32 0, .int .u8 c, .int .u8 0, .slice none 0 0, .string ⟨#[]⟩, .string ⟨#[]⟩, .bool false] 41)) w.heap.size 41 #[.int .i64 1, .int .i32 0, .int .u8 c, .int .u8 0, .slice none 0 0, .string ⟨#[]⟩, .string ⟨#[]⟩, .bool false] := Blk.new _ _ _
  refine ⟨[(execE c, .slice none 0 0)], rfl, ⟨rfl, fun _ => ⟨_, 0, rfl, by simp, fun j u hu => ?_⟩⟩, fun x hx => ?_⟩
  · rw [Nat.zero_add, b3.cell]
    match j, hu with
    | 0, hu => exact hu
    | 1, hu => exact hu
    | 2, hu => exact hu
    | 3, hu => exact hu
    | 4, hu => exact hu
    | 5, hu => exact hu
    | 6, hu => exact hu
    | 7, hu => exact hu
    | j + 8, hu => simp [evC] at hu
  · simp only [List.mem_singleton] at hx
    subst hx
    exact nums_none _ 0
/-- A row's last event. -/
theorem EvRow.last {w : World} {base n c : Nat} {A : Option Addr} {pr : List Ev} {e : Ev} (h : EvRow w base (.slice A (n + 1) c) (n + 1) (pr ++ [e])) (hn : pr.length = n) : EvRd w (cutA A c n 8) 1 [e] ∧ n + 1 ≤ c := by
  have hc : n + 1 ≤ c := by
    obtain ⟨xs, _, h2, _⟩ := h
    exact (own_cap h2).1
  have := h.rd.cut (k := n) (by omega) hc
  rw [← hn, List.drop_left, hn, show n + 1 - n = 1 by omega] at this
  exact ⟨this, hc⟩
set_option maxRecDepth 100000 in
set_option maxHeartbeats 8000000 in
theorem parseCancels_walk (w : World) (A : Option Addr) (n c : Nat) (l : List Int) (hl : l.length = n) (hnc : n ≤ c) (hcm : c ≤ maxLen) (hrd : Rd w w.heap.size 1 A n (l.map b8)) (hq : ∀ x ∈ l, IsByte x)
    (A' : Option Addr) (n' c' : Nat) (l' : List Int) (hl' : l'.length = n') (hnc' : n' ≤ c') (hcm' : c' ≤ maxLen) (hrd' : Rd w w.heap.size 1 A' n' (l'.map b8)) (hq' : ∀ x ∈ l', IsByte x) (a : Int) (wa : (Lit.int .u8 a).wf = true) :
    Calls Try.prog 7 #[.slice A n c, .slice A' n' c', .int .u8 a] w fun e w' => e = .returned (.bool true) ∧ Below w.heap.size w w' := by
  have AW := hide awake_any
  by_cases hbig : 200 < n
  · have d1 : decide (200 < n) = true := by simpa using hbig
    have d2 : decide (200 < (n : Int)) = true := by simp; omega
    clear hrd hq hl hcm hrd' hq' hl' hcm'
    go_enter Try.func7, Try.ntmps7
    go_wp2_with (go_at_call 10; go_must (refine (AW.out _).mono ?_; rintro e w1 ⟨rfl, b1⟩))
    go_ret
    exact ⟨rfl, b1⟩
  · have d1 : decide (200 < n) = false := by simpa using hbig
    have d2 : decide (200 < (n : Int)) = false := by simp; omega
    by_cases hbig' : 200 < n'
    · have d3 : decide (200 < n') = true := by simpa using hbig'
      have d4 : decide (200 < (n' : Int)) = true := by simp; omega
      clear hrd hq hl hcm hrd' hq' hl' hcm'
      go_enter Try.func7, Try.ntmps7
      go_wp2_with (go_at_call 10; go_must (refine (AW.out _).mono ?_; rintro e w1 ⟨rfl, b1⟩))
      go_ret
      exact ⟨rfl, b1⟩
    · have d3 : decide (200 < n') = false := by simpa using hbig'
      have d4 : decide (200 < (n' : Int)) = false := by simp; omega
      obtain ⟨h0, h1⟩ := byte_wf wa
      obtain ⟨m, rfl⟩ : ∃ m : Nat, a = m := ⟨a.toNat, by omega⟩
      obtain ⟨h, hh⟩ : ∃ h, m / 2 = h := ⟨_, rfl⟩
      have e1 : (m : Int).tdiv 2 = h := by rw [Int.tdiv_eq_ediv_of_nonneg (by omega)]; omega
      have e2 : IntKind.u8.wrap (h : Int) = h := IntWalk.u8_in _ (by omega)
      obtain ⟨q, hqq⟩ : ∃ q, (h : Int).toNat + 1 = q := ⟨_, rfl⟩
      have MD := hide (fun (W : World) (hb : Below w.heap.size w W) => made_hand w.heap.size (h : Int) W hb.size (by omega) (by omega))
      rw [hqq] at MD
      have hqs : q ≤ 300 := by omega
      obtain ⟨y, hy⟩ : ∃ y, m % 2 = y := ⟨_, rfl⟩
      have e3 : (m : Int).tmod 2 = y := by rw [Int.tmod_eq_emod_of_nonneg (by omega)]; omega
      have hy2 : y = 0 ∨ y = 1 := by omega
      have HR := hide hrd
      have HQ := hide hq
      have HR' := hide hrd'
      have HQ' := hide hq'
      have ST := hide (fun (W : World) (P : Nat) (s : Ps) (r : Rows3) (hW : PW w.heap.size W P s r) => state_hand hW)
      have HD := hide (fun (W : World) (P : Nat) (s : Ps) (r : Rows3) (hW : PW w.heap.size W P s r) => held_hand hW)
      have A1 := hide (fun (W : World) (P Q : Nat) (hW : P2 w.heap.size w W P (newM q) R0 Q (newM q) R0) => all_hand (c := c) hW.p hW.le (HR.out.below hW.below) (by omega) hq)
      have hm1 := all_most l (newM q)
      have hok := all_ok l (new_ok (most := q) (by omega)) hq
      obtain ⟨s, hs⟩ : ∃ s, (allM (newM q) l).2 = s := ⟨_, rfl⟩
      obtain ⟨evs, hevs⟩ : ∃ evs, (allM (newM q) l).1 = evs := ⟨_, rfl⟩
      unfold EvW at A1
      rw [hs, hevs] at A1
      rw [hs] at hm1 hok
      have hm1 : s.most = q := hm1
      obtain ⟨N, hN⟩ : ∃ N, evs.length = N := ⟨_, rfl⟩
      rw [hN] at A1
      have few := all_few l' (newM q)
      have el := all_len l' (new_ok (most := q) (by omega)) hq'
      have A2 := fun (W : World) (P Q : Nat) (r : Rows3) (hW : P2 w.heap.size w W P (newM q) r Q (newM q) R0) => all_hand (c := c') hW.p hW.le (HR'.out.below hW.below) (by omega) hq'
      have A3 := fun (W : World) (P Q : Nat) (s' : Ps) (r : Rows3) (hW : P2 w.heap.size w W P s' r Q (newM q) R0) => all_hand (c := c') hW.q hW.le (HR'.out.below hW.below) (by omega) hq'
      obtain ⟨s2, hs2⟩ : ∃ s2, (allM (newM q) l').2 = s2 := ⟨_, rfl⟩
      obtain ⟨evs2, hevs2⟩ : ∃ evs2, (allM (newM q) l').1 = evs2 := ⟨_, rfl⟩
      unfold EvW at A2 A3
      rw [hs2, hevs2] at A2 A3
      rw [hevs2] at few el
      obtain ⟨M, hM⟩ : ∃ M, evs2.length = M := ⟨_, rfl⟩
      rw [hM] at A2 A3 el
      replace A2 := hide A2
      replace A3 := hide A3
      have FEW := hide few
      have hM2 : M ≤ 1000 := by omega
      have few1 : ∀ k, ∀ e ∈ [execE k], Few e.nums := by
        intro k e he
        simp only [List.mem_singleton] at he
        subst he
        exact few_nil
      have FEW1 := hide few1
      obtain ⟨st, hst⟩ : ∃ st, s2.state = st := ⟨_, rfl⟩
      have ST2 := hide (fun (W : World) (P : Nat) (r : Rows3) (hW : PW w.heap.size W P s2 r) => ST.out W P s2 r hW)
      rw [hst] at ST2
      have ST3 := hide (fun (W : World) (P : Nat) (r : Rows3) (hW : PW w.heap.size W P (newM q) r) => (show Calls Try.prog 17 #[.pointer (some ⟨P, 0, none⟩)] W fun e w' => e = .returned (.int .i64 0) ∧ w' = W from ST.out W P (newM q) r hW))
      have HD3 := hide (fun (W : World) (P : Nat) (r : Rows3) (hW : PW w.heap.size W P (newM q) r) => (show Calls Try.prog 13 #[.pointer (some ⟨P, 0, none⟩)] W fun e w' => e = .returned (.int .i64 0) ∧ ∃ q, w' = W.drewN q from HD.out W P (newM q) r hW))
      obtain ⟨cz, hcz, hcz2⟩ : ∃ cz : Int, cz = (if y = 1 then 26 else 24) ∧ (cz = 24 ∨ cz = 26) := ⟨_, rfl, by split <;> simp⟩
      obtain ⟨pr, hpr⟩ := step_cancel s hcz2
      rw [hm1] at hpr
      have C0 := fun (W : World) (P Q : Nat) (r : Rows3) (hW : P2 w.heap.size w W P s r Q (newM q) R0) => step_hand (c := cz) hW.p hW.le (by omega) (by omega)
      have pl := step_len hok cz (by omega) (by omega)
      rw [hpr] at pl
      have pl : (pr ++ [execE cz]).length ≤ 2 := pl
      unfold EvW at C0
      rw [hpr] at C0
      obtain ⟨u, hu⟩ : ∃ u, pr.length = u := ⟨_, rfl⟩
      obtain ⟨U, hU⟩ : ∃ U, u + 1 = U := ⟨_, rfl⟩
      have hul : (pr ++ [execE cz]).length = U := by rw [List.length_append, hu]; exact hU
      have C1 : ∀ (W : World) (P Q : Nat) (r : Rows3), P2 w.heap.size w W P s r Q (newM q) R0 → Calls Try.prog 12 #[.pointer (some ⟨P, 0, none⟩), .int .u8 cz] W fun e w' => ∃ A D c cc r', e = .returned (.slice A U c) ∧ EvRd w' D 1 [execE cz] ∧ (∀ W, (Instr.slice 27 (.slice A U c) (some (.int .i64 (u : Int))) none none).run Try.prog W = .ok (.slice D 1 cc) W) ∧ P2 w.heap.size w w' P (newM q) r' Q (newM q) R0 := fun W P Q r hW => by
        refine (C0 W P Q r hW).mono fun e w' hh => ?_
        obtain ⟨A, c, r', he, hE, hP, hk⟩ := hh
        rw [hul] at he hE
        subst hU
        have hl := hE.last hu
        refine ⟨A, cutA A c u 8, c, c - u, r', he, hl.1, fun W => ?_, hW.kp hP hk⟩
        have := cut_l (P := Try.prog) (t := 27) (a := A) (len := u + 1) (cap := c) Try.u27 Try.size41 u (L := u) rfl (by omega) W
        rwa [show u + 1 - u = 1 by omega] at this
      rw [hul] at pl
      have hU3 : IntKind.i64.wrap (u : Int) = u := IntWalk.i64_in _ (by omega)
      have hU0 : ¬ U = 0 := by omega
      have hU1 : ((U : Int) == 0) = false := by rw [beq_eq_false_iff_ne]; omega
      have hU2 : (U : Int) - 1 = u := by omega
      replace C1 := hide C1
      clear C0
      have HU2 := hide hU2
      clear hU hU2
      have HCZ := hide hcz
      clear hok hrd hq hl hcm hrd' hq' hl' hcm' hqq hs hevs hN hm1 hs2 hevs2 hM hst few few1 el hpr pl hul hu hh hy
      rcases hy2 with rfl | rfl
      all_goals
        first | (have hz : cz = 24 := HCZ.out; subst hz) | (have hz : cz = 26 := HCZ.out; subst hz)
        clear hcz2 hcz HCZ
        go_enter Try.func7, Try.ntmps7
        go_wp2_with (first
          | (go_at_call 10; go_must (refine (AW.out _).mono ?_; rintro e w1 ⟨rfl, b1⟩; have B1 := hide b1; clear b1))
          | (go_at_call 11; (with_reducible refine (MD.out _ B1.out).mono ?_); rintro e w2 ⟨P, rfl, hP, b2, _⟩; have HP := hide hP; have B2 := hide (below_in B1.out b2 (Nat.le_refl _)); clear b2 hP)
          | (go_at_call 11; (with_reducible refine (MD.out _ B2.out).mono ?_); rintro e w3 ⟨Q, rfl, hQ, b3, hap⟩; have HPQ := hide (show P2 w.heap.size w w3 P (newM q) R0 Q (newM q) R0 from ⟨HP.out.call b3, hQ, fun k hk hk' => by have h1 := hap k hk; have h2 := ps_lt HP.out.at_ hk'; omega, below_in B2.out b3 (Nat.le_refl _), (below_in B2.out b3 (Nat.le_refl _)).size, Nat.le_refl _⟩); clear b3 hQ hap)
          | (go_at_call 16; (with_reducible refine (A1.out _ _ _ HPQ.out).mono ?_); rintro e w4 ⟨A1', c1, r1, rfl, hE, hP, hk⟩; have PQ4 := hide (HPQ.out.kp hP hk); clear hE hP hk)
          | (go_at_call 12; (refine (C1.out _ _ _ _ PQ4.out).mono ?_); rintro e w5 ⟨A5, D5, c5, cc5, r5, rfl, hE5, cu, PQ5⟩; have E5 := hide hE5; have PQ5 := hide PQ5; have hU2 := HU2.out; clear hE5)
          | (go_at_call_of 15 D5; go_must (refine (sameE_any D5 _ 1 cc5 1 _ _ (E5.out.call ((Below.refl _ w5).alloc (Nat.le_refl _) _)) (lit_exec w5 _) (by omega) (FEW1.out _)).mono ?_); rintro e w6 ⟨rfl, b6⟩; have PQ6 := hide (PQ5.out.call (((Below.refl _ w5).alloc (Nat.le_refl _) _).trans (b6.mono (by simp)))); clear b6)
          | (go_at_call 17; (with_reducible refine (ST3.out _ P _ PQ6.out.p).mono ?_); rintro e w7 ⟨rfl, hw7⟩; obtain rfl := hw7.symm)
          | (go_at_call 13; (with_reducible refine (HD3.out _ P _ PQ6.out.p).mono ?_); rintro e w8 ⟨rfl, q8, hw8⟩; have PQ8 := hide (PQ6.out.call (below_drewN' (Below.refl _ _) q8)); rw [← hw8] at PQ8; clear hw8)
          | (go_at_call 16; (with_reducible refine (A2.out _ _ _ _ PQ8.out).mono ?_); rintro e w9 ⟨A9, c9, r9, rfl, hE, hP, hk⟩; have PQ9 := hide (PQ8.out.kp hP hk); have E9 := hide hE; clear hE hP hk)
          | (go_at_call 16; (with_reducible refine (A3.out _ _ _ _ _ PQ9.out).mono ?_); rintro e wa ⟨Aa, ca, ra, rfl, hE, hP, hk⟩; have PQa := hide (PQ9.out.kq hP hk); have Ea := hide hE; have F9 := hide (hk.evs _ _ _ _ E9.out); clear hE hP hk)
          | (go_at_call 15; (with_reducible refine (sameE_any A9 Aa M c9 ca _ _ F9.out.rd Ea.out.rd (by omega) FEW.out).mono ?_); rintro e wb ⟨rfl, bb⟩; have PQb := hide (PQa.out.call bb); clear bb)
          | (go_at_call 17; (with_reducible refine (ST2.out _ P _ PQb.out.p).mono ?_); rintro e wc ⟨rfl, hwc⟩; obtain rfl := hwc.symm)
          | (go_at_call 17; (with_reducible refine (ST2.out _ Q _ PQb.out.q).mono ?_); rintro e wc ⟨rfl, hwc⟩; obtain rfl := hwc.symm))
        go_ret
        exact ⟨rfl, PQb.out.below⟩
end Go.Proofs.Ythbjjhoajecpcaa
