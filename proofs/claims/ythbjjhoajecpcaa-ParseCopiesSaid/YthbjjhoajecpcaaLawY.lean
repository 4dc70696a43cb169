/-
  ParseCopies walked: a copy goes on by itself. No condition but bounds.
-/
import Derived.Test.YthbjjhoajecpcaaLawX
namespace Go.Proofs.Ythbjjhoajecpcaa
open Go.RowKit Go.Proofs
set_option linter.unusedVariables false
theorem own_empty (w : World) (e : TypeId) (s : Nat) : (w.alloc (.cells #[] e)).ownsRow w.heap.size e s (.slice (some ⟨w.heap.size, 0, none⟩) 0 0) 0 [] :=
  ⟨by simp, .inr ⟨w.heap.size, 0, #[], rfl, Nat.le_refl _, Blk.new _ _ _, Nat.le_refl _, by simp [maxLen], by simp, by simp⟩⟩

theorem one_b8' (l : List Int) : ∀ u ∈ l.map b8, u.oneCell' = true := by
  intro u hu
  obtain ⟨x, _, rfl⟩ := List.mem_map.1 hu
  rfl
/-- Two rows of bytes, one behind the other. -/
theorem rd_app {w : World} {A : Option Addr} {m c : Nat} {l l' : List Int} {base : Nat} (h : w.ownsRow base 5 1 (.slice A m c) m (l.map b8 ++ l'.map b8)) : Rd w w.heap.size 1 A m ((l ++ l').map b8) ∧ m ≤ c := by
  rw [List.map_append]
  exact ⟨Rd.of_own h, (own_cap h).1⟩
/-- Copy, in a law. -/
theorem copy_hand {B : Nat} {w : World} {P : Nat} {s : Ps} {r : Rows3} (h : PW B w P s r) (hB : B ≤ w.heap.size) :
    Calls Try.prog 18 #[.pointer (some ⟨P, 0, none⟩)] w fun e w' => ∃ Q rq, e = .returned (.pointer (some ⟨Q, 0, none⟩)) ∧ PW B w' P s r ∧ PW B w' Q s rq ∧ (∀ k, PS Q rq k → ¬ PS P r k) ∧ Below w.heap.size w w' := by
  refine (copy_any P s r w h.at_ h.ok).mono fun e w' hh => ?_
  obtain ⟨Q, rq, he, hI, hge, hb⟩ := hh
  exact ⟨Q, rq, he, h.call hb, ⟨hI, h.ok, fun k hk => Nat.le_trans hB (hge k hk)⟩, fun k hk hk' => absurd (ps_lt h.at_ hk') (Nat.not_lt.2 (hge k hk)), hb⟩
set_option maxRecDepth 100000 in
set_option maxHeartbeats 8000000 in
theorem parseCopies_walk (w : World) (A : Option Addr) (n c : Nat) (l : List Int) (hl : l.length = n) (hnc : n ≤ c) (hcm : c ≤ maxLen) (hrd : Rd w w.heap.size 1 A n (l.map b8)) (hq : ∀ x ∈ l, IsByte x)
    (A' : Option Addr) (n' c' : Nat) (l' : List Int) (hl' : l'.length = n') (hnc' : n' ≤ c') (hcm' : c' ≤ maxLen) (hrd' : Rd w w.heap.size 1 A' n' (l'.map b8)) (hq' : ∀ x ∈ l', IsByte x)
    (A'' : Option Addr) (n'' c'' : Nat) (l'' : List Int) (hl'' : l''.length = n'') (hnc'' : n'' ≤ c'') (hcm'' : c'' ≤ maxLen) (hrd'' : Rd w w.heap.size 1 A'' n'' (l''.map b8)) (hq'' : ∀ x ∈ l'', IsByte x) :
    Calls Try.prog 8 #[.slice A n c, .slice A' n' c', .slice A'' n'' c''] w fun e w' => e = .returned (.bool true) ∧ Below w.heap.size w w' := by
  have AW := hide awake_any
  by_cases hbig : 200 < n
  · have d1 : decide (200 < n) = true := by simpa using hbig
    have d2 : decide (200 < (n : Int)) = true := by simp; omega
    clear hrd hq hl hcm hrd' hq' hl' hcm' hrd'' hq'' hl'' hcm''
    go_enter Try.func8, Try.ntmps8
    go_wp2_with (go_at_call 10; go_must (refine (AW.out _).mono ?_; rintro e w1 ⟨rfl, b1⟩))
    go_ret
    exact ⟨rfl, b1⟩
  · have d1 : decide (200 < n) = false := by simpa using hbig
    have d2 : decide (200 < (n : Int)) = false := by simp; omega
    by_cases hbig' : 100 < n'
    · have d3 : decide (100 < n') = true := by simpa using hbig'
      have d4 : decide (100 < (n' : Int)) = true := by simp; omega
      clear hrd hq hl hcm hrd' hq' hl' hcm' hrd'' hq'' hl'' hcm''
      go_enter Try.func8, Try.ntmps8
      go_wp2_with (go_at_call 10; go_must (refine (AW.out _).mono ?_; rintro e w1 ⟨rfl, b1⟩))
      go_ret
      exact ⟨rfl, b1⟩
    · have d3 : decide (100 < n') = false := by simpa using hbig'
      have d4 : decide (100 < (n' : Int)) = false := by simp; omega
      by_cases hbig'' : 100 < n''
      · have d5 : decide (100 < n'') = true := by simpa using hbig''
        have d6 : decide (100 < (n'' : Int)) = true := by simp; omega
        clear hrd hq hl hcm hrd' hq' hl' hcm' hrd'' hq'' hl'' hcm''
        go_enter Try.func8, Try.ntmps8
        go_wp2_with (go_at_call 10; go_must (refine (AW.out _).mono ?_; rintro e w1 ⟨rfl, b1⟩))
        go_ret
        exact ⟨rfl, b1⟩
      · have d5 : decide (100 < n'') = false := by simpa using hbig''
        have d6 : decide (100 < (n'' : Int)) = false := by simp; omega
        have MD := hide (fun (W : World) (hb : Below w.heap.size w W) => (show Calls Try.prog 11 #[.int .u8 50] W (fun e w' => ∃ P, e = .returned (.pointer (some ⟨P, 0, none⟩)) ∧ PW w.heap.size w' P (newM 51) R0 ∧ Below W.heap.size W w' ∧ ∀ k, PS P R0 k → W.heap.size ≤ k) from made_hand w.heap.size 50 W hb.size (by omega) (by omega)))
        have HR := hide hrd
        have HQ := hide hq
        have HR' := hide hrd'
        have HQ' := hide hq'
        have HR'' := hide hrd''
        have HQ'' := hide hq''
        -- the program's side
        have A1 := fun (W : World) (P : Nat) (hW : PW w.heap.size W P (newM 51) R0) (hb : Below w.heap.size w W) => all_hand (c := c) hW hb.size (HR.out.below hb) (by omega) hq
        have O1 := fun (W : World) (hb : Below w.heap.size w W) => of_any 51 l A n c W ((HR.out.below hb).more hb.size) hnc (by omega) (by omega) hq
        obtain ⟨j1, j2, j3⟩ := doc_all 51 l hq
        have el1 := all_len l (new_ok (most := 51) (by omega)) hq
        have hap2 := all_app l l' (newM 51)
        have hap3 := all_app l l'' (newM 51)
        have hq2 : ∀ x ∈ l ++ l', 0 ≤ x ∧ x ≤ 255 := fun x hx => (List.mem_append.1 hx).elim (hq x) (hq' x)
        have hq3 : ∀ x ∈ l ++ l'', 0 ≤ x ∧ x ≤ 255 := fun x hx => (List.mem_append.1 hx).elim (hq x) (hq'' x)
        have el2 := all_len (l ++ l') (new_ok (most := 51) (by omega)) hq2
        obtain ⟨k1, k2, k3⟩ := doc_all 51 (l ++ l') hq2
        obtain ⟨i1, i2, i3⟩ := doc_all 51 (l ++ l'') hq3
        have few := all_few l' (allM (newM 51) l).2
        have O2 := fun (W : World) (D : Option Addr) (m cc : Nat) (h : Rd W W.heap.size 1 D m ((l ++ l').map b8) ∧ m ≤ cc) (hm : m ≤ 1000) => of_any 51 (l ++ l') D m cc W h.1 h.2 hm (by omega) hq2
        have O3 := fun (W : World) (D : Option Addr) (m cc : Nat) (h : Rd W W.heap.size 1 D m ((l ++ l'').map b8) ∧ m ≤ cc) (hm : m ≤ 1000) => of_any 51 (l ++ l'') D m cc W h.1 h.2 hm (by omega) hq3
        have A2 := fun (W : World) (P Q : Nat) (s : Ps) (r rq : Rows3) (hW : P2 w.heap.size w W P s r Q (allM (newM 51) l).2 rq) => all_hand (c := c') hW.q hW.le (HR'.out.below hW.below) (by omega) hq'
        have A3 := fun (W : World) (P Q : Nat) (s : Ps) (r rq : Rows3) (hW : P2 w.heap.size w W P (allM (newM 51) l).2 r Q s rq) => all_hand (c := c'') hW.p hW.le (HR''.out.below hW.below) (by omega) hq''
        have CP := fun (W : World) (P : Nat) (r : Rows3) (hW : PW w.heap.size W P (allM (newM 51) l).2 r) (hB : w.heap.size ≤ W.heap.size) => copy_hand hW hB
        rw [hap2] at k1 k2 k3 el2
        rw [hap3] at i1 i2 i3
        unfold OfPost at O1 O2 O3
        rw [← j1] at O1
        rw [← k1, ← k2, ← k3] at O2
        rw [← i1, ← i2, ← i3] at O3
        obtain ⟨s, hs⟩ : ∃ s, (allM (newM 51) l).2 = s := ⟨_, rfl⟩
        obtain ⟨e1, he1⟩ : ∃ e1, (allM (newM 51) l).1 = e1 := ⟨_, rfl⟩
        unfold EvW at A1 A2 A3
        rw [hs, he1] at O2 O3 el2
        rw [hs, he1] at A1
        rw [hs] at A2 A3 CP few
        rw [he1] at O1 el1
        obtain ⟨s2, hs2⟩ : ∃ s2, (allM s l').2 = s2 := ⟨_, rfl⟩
        obtain ⟨e2, he2⟩ : ∃ e2, (allM s l').1 = e2 := ⟨_, rfl⟩
        obtain ⟨s3, hs3⟩ : ∃ s3, (allM s l'').2 = s3 := ⟨_, rfl⟩
        obtain ⟨e3, he3⟩ : ∃ e3, (allM s l'').1 = e3 := ⟨_, rfl⟩
        simp only [hs2, he2] at O2 A2 el2 few
        simp only [hs3, he3] at O3 A3
        obtain ⟨N1, hN1⟩ : ∃ N1, e1.length = N1 := ⟨_, rfl⟩
        obtain ⟨N2, hN2⟩ : ∃ N2, e2.length = N2 := ⟨_, rfl⟩
        obtain ⟨L, hL⟩ : ∃ L, N1 + N2 = L := ⟨_, rfl⟩
        have hLL : (e1 ++ e2).length = L := by rw [List.length_append, hN1, hN2, hL]
        have hll : (l ++ l').length = n + n' := by rw [List.length_append, hl, hl']
        rw [hLL] at O2 el2
        rw [hll] at el2
        rw [hN1] at O1 A1
        rw [hN2] at A2
        have hN1L : N1 ≤ L := by omega
        have hN2L : N2 ≤ 1000 := by omega
        have hL2 : L ≤ 1000 := by omega
        have hd7 : decide ((L : Int) < N1) = false := decide_eq_false (by omega)
        have hd8 : decide (L < N1) = false := decide_eq_false (by omega)
        have HL := hide (show L - N1 = N2 by omega)
        have HE := hide (show (e1 ++ e2).drop N1 = e2 by rw [← hN1, List.drop_left])
        obtain ⟨st2, hst2⟩ : ∃ st, s2.state = st := ⟨_, rfl⟩
        obtain ⟨st3, hst3⟩ : ∃ st, s3.state = st := ⟨_, rfl⟩
        obtain ⟨hd3, hhd3⟩ : ∃ hd, heldM s3 = hd := ⟨_, rfl⟩
        rw [hst2] at O2
        rw [hst3, hhd3] at O3
        have ST2 := hide (fun (W : World) (P : Nat) (r : Rows3) (hW : PW w.heap.size W P s2 r) => state_hand hW)
        have ST3 := hide (fun (W : World) (P : Nat) (r : Rows3) (hW : PW w.heap.size W P s3 r) => state_hand hW)
        have HD3 := hide (fun (W : World) (P : Nat) (r : Rows3) (hW : PW w.heap.size W P s3 r) => held_hand hW)
        rw [hst2] at ST2
        rw [hst3] at ST3
        rw [hhd3] at HD3
        have FEW := hide few
        replace O1 := hide O1
        replace O2 := hide O2
        replace O3 := hide O3
        replace A1 := hide A1
        replace A2 := hide A2
        replace A3 := hide A3
        replace CP := hide CP
        obtain ⟨S2, hS2⟩ : ∃ S2, n + n' = S2 := ⟨_, rfl⟩
        obtain ⟨S3, hS3⟩ : ∃ S3, n + n'' = S3 := ⟨_, rfl⟩
        have hS2b : S2 ≤ 300 := by omega
        have hS3b : S3 ≤ 300 := by omega
        have HS2 := hide hS2
        have HS3 := hide hS3
        clear hrd hq hl hcm hrd' hq' hl' hcm' hrd'' hq'' hl'' hcm'' j1 j2 j3 el1 hap2 hap3 hq2 hq3 el2 k1 k2 k3 i1 i2 i3 few hs he1 hs2 he2 hs3 he3 hN1 hN2 hL hLL hll hst2 hst3 hhd3 hS2 hS3
        go_enter Try.func8, Try.ntmps8
        go_upto_region 12 with (first
          | (go_at_call 10; go_must (refine (AW.out _).mono ?_; rintro e w1 ⟨rfl, b1⟩; have B1 := hide b1; clear b1))
          | (go_at_call 11; go_must (refine (MD.out _ B1.out).mono ?_; rintro e w2 ⟨P, rfl, hP, b2, hge⟩; have HP := hide hP; have B2 := hide (below_in B1.out b2 (Nat.le_refl _)); clear b2 hP hge))
          | (go_at_call 16; (with_reducible refine (A1.out _ _ HP.out B2.out).mono ?_); rintro e w3 ⟨A3', c3, r3, rfl, hE, hP, hk⟩; have HP3 := hide hP; have B3 := hide (B2.out.trans hk.below); clear hE hP hk)
          | (go_at_call 18; go_must (refine (CP.out _ _ _ HP3.out B3.out.size).mono ?_; rintro e w4 ⟨Q, rq, rfl, hP, hQ, ha, hb⟩; have PQ4 := hide (show P2 w.heap.size w w4 P s r3 Q s rq from ⟨hP, hQ, ha, below_in B3.out hb (Nat.le_refl _), (below_in B3.out hb (Nat.le_refl _)).size, Nat.le_refl _⟩); clear hP hQ ha hb))
          | (go_at_call 16; (with_reducible refine (A3.out _ _ _ _ _ _ PQ4.out).mono ?_); rintro e w5 ⟨A5, c5, r5, rfl, hE, hP, hk⟩; have PQ5 := hide (PQ4.out.kp hP hk); clear hE hP hk)
          | (go_at_call 16; (with_reducible refine (A2.out _ _ _ _ _ _ PQ5.out).mono ?_); rintro e w6 ⟨A6, c6, r6, rfl, hE, hP, hk⟩; have PQ6 := hide (PQ5.out.kq hP hk); have E6 := hide hE; clear hE hP hk))
        have W6 := hide (show Below w6.heap.size w6 (w6.alloc (.cells #[] 5)) from (Below.refl _ w6).alloc (Nat.le_refl _) _)
        have z6 := PQ6.out.le
        go_upto_region 13 with (first
          | (at_builtin; (refine wpList_appends Try.sl22 rfl _ _ rfl w6.heap.size (.slice (some ⟨w6.heap.size, 0, none⟩) 0 0) 0 [] (w6.alloc (.cells #[] 5)) w.heap.size A n c (l.map b8) rfl rfl (own_empty w6 5 1) (HR.out.below (below_in PQ6.out.below W6.out (Nat.le_refl _))) (one_b8' l) (by simp only [maxLen]; omega) (by omega) (by simp) ?_); intro A7 c7 w7 app; rw [Nat.zero_add] at app ⊢; rw [List.nil_append] at app; have B7 := hide (app.below (own_empty w6 5 1) W6.out (Nat.le_refl _) W6.out.size); have O7 := hide app.own; clear app)
          | (at_builtin; (refine wpList_appends Try.sl22 rfl _ _ rfl w6.heap.size (.slice A7 n c7) n (l.map b8) w7 w.heap.size A' n' c' (l'.map b8) rfl rfl O7.out (HR'.out.below (below_in PQ6.out.below B7.out (Nat.le_refl _))) (one_b8' l') (by simp only [maxLen]; omega) (by omega) B7.out.size ?_); intro A8 c8 w8 app; rw [HS2.out] at app ⊢; have B8 := hide (app.below O7.out B7.out (Nat.le_refl _) B7.out.size); have R8 := hide (rd_app app.own); clear app)
          | (go_at_call_of 14 A8; go_must (refine (O2.out _ _ _ _ R8.out (by omega)).mono ?_; rintro e w9 ⟨R, AR, cR, _, _, _, rfl, kR, kE, b9⟩; have KR := hide kR; have KE := hide kE; have B9 := hide (below_in B8.out b9 (Nat.le_refl _)); clear kR kE b9))
          | (go_at_call_of 14 A; go_must (refine (O1.out _ (below_in PQ6.out.below B9.out (Nat.le_refl _))).mono ?_; rintro e wa ⟨S, AS, cS, _, _, _, rfl, kS, _, ba⟩; have KS := hide kS; have KR9 := hide (KR.out.below ba KR.out.lt); have KE9 := hide (KE.out.call ba); have Ba := hide (below_in B9.out ba (Nat.le_refl _)); clear kS ba)))
        have PQa := hide (PQ6.out.call Ba.out)
        have Ea := hide (E6.out.call Ba.out)
        have x0 := KR9.out.cell 0
        have x1 := KR9.out.cell 1
        have y0 := KS.out.cell 0
        simp only [List.getElem?_toArray, List.getElem?_cons_succ, List.getElem?_cons_zero] at x0 x1 y0
        have hRl := KR9.out.lt
        have hSl := KS.out.lt
        have rc : L ≤ cR := by obtain ⟨xs, _, h2, _⟩ := KE9.out; exact (own_cap h2).1
        have cu := fun W => cut_l (P := Try.prog) (t := 27) (a := AR) (len := L) (cap := cR) Try.u27 Try.size41 N1 (L := N1) rfl hN1L W
        have rdc := KE9.out.rd.cut hN1L rc
        rw [HE.out] at rdc
        rw [HL.out] at rdc cu
        obtain ⟨D, hD⟩ : ∃ D, cutA AR cR N1 8 = D := ⟨_, rfl⟩
        rw [hD] at rdc cu
        obtain ⟨cc, hcc⟩ : ∃ cc, cR - N1 = cc := ⟨_, rfl⟩
        rw [hcc] at cu
        have RDC := hide rdc
        clear rdc hD hcc
        go_region_held3 (fun W => W.cell? ⟨R, 0, none⟩ = some (.slice AR L cR) ∧ W.cell? ⟨R, 1, none⟩ = some (.int .i64 st2) ∧ W.cell? ⟨S, 0, none⟩ = some (.slice AS N1 cS))
          (first | (exact ⟨x0, x1, y0⟩) | (exact z1) | go_keep)
          (first
            | (go_at_call 15; (refine (sameE_any A6 D N2 c6 cc _ _ (Ea.out.call (Below.refl _ wa).drew).rd (RDC.out.call (Below.refl _ wa).drew) (by omega) FEW.out).mono ?_); rintro e wb ⟨rfl, bb⟩; have Bb := hide (show Below wa.heap.size wa wb from (Below.refl _ wa).drew.trans bb); have PQb := hide (PQa.out.call Bb.out); have z1 : wb.cell? ⟨R, 0, none⟩ = some (.slice AR L cR) ∧ wb.cell? ⟨R, 1, none⟩ = some (.int .i64 st2) ∧ wb.cell? ⟨S, 0, none⟩ = some (.slice AS N1 cS) := ⟨(Bb.out.cell (p := ⟨R, 0, none⟩) hRl).trans x0, (Bb.out.cell (p := ⟨R, 1, none⟩) hRl).trans x1, (Bb.out.cell (p := ⟨S, 0, none⟩) hSl).trans y0⟩; clear bb)
            | (go_at_call 17; (refine (ST2.out _ Q _ PQb.out.q).mono ?_); rintro e wc ⟨rfl, rfl⟩))
        have Wc := hide (show Below wc.heap.size wc (wc.alloc (.cells #[] 5)) from (Below.refl _ wc).alloc (Nat.le_refl _) _)
        have zc := PQb.out.le
        clear x0 x1 y0 z1 cu rc
        go_upto_region 16 with (first
          | (at_builtin; (refine wpList_appends Try.sl22 rfl _ _ rfl wc.heap.size (.slice (some ⟨wc.heap.size, 0, none⟩) 0 0) 0 [] (wc.alloc (.cells #[] 5)) w.heap.size A n c (l.map b8) rfl rfl (own_empty wc 5 1) (HR.out.below (below_in PQb.out.below Wc.out (Nat.le_refl _))) (one_b8' l) (by simp only [maxLen]; omega) (by omega) (by simp) ?_); intro Ad cd wd app; rw [Nat.zero_add] at app ⊢; rw [List.nil_append] at app; have Bd := hide (app.below (own_empty wc 5 1) Wc.out (Nat.le_refl _) Wc.out.size); have Od := hide app.own; clear app)
          | (at_builtin; (refine wpList_appends Try.sl22 rfl _ _ rfl wc.heap.size (.slice Ad n cd) n (l.map b8) wd w.heap.size A'' n'' c'' (l''.map b8) rfl rfl Od.out (HR''.out.below (below_in PQb.out.below Bd.out (Nat.le_refl _))) (one_b8' l'') (by simp only [maxLen]; omega) (by omega) Bd.out.size ?_); intro Ae ce we app; rw [HS3.out] at app ⊢; have Be := hide (app.below Od.out Bd.out (Nat.le_refl _) Bd.out.size); have Re := hide (rd_app app.own); clear app)
          | (go_at_call_of 14 Ae; go_must (refine (O3.out _ _ _ _ Re.out (by omega)).mono ?_; rintro e wf ⟨T, AT, cT, _, _, _, rfl, kT, _, bf⟩; have KT := hide kT; have Bf := hide (below_in Be.out bf (Nat.le_refl _)); clear kT bf)))
        have PQf := hide (PQb.out.call Bf.out)
        have t1 := KT.out.cell 1
        have t2 := KT.out.cell 2
        simp only [List.getElem?_toArray, List.getElem?_cons_succ, List.getElem?_cons_zero] at t1 t2
        have hTl := KT.out.lt
        go_region_held3 (fun W => W.cell? ⟨T, 1, none⟩ = some (.int .i64 st3) ∧ W.cell? ⟨T, 2, none⟩ = some (.int .i64 hd3))
          (first | (exact ⟨t1, t2⟩) | (exact z2) | go_keep)
          (first
            | (go_at_call 17; (refine (ST3.out _ P _ (PQf.out.p.call (Below.refl _ wf).drew)).mono ?_); rintro e wg ⟨rfl, rfl⟩)
            | (go_at_call 13; (refine (HD3.out _ P _ (PQf.out.p.call (Below.refl _ wf).drew)).mono ?_); rintro e wg ⟨rfl, qg, rfl⟩; have z2 : (wf.drew.drewN qg).cell? ⟨T, 1, none⟩ = some (.int .i64 st3) ∧ (wf.drew.drewN qg).cell? ⟨T, 2, none⟩ = some (.int .i64 hd3) := ⟨t1, t2⟩))
        go_wp2_with fail
        go_ret
        exact ⟨rfl, below_drewN' PQf.out.below _⟩
end Go.Proofs.Ythbjjhoajecpcaa
