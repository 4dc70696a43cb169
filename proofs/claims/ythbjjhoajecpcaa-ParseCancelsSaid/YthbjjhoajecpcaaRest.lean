/-
  The document's rest, Of walked. No condition but bounds.
-/
import Derived.Test.YthbjjhoajecpcaaLast
import Derived.Test.YthbjjhoajecpcaaROne
namespace Go.Proofs.Ythbjjhoajecpcaa
open Go.RowKit Go.Proofs
set_option linter.unusedVariables false
theorem one_le4 (b : List Int) : (oneF b).2 ≤ 4 := by
  unfold oneF
  split
  · show begN b ≤ 4
    unfold begN
    (repeat' split) <;> (try rw [List.length_take]) <;> omega
  · show wholeN b ≤ 4
    unfold wholeN
    (repeat' split) <;> omega
set_option maxRecDepth 100000 in
set_option maxHeartbeats 16000000 in
theorem rest_any (w0 : World) (q : Rn) (evs : List Ev) (st held a0 : Nat) (w : World) (h : RInv w0 q evs st held w) (ho : ROk w0 q) (hn : evs.length ≤ 2500) (ha : a0 < q.b.length) :
    Calls Try.prog 29 #[.pointer (some ⟨q.R, 0, none⟩), .int .i64 a0] w (RPost w0 q evs a0 (restF q.most (q.b.drop a0))) := by
  have HO := hide ho
  have hlen := ho.len
  have HI0 := hide ((h.setSt ho.own 0).setHeld ho.own 0)
  obtain ⟨w9, hw9⟩ : ∃ w9, (w.setCell ⟨q.R, 1, none⟩ (.int .i64 (0 : Nat))).setCell ⟨q.R, 2, none⟩ (.int .i64 (0 : Nat)) = w9 := ⟨_, rfl⟩
  have hw9' : (w.setCell ⟨q.R, 1, none⟩ (.int .i64 0)).setCell ⟨q.R, 2, none⟩ (.int .i64 0) = w9 := hw9
  rw [hw9] at HI0
  obtain ⟨⟨AE, cE, c0⟩, c1, c2, c3, c4, fz, rl, hrd0, hB0⟩ := h.cells ho
  obtain ⟨_, d1, d2, d3, d4, dz, dl, hrd, hB⟩ := HI0.out.cells ho
  obtain ⟨N, hN⟩ : ∃ N, q.b.length = N := ⟨_, rfl⟩
  obtain ⟨g, off, c, hA, hx, hdr, hcell⟩ := byte_of hrd ha
  obtain ⟨hc0, hc1⟩ := ho.low c (List.mem_of_getElem? hx)
  have LA := hide (fun (a : Nat) (c : Int) (W : World) (hW : RInv w0 q evs 0 0 W) (ha : a ≤ N) => last_any w0 q evs a c W hW ho (by omega) (by omega))
  obtain ⟨l, hl⟩ : ∃ l, q.b.drop a0 = l := ⟨_, rfl⟩
  have hll : l.length = N - a0 := by rw [← hl, List.length_drop, hN]
  rw [hl]
  rw [hN] at c3 d3 ha hlen
  have HNN := hide hN
  have hcap : N ≤ q.c := by have := ho.cap; omega
  rw [hl] at hdr
  have HC := hide hdr
  have HLd := hide hl
  have HQA := hide hA
  clear hw9 c0
  by_cases k27 : c = 27
  · have HF := hide (show restF q.most l = (escF q.most [] (q.b.drop (a0 + 1))).more [] 1 by rw [HC.out, restF, if_pos k27])
    have E1 := hide (esc_any w0 q evs (a0 + 1) w9 HI0.out ho (by omega) (by omega))
    obtain ⟨p, hp⟩ : ∃ p, escF q.most [] (q.b.drop (a0 + 1)) = p := ⟨_, rfl⟩
    rw [hp] at E1 HF
    subst k27
    rw [hA] at c3 d3
    clear h ho hN hA hx hdr hp hl hrd hrd0
    go_enter Try.func29, Try.ntmps29
    go_wp2_with (go_at_call 38; go_must (refine E1.out.mono ?_; rintro e w2 ⟨rfl, hI2⟩; have hI2 := hide hI2))
    go_ret
    rw [HF.out]
    refine ⟨ret_int ?_, hI2.out⟩
    show ((a0 + 1 + p.n : Nat) : Int) = ((a0 + (1 + p.n) : Nat) : Int)
    omega
  · have b27 : (c == 27) = false := by simpa using k27
    by_cases k32 : c < 32
    · have HF := hide (show restF q.most l = ⟨[execE c], 0, 0, 1⟩ by rw [HC.out, restF, if_neg k27, if_pos k32])
      have AD1 := hide (add_any w0 q evs 0 0 (execE c) none 0 w9 HI0.out ho (by omega) (nums_none w9 0))
      unfold evC execE at AD1
      dsimp only at AD1
      rw [hA] at c3 d3
      clear h ho hN hA hx hdr hl hrd hrd0
      go_enter Try.func29, Try.ntmps29
      go_wp2_with (go_at_call 39; go_must (refine AD1.out.mono ?_; rintro e w2 ⟨rfl, hI2⟩; have hI2 := hide hI2))
      go_ret
      rw [HF.out]
      exact ⟨rfl, hI2.out⟩
    · have b32 : decide (c < 32) = false := by simpa using k32
      have HR := hide (show restF q.most l = if (oneF l).2 = l.length ∧ begB l = true then ⟨[], 0, (oneF l).2, l.length⟩ else if (oneF l).1 = 127 then ⟨[], 0, 0, (oneF l).2⟩ else if 128 ≤ (oneF l).1 ∧ (oneF l).1 ≤ 159 then (lastF q.most ((oneF l).1 - 64) (l.drop (oneF l).2)).more [] (oneF l).2 else ⟨[printE (oneF l).1], 0, 0, (oneF l).2⟩ by
        rw [HC.out, restF, if_neg k27, if_neg k32])
      have hne : l ≠ [] := by rw [HC.out]; simp
      have hk1 := one_pos l
      have hk2 := one_le l hne
      have hk4 := one_le4 l
      have hrl : ∀ W, Below w9.heap.size w9 W → Rd W q.B 1 (cutA q.A q.c a0 1) (N - a0) (l.map b8) := fun W hb => by
        have := (hrd.below (hb.mono hB)).cutA (k := a0) (cap := q.c) (by omega) (by omega)
        rw [Nat.mul_one, hN, ← List.map_drop, hl] at this
        exact this
      have hq : ∀ x ∈ l, IsByte x := fun x hx => by rw [← hl] at hx; exact ho.low x (List.mem_of_mem_drop hx)
      have ON := hide (one_any l (cutA q.A q.c a0 1) (N - a0) (q.c - a0) q.B w9 (hrl w9 (Below.refl _ _)) hB hq (by omega) (by omega) (by omega))
      have BG := hide (fun (W : World) (hb : Below w9.heap.size w9 W) (h4 : N - a0 ≤ 4) => begins_any l (cutA q.A q.c a0 1) (N - a0) (q.c - a0) q.B W (hrl W hb) (Nat.le_trans hB hb.size) hq (by omega) h4)
      have cu := fun W => cut_l (P := Try.prog) (t := 22) (a := q.A) (len := N) (cap := q.c) Try.u22 Try.size5 a0 (L := a0) rfl (by omega) W
      obtain ⟨x, hxx⟩ : ∃ x, (oneF l).1 = x := ⟨_, rfl⟩
      obtain ⟨k, hkk⟩ : ∃ k, (oneF l).2 = k := ⟨_, rfl⟩
      unfold OnePost at ON
      rw [hxx, hkk] at ON
      rw [hkk] at hk1 hk2 hk4
      obtain ⟨Z, hZ⟩ : ∃ Z, a0 + k = Z := ⟨_, rfl⟩
      have HD := hide (show l.drop k = q.b.drop Z by rw [← hl, List.drop_drop, hZ])
      have HX := hide hxx
      have HK := hide hkk
      obtain ⟨D1, hD1⟩ : ∃ D1, cutA q.A q.c a0 1 = D1 := ⟨_, rfl⟩
      rw [hD1] at ON BG cu
      obtain ⟨M, hM⟩ : ∃ M, N - a0 = M := ⟨_, rfl⟩
      rw [hM] at ON BG cu
      rw [hM] at hll
      have e1 : (a0 : Int) + k = Z := by omega
      have e2 : IntKind.i64.wrap (Z : Int) = Z := IntWalk.i64_in _ (by omega)
      have HAK := hide (show (Z : Int) = ((a0 + k : Nat) : Int) by omega)
      rw [hA] at c3 d3 cu
      obtain ⟨cc, hcc⟩ : ∃ cc, q.c - a0 = cc := ⟨_, rfl⟩
      rw [hcc] at ON BG cu
      have hax : a0 ≤ N := by omega
      have hZN : Z ≤ N := by omega
      clear h hN hx hdr hl hrd hrd0 hxx hkk hD1 hcc hrl hq hne
      by_cases kend : Z = N
      · subst kend
        have z1 : ((Z : Int) == (Z : Int)) = true := by simp
        have BG := hide (fun W hb => BG.out W hb (by omega))
        cases hbg : begB l with
        | true =>
          rw [hbg] at BG
          have HF := hide (show restF q.most l = ⟨[], 0, k, M⟩ by rw [HR.out, HK.out, if_pos ⟨by omega, hbg⟩, hll])
          have HFIN := hide (show (Z : Int) = ((a0 + M : Nat) : Int) by omega)
          clear ho hA hbg hll hM
          go_enter Try.func29, Try.ntmps29
          go_wp2_with (first | (go_at_call 40; go_must (refine ON.out.mono ?_; rintro e w1 ⟨rfl, hb1⟩; have HW1 := hide (HI0.out.call HO.out.size hb1); obtain ⟨_, f1, f2, f3, f4, ff, fl, frd, fB⟩ := HW1.out.cells HO.out; rw [HNN.out, HQA.out] at f3; have BG1 := hide (BG.out w1 hb1); clear frd fB)) | (go_at_call 41; go_must (refine BG1.out.mono ?_; rintro e w2 ⟨rfl, hb2⟩; have HW2 := hide (HW1.out.call HO.out.size hb2); obtain ⟨_, g1, g2, g3, g4, gf, gl, grd, gB⟩ := HW2.out.cells HO.out; rw [HNN.out, HQA.out] at g3; clear grd gB)))
          go_ret
          rw [HF.out]
          exact ⟨ret_int HFIN.out, by simpa using HW2.out.setHeld HO.out.own k⟩
        | false =>
          rw [hbg] at BG
          have NB := hide (show ¬ ((oneF l).2 = l.length ∧ begB l = true) by rw [hbg]; simp)
          clear ho hA hbg hll hM
          go_enter Try.func29, Try.ntmps29
          by_cases k127 : x = 127
          · have HF := hide (show restF q.most l = ⟨[], 0, 0, k⟩ by rw [HR.out, if_neg NB.out, HX.out, HK.out, if_pos k127])
            subst k127
            go_wp2_with (first | (go_at_call 40; go_must (refine ON.out.mono ?_; rintro e w1 ⟨rfl, hb1⟩; have HW1 := hide (HI0.out.call HO.out.size hb1); obtain ⟨_, f1, f2, f3, f4, ff, fl, frd, fB⟩ := HW1.out.cells HO.out; rw [HNN.out, HQA.out] at f3; have BG1 := hide (BG.out w1 hb1); clear frd fB)) | (go_at_call 41; go_must (refine BG1.out.mono ?_; rintro e w2 ⟨rfl, hb2⟩; have HW2 := hide (HW1.out.call HO.out.size hb2); obtain ⟨_, g1, g2, g3, g4, gf, gl, grd, gB⟩ := HW2.out.cells HO.out; rw [HNN.out, HQA.out] at g3; clear grd gB)))
            go_ret
            rw [HF.out]
            exact ⟨ret_int (HAK.out), by simpa using HW2.out⟩
          · have b127 : (x == 127) = false := by simpa using k127
            by_cases k128 : 128 ≤ x ∧ x ≤ 159
            · have HF := hide (show restF q.most l = (lastF q.most (x - 64) (q.b.drop Z)).more [] k by rw [HR.out, if_neg NB.out, HX.out, HK.out, if_neg k127, if_pos k128, HD.out])
              obtain ⟨k128, k159⟩ := k128
              have e8 : IntKind.i32.wrap (x - 64) = x - 64 := IntWalk.i32_in _ (by omega)
              have e9 : IntKind.u8.wrap (x - 64) = x - 64 := IntWalk.u8_in _ (by omega)
              have LA1 := hide (fun (W : World) (hW : RInv w0 q evs 0 0 W) => LA.out Z (x - 64) W hW hZN)
              obtain ⟨p, hp⟩ : ∃ p, lastF q.most (x - 64) (q.b.drop Z) = p := ⟨_, rfl⟩
              rw [hp] at LA1 HF
              clear hp
              go_wp2_with (first | (go_at_call 40; go_must (refine ON.out.mono ?_; rintro e w1 ⟨rfl, hb1⟩; have HW1 := hide (HI0.out.call HO.out.size hb1); obtain ⟨_, f1, f2, f3, f4, ff, fl, frd, fB⟩ := HW1.out.cells HO.out; rw [HNN.out, HQA.out] at f3; have BG1 := hide (BG.out w1 hb1); clear frd fB)) | (go_at_call 41; go_must (refine BG1.out.mono ?_; rintro e w2 ⟨rfl, hb2⟩; have HW2 := hide (HW1.out.call HO.out.size hb2); obtain ⟨_, g1, g2, g3, g4, gf, gl, grd, gB⟩ := HW2.out.cells HO.out; rw [HNN.out, HQA.out] at g3; clear grd gB)) | (go_at_call 42; go_must (refine (LA1.out _ HW2.out).mono ?_; rintro e w9 ⟨rfl, hI9⟩; have hI9 := hide hI9)))
              go_ret
              rw [HF.out]
              refine ⟨ret_int ?_, hI9.out⟩
              show ((Z + p.n : Nat) : Int) = ((a0 + (k + p.n) : Nat) : Int)
              omega
            · have HF := hide (show restF q.most l = ⟨[printE x], 0, 0, k⟩ by rw [HR.out, if_neg NB.out, HX.out, HK.out, if_neg k127, if_neg k128])
              have AD1 := hide (fun (W : World) (hW : RInv w0 q evs 0 0 W) => add_any w0 q evs 0 0 (printE x) none 0 W hW HO.out (by omega) (nums_none W 0))
              unfold evC printE at AD1
              dsimp only at AD1
              have cs : (decide (128 ≤ x) = false) ∨ (128 ≤ x ∧ decide (x ≤ 159) = false) := by
                by_cases h : 128 ≤ x
                · exact .inr ⟨h, by simp; omega⟩
                · exact .inl (by simpa using h)
              clear k128
              rcases cs with b128 | ⟨k128, b159⟩
              all_goals
                go_wp2_with (first | (go_at_call 40; go_must (refine ON.out.mono ?_; rintro e w1 ⟨rfl, hb1⟩; have HW1 := hide (HI0.out.call HO.out.size hb1); obtain ⟨_, f1, f2, f3, f4, ff, fl, frd, fB⟩ := HW1.out.cells HO.out; rw [HNN.out, HQA.out] at f3; have BG1 := hide (BG.out w1 hb1); clear frd fB)) | (go_at_call 41; go_must (refine BG1.out.mono ?_; rintro e w2 ⟨rfl, hb2⟩; have HW2 := hide (HW1.out.call HO.out.size hb2); obtain ⟨_, g1, g2, g3, g4, gf, gl, grd, gB⟩ := HW2.out.cells HO.out; rw [HNN.out, HQA.out] at g3; clear grd gB)) | (go_at_call 39; go_must (refine (AD1.out _ HW2.out).mono ?_; rintro e w9 ⟨rfl, hI9⟩; have hI9 := hide hI9)))
                go_ret
                rw [HF.out]
                exact ⟨ret_int HAK.out, hI9.out⟩
      · have z1 : ((Z : Int) == (N : Int)) = false := by rw [beq_eq_false_iff_ne]; omega
        have NB := hide (show ¬ ((oneF l).2 = l.length ∧ begB l = true) by rw [HK.out, hll]; omega)
        have BG := hide (show ∀ W, Below w9.heap.size w9 W → True from fun _ _ => trivial)
        clear ho hA hll hM kend
        go_enter Try.func29, Try.ntmps29
        by_cases k127 : x = 127
        · have HF := hide (show restF q.most l = ⟨[], 0, 0, k⟩ by rw [HR.out, if_neg NB.out, HX.out, HK.out, if_pos k127])
          subst k127
          go_wp2_with (first | (go_at_call 40; go_must (refine ON.out.mono ?_; rintro e w1 ⟨rfl, hb1⟩; have HW1 := hide (HI0.out.call HO.out.size hb1); obtain ⟨_, f1, f2, f3, f4, ff, fl, frd, fB⟩ := HW1.out.cells HO.out; rw [HNN.out, HQA.out] at f3; have BG1 := hide (BG.out w1 hb1); clear frd fB)))
          go_ret
          rw [HF.out]
          exact ⟨ret_int (HAK.out), by simpa using HW1.out⟩
        · have b127 : (x == 127) = false := by simpa using k127
          by_cases k128 : 128 ≤ x ∧ x ≤ 159
          · have HF := hide (show restF q.most l = (lastF q.most (x - 64) (q.b.drop Z)).more [] k by rw [HR.out, if_neg NB.out, HX.out, HK.out, if_neg k127, if_pos k128, HD.out])
            obtain ⟨k128, k159⟩ := k128
            have e8 : IntKind.i32.wrap (x - 64) = x - 64 := IntWalk.i32_in _ (by omega)
            have e9 : IntKind.u8.wrap (x - 64) = x - 64 := IntWalk.u8_in _ (by omega)
            have LA1 := hide (fun (W : World) (hW : RInv w0 q evs 0 0 W) => LA.out Z (x - 64) W hW hZN)
            obtain ⟨p, hp⟩ : ∃ p, lastF q.most (x - 64) (q.b.drop Z) = p := ⟨_, rfl⟩
            rw [hp] at LA1 HF
            clear hp
            go_wp2_with (first | (go_at_call 40; go_must (refine ON.out.mono ?_; rintro e w1 ⟨rfl, hb1⟩; have HW1 := hide (HI0.out.call HO.out.size hb1); obtain ⟨_, f1, f2, f3, f4, ff, fl, frd, fB⟩ := HW1.out.cells HO.out; rw [HNN.out, HQA.out] at f3; have BG1 := hide (BG.out w1 hb1); clear frd fB)) | (go_at_call 42; go_must (refine (LA1.out _ HW1.out).mono ?_; rintro e w9 ⟨rfl, hI9⟩; have hI9 := hide hI9)))
            go_ret
            rw [HF.out]
            refine ⟨ret_int ?_, hI9.out⟩
            show ((Z + p.n : Nat) : Int) = ((a0 + (k + p.n) : Nat) : Int)
            omega
          · have HF := hide (show restF q.most l = ⟨[printE x], 0, 0, k⟩ by rw [HR.out, if_neg NB.out, HX.out, HK.out, if_neg k127, if_neg k128])
            have AD1 := hide (fun (W : World) (hW : RInv w0 q evs 0 0 W) => add_any w0 q evs 0 0 (printE x) none 0 W hW HO.out (by omega) (nums_none W 0))
            unfold evC printE at AD1
            dsimp only at AD1
            have cs : (decide (128 ≤ x) = false) ∨ (128 ≤ x ∧ decide (x ≤ 159) = false) := by
              by_cases h : 128 ≤ x
              · exact .inr ⟨h, by simp; omega⟩
              · exact .inl (by simpa using h)
            clear k128
            rcases cs with b128 | ⟨k128, b159⟩
            all_goals
              go_wp2_with (first | (go_at_call 40; go_must (refine ON.out.mono ?_; rintro e w1 ⟨rfl, hb1⟩; have HW1 := hide (HI0.out.call HO.out.size hb1); obtain ⟨_, f1, f2, f3, f4, ff, fl, frd, fB⟩ := HW1.out.cells HO.out; rw [HNN.out, HQA.out] at f3; have BG1 := hide (BG.out w1 hb1); clear frd fB)) | (go_at_call 39; go_must (refine (AD1.out _ HW1.out).mono ?_; rintro e w9 ⟨rfl, hI9⟩; have hI9 := hide hI9)))
              go_ret
              rw [HF.out]
              exact ⟨ret_int HAK.out, hI9.out⟩
end Go.Proofs.Ythbjjhoajecpcaa
