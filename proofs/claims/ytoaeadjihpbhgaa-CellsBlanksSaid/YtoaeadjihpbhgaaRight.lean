/-
  Right, walked, the program's and the document's. No condition but bounds. (printed by gen_right.py)
-/
import Derived.Test.YtoaeadjihpbhgaaRfine
namespace Go.Proofs.Ytoaeadjihpbhgaa
open Go.RowKit Go.Proofs
set_option linter.unusedVariables false
/-- Is a row right? -/
def rightB (l : List Cell) : Bool := sameR (mendF l) l && l.all fineB
theorem right_mend {l : List Cell} (h : mendF l ≠ l) : rightB l = false := by unfold rightB; rw [sameR_false h]; rfl
theorem right_bad {l : List Cell} {c : Cell} (hc : c ∈ l) (h : fineB c = false) : rightB l = false := by
  unfold rightB
  rw [Bool.and_eq_false_iff]
  right
  rw [← Bool.not_eq_true, List.all_eq_true]
  intro h2
  rw [h2 c hc] at h; cases h
theorem right_yes {l : List Cell} (h : mendF l = l) (h2 : ∀ c ∈ l, fineB c = true) : rightB l = true := by
  unfold rightB
  rw [h, sameR_self, Bool.true_and, List.all_eq_true]
  exact h2
theorem mendF_h : ∀ (l : List Cell), ∀ c ∈ mendF l, c.half = 0 ∨ c.half = 1 ∨ c.half = 2 ∨ c.half = 3
  | [], c, h => by simp [mendF] at h
  | [d], c, h => by
    rw [mendF, List.mem_singleton] at h
    subst h
    split
    · omega
    · simp [emptyC]
  | d :: e :: l, c, h => by
    rw [mendF] at h
    split at h
    · rcases List.mem_cons.1 h with rfl | h
      · omega
      · exact mendF_h (e :: l) c h
    · split at h
      · rename_i hp
        have := pairB_halves hp
        rcases List.mem_cons.1 h with rfl | h
        · omega
        · rcases List.mem_cons.1 h with rfl | h
          · omega
          · exact mendF_h l c h
      · rcases List.mem_cons.1 h with rfl | h
        · simp [emptyC]
        · exact mendF_h (e :: l) c h
theorem wid_zero : widOf 0 = -1 := by decide +kernel
set_option maxRecDepth 100000 in
set_option maxHeartbeats 4000000 in
theorem right_any (l : List Cell) (n c B : Nat) (A : Option Addr) (w : World) (hl : Rd w B 8 A n (l.flatMap cellE)) (hB : B ≤ w.heap.size) (hn : n ≤ 100000) :
    Calls Try.prog 18 #[.slice A n c] w fun e w' => e = .returned (.bool (rightB l)) ∧ Below w.heap.size w w' := by
  have hll := hl.len (E := cellE) (fun _ => rfl) (by omega)
  have HL := hide hl
  have HLL := hide hll
  have M1 := hide (mend_any l n c B A w hl hB hn)
  rw [mend_mend] at M1
  have NE := fun x y W => cell_neq8 x y W
  have FI := hide (fun (x : Cell) (W : World) => fine_any x W)
  obtain ⟨m, hm⟩ : ∃ m, mendF l = m := ⟨_, rfl⟩
  have HM := hide hm
  have HML := hide (show m.length = n by rw [← hm, mendF_len]; exact hll)
  rw [hm] at M1
  clear hl hll hm
  go_enter Try.func18, Try.ntmps18
  go_wp2_with (go_at_call 20; go_must (refine (M1.out).mono ?_; rintro e w1 ⟨A1, c1, rfl, o1, h1, b1⟩; have R1 := hide (Rd.of_own o1); have B1 := hide b1; clear o1 b1))
  go_loopg [8] n (fun gg s wr => ∃ (k : Nat), k ≤ n ∧ n - k ≤ gg ∧ s = .int .i64 k ∧ Hid (m.take k = l.take k) ∧ Hid (∀ c ∈ l.take k, fineB c = true) ∧ Hid (Below w1.heap.size w1 wr))
  case atStart => exact ⟨0, by omega, by omega, rfl, show m.take 0 = l.take 0 by simp, show ∀ c ∈ l.take 0, fineB c = true by simp, Below.refl _ _⟩
  case round =>
    obtain ⟨k, hkn, hgk, rfl, HT, HF, HB⟩ := hrel
    by_cases hlt : k < n
    · have d1 : decide (k < n) = true := by simpa using hlt
      have i1 : (0 : Int) ≤ k := by omega
      have i2 : (k : Int) ≤ n := by omega
      obtain ⟨b, off, x, hA1, hb, hx, x0, x1, x2, x3, x4, x5, x6, x7⟩ := (R1.out.below HB.out).eight hlt
      obtain ⟨b', off', y, hA2, hb', hy, y0, y1, y2, y3, y4, y5, y6, y7⟩ := (HL.out.below ((below_in B1.out HB.out (Nat.le_refl _)).mono hB)).eight hlt
      subst hA1 hA2
      have hbz : b < wr.heap.size := Nat.lt_of_lt_of_le hb HB.out.size
      have hbz' : b' < wr.heap.size := Nat.lt_of_lt_of_le hb' (Nat.le_trans hB (Nat.le_trans B1.out.size HB.out.size))
      have HX := hide hx
      have HY := hide hy
      have HC := hide (And.intro hbz' (And.intro y0 (And.intro y1 (And.intro y2 (And.intro y3 (And.intro y4 (And.intro y5 (And.intro y6 y7))))))))
      clear hx hy
      have ne := NE x y
      go_upto_region 4 with (fail)
      go_name_world W hW
      have QW := hide (show Blk W wr.heap.size 40 #[.int .i32 x.r, .string x.more, .int .i64 x.half, .int .i64 x.a.fk, .int .i64 x.a.fn, .int .i64 x.a.bk, .int .i64 x.a.bn, .int .i64 x.a.fl] by rw [← hW]; exact Blk.new _ _ _)
      have BW := hide (show Below wr.heap.size wr W by rw [← hW]; exact (Below.refl _ _).alloc (Nat.le_refl _) _)
      have k0 := BW.out.cell (p := ⟨b', off' + k * 8, none⟩) hbz'
      have k1 := BW.out.cell (p := ⟨b', off' + k * 8 + 1, none⟩) hbz'
      have k2 := BW.out.cell (p := ⟨b', off' + k * 8 + 2, none⟩) hbz'
      have k3 := BW.out.cell (p := ⟨b', off' + k * 8 + 3, none⟩) hbz'
      have k4 := BW.out.cell (p := ⟨b', off' + k * 8 + 4, none⟩) hbz'
      have k5 := BW.out.cell (p := ⟨b', off' + k * 8 + 5, none⟩) hbz'
      have k6 := BW.out.cell (p := ⟨b', off' + k * 8 + 6, none⟩) hbz'
      have k7 := BW.out.cell (p := ⟨b', off' + k * 8 + 7, none⟩) hbz'
      rw [y0] at k0
      rw [y1] at k1
      rw [y2] at k2
      rw [y3] at k3
      rw [y4] at k4
      rw [y5] at k5
      rw [y6] at k6
      rw [y7] at k7
      clear hW y0 y1 y2 y3 y4 y5 y6 y7 x0 x1 x2 x3 x4 x5 x6 x7
      obtain ⟨⟨p0, p1, p2, p3, p4, p5, p6, p7⟩, _⟩ := blk8 QW.out
      cases hs : sameC x y with
      | false =>
        rw [hs] at ne
        simp only [Bool.not_false] at ne
        have HR := hide (show rightB l = false from right_mend (by
          rw [HM.out]
          rintro rfl
          have h1 := HX.out
          rw [HY.out] at h1
          injection h1 with h1
          rw [h1, sameC_iff.2 rfl] at hs
          cases hs))
        clear hs NE
        go_quiet (fail)
        go_wp2
        go_ret
        rw [HR.out]
        exact ⟨rfl, below_drewN' ((below_in B1.out HB.out (Nat.le_refl _)).trans (BW.out.mono (Nat.le_trans B1.out.size HB.out.size))) _⟩
      | true =>
        rw [hs] at ne
        simp only [Bool.not_true] at ne
        have HE := hide (sameC_iff.1 hs)
        have F1 := hide (fun W => FI.out x W)
        clear hs NE
        cases hf : fineB x with
        | true =>
          rw [hf] at F1
          have HFX := hide hf
          clear hf
          go_still_tail 8, (by kernel_rfl)
          obtain ⟨W2, hW2⟩ : ∃ W2, W2 = W.drew := ⟨_, rfl⟩
          have B2 := hide (show Below w1.heap.size w1 W2 by rw [hW2]; exact (HB.out.trans (BW.out.mono HB.out.size)).drew)
          change wpList _ _ _ _ _ W.drew
          rw [← hW2]
          clear hW2
          go_wp2_with (go_at_call 41; go_must (refine (F1.out _).mono ?_; rintro e w3 ⟨rfl, b3⟩; have B3 := hide (below_in B2.out b3 (Nat.le_refl _)); clear b3))
          go_roundg (n - (k + 1))
          case measure => omega
          case rel =>
            refine ⟨k + 1, by omega, by omega, by go_num, take_succ_same HT.out HX.out (by rw [HE.out]; exact HY.out), ?_, B3.out⟩
            show ∀ c ∈ l.take (k + 1), fineB c = true
            intro z hz
            rw [take_snoc HY.out, List.mem_append] at hz
            rcases hz with hz | hz
            · exact HF.out z hz
            · rw [List.mem_singleton] at hz; subst hz; rw [← HE.out]; exact HFX.out
        | false =>
          rw [hf] at F1
          have HR := hide (show rightB l = false from right_bad (c := y) (List.mem_of_getElem? HY.out) (by rw [← HE.out]; exact hf))
          clear hf
          go_still_tail 8, (by kernel_rfl)
          obtain ⟨W2, hW2⟩ : ∃ W2, W2 = W.drew := ⟨_, rfl⟩
          have B2 := hide (show Below w1.heap.size w1 W2 by rw [hW2]; exact (HB.out.trans (BW.out.mono HB.out.size)).drew)
          change wpList _ _ _ _ _ W.drew
          rw [← hW2]
          clear hW2
          go_wp2_with (go_at_call 41; go_must (refine (F1.out _).mono ?_; rintro e w3 ⟨rfl, b3⟩; have B3 := hide (below_in B2.out b3 (Nat.le_refl _)); clear b3))
          go_ret
          rw [HR.out]
          exact ⟨rfl, below_in B1.out B3.out (Nat.le_refl _)⟩
    · obtain rfl : k = n := by omega
      have d1 : decide (k < k) = false := by simp
      have HR := hide (show rightB l = true from right_yes (by
          have h := HT.out
          rw [List.take_of_length_le (by rw [HML.out]; exact Nat.le_refl _), List.take_of_length_le (by rw [HLL.out]; exact Nat.le_refl _)] at h
          rw [HM.out]; exact h) (by
          have h := HF.out
          rw [List.take_of_length_le (by rw [HLL.out]; exact Nat.le_refl _)] at h
          exact h))
      go_wp2
      go_ret
      rw [HR.out]
      exact ⟨rfl, below_in B1.out HB.out (Nat.le_refl _)⟩
end Go.Proofs.Ytoaeadjihpbhgaa
