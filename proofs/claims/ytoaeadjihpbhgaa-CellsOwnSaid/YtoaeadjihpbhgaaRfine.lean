/-
  The document's Marks, walked. No condition but bounds.
-/
import Derived.Test.YtoaeadjihpbhgaaFine
namespace Go.Proofs.Ytoaeadjihpbhgaa
open Go.RowKit Go.Proofs
set_option linter.unusedVariables false
theorem conv_bytes2 (s : ByteArray) (W : World) : ∃ cap W', (convert 9 51 (.string s)).run Try.prog W = .ok (.slice (some ⟨W.heap.size, 0, none⟩) s.size cap) W' ∧ Rd W' W'.heap.size 1 (some ⟨W.heap.size, 0, none⟩) s.size ((numsOf s).map b8) ∧ s.size ≤ cap ∧ Below W.heap.size W W' := by
  obtain ⟨cap, W', h1, h2, h3⟩ := conv_bytes (numsOf s) (numsOf_byte s) W
  rw [str_nums, numsOf_len] at h1
  rw [numsOf_len] at h2
  have h := Go.Lib.run_convert_string_bytes (P := Try.prog) W 9 51 5 s Try.ub9 Try.ub51 Try.ub5
  rw [h1] at h
  injection h with h4 h5
  injection h4 with h6 h7 h8
  exact ⟨cap, W', h1, h2, by rw [h8]; exact grownCap_ge _ _ _ _, h3⟩
theorem str_append (a b : List Int) : strOfNums (a ++ b) = strOfNums a ++ strOfNums b := by
  apply bytes_eq
  rw [ByteArray.toList_eq, ByteArray.toList_eq]
  unfold strOfNums
  simp
set_option maxRecDepth 100000 in
set_option maxHeartbeats 4000000 in
theorem rmk_any (s : ByteArray) (hs : s.size ≤ 3000000) (w : World) : Calls Try.prog 43 #[.string s] w fun e w' => e = .returned (.bool (marksB s)) ∧ Below w.heap.size w w' := by
  obtain ⟨cap, w1, cv, rd1, hcap, b1⟩ := conv_bytes2 s w
  have AL := hide (rall_any (numsOf s) _ s.size cap w1.heap.size w1 rd1 (Nat.le_refl _) (numsOf_byte s) (by omega) hcap)
  have B1 := hide b1
  have OF := hide (fun (r : Int) (W : World) => rof_any r W)
  have PU := hide (fun (r : Int) (W : World) => rput_any r W)
  obtain ⟨l, hl⟩ : ∃ l, allF (numsOf s) = l := ⟨_, rfl⟩
  have HL := hide hl
  rw [hl] at AL
  clear rd1 b1 hl hcap
  go_enter Try.func43, Try.ntmps43
  go_wp2_with (go_at_call 63; go_must (refine (AL.out).mono ?_; rintro e w2 ⟨A2, N, c2, rfl, o2, b2⟩; have HN := hide (own_len1 o2); have R2 := hide (Rd.of_own o2); have B2 := hide (below_in B1.out b2 (Nat.le_refl _)); clear o2 b2))
  have hNl : N ≤ 3000000 := by
    have h1 := HN.out
    have h2 : l.length ≤ s.size := by rw [← HL.out, ← numsOf_len]; exact allF_len _ _ (Nat.le_refl _)
    omega
  go_loopg [4, 5] N (fun gg s4 s5 wr => ∃ (k : Nat) (bk : ByteArray), k ≤ N ∧ N - k ≤ gg ∧ s4 = .string bk ∧ s5 = .int .i64 k ∧ bk.size ≤ 4 * k ∧ Hid (strOfNums ((l.take k).flatMap putF) = bk) ∧ Hid (∀ r ∈ l.take k, widOf r = 0) ∧ Hid (Below w2.heap.size w2 wr))
  case atStart => exact ⟨0, { data := #[] }, by omega, by omega, rfl, rfl, by simp [ByteArray.size], show strOfNums ((l.take 0).flatMap putF) = _ from rfl, show ∀ r ∈ l.take 0, widOf r = 0 by simp, Below.refl _ _⟩
  case round =>
    obtain ⟨k, bk, hkn, hgk, rfl, rfl, hb4, HS, HZ, HB⟩ := hrel
    by_cases hlt : k < N
    · have d3 : decide (k < N) = true := by simpa using hlt
      obtain ⟨b, off, x, hA, hb, hx, cx⟩ := (R2.out.below HB.out).at1 hlt
      subst hA
      unfold r32 at cx
      have HX := hide hx
      have i1 : (0 : Int) ≤ k := by omega
      have i2 : (k : Int) ≤ N := by omega
      obtain ⟨wd, hwd⟩ : ∃ wd, widOf x = wd := ⟨_, rfl⟩
      have O1 := hide (fun W => OF.out x W)
      rw [hwd] at O1
      have P1 := hide (fun W => PU.out x W)
      obtain ⟨ps, hps⟩ : ∃ p, strOfNums (putF x) = p := ⟨_, rfl⟩
      have hpz : ps.size ≤ 4 := by rw [← hps, strOfNums_size]; exact putF_len x
      have HPS := hide hps
      have HW := hide hwd
      have hcs : bk.size + ps.size ≤ 9223372036854775807 := by omega
      have hcs4 : (9223372036854775807 < bk.size + ps.size) = False := by simp; omega
      have hcs5 : (9223372036854775807 < (bk.size : Int) + ps.size) = False := by simp; omega
      have hsz : (bk ++ ps).size ≤ 4 * (k + 1) := by rw [ByteArray.size_append]; omega
      have HZ2 := hide hsz
      clear hx hwd hps hsz
      have hblt := Nat.lt_of_lt_of_le hb HB.out.size
      have CX := hide (fun (W : World) (hW : Below wr.heap.size wr W) => (hW.cell (p := ⟨b, off + k, none⟩) hblt).trans cx)
      by_cases h0 : wd = 0
      · have d4 : (wd == 0) = true := by simpa using h0
        have d5 : (wd != 0) = false := by simpa using h0
        have HW0 := hide h0
        clear h0
        go_wp2_with (first
          | (go_at_call 42; go_must (refine (O1.out _).mono ?_; rintro e w3 ⟨rfl, b3⟩; have cx3 := CX.out w3 b3; have B3 := hide (below_in HB.out b3 (Nat.le_refl _)); clear b3))
          | (go_at_call 36; go_must (refine (P1.out _).mono ?_; rintro e w4 ⟨A4, c4, rfl, rd4, h4, b4⟩; have cv4 := conv_str (c := c4) rd4; rw [HPS.out] at cv4; have B4 := hide (below_in B3.out b4 (Nat.le_refl _)); clear b4 rd4)))
        go_roundg (N - (k + 1))
        case measure => omega
        case rel =>
          refine ⟨k + 1, bk ++ ps, by omega, by omega, rfl, by go_num, HZ2.out, ?_, ?_, B4.out⟩
          · show _ = _
            rw [take_snoc HX.out, List.flatMap_append, str_append, HS.out]
            simp [HPS.out]
          · show ∀ r ∈ l.take (k + 1), widOf r = 0
            intro r hr
            rw [take_snoc HX.out, List.mem_append] at hr
            rcases hr with hr | hr
            · exact HZ.out r hr
            · rw [List.mem_singleton] at hr; subst hr; rw [HW.out]; exact HW0.out
      · have d4 : (wd == 0) = false := by simpa using h0
        have d5 : (wd != 0) = true := by simpa using h0
        have HE := hide (show marksB s = false from marks_wid (r := x) (by rw [HL.out]; exact List.mem_of_getElem? HX.out) (by rw [HW.out]; exact h0))
        clear h0
        go_wp2_with (go_at_call 42; go_must (refine (O1.out _).mono ?_; rintro e w3 ⟨rfl, b3⟩; have B3 := hide (below_in HB.out b3 (Nat.le_refl _)); clear b3))
        go_ret
        rw [HE.out]
        exact ⟨rfl, below_in B2.out B3.out (Nat.le_refl _)⟩
    · obtain rfl : k = N := by omega
      have d3 : decide (k < k) = false := by simp
      have hall : ∀ r ∈ allF (numsOf s), widOf r = 0 := by
        have h := HZ.out
        rw [List.take_of_length_le (by have := HN.out; omega), ← HL.out] at h
        exact h
      have hbk : bk = s := by
        have h := HS.out
        rw [List.take_of_length_le (by have := HN.out; omega), ← HL.out, back_marks (numsOf_byte s) hall, str_nums] at h
        exact h.symm
      obtain rfl := hbk
      by_cases h32 : bk.size ≤ 32
      · have HE := hide (marks_yes h32 hall)
        have d4 : decide (bk.size ≤ 32) = true := by simpa using h32
        have d5 : decide ((bk.size : Int) ≤ 32) = true := decide_eq_true (by omega)
        clear hall
        go_wp2
        go_ret
        rw [HE.out]
        exact ⟨rfl, below_in B2.out HB.out (Nat.le_refl _)⟩
      · have HE := hide (marks_no (s := bk) (by omega))
        have d4 : decide (bk.size ≤ 32) = false := by simpa using h32
        have d5 : decide ((bk.size : Int) ≤ 32) = false := decide_eq_false (by omega)
        clear hall
        go_wp2
        go_ret
        rw [HE.out]
        exact ⟨rfl, below_in B2.out HB.out (Nat.le_refl _)⟩
end Go.Proofs.Ytoaeadjihpbhgaa
