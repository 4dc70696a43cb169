/-
  marks, fine and Right, walked, the program's and the document's. No condition but bounds.
-/
import Derived.Test.YtoaeadjihpbhgaaBlanks
import Derived.Test.YtoaeadjihpbhgaaMarksP
import Derived.Test.YtoaeadjihpbhgaaAllU
import Derived.Test.YtoaeadjihpbhgaaAll
import Derived.Test.YtoaeadjihpbhgaaPut
import Derived.Lib.ConvBytes
namespace Go.Proofs.Ytoaeadjihpbhgaa
open Go.RowKit Go.Proofs
set_option linter.unusedVariables false
theorem below_bytes (w : World) (s : ByteArray) : Below w.heap.size w (Go.Lib.bytesWorld w 5 s) :=
  ⟨rfl, rfl, rfl, by rw [Go.Lib.bytesWorld_size]; omega, fun j hj => Go.Lib.bytesWorld_at_old w 5 s j hj⟩
theorem str_byte {l : List Int} (hq : ∀ x ∈ l, IsByte x) {j : Nat} {x : Int} (hx : l[j]? = some x) : ((strOfNums l).data.toList.getD j 0).toNat = x.toNat ∧ 0 ≤ x := by
  have hb := hq x (List.mem_of_getElem? hx)
  unfold IsByte at hb
  rw [strOfNums_data]
  simp only [List.getD_eq_getElem?_getD, List.getElem?_map, hx, Option.map_some, Option.getD_some]
  refine ⟨?_, hb.1⟩
  rw [UInt8.toNat_ofNat']
  omega
/-- A string's bytes as a slice. -/
theorem conv_bytes (l : List Int) (hq : ∀ x ∈ l, IsByte x) (W : World) : ∃ cap W', (convert 9 51 (.string (strOfNums l))).run Try.prog W = .ok (.slice (some ⟨W.heap.size, 0, none⟩) l.length cap) W' ∧ Rd W' W'.heap.size 1 (some ⟨W.heap.size, 0, none⟩) l.length (l.map b8) ∧ Below W.heap.size W W' := by
  have h := Go.Lib.run_convert_string_bytes (P := Try.prog) W 9 51 5 (strOfNums l) Try.ub9 Try.ub51 Try.ub5
  rw [strOfNums_size] at h
  refine ⟨_, _, h, ⟨by simp, fun _ => ⟨W.heap.size, 0, rfl, by rw [Go.Lib.bytesWorld_size]; omega, fun j u hu => ?_⟩⟩, below_bytes _ _⟩
  rw [List.getElem?_map] at hu
  cases hx : l[j]? with
  | none => rw [hx] at hu; cases hu
  | some x =>
    rw [hx] at hu
    have hj := (List.getElem?_eq_some_iff.1 hx).1
    obtain ⟨h1, h2⟩ := str_byte hq hx
    have := Go.Lib.bytesWorld_cell W 5 (strOfNums l) j (by rw [strOfNums_size]; exact hj)
    rw [h1] at this
    rw [Nat.zero_add, this]
    injection hu with hu
    rw [← hu]
    show some (Value.int .u8 (x.toNat : Int)) = some (b8 x)
    rw [Int.toNat_of_nonneg h2]
    rfl
theorem sum_snoc (l : List Int) (k : Nat) (x : Int) (h : l[k]? = some x) : ((l.take (k + 1)).flatMap putF).length = ((l.take k).flatMap putF).length + (putF x).length := by
  rw [take_snoc h, List.flatMap_append, List.length_append]; simp
set_option maxRecDepth 100000 in
set_option maxHeartbeats 4000000 in
theorem mk_any (s : ByteArray) (w : World) : Calls Try.prog 59 #[.string s] w fun e w' => e = .returned (.bool (marksB s)) ∧ Below w.heap.size w w' := by
  by_cases h32 : 32 < s.size
  · have HE := hide (marks_no h32)
    have d1 : decide (32 < s.size) = true := by simpa using h32
    have d2 : decide ((32 : Int) < s.size) = true := decide_eq_true (by omega)
    go_enter Try.func59, Try.ntmps59
    go_wp2
    go_ret
    rw [HE.out]
    exact ⟨rfl, Below.refl _ _⟩
  · have d1 : decide (32 < s.size) = false := by simpa using h32
    have d2 : decide ((32 : Int) < s.size) = false := decide_eq_false (by omega)
    obtain ⟨cap, w1, cv, rd1, b1⟩ := conv_bytes (numsOf s) (numsOf_byte s) w
    rw [str_nums, numsOf_len] at cv
    rw [numsOf_len] at rd1
    have AL := hide (all_any (numsOf s) _ s.size cap w1 rd1 (numsOf_byte s) (by omega))
    have B1 := hide b1
    have OF := hide (fun (r : Int) (W : World) => of_any r W)
    have PU := hide (fun (r : Int) (W : World) => put_any r W)
    obtain ⟨l, hl⟩ : ∃ l, allF (numsOf s) = l := ⟨_, rfl⟩
    have HL := hide hl
    rw [hl] at AL
    have hs32 : s.size ≤ 32 := by omega
    clear rd1 b1 hl
    go_enter Try.func59, Try.ntmps59
    go_wp2_with (go_at_call 70; go_must (refine (AL.out).mono ?_; rintro e w2 ⟨A2, N, c2, rfl, o2, b2⟩; have HN := hide (own_len1 o2); have R2 := hide (Rd.of_own o2); have B2 := hide (below_in B1.out b2 (Nat.le_refl _)); have Z2 := hide b2.size; clear o2 b2))
    have hNl : N ≤ 100000 := by
      have h1 := HN.out
      have h2 : l.length ≤ s.size := by rw [← HL.out, ← numsOf_len]; exact allF_len _ _ (Nat.le_refl _)
      omega
    go_loopg [3, 13] N (fun gg s3 s13 wr => ∃ (k n : Nat), k ≤ N ∧ N - k ≤ gg ∧ s3 = .int .i64 n ∧ s13 = .int .i64 k ∧ n ≤ 4 * k ∧ Hid (((l.take k).flatMap putF).length = n) ∧ Hid (∀ r ∈ l.take k, widOf r = 0) ∧ Hid (Below w2.heap.size w2 wr))
    case atStart => exact ⟨0, 0, by omega, by omega, rfl, rfl, by omega, show ((l.take 0).flatMap putF).length = 0 by simp, show ∀ r ∈ l.take 0, widOf r = 0 by simp, Below.refl _ _⟩
    case round =>
      obtain ⟨k, n, hkn, hgk, rfl, rfl, hn4, HS, HZ, HB⟩ := hrel
      by_cases hlt : k < N
      · have d3 : decide (k < N) = true := by simpa using hlt
        obtain ⟨b, off, x, hA, hb, hx, cx⟩ := (R2.out.below HB.out).at1 hlt
        subst hA
        unfold r32 at cx
        have HX := hide hx
        have i1 : (0 : Int) ≤ k := by omega
        have i2 : (k : Int) ≤ N := by omega
        obtain ⟨wd, hwd⟩ : ∃ wd, widOf x = wd := ⟨_, rfl⟩
        have O1 := hide (fun W => OF.out x W)
        rw [hwd] at O1
        have P1 := hide (fun W => PU.out x W)
        obtain ⟨q, hq⟩ : ∃ q, (putF x).length = q := ⟨_, rfl⟩
        have hq4 : q ≤ 4 := by rw [← hq]; exact putF_len x
        obtain ⟨ps, hps⟩ : ∃ p, strOfNums (putF x) = p := ⟨_, rfl⟩
        have hpz : ps.size = q := by rw [← hps, strOfNums_size]; exact hq
        unfold RetS at P1
        rw [hps] at P1
        have HW := hide hwd
        have HQ := hide hq
        clear hx hwd hq hps
        by_cases h0 : wd = 0
        · have d4 : (wd == 0) = true := by simpa using h0
          have d5 : (wd != 0) = false := by simpa using h0
          have HW0 := hide h0
          clear h0
          go_wp2_with (first
            | (go_at_call 47; go_must (refine (O1.out _).mono ?_; rintro e w3 ⟨rfl, b3⟩; have B3 := hide (below_in HB.out b3 (Nat.le_refl _)); clear b3))
            | (go_at_call 34; go_must (refine (P1.out _).mono ?_; rintro e w4 ⟨rfl, b4⟩; have B4 := hide (below_in B3.out b4 (Nat.le_refl _)); clear b4)))
          go_roundg (N - (k + 1))
          case measure => omega
          case rel =>
            refine ⟨k + 1, n + q, by omega, by omega, ?_, by go_num, by omega, ?_, ?_, B4.out⟩
            · first | go_num | (rw [hpz]; go_num)
            · show _ = _
              rw [sum_snoc l k x HX.out, HS.out, HQ.out]
            · show ∀ r ∈ l.take (k + 1), widOf r = 0
              intro r hr
              rw [take_snoc HX.out, List.mem_append] at hr
              rcases hr with hr | hr
              · exact HZ.out r hr
              · rw [List.mem_singleton] at hr; subst hr; rw [HW.out]; exact HW0.out
        · have d4 : (wd == 0) = false := by simpa using h0
          have d5 : (wd != 0) = true := by simpa using h0
          have HE := hide (show marksB s = false from marks_wid (r := x) (by rw [HL.out]; exact List.mem_of_getElem? HX.out) (by rw [HW.out]; exact h0))
          clear h0
          go_wp2_with (go_at_call 47; go_must (refine (O1.out _).mono ?_; rintro e w3 ⟨rfl, b3⟩; have B3 := hide (below_in HB.out b3 (Nat.le_refl _)); clear b3))
          go_ret
          rw [HE.out]
          exact ⟨rfl, below_in B2.out B3.out (Nat.le_refl _)⟩
      · obtain rfl : k = N := by omega
        have d3 : decide (k < k) = false := by simp
        have hall : ∀ r ∈ allF (numsOf s), widOf r = 0 := by
          have h := HZ.out
          rw [List.take_of_length_le (by have := HN.out; omega), ← HL.out] at h
          exact h
        have HE := hide (marks_yes hs32 hall)
        have hn : n = s.size := by
          have h := HS.out
          rw [List.take_of_length_le (by have := HN.out; omega), ← HL.out, back_marks (numsOf_byte s) hall, numsOf_len] at h
          exact h.symm
        have d4 : ((n : Int) == (s.size : Int)) = true := by rw [beq_iff_eq, hn]
        have d5 : (n == s.size) = true := by rw [beq_iff_eq, hn]
        clear hall hn
        go_wp2
        go_ret
        rw [HE.out]
        exact ⟨rfl, below_in B2.out HB.out (Nat.le_refl _)⟩
end Go.Proofs.Ytoaeadjihpbhgaa
