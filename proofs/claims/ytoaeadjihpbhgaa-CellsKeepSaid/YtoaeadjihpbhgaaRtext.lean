/-
  The document's Text, walked. No condition but bounds.
-/
import Derived.Test.YtoaeadjihpbhgaaText
namespace Go.Proofs.Ytoaeadjihpbhgaa
open Go.RowKit Go.Proofs
set_option linter.unusedVariables false
theorem ba_append (a b : List UInt8) : (⟨a.toArray⟩ : ByteArray) ++ ⟨b.toArray⟩ = ⟨(a ++ b).toArray⟩ := by
  apply bytes_eq
  rw [ByteArray.toList_eq, ByteArray.toList_eq]
  simp
theorem ba_self (s : ByteArray) : (⟨s.data.toList.toArray⟩ : ByteArray) = s := by cases s; simp
theorem ba_size (l : List UInt8) : (⟨l.toArray⟩ : ByteArray).size = l.length := by show l.toArray.size = _; simp
set_option maxRecDepth 100000 in
set_option maxHeartbeats 4000000 in
theorem rtext_any (l : List Cell) (n c B : Nat) (A : Option Addr) (w : World) (hl : Rd w B 8 A n (l.flatMap cellE)) (hB : B ≤ w.heap.size) (hn : n ≤ 100000) (hq : ∀ c ∈ l, c.more.size ≤ 3000000) :
    Calls Try.prog 14 #[.slice A n c] w fun e w' => e = .returned (.string ⟨(rowTextF l).toArray⟩) ∧ Below w.heap.size w w' := by
  have hll := hl.len (E := cellE) (fun _ => rfl) (by omega)
  have HL := hide hl
  have HQ := hide hq
  have hu := usedF_le l
  have US := hide (fun (W : World) (hW : Below w.heap.size w W) => rused_any l n c B A W (hl.below (hW.mono hB)) (Nat.le_trans hB hW.size) hn)
  obtain ⟨u, hu0⟩ : ∃ u, usedF l = u := ⟨_, rfl⟩
  rw [hu0] at US hu
  have HU := hide hu0
  have hun : u ≤ n := by omega
  have PU := hide (fun (r : Int) (W : World) => rput_any r W)
  clear hl hll hq hu0 hu
  go_enter Try.func14, Try.ntmps14
  go_wp2
  go_loopg [3, 4] u (fun gg s3 s4 wr => ∃ (k : Nat) (bk : ByteArray), k ≤ u ∧ u - k ≤ gg ∧ s3 = .string bk ∧ s4 = .int .i64 k ∧ Hid (bk.size ≤ k * 3000004) ∧ Hid (bk = ⟨((l.take k).flatMap cellBytes).toArray⟩) ∧ Hid (Below w.heap.size w wr))
  case atStart => exact ⟨0, _, by omega, by omega, rfl, rfl, by simp [ByteArray.size, Hid], by simp [Hid], Below.refl _ _⟩
  case round =>
    obtain ⟨k, bk, hkn, hgk, rfl, rfl, HS, HI, HB⟩ := hrel
    have U1 := hide (US.out wr HB.out)
    by_cases hlt : k < u
    · have d1 : decide (k < u) = true := by simpa using hlt
      have i1 : (0 : Int) ≤ k := by omega
      have hkn2 : k < n := by omega
      have i2 : (k : Int) ≤ n := by omega
      obtain ⟨b, off, x, hA, hb, hx, x0, x1, x2, x3, x4, x5, x6, x7⟩ := (HL.out.below (HB.out.mono hB)).eight hkn2
      subst hA
      have HX := hide hx
      have HT := hide (bytes_take_snoc hx)
      have hcl := cellBytes_len x (HQ.out x (List.mem_of_getElem? hx))
      have hms := HQ.out x (List.mem_of_getElem? hx)
      obtain ⟨hh, hhh⟩ : ∃ hh, x.half = hh := ⟨_, rfl⟩
      rw [hhh] at x2
      have HH := hide hhh
      have HS2 := HS.out
      have hLb : bk.size + 3000004 ≤ 9223372036854775807 := by
        have : k * 3000004 ≤ 100000 * 3000004 := Nat.mul_le_mul_right _ (by omega)
        omega
      have HNX := hide (fun (s : ByteArray) (h : s = ⟨(cellBytes x).toArray⟩) => show (bk ++ s = ⟨((l.take (k + 1)).flatMap cellBytes).toArray⟩) ∧ (bk ++ s).size ≤ (k + 1) * 3000004 by
        constructor
        · rw [HI.out, h, ba_append, HT.out]
        · rw [ByteArray.size_append, h, ba_size (cellBytes x)]; omega)
      clear hx hhh hcl HS2
      by_cases hskip : hh = 2 ∨ hh = 3
      · have HN := hide (cellBytes_none (c := x) (by rw [HH.out]; exact hskip))
        have HK := hide (show bk = ⟨((l.take (k + 1)).flatMap cellBytes).toArray⟩ by rw [HT.out, HN.out, List.append_nil]; exact HI.out)
        have HZ := hide (show bk.size ≤ (k + 1) * 3000004 from Nat.le_trans HS.out (Nat.mul_le_mul_right 3000004 (Nat.le_succ k)))
        rcases hskip with rfl | rfl
        · go_wp2_with (go_at_call 16; go_must (refine (U1.out).mono ?_; rintro e w1 ⟨rfl, rfl⟩))
          go_roundg (u - (k + 1))
          case measure => omega
          case rel => exact ⟨k + 1, bk, by omega, by omega, rfl, by go_num, HZ.out, HK.out, HB.out.alloc HB.out.size _⟩
        · go_wp2_with (go_at_call 16; go_must (refine (U1.out).mono ?_; rintro e w1 ⟨rfl, rfl⟩))
          go_roundg (u - (k + 1))
          case measure => omega
          case rel => exact ⟨k + 1, bk, by omega, by omega, rfl, by go_num, HZ.out, HK.out, HB.out.alloc HB.out.size _⟩
      · have e2 : (hh == 2) = false := by rw [beq_eq_false_iff_ne]; omega
        have e3 : (hh == 3) = false := by rw [beq_eq_false_iff_ne]; omega
        by_cases hr0 : x.r = 0
        · have e4 : (x.r == 0) = true := by simpa using hr0
          have HN := hide (cellBytes_blank (c := x) (by rw [HH.out]; exact hskip) hr0)
          have HK := hide (HNX.out { data := #[32] } (by rw [HN.out]))
          obtain ⟨s1, hs1⟩ : ∃ s1 : ByteArray, bk ++ { data := #[32] } = s1 := ⟨_, rfl⟩
          rw [hs1] at HK
          have h1 : bk.size + ({ data := #[32] } : ByteArray).size ≤ 9223372036854775807 := by show bk.size + 1 ≤ _; omega
          have h1' : bk.size + 1 ≤ 9223372036854775807 := by omega
          have h1'' : bk.size ≤ 9223372036854775806 := by omega
          clear hskip hr0
          go_wp2_with (go_at_call 16; go_must (refine (U1.out).mono ?_; rintro e w1 ⟨rfl, rfl⟩))
          go_roundg (u - (k + 1))
          case measure => omega
          case rel => exact ⟨k + 1, s1, by omega, by omega, rfl, by go_num, HK.out.2, HK.out.1, HB.out.alloc HB.out.size _⟩
        · have e4 : (x.r == 0) = false := by simpa using hr0
          have HN := hide (cellBytes_full (c := x) (by rw [HH.out]; exact hskip) hr0)
          clear hskip hr0
          have P1 := hide (fun W => PU.out x.r W)
          obtain ⟨ps, hps⟩ : ∃ p, strOfNums (putF x.r) = p := ⟨_, rfl⟩
          have hpz : ps.size ≤ 4 := by rw [← hps, strOfNums_size]; exact putF_len x.r
          rw [hps] at HN
          have HPS := hide hps
          have HK := hide (HNX.out (ps ++ x.more) (by rw [HN.out, ← ba_append, ba_self, ba_self]))
          obtain ⟨s0, hs0⟩ : ∃ s0 : ByteArray, bk ++ ps = s0 := ⟨_, rfl⟩
          obtain ⟨s1, hs1⟩ : ∃ s1 : ByteArray, s0 ++ x.more = s1 := ⟨_, rfl⟩
          have hz0 : s0.size = bk.size + ps.size := by rw [← hs0, ByteArray.size_append]
          have hass : bk ++ (ps ++ x.more) = s1 := by
            rw [← hs1, ← hs0]
            apply bytes_eq
            rw [ByteArray.toList_eq, ByteArray.toList_eq]
            simp
          rw [hass] at HK
          have g1 : (9223372036854775807 < bk.size + ps.size) = False := by simp; omega
          have g2 : (9223372036854775807 < (bk.size : Int) + ps.size) = False := by simp; omega
          have g3 : (9223372036854775807 < s0.size + x.more.size) = False := by simp; omega
          have g4 : (9223372036854775807 < (s0.size : Int) + x.more.size) = False := by simp; omega
          have g5 : bk.size + ps.size ≤ 9223372036854775807 := by omega
          have g6 : s0.size + x.more.size ≤ 9223372036854775807 := by omega
          clear hps hass hz0
          go_upto_region 9 with (go_at_call 16; go_must (refine (U1.out).mono ?_; rintro e w1 ⟨rfl, rfl⟩))
          go_name_world W hW
          have BW := hide (show Below w.heap.size w W by rw [← hW]; exact HB.out.alloc HB.out.size _)
          have QW := hide (show Blk W wr.heap.size 40 #[.int .i32 x.r, .string x.more, .int .i64 hh, .int .i64 x.a.fk, .int .i64 x.a.fn, .int .i64 x.a.bk, .int .i64 x.a.bn, .int .i64 x.a.fl] by rw [← hW]; exact Blk.new _ _ _)
          clear hW x0 x1 x2 x3 x4 x5 x6 x7
          obtain ⟨⟨p0, p1, p2, p3, p4, p5, p6, p7⟩, _⟩ := blk8 QW.out
          have CX := hide (fun (V : World) (hV : Below W.drew.heap.size W.drew V) => (blk8 (QW.out.drew.below hV QW.out.lt)).1)
          go_region_with ((go_at_call 36; (with_reducible refine (P1.out _).mono ?_); rintro e w3 ⟨A3, c3, rfl, rd3, h3, b3⟩; obtain ⟨q0, q1, q2, q3, q4, q5, q6, q7⟩ := CX.out w3 b3; have cv := conv_str (c := c3) rd3; rw [HPS.out] at cv; have B3 := hide (below_in BW.out.drew b3 (Nat.le_refl _)); clear b3 rd3))
          all_goals
            go_wp2
            go_roundg (u - (k + 1))
            case measure => omega
            case rel => exact ⟨k + 1, s1, by omega, by omega, rfl, by go_num, HK.out.2, HK.out.1, B3.out⟩
    · obtain rfl : k = u := by omega
      have d1 : decide (k < k) = false := by simp
      have HTX := hide (show bk = ⟨(rowTextF l).toArray⟩ by rw [HI.out]; unfold rowTextF; rw [HU.out])
      go_wp2_with (go_at_call 16; go_must (refine (U1.out).mono ?_; rintro e w1 ⟨rfl, rfl⟩))
      go_ret
      rw [← HTX.out]
      exact ⟨rfl, HB.out⟩
end Go.Proofs.Ytoaeadjihpbhgaa
