/-
  Text, walked. No condition but bounds.
-/
import Derived.Test.YtoaeadjihpbhgaaRright
namespace Go.Proofs.Ytoaeadjihpbhgaa
open Go.RowKit Go.Proofs
set_option linter.unusedVariables false
/-- What a cell says. -/
def cellBytes (c : Cell) : List UInt8 := if c.half = 2 ∨ c.half = 3 then [] else if c.r = 0 then [32] else (strOfNums (putF c.r)).data.toList ++ c.more.data.toList
/-- A row's text. -/
def rowTextF (l : List Cell) : List UInt8 := (l.take (usedF l)).flatMap cellBytes
theorem bytes_take_snoc {l : List Cell} {k : Nat} {x : Cell} (hx : l[k]? = some x) : (l.take (k + 1)).flatMap cellBytes = (l.take k).flatMap cellBytes ++ cellBytes x := by
  rw [take_snoc hx, List.flatMap_append]; simp
theorem cellBytes_none {c : Cell} (h : c.half = 2 ∨ c.half = 3) : cellBytes c = [] := by unfold cellBytes; rw [if_pos h]
theorem cellBytes_blank {c : Cell} (h : ¬ (c.half = 2 ∨ c.half = 3)) (h0 : c.r = 0) : cellBytes c = [32] := by unfold cellBytes; rw [if_neg h, if_pos h0]
theorem cellBytes_full {c : Cell} (h : ¬ (c.half = 2 ∨ c.half = 3)) (h0 : ¬ c.r = 0) : cellBytes c = (strOfNums (putF c.r)).data.toList ++ c.more.data.toList := by unfold cellBytes; rw [if_neg h, if_neg h0]
theorem cellBytes_len (c : Cell) (h : c.more.size ≤ 3000000) : (cellBytes c).length ≤ 3000004 := by
  unfold cellBytes
  split
  · simp
  · split
    · simp
    · rw [List.length_append]
      have h1 : (strOfNums (putF c.r)).data.toList.length ≤ 4 := by rw [strOfNums_data, List.length_map]; exact putF_len _
      have h2 : c.more.data.toList.length = c.more.size := by rw [Array.length_toList]; rfl
      omega
theorem bis_call {B b : Nat} {bs : List Value} {w w' : World} (h : BIs B b bs w) (hb : Below w.heap.size w w') : BIs B b bs w' := by
  have key : ∀ p, BAt B b p bs w → BAt B b p bs w' := by
    rintro p ⟨h1, v, h2, h3, h4⟩
    have hlt : b < w.heap.size := (show Blk w b 53 _ from h2).lt
    exact ⟨h1, v, (hb.block b hlt).trans h2, own_call h3 hb, h4⟩
  rcases h with h | h
  · exact .inl (key _ h)
  · exact .inr (key _ h)
theorem bis_drew {B b : Nat} {bs : List Value} {w : World} (h : BIs B b bs w) : BIs B b bs w.drew := h
set_option maxRecDepth 100000 in
set_option maxHeartbeats 4000000 in
theorem text_any (l : List Cell) (n c B : Nat) (A : Option Addr) (w : World) (hl : Rd w B 8 A n (l.flatMap cellE)) (hB : B ≤ w.heap.size) (hn : n ≤ 100000) (hc : n ≤ c) (hq : ∀ c ∈ l, c.more.size ≤ 3000000) :
    Calls Try.prog 13 #[.slice A n c] w fun e w' => e = .returned (.string ⟨(rowTextF l).toArray⟩) ∧ Below w.heap.size w w' := by
  have hll := hl.len (E := cellE) (fun _ => rfl) (by omega)
  have HL := hide hl
  have HQ := hide hq
  have hu := usedF_le l
  have US := hide (fun (W : World) (hW : Below w.heap.size w W) => used_any l n c B A W (hl.below (hW.mono hB)) (Nat.le_trans hB hW.size) hn)
  obtain ⟨u, hu0⟩ : ∃ u, usedF l = u := ⟨_, rfl⟩
  rw [hu0] at US hu
  have HU := hide hu0
  have hun : u ≤ n := by omega
  have sl := fun W => cut_h (P := Try.prog) (t := 26) (a := A) (len := n) (cap := c) (s := 8) Try.underlying26 (by kernel_rfl) u (H := (u : Int)) rfl (by omega) W
  rw [cutA_zero] at sl
  have PU := hide (fun (r : Int) (W : World) => put_any r W)
  have WB := hide (fun (bs : List Value) (W : World) (h : BIs w.heap.size w.heap.size bs W) (h1 : bs.length + 1 ≤ 140737488355328) (h2 : w.heap.size ≤ W.heap.size) => writeByte_any _ _ bs 32 W h h1 h2)
  have WS := hide (fun (bs : List Value) (s : ByteArray) (W : World) (h : BIs w.heap.size w.heap.size bs W) (h1 : bs.length + s.size ≤ 140737488355328) (h2 : w.heap.size ≤ W.heap.size) => writeString_any _ _ bs s W h h1 h2)
  have BF := hide (Lib.fresh_isBuilder 53 5 w)
  have ST := hide (fun (L : List UInt8) (W : World) (h : BIs w.heap.size w.heap.size (Lib.byteCells L) W) (h2 : w.heap.size ≤ W.heap.size) => string_any _ _ L W h h2)
  have BA := hide (show Below w.heap.size w (w.alloc (.cells #[.pointer none, .slice none 0 0] 53)) from (Below.refl _ _).alloc (Nat.le_refl _) _)
  clear hl hll hq hu0 hu
  go_enter Try.func13, Try.ntmps13
  go_wp2_with (go_at_call 15; go_must (refine (US.out _ BA.out).mono ?_; rintro e w1 ⟨rfl, rfl⟩))
  go_loopg [11] u (fun gg s wr => ∃ (k : Nat), k ≤ u ∧ u - k ≤ gg ∧ s = .int .i64 k ∧ Hid (((l.take k).flatMap cellBytes).length ≤ k * 3000004) ∧ Hid (BIs w.heap.size w.heap.size (Lib.byteCells ((l.take k).flatMap cellBytes)) wr) ∧ Hid (Below w.heap.size w wr))
  case atStart => exact ⟨0, by omega, by omega, rfl, show ((l.take 0).flatMap cellBytes).length ≤ _ by simp, BF.out, BA.out⟩
  case round =>
    obtain ⟨k, hkn, hgk, rfl, HS, HI, HB⟩ := hrel
    by_cases hlt : k < u
    · have d1 : decide (k < u) = true := by simpa using hlt
      have i1 : (0 : Int) ≤ k := by omega
      have i2 : (k : Int) ≤ u := by omega
      have hkn2 : k < n := by omega
      obtain ⟨b, off, x, hA, hb, hx, x0, x1, x2, x3, x4, x5, x6, x7⟩ := (HL.out.below (HB.out.mono hB)).eight hkn2
      subst hA
      have HX := hide hx
      have HT := hide (bytes_take_snoc hx)
      have hcl := cellBytes_len x (HQ.out x (List.mem_of_getElem? hx))
      have hms := HQ.out x (List.mem_of_getElem? hx)
      obtain ⟨L, hL⟩ : ∃ L, (l.take k).flatMap cellBytes = L := ⟨_, rfl⟩
      have HS2 := HS.out
      rw [hL] at HI HS2 HT
      obtain ⟨hh, hhh⟩ : ∃ hh, x.half = hh := ⟨_, rfl⟩
      rw [hhh] at x2
      have HH := hide hhh
      have hLb : L.length + 3000004 ≤ 140737488355328 := by
        have : k * 3000004 ≤ 100000 * 3000004 := Nat.mul_le_mul_right _ (by omega)
        omega
      have HS3 := hide (show (L ++ cellBytes x).length ≤ (k + 1) * 3000004 by rw [List.length_append, Nat.succ_mul]; omega)
      clear hx hL hhh hcl HS2
      by_cases hskip : hh = 2 ∨ hh = 3
      · have HN := hide (cellBytes_none (c := x) (by rw [HH.out]; exact hskip))
        rcases hskip with rfl | rfl
        · go_wp2
          go_roundg (u - (k + 1))
          case measure => omega
          case rel => exact ⟨k + 1, by omega, by omega, by go_num, by rw [HT.out]; exact HS3.out, by rw [HT.out, HN.out, List.append_nil]; exact bis_call HI.out ((Below.refl _ _).alloc (Nat.le_refl _) _), HB.out.alloc HB.out.size _⟩
        · go_wp2
          go_roundg (u - (k + 1))
          case measure => omega
          case rel => exact ⟨k + 1, by omega, by omega, by go_num, by rw [HT.out]; exact HS3.out, by rw [HT.out, HN.out, List.append_nil]; exact bis_call HI.out ((Below.refl _ _).alloc (Nat.le_refl _) _), HB.out.alloc HB.out.size _⟩
      · have e2 : (hh == 2) = false := by rw [beq_eq_false_iff_ne]; omega
        have e3 : (hh == 3) = false := by rw [beq_eq_false_iff_ne]; omega
        by_cases hr0 : x.r = 0
        · have e4 : (x.r == 0) = true := by simpa using hr0
          have HN := hide (cellBytes_blank (c := x) (by rw [HH.out]; exact hskip) hr0)
          clear hskip hr0
          go_upto_region 9 with (fail)
          go_name_world W hW
          have IW := hide (show BIs w.heap.size w.heap.size (Lib.byteCells L) W by rw [← hW]; exact bis_call HI.out ((Below.refl _ _).alloc (Nat.le_refl _) _))
          have BW := hide (show Below w.heap.size w W by rw [← hW]; exact HB.out.alloc HB.out.size _)
          clear hW
          have S1 := hide (WB.out _ W IW.out (by rw [Lib.byteCells_length]; omega) BW.out.size)
          go_wp2_with (go_at_call 32; go_must (refine (S1.out).mono ?_; rintro e w3 ⟨rfl, i3, b3, k3⟩; have I3 := hide i3; have B3 := hide (BW.out.trans b3); clear i3 b3))
          go_roundg (u - (k + 1))
          case measure => omega
          case rel => exact ⟨k + 1, by omega, by omega, by go_num, by rw [HT.out]; exact HS3.out, by rw [HT.out, HN.out, Lib.byteCells_append]; exact Or.inr I3.out, B3.out⟩
        · have e4 : (x.r == 0) = false := by simpa using hr0
          have HN := hide (cellBytes_full (c := x) (by rw [HH.out]; exact hskip) hr0)
          clear hskip hr0
          have P1 := hide (fun W => PU.out x.r W)
          obtain ⟨ps, hps⟩ : ∃ p, strOfNums (putF x.r) = p := ⟨_, rfl⟩
          have hpz : ps.size ≤ 4 := by rw [← hps, strOfNums_size]; exact putF_len x.r
          unfold RetS at P1
          rw [hps] at P1 HN
          have HLP := hide (show (Lib.byteCells (L ++ ps.data.toList)).length + x.more.size ≤ 140737488355328 by
            have h2 : ps.data.toList.length = ps.size := by rw [Array.length_toList]; rfl
            rw [Lib.byteCells_length, List.length_append, h2]; omega)
          clear hps
          go_upto_region 5 with (fail)
          go_name_world W hW
          have IW := hide (show BIs w.heap.size w.heap.size (Lib.byteCells L) W by rw [← hW]; exact bis_call HI.out ((Below.refl _ _).alloc (Nat.le_refl _) _))
          have BW := hide (show Below w.heap.size w W by rw [← hW]; exact HB.out.alloc HB.out.size _)
          have QW := hide (show Blk W wr.heap.size 40 #[.int .i32 x.r, .string x.more, .int .i64 hh, .int .i64 x.a.fk, .int .i64 x.a.fn, .int .i64 x.a.bk, .int .i64 x.a.bn, .int .i64 x.a.fl] by rw [← hW]; exact Blk.new _ _ _)
          clear hW x0 x1 x2 x3 x4 x5 x6 x7
          obtain ⟨⟨p0, p1, p2, p3, p4, p5, p6, p7⟩, _⟩ := blk8 QW.out
          go_wp2_with (first
            | (go_at_call 34; go_must (refine (P1.out _).mono ?_; rintro e w2 ⟨rfl, b2⟩; have I2 := hide (bis_call IW.out b2); have B2 := hide (below_in BW.out b2 (Nat.le_refl _)); have Q2 := hide (QW.out.below b2 QW.out.lt); have S1 := hide (WS.out _ ps w2 I2.out (by rw [Lib.byteCells_length]; omega) B2.out.size); clear b2))
            | (go_at_call 33; (with_reducible refine (S1.out).mono ?_); rintro e w3 ⟨rfl, i3, b3, k3⟩; have I3 := hide (show BIs w.heap.size w.heap.size (Lib.byteCells (L ++ ps.data.toList)) w3 from Or.inr (by rw [Lib.byteCells_append]; exact i3)); have B3 := hide (B2.out.trans b3); have q3 := k3 _ _ _ (by decide) (by decide) Q2.out; obtain ⟨⟨q0, q1, q2, q3', q4, q5, q6, q7⟩, _⟩ := blk8 q3; have S2 := hide (WS.out _ x.more w3 I3.out (HLP.out) B3.out.size); clear i3 b3 k3 q3)
            | (go_at_call 33; (with_reducible refine (S2.out).mono ?_); rintro e w4 ⟨rfl, i4, b4, k4⟩; have I4 := hide i4; have B4 := hide (B3.out.trans b4); clear i4 b4 k4))
          go_roundg (u - (k + 1))
          case measure => omega
          case rel => exact ⟨k + 1, by omega, by omega, by go_num, by rw [HT.out]; exact HS3.out, by rw [HT.out, HN.out, ← List.append_assoc, Lib.byteCells_append]; exact Or.inr I4.out, B4.out⟩
    · obtain rfl : k = u := by omega
      have d1 : decide (k < k) = false := by simp
      have S3 := hide (ST.out _ wr HI.out HB.out.size)
      have HTX := hide (show (l.take k).flatMap cellBytes = rowTextF l by unfold rowTextF; rw [HU.out])
      rw [HTX.out] at S3
      go_wp2_with (go_at_call 35; go_must (refine (S3.out).mono ?_; rintro e w3 ⟨rfl, b3⟩; have B3 := hide (HB.out.trans b3); clear b3))
      go_ret
      exact ⟨rfl, B3.out⟩
end Go.Proofs.Ytoaeadjihpbhgaa
