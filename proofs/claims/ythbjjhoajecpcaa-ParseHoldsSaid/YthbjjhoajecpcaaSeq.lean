/-
  The document's sequence walked. No condition but bounds.
-/
import Derived.Test.YthbjjhoajecpcaaPay
import Derived.Test.YthbjjhoajecpcaaStepP
namespace Go.Proofs.Ythbjjhoajecpcaa
open Go.RowKit Go.Proofs
set_option linter.unusedVariables false
set_option maxRecDepth 100000 in
set_option maxHeartbeats 16000000 in
theorem seq_any (w0 : World) (q : Rn) (evs : List Ev) (a0 : Nat) (dev : Bool) (w : World) (h : RInv w0 q evs 0 0 w) (ho : ROk w0 q) (hn : evs.length ≤ 5000) (ha : a0 ≤ q.b.length) :
    Calls Try.prog 52 #[.pointer (some ⟨q.R, 0, none⟩), .int .i64 a0, .bool dev] w (RPost w0 q evs a0 (seqF q.most dev [] (q.b.drop a0))) := by
  have HO := hide ho
  have hlen := ho.len
  have PY := hide (fun (evs' : List Ev) (a : Nat) (s : List Int) (last : Int) (W : World) (hW : RInv w0 q (evs ++ evs') 0 0 W) (hn : (evs ++ evs').length ≤ 10000) (ha : a ≤ q.b.length) (hs : s.length ≤ 1000) (hsb : ∀ x ∈ s, 0 ≤ x ∧ x ≤ 255) => pay_any w0 q (evs ++ evs') a s last W hW ho hn ha hs hsb)
  have AD := hide (fun (ev : Ev) (evs' : List Ev) (AN : Option Addr) (cN : Nat) (W : World) (hW : RInv w0 q (evs ++ evs') 0 0 W) (hn : (evs ++ evs').length ≤ 10000) (hu : NumsAt W (.slice AN ev.nums.length cN) ev.nums) => add_any w0 q (evs ++ evs') 0 0 ev AN cN W hW ho (by omega) hu)
  have PA := hide (fun (s : List Int) (W : World) (hs : s.length ≤ 1000) (hsb : ∀ x ∈ s, 0 ≤ x ∧ x ≤ 255) => parts_any s W s.length rfl (by omega) hsb)
  have ST := hide stops_any
  obtain ⟨o, hoo⟩ : ∃ o, seqF q.most dev [] (q.b.drop a0) = o := ⟨_, rfl⟩
  rw [hoo]
  have HOO := hide hoo
  obtain ⟨N, hN⟩ : ∃ N, q.b.length = N := ⟨_, rfl⟩
  obtain ⟨⟨AE, cE, k0⟩, k1, k2, k3, k4, kf, kl, kr, kb⟩ := h.cells ho
  clear k0 k1 k2 k3 k4 kf kr kb hoo ho
  rw [hN] at ha hlen
  have HNN := hide hN
  go_enter Try.func52, Try.ntmps52
  go_wp2
  go_loopg [1, 7] (N - a0) (fun g s1 s7 wr => ∃ (a : Nat) (s : List Int) (evs' : List Ev), a + g = N ∧ a0 ≤ a ∧ s1 = .int .i64 a ∧ s7 = .string (strOfNums s) ∧ s.length ≤ a ∧ evs'.length ≤ a ∧ Hid (∀ x ∈ s, 0 ≤ x ∧ x ≤ 255) ∧ Hid (o = (seqF q.most dev s (q.b.drop a)).more evs' (a - a0)) ∧ Hid (RInv w0 q (evs ++ evs') 0 0 wr))
  case atStart => exact ⟨a0, [], [], by omega, Nat.le_refl _, rfl, rfl, by simp, by simp, by show ∀ x ∈ ([] : List Int), 0 ≤ x ∧ x ≤ 255; simp, by show _ = _; rw [Nat.sub_self, more_nil, HOO.out], by show RInv _ _ _ _ _ _; rw [List.append_nil]; exact h⟩
  case round =>
    clear h hN
    obtain ⟨a, s, evs', hag, haa, rfl, rfl, hsl, hel, HSB, HE, HI⟩ := hrel
    have hev : (evs ++ evs').length ≤ 10000 := by rw [List.length_append]; omega
    obtain ⟨⟨AE', cE', c0⟩, c1, c2, c3, c4, fz, rl, hrd, hB⟩ := HI.out.cells HO.out
    rw [HNN.out] at c3
    by_cases hlt : a < N
    · obtain ⟨g, off, c, hA, hx, hdr, hcell⟩ := byte_of hrd (a := a) (by rw [HNN.out]; exact hlt)
      rw [hA] at c3
      obtain ⟨hc0, hc1⟩ := HO.out.low c (List.mem_of_getElem? hx)
      have HE2 := HE.out
      rw [hdr] at HE2
      clear hA hx hrd hdr c0 c1 c2 c4 HE
      by_cases k1 : 128 ≤ c
      · have HF := hide (show o = ⟨evs', 0, 0, a - a0⟩ by rw [HE2, seqF, if_pos (.inl k1)]; simp [Out.more])
        clear HE2
        go_wp2_with fail
        go_ret
        rw [HF.out]
        refine ⟨ret_int ?_, HI.out⟩
        show (a : Int) = ((a0 + (a - a0) : Nat) : Int)
        omega
      · have b1 : decide (128 ≤ c) = false := by simpa using k1
        have ST1 := hide (ST.out c wr)
        cases hst : stopB c with
        | true =>
          rw [hst] at ST1
          have HF := hide (show o = ⟨evs', 0, 0, a - a0⟩ by rw [HE2, seqF, if_pos (.inr hst)]; simp [Out.more])
          clear HE2 hst
          go_wp2_with (go_at_call 49; go_must (refine ST1.out.mono ?_; rintro e w1 ⟨rfl, hw1⟩; obtain rfl := hw1.symm))
          go_ret
          rw [HF.out]
          refine ⟨ret_int ?_, HI.out⟩
          show (a : Int) = ((a0 + (a - a0) : Nat) : Int)
          omega
        | false =>
          rw [hst] at ST1
          have n1 : ¬ (128 ≤ c ∨ stopB c = true) := by rw [hst]; simp; omega
          clear hst
          by_cases k2 : c = 127
          · have HF := hide (show o = (seqF q.most dev s (q.b.drop (a + 1))).more evs' (a + 1 - a0) by rw [HE2, seqF, if_neg n1, if_pos (.inl k2), more_more, List.append_nil, show a - a0 + 1 = a + 1 - a0 by omega])
            subst k2
            clear HE2
            go_wp2_with (go_at_call 49; go_must (refine ST1.out.mono ?_; rintro e w1 ⟨rfl, hw1⟩; obtain rfl := hw1.symm))
            go_roundg (N - (a + 1))
            case measure => omega
            case rel => exact ⟨a + 1, s, evs', by omega, by omega, by first | rfl | simp, rfl, by omega, by omega, HSB.out, HF.out, HI.out⟩
          · have b2 : (c == 127) = false := by simpa using k2
            by_cases k3 : c < 32
            · cases dev with
              | true =>
                have HF := hide (show o = (seqF q.most true s (q.b.drop (a + 1))).more evs' (a + 1 - a0) by rw [HE2, seqF, if_neg n1, if_pos (.inr ⟨k3, rfl⟩), more_more, List.append_nil, show a - a0 + 1 = a + 1 - a0 by omega])
                clear HE2
                go_wp2_with (go_at_call 49; go_must (refine ST1.out.mono ?_; rintro e w1 ⟨rfl, hw1⟩; obtain rfl := hw1.symm))
                go_roundg (N - (a + 1))
                case measure => omega
                case rel => exact ⟨a + 1, s, evs', by omega, by omega, by first | rfl | simp, rfl, by omega, by omega, HSB.out, HF.out, HI.out⟩
              | false =>
                have HF := hide (show o = (seqF q.most false s (q.b.drop (a + 1))).more (evs' ++ [execE c]) (a + 1 - a0) by rw [HE2, seqF, if_neg n1, if_neg (by rintro (h | h); exact k2 h; exact absurd h.2 (by simp)), if_pos k3, more_more, show a - a0 + 1 = a + 1 - a0 by omega])
                have AD1 := hide (AD.out (execE c) evs' none 0 wr HI.out hev (nums_none wr 0))
                unfold evC execE at AD1
                dsimp only at AD1
                clear HE2
                go_wp2_with (first
                  | (go_at_call 49; go_must (refine ST1.out.mono ?_; rintro e w1 ⟨rfl, hw1⟩; obtain rfl := hw1.symm))
                  | (go_at_call 39; go_must (refine AD1.out.mono ?_; rintro e w2 ⟨rfl, hI2⟩; have hI2 := hide hI2)))
                go_roundg (N - (a + 1))
                case measure => omega
                case rel =>
                  refine ⟨a + 1, s, evs' ++ [execE c], by omega, by omega, by first | rfl | simp, rfl, by omega, by simp; omega, HSB.out, HF.out, ?_⟩
                  show RInv _ _ _ _ _ _
                  rw [← List.append_assoc]
                  exact hI2.out
            · have b3 : decide (c < 32) = false := by simpa using k3
              have n2 : ¬ (c = 127 ∨ c < 32 ∧ dev = true) := by omega
              by_cases k4 : c < 64
              · have HF := hide (show o = (seqF q.most dev (s ++ [c]) (q.b.drop (a + 1))).more evs' (a + 1 - a0) by rw [HE2, seqF, if_neg n1, if_neg n2, if_neg k3, if_pos k4, more_more, List.append_nil, show a - a0 + 1 = a + 1 - a0 by omega])
                have cv := conv_one wr c
                have e1 := so_app s [c]
                have z1 := strOfNums_size s
                have z2 : (strOfNums [c]).size = 1 := rfl
                have HI2 := hide (HI.out.call HO.out.size ((Below.refl _ wr).alloc (Nat.le_refl _) (.cells #[.int .u8 c] 5)))
                clear HE2 n1 n2
                go_wp2_with (go_at_call 49; go_must (refine ST1.out.mono ?_; rintro e w1 ⟨rfl, hw1⟩; obtain rfl := hw1.symm))
                go_roundg (N - (a + 1))
                case measure => omega
                case rel => exact ⟨a + 1, s ++ [c], evs', by omega, by omega, by first | rfl | simp, rfl, by simp; omega, by omega, snoc_bd HSB.out hc0 hc1, HF.out, HI2.out⟩
              · have b4 : decide (c < 64) = false := by simpa using k4
                cases dev with
                | true =>
                  have HF := hide (show o = (payF q.most s c (q.b.drop (a + 1))).more evs' (a + 1 - a0) by rw [HE2, seqF, if_neg n1, if_neg n2, if_neg k3, if_neg k4, if_pos rfl, more_more, List.append_nil, show a - a0 + 1 = a + 1 - a0 by omega])
                  have PY1 := hide (PY.out evs' (a + 1) s c wr HI.out hev (by rw [HNN.out]; omega) (by omega) HSB.out)
                  obtain ⟨p, hp⟩ : ∃ p, payF q.most s c (q.b.drop (a + 1)) = p := ⟨_, rfl⟩
                  rw [hp] at PY1 HF
                  clear HE2 hp n1 n2
                  go_wp2_with (first
                    | (go_at_call 49; go_must (refine ST1.out.mono ?_; rintro e w1 ⟨rfl, hw1⟩; obtain rfl := hw1.symm))
                    | (go_at_call 61; go_must (refine PY1.out.mono ?_; rintro e w2 ⟨rfl, hI2⟩; have hI2 := hide hI2)))
                  go_ret
                  rw [HF.out]
                  refine ⟨ret_int ?_, ?_⟩
                  · show ((a + 1 + p.n : Nat) : Int) = ((a0 + (a + 1 - a0 + p.n) : Nat) : Int)
                    omega
                  · have := hI2.out
                    rw [List.append_assoc] at this
                    exact this
                | false =>
                  obtain ⟨pt, hpt⟩ : ∃ pt, partsF s = pt := ⟨_, rfl⟩
                  have hpn := parts_nice s HSB.out
                  have PA1 := hide (PA.out s wr (by omega) HSB.out)
                  rw [hpt] at PA1 hpn
                  have HF := hide (show o = ⟨evs' ++ (if pt.ok = true then [⟨3, 0, c, pt.pre, numsF pt.head, pt.inter, [], false⟩] else []), 0, 0, a + 1 - a0⟩ by rw [HE2, seqF, if_neg n1, if_neg n2, if_neg k3, if_neg k4, if_neg (by simp), hpt]; simp [Out.more]; omega)
                  obtain ⟨pre, head, inter, ok⟩ := pt
                  dsimp only at PA1 hpn HF
                  have RP1 := hide (fun W => rparse_any head W head.length rfl (by omega) hpn.1)
                  clear HE2 hpt n1 n2
                  have HW := hide (fun W (hb : Below wr.heap.size wr W) => HI.out.call HO.out.size hb)
                  cases ok with
                  | false =>
                    go_wp2_with (first
                      | (go_at_call 49; go_must (refine ST1.out.mono ?_; rintro e w1 ⟨rfl, hw1⟩; obtain rfl := hw1.symm))
                      | (go_at_call 62; go_must (refine PA1.out.mono ?_; rintro e w1 ⟨rfl, q1, rfl⟩)))
                    go_ret
                    rw [HF.out]
                    refine ⟨ret_int ?_, by simpa using HW.out _ (drewN_below wr q1)⟩
                    simp
                    omega
                  | true =>
                    have AD1 := hide (fun (AN : Option Addr) (cN : Nat) (W : World) (hb : Below wr.heap.size wr W) (hu : NumsAt W (.slice AN (numsF head).length cN) (numsF head)) => AD.out ⟨3, 0, c, pre, numsF head, inter, [], false⟩ evs' AN cN W (HW.out W hb) hev hu)
                    unfold evC at AD1
                    dsimp only at AD1
                    go_wp2_with (first
                      | (go_at_call 49; go_must (refine ST1.out.mono ?_; rintro e w1 ⟨rfl, hw1⟩; obtain rfl := hw1.symm))
                      | (go_at_call 62; go_must (refine PA1.out.mono ?_; rintro e w1 ⟨rfl, q1, rfl⟩))
                      | (go_at_call 63; go_must (refine (RP1.out _).mono ?_; rintro e w3 ⟨v, rfl, hN, hb⟩; obtain ⟨AN, cN, hv, hN2⟩ := hN; have hN := hide (show NumsAt w3 v (numsF head) from ⟨AN, cN, hv, hN2⟩); clear hN2; subst hv; have HB3 := hide ((drewN_below wr q1).trans hb); have AD2 := hide (AD1.out AN cN w3 HB3.out hN.out); clear hb))
                      | (go_at_call 39; go_must (refine AD2.out.mono ?_; rintro e w4 ⟨rfl, hI4⟩; have hI4 := hide hI4)))
                    go_ret
                    rw [HF.out]
                    refine ⟨ret_int ?_, ?_⟩
                    · simp
                      omega
                    · have := hI4.out
                      rw [List.append_assoc] at this
                      exact this
    · have han : a = N := by omega
      obtain ⟨pt, hpt⟩ : ∃ pt, partsF s = pt := ⟨_, rfl⟩
      have hpn := parts_nice s HSB.out
      have PA1 := hide (fun W => PA.out s W (by omega) HSB.out)
      rw [hpt] at PA1 hpn
      have HF := hide (show o = ⟨evs', if dev = true then 3 else 2, if pt.ok = true then pt.head.length + pt.inter.length else 0, a - a0⟩ by rw [HE.out, List.drop_eq_nil_of_le (by rw [HNN.out]; omega), seqF, hpt]; simp [Out.more])
      obtain ⟨pre, head, inter, ok⟩ := pt
      dsimp only at PA1 hpn HF
      obtain ⟨h1, hh1⟩ : ∃ h1, head.length = h1 := ⟨_, rfl⟩
      obtain ⟨h2, hh2⟩ : ∃ h2, inter.length = h2 := ⟨_, rfl⟩
      have z1 : (strOfNums head).size = h1 := by rw [strOfNums_size, hh1]
      have z2 : (strOfNums inter).size = h2 := by rw [strOfNums_size, hh2]
      obtain ⟨y, hy⟩ : ∃ y, h1 + h2 = y := ⟨_, rfl⟩
      have e1 : (h1 : Int) + h2 = y := by omega
      have hb9 : y ≤ 4000 := by omega
      have w1 : IntKind.i64.wrap (y : Int) = y := IntWalk.i64_in _ (by omega)
      rw [hh1, hh2, hy] at HF
      have hfin : (a : Int) = ((a0 + (a - a0) : Nat) : Int) := by omega
      have HFIN := hide hfin
      have X2 := hide (HI.out.setSt HO.out.own 2)
      have X3 := hide ((HI.out.setSt HO.out.own 2).setSt HO.out.own 3)
      clear HE hrd c0 hpt hpn hh1 hh2 hy hfin
      subst han
      cases dev with
      | true =>
        cases ok with
        | true =>
          go_wp2_with (go_at_call 62; go_must (refine (PA1.out _).mono ?_; rintro e w1 ⟨rfl, q1, rfl⟩))
          go_ret
          rw [HF.out]
          exact ⟨ret_int HFIN.out, ((X3.out.call HO.out.size (drewN_below _ q1)).setHeld HO.out.own y)⟩
        | false =>
          go_wp2_with (go_at_call 62; go_must (refine (PA1.out _).mono ?_; rintro e w1 ⟨rfl, q1, rfl⟩))
          go_ret
          rw [HF.out]
          exact ⟨ret_int HFIN.out, (X3.out.call HO.out.size (drewN_below _ q1))⟩
      | false =>
        cases ok with
        | true =>
          go_wp2_with (go_at_call 62; go_must (refine (PA1.out _).mono ?_; rintro e w1 ⟨rfl, q1, rfl⟩))
          go_ret
          rw [HF.out]
          exact ⟨ret_int HFIN.out, ((X2.out.call HO.out.size (drewN_below _ q1)).setHeld HO.out.own y)⟩
        | false =>
          go_wp2_with (go_at_call 62; go_must (refine (PA1.out _).mono ?_; rintro e w1 ⟨rfl, q1, rfl⟩))
          go_ret
          rw [HF.out]
          exact ⟨ret_int HFIN.out, (X2.out.call HO.out.size (drewN_below _ q1))⟩
end Go.Proofs.Ythbjjhoajecpcaa
