/-
  The document's last, escape walked. No condition but bounds.
-/
import Derived.Test.YthbjjhoajecpcaaSeq
namespace Go.Proofs.Ythbjjhoajecpcaa
open Go.RowKit Go.Proofs
set_option linter.unusedVariables false
set_option maxRecDepth 100000 in
set_option maxHeartbeats 8000000 in
theorem last_any (w0 : World) (q : Rn) (evs : List Ev) (a0 : Nat) (c : Int) (w : World) (h : RInv w0 q evs 0 0 w) (ho : ROk w0 q) (hn : evs.length ≤ 5000) (ha : a0 ≤ q.b.length) :
    Calls Try.prog 42 #[.pointer (some ⟨q.R, 0, none⟩), .int .i64 a0, .int .u8 c] w (RPost w0 q evs a0 (lastF q.most c (q.b.drop a0))) := by
  have HI := hide h
  have HO := hide ho
  by_cases k1 : c = 91
  · have hE : lastF q.most c (q.b.drop a0) = seqF q.most false [] (q.b.drop a0) := by unfold lastF; rw [if_pos k1]
    rw [hE]
    have S := hide (seq_any w0 q evs a0 false w h ho hn ha)
    obtain ⟨o, hoo⟩ : ∃ o, seqF q.most false [] (q.b.drop a0) = o := ⟨_, rfl⟩
    rw [hoo] at S ⊢
    subst k1
    clear hE h ho hoo
    go_enter Try.func42, Try.ntmps42
    go_wp2_with (go_at_call 52; go_must (refine S.out.mono ?_; rintro e w2 ⟨rfl, hI2⟩; have hI2 := hide hI2))
    go_ret
    exact ⟨rfl, hI2.out⟩
  · have b1 : (c == 91) = false := by simpa using k1
    by_cases k2 : c = 80
    · have hE : lastF q.most c (q.b.drop a0) = seqF q.most true [] (q.b.drop a0) := by unfold lastF; rw [if_neg k1, if_pos k2]
      rw [hE]
      have S := hide (seq_any w0 q evs a0 true w h ho hn ha)
      obtain ⟨o, hoo⟩ : ∃ o, seqF q.most true [] (q.b.drop a0) = o := ⟨_, rfl⟩
      rw [hoo] at S ⊢
      subst k2
      clear hE h ho hoo
      go_enter Try.func42, Try.ntmps42
      go_wp2_with (go_at_call 52; go_must (refine S.out.mono ?_; rintro e w2 ⟨rfl, hI2⟩; have hI2 := hide hI2))
      go_ret
      exact ⟨rfl, hI2.out⟩
    · have b2 : (c == 80) = false := by simpa using k2
      by_cases k3 : c = 93
      · have hE : lastF q.most c (q.b.drop a0) = cmdF q.most [] (q.b.drop a0) := by unfold lastF; rw [if_neg k1, if_neg k2, if_pos k3]
        rw [hE]
        have S := hide (cmd_any w0 q evs a0 w h ho (by omega) ha)
        obtain ⟨o, hoo⟩ : ∃ o, cmdF q.most [] (q.b.drop a0) = o := ⟨_, rfl⟩
        rw [hoo] at S ⊢
        subst k3
        clear hE h ho hoo
        go_enter Try.func42, Try.ntmps42
        go_wp2_with (go_at_call 53; go_must (refine S.out.mono ?_; rintro e w2 ⟨rfl, hI2⟩; have hI2 := hide hI2))
        go_ret
        exact ⟨rfl, hI2.out⟩
      · have b3 : (c == 93) = false := by simpa using k3
        by_cases k4 : c = 88 ∨ c = 94 ∨ c = 95
        · have hE : lastF q.most c (q.b.drop a0) = ⟨[], 5, 0, skipN (q.b.drop a0)⟩ := by unfold lastF; rw [if_neg k1, if_neg k2, if_neg k3, if_pos k4]
          rw [hE]
          have hlen := ho.len
          have HI5 := hide (h.setSt ho.own 5)
          have D := (HI5.out.cells ho)
          have ST := hide stops_any
          obtain ⟨N, hN⟩ : ∃ N, q.b.length = N := ⟨_, rfl⟩
          obtain ⟨K, hK⟩ : ∃ K, skipN (q.b.drop a0) = K := ⟨_, rfl⟩
          have hKl := skip_le (q.b.drop a0)
          rw [hK, List.length_drop, hN] at hKl
          have SA := skip_at (q.b.drop a0)
          rw [hK] at SA ⊢
          rw [hN] at ha hlen
          have HNN := hide hN
          have SA := hide SA
          obtain ⟨Z, hZ⟩ : ∃ Z, a0 + K = Z := ⟨_, rfl⟩
          obtain ⟨⟨AE, cE, c0⟩, c1, c2, c3, c4, fz, rl, hrd, hB⟩ := h.cells ho
          obtain ⟨w5, hw5⟩ : ∃ w5, w.setCell ⟨q.R, 1, none⟩ (.int .i64 (5 : Nat)) = w5 := ⟨_, rfl⟩
          rw [hw5] at HI5 D
          obtain ⟨_, d1, d2, d3, d4, dz, dl, drd, dB⟩ := D
          rw [hN] at c3 d3
          have hw5' : w.setCell ⟨q.R, 1, none⟩ (.int .i64 5) = w5 := hw5
          have cs : c = 88 ∨ (c = 94 ∧ (c == 88) = false) ∨ (c = 95 ∧ (c == 88) = false ∧ (c == 94) = false) := by
            rcases k4 with k | k | k
            · exact .inl k
            · exact .inr (.inl ⟨k, by subst k; rfl⟩)
            · exact .inr (.inr ⟨k, by subst k; rfl, by subst k; rfl⟩)
          clear hE h ho hK hN k4 k1 k2 k3 c0 c2 c4 hw5
          rcases cs with rfl | ⟨rfl, b4⟩ | ⟨rfl, b4, b5⟩
          all_goals
            go_enter Try.func42, Try.ntmps42
            go_upto_region 12 with (fail)
            try rw [hw5']
            clear hw5' c1 c3 hrd
            go_loopg [1] (Z - a0) (fun g s1 wr => ∃ a : Nat, a + g = Z ∧ a0 ≤ a ∧ s1 = .int .i64 a ∧ w5 = wr)
            case atStart => exact ⟨a0, by omega, Nat.le_refl _, rfl, rfl⟩
            case round =>
              obtain ⟨a, hag, haa, rfl, rfl⟩ := hrel
              by_cases hlt : a < Z
              · have haN : a < N := by omega
                obtain ⟨g, off, x, hA, hx, hdr, hcell⟩ := byte_of drd (a := a) (by rw [HNN.out]; exact haN)
                rw [hA] at d3
                obtain ⟨x', hx2, hst⟩ := SA.out.1 (a - a0) (by omega)
                rw [List.getElem?_drop, show a0 + (a - a0) = a by omega, hx] at hx2
                injection hx2 with hx2
                subst hx2
                have ST1 := hide (ST.out x w5)
                rw [hst] at ST1
                clear hA hx hdr hst
                go_wp2_with (go_at_call 49; go_must (refine ST1.out.mono ?_; rintro e w1 ⟨rfl, hw1⟩; obtain rfl := hw1.symm))
                go_roundg (Z - (a + 1))
                case measure => omega
                case rel => exact ⟨a + 1, by omega, by omega, by first | rfl | simp, rfl⟩
              · obtain rfl : Z = a := by omega
                have hfin : (Z : Int) = ((a0 + K : Nat) : Int) := by omega
                have HFIN := hide hfin
                clear hfin
                by_cases hend : Z = N
                · have b0 : decide (Z < N) = false := by simp; omega
                  go_wp2_with fail
                  go_ret
                  exact ⟨ret_int HFIN.out, by simpa using HI5.out⟩
                · have haN : Z < N := by omega
                  obtain ⟨g, off, x, hA, hx, hdr, hcell⟩ := byte_of drd (a := Z) (by rw [HNN.out]; exact haN)
                  have hst := SA.out.2 x (by rw [List.getElem?_drop, show a0 + K = Z by omega]; exact hx)
                  have ST1 := hide (ST.out x w5)
                  rw [hst] at ST1
                  rw [hA] at d3
                  clear hA hx hdr hst hend
                  go_wp2_with (go_at_call 49; go_must (refine ST1.out.mono ?_; rintro e w1 ⟨rfl, hw1⟩; obtain rfl := hw1.symm))
                  go_ret
                  exact ⟨ret_int HFIN.out, by simpa using HI5.out⟩
        · have hE : lastF q.most c (q.b.drop a0) = ⟨[⟨2, 0, c, 0, [], [], [], false⟩], 0, 0, 0⟩ := by unfold lastF; rw [if_neg k1, if_neg k2, if_neg k3, if_neg k4]
          rw [hE]
          have AD1 := hide (add_any w0 q evs 0 0 ⟨2, 0, c, 0, [], [], [], false⟩ none 0 w h ho (by omega) (nums_none w 0))
          unfold evC at AD1
          dsimp only at AD1
          have b4 : (c == 88) = false := by rw [beq_eq_false_iff_ne]; omega
          have b5 : (c == 94) = false := by rw [beq_eq_false_iff_ne]; omega
          have b6 : (c == 95) = false := by rw [beq_eq_false_iff_ne]; omega
          clear hE h ho k1 k2 k3 k4
          go_enter Try.func42, Try.ntmps42
          go_wp2_with (go_at_call 39; go_must (refine AD1.out.mono ?_; rintro e w2 ⟨rfl, hI2⟩; have hI2 := hide hI2))
          go_ret
          exact ⟨rfl, hI2.out⟩
set_option maxRecDepth 100000 in
set_option maxHeartbeats 16000000 in
theorem esc_any (w0 : World) (q : Rn) (evs : List Ev) (a0 : Nat) (w : World) (h : RInv w0 q evs 0 0 w) (ho : ROk w0 q) (hn : evs.length ≤ 3000) (ha : a0 ≤ q.b.length) :
    Calls Try.prog 38 #[.pointer (some ⟨q.R, 0, none⟩), .int .i64 a0] w (RPost w0 q evs a0 (escF q.most [] (q.b.drop a0))) := by
  have HO := hide ho
  have hlen := ho.len
  have LA := hide (fun (evs' : List Ev) (a : Nat) (c : Int) (W : World) (hW : RInv w0 q (evs ++ evs') 0 0 W) (hn : (evs ++ evs').length ≤ 5000) (ha : a ≤ q.b.length) => last_any w0 q (evs ++ evs') a c W hW ho hn ha)
  have AD := hide (fun (ev : Ev) (evs' : List Ev) (AN : Option Addr) (cN : Nat) (W : World) (hW : RInv w0 q (evs ++ evs') 0 0 W) (hn : (evs ++ evs').length ≤ 5000) (hu : NumsAt W (.slice AN ev.nums.length cN) ev.nums) => add_any w0 q (evs ++ evs') 0 0 ev AN cN W hW ho (by omega) hu)
  have ST := hide stops_any
  obtain ⟨o, hoo⟩ : ∃ o, escF q.most [] (q.b.drop a0) = o := ⟨_, rfl⟩
  rw [hoo]
  have HOO := hide hoo
  obtain ⟨N, hN⟩ : ∃ N, q.b.length = N := ⟨_, rfl⟩
  obtain ⟨⟨AE, cE, k0⟩, k1, k2, k3, k4, kf, kl, kr, kb⟩ := h.cells ho
  clear k0 k1 k2 k3 k4 kf kr kb hoo ho
  rw [hN] at ha hlen
  have HNN := hide hN
  go_enter Try.func38, Try.ntmps38
  go_wp2
  go_loopg [1, 5] (N - a0) (fun g s1 s5 wr => ∃ (a : Nat) (s : List Int) (evs' : List Ev), a + g = N ∧ a0 ≤ a ∧ s1 = .int .i64 a ∧ s5 = .string (strOfNums s) ∧ s.length ≤ a ∧ evs'.length ≤ a ∧ Hid (o = (escF q.most s (q.b.drop a)).more evs' (a - a0)) ∧ Hid (RInv w0 q (evs ++ evs') 0 0 wr))
  case atStart => exact ⟨a0, [], [], by omega, Nat.le_refl _, rfl, rfl, by simp, by simp, by show _ = _; rw [Nat.sub_self, more_nil, HOO.out], by show RInv _ _ _ _ _ _; rw [List.append_nil]; exact h⟩
  case round =>
    clear h hN
    obtain ⟨a, s, evs', hag, haa, rfl, rfl, hsl, hel, HE, HI⟩ := hrel
    have hev : (evs ++ evs').length ≤ 5000 := by rw [List.length_append]; omega
    obtain ⟨⟨AE', cE', c0⟩, c1, c2, c3, c4, fz, rl, hrd, hB⟩ := HI.out.cells HO.out
    rw [HNN.out] at c3
    by_cases hlt : a < N
    · obtain ⟨g, off, c, hA, hx, hdr, hcell⟩ := byte_of hrd (a := a) (by rw [HNN.out]; exact hlt)
      rw [hA] at c3
      obtain ⟨hc0, hc1⟩ := HO.out.low c (List.mem_of_getElem? hx)
      have HE2 := HE.out
      rw [hdr] at HE2
      clear hA hx hrd hdr c0 c1 c2 c4 HE
      by_cases k1 : 128 ≤ c
      · have HF := hide (show o = ⟨evs', 0, 0, a - a0⟩ by rw [HE2, escF, if_pos (.inl k1)]; simp [Out.more])
        clear HE2
        go_wp2_with fail
        go_ret
        rw [HF.out]
        refine ⟨ret_int ?_, HI.out⟩
        show (a : Int) = ((a0 + (a - a0) : Nat) : Int)
        omega
      · have b1 : decide (128 ≤ c) = false := by simpa using k1
        have ST1 := hide (ST.out c wr)
        cases hst : stopB c with
        | true =>
          rw [hst] at ST1
          have HF := hide (show o = ⟨evs', 0, 0, a - a0⟩ by rw [HE2, escF, if_pos (.inr hst)]; simp [Out.more])
          clear HE2 hst
          go_wp2_with (go_at_call 49; go_must (refine ST1.out.mono ?_; rintro e w1 ⟨rfl, hw1⟩; obtain rfl := hw1.symm))
          go_ret
          rw [HF.out]
          refine ⟨ret_int ?_, HI.out⟩
          show (a : Int) = ((a0 + (a - a0) : Nat) : Int)
          omega
        | false =>
          rw [hst] at ST1
          have n1 : ¬ (128 ≤ c ∨ stopB c = true) := by rw [hst]; simp; omega
          clear hst
          by_cases k3 : c < 32
          · have HF := hide (show o = (escF q.most s (q.b.drop (a + 1))).more (evs' ++ [execE c]) (a + 1 - a0) by rw [HE2, escF, if_neg n1, if_pos k3, more_more, show a - a0 + 1 = a + 1 - a0 by omega])
            have AD1 := hide (AD.out (execE c) evs' none 0 wr HI.out hev (nums_none wr 0))
            unfold evC execE at AD1
            dsimp only at AD1
            clear HE2
            go_wp2_with (first
              | (go_at_call 49; go_must (refine ST1.out.mono ?_; rintro e w1 ⟨rfl, hw1⟩; obtain rfl := hw1.symm))
              | (go_at_call 39; go_must (refine AD1.out.mono ?_; rintro e w2 ⟨rfl, hI2⟩; have hI2 := hide hI2)))
            go_roundg (N - (a + 1))
            case measure => omega
            case rel =>
              refine ⟨a + 1, s, evs' ++ [execE c], by omega, by omega, by first | rfl | simp, rfl, by omega, by simp; omega, HF.out, ?_⟩
              show RInv _ _ _ _ _ _
              rw [← List.append_assoc]
              exact hI2.out
          · have b3 : decide (c < 32) = false := by simpa using k3
            by_cases k2 : c = 127
            · have HF := hide (show o = (escF q.most s (q.b.drop (a + 1))).more evs' (a + 1 - a0) by rw [HE2, escF, if_neg n1, if_neg k3, if_pos k2, more_more, List.append_nil, show a - a0 + 1 = a + 1 - a0 by omega])
              subst k2
              clear HE2
              go_wp2_with (go_at_call 49; go_must (refine ST1.out.mono ?_; rintro e w1 ⟨rfl, hw1⟩; obtain rfl := hw1.symm))
              go_roundg (N - (a + 1))
              case measure => omega
              case rel => exact ⟨a + 1, s, evs', by omega, by omega, by first | rfl | simp, rfl, by omega, by omega, HF.out, HI.out⟩
            · have b2 : (c == 127) = false := by simpa using k2
              by_cases k4 : c < 48
              · have HF := hide (show o = (escF q.most (s ++ [c]) (q.b.drop (a + 1))).more evs' (a + 1 - a0) by rw [HE2, escF, if_neg n1, if_neg k3, if_neg k2, if_pos k4, more_more, List.append_nil, show a - a0 + 1 = a + 1 - a0 by omega])
                have cv := conv_one wr c
                have e1 := so_app s [c]
                have z1 := strOfNums_size s
                have z2 : (strOfNums [c]).size = 1 := rfl
                have HI2 := hide (HI.out.call HO.out.size ((Below.refl _ wr).alloc (Nat.le_refl _) (.cells #[.int .u8 c] 5)))
                clear HE2 n1
                go_wp2_with (go_at_call 49; go_must (refine ST1.out.mono ?_; rintro e w1 ⟨rfl, hw1⟩; obtain rfl := hw1.symm))
                go_roundg (N - (a + 1))
                case measure => omega
                case rel => exact ⟨a + 1, s ++ [c], evs', by omega, by omega, by first | rfl | simp, rfl, by simp; omega, by omega, HF.out, HI2.out⟩
              · have b4 : decide (c < 48) = false := by simpa using k4
                by_cases k5 : s = []
                · subst k5
                  have HF := hide (show o = (lastF q.most c (q.b.drop (a + 1))).more evs' (a + 1 - a0) by rw [HE2, escF, if_neg n1, if_neg k3, if_neg k2, if_neg k4, if_pos rfl, more_more, List.append_nil, show a - a0 + 1 = a + 1 - a0 by omega])
                  have LA1 := hide (LA.out evs' (a + 1) c wr HI.out hev (by rw [HNN.out]; omega))
                  obtain ⟨p, hp⟩ : ∃ p, lastF q.most c (q.b.drop (a + 1)) = p := ⟨_, rfl⟩
                  rw [hp] at LA1 HF
                  have hse : (strOfNums []).toList.isEmpty = true := by rw [so_toList]; rfl
                  clear HE2 hp n1
                  go_wp2_with (first
                    | (go_at_call 49; go_must (refine ST1.out.mono ?_; rintro e w1 ⟨rfl, hw1⟩; obtain rfl := hw1.symm))
                    | (go_at_call 42; go_must (refine LA1.out.mono ?_; rintro e w2 ⟨rfl, hI2⟩; have hI2 := hide hI2)))
                  go_ret
                  rw [HF.out]
                  refine ⟨ret_int ?_, ?_⟩
                  · show ((a + 1 + p.n : Nat) : Int) = ((a0 + (a + 1 - a0 + p.n) : Nat) : Int)
                    omega
                  · have := hI2.out
                    rw [List.append_assoc] at this
                    exact this
                · have hse : (strOfNums s).toList.isEmpty = false := by
                    rw [so_toList]
                    cases s with
                    | nil => exact absurd rfl k5
                    | cons x l => rfl
                  have z1 := strOfNums_size s
                  have HF := hide (show o = ⟨evs' ++ (if s.length ≤ 2 then [⟨2, 0, c, 0, [], s, [], false⟩] else []), 0, 0, a + 1 - a0⟩ by rw [HE2, escF, if_neg n1, if_neg k3, if_neg k2, if_neg k4, if_neg k5]; simp [Out.more]; omega)
                  obtain ⟨m, hm⟩ : ∃ m, s.length = m := ⟨_, rfl⟩
                  rw [hm] at z1 HF
                  clear HE2 n1
                  by_cases k6 : m ≤ 2
                  · rw [if_pos k6] at HF
                    have AD1 := hide (AD.out ⟨2, 0, c, 0, [], s, [], false⟩ evs' none 0 wr HI.out hev (nums_none wr 0))
                    unfold evC at AD1
                    dsimp only at AD1
                    clear hm
                    go_wp2_with (first
                      | (go_at_call 49; go_must (refine ST1.out.mono ?_; rintro e w1 ⟨rfl, hw1⟩; obtain rfl := hw1.symm))
                      | (go_at_call 39; go_must (refine AD1.out.mono ?_; rintro e w2 ⟨rfl, hI2⟩; have hI2 := hide hI2)))
                    go_ret
                    rw [HF.out]
                    refine ⟨ret_int ?_, ?_⟩
                    · simp
                      omega
                    · have := hI2.out
                      rw [List.append_assoc] at this
                      exact this
                  · rw [if_neg k6] at HF
                    have b6 : decide (m ≤ 2) = false := by simpa using k6
                    clear hm
                    go_wp2_with (go_at_call 49; go_must (refine ST1.out.mono ?_; rintro e w1 ⟨rfl, hw1⟩; obtain rfl := hw1.symm))
                    go_ret
                    rw [HF.out]
                    refine ⟨ret_int ?_, by simpa using HI.out⟩
                    simp
                    omega
    · have han : a = N := by omega
      have z1 := strOfNums_size s
      have HF := hide (show o = ⟨evs', 1, if s.length ≤ 2 then s.length else 0, a - a0⟩ by rw [HE.out, List.drop_eq_nil_of_le (by rw [HNN.out]; omega), escF]; simp [Out.more])
      obtain ⟨m, hm⟩ : ∃ m, s.length = m := ⟨_, rfl⟩
      rw [hm] at z1 HF hsl
      have hfin : (a : Int) = ((a0 + (a - a0) : Nat) : Int) := by omega
      have HFIN := hide hfin
      have X1 := hide (HI.out.setSt HO.out.own 1)
      have X2 := hide ((HI.out.setSt HO.out.own 1).setHeld HO.out.own m)
      clear HE hrd c0 hm hfin
      subst han
      by_cases k6 : m ≤ 2
      · rw [if_pos k6] at HF
        go_wp2_with fail
        go_ret
        rw [HF.out]
        exact ⟨ret_int HFIN.out, X2.out⟩
      · rw [if_neg k6] at HF
        have b6 : decide (m ≤ 2) = false := by simpa using k6
        go_wp2_with fail
        go_ret
        rw [HF.out]
        exact ⟨ret_int HFIN.out, X1.out⟩
end Go.Proofs.Ythbjjhoajecpcaa
