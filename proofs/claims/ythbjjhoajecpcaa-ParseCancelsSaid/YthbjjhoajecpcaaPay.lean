/-
  The document's payload walked. No condition but bounds.
-/
import Derived.Test.YthbjjhoajecpcaaPref
namespace Go.Proofs.Ythbjjhoajecpcaa
open Go.RowKit Go.Proofs
set_option linter.unusedVariables false
/-- What stands ahead of the byte that stops. -/
theorem skip_at : ∀ (l : List Int), (∀ k, k < skipN l → ∃ x, l[k]? = some x ∧ stopB x = false) ∧ (∀ x, l[skipN l]? = some x → stopB x = true)
  | [] => by simp [skipN]
  | c :: l => by
    obtain ⟨h1, h2⟩ := skip_at l
    unfold skipN
    by_cases k : stopB c = true
    · rw [if_pos k]
      exact ⟨fun i hi => by omega, fun x hx => by simp at hx; subst hx; exact k⟩
    · rw [if_neg k]
      refine ⟨fun i hi => ?_, fun x hx => ?_⟩
      · cases i with
        | zero => exact ⟨c, rfl, by simpa using k⟩
        | succ i => simpa using h1 i (by omega)
      · rw [Nat.add_comm] at hx
        exact h2 x (by simpa using hx)
/-- The bytes from one place to another, as a string. -/
theorem rd_cut {w : World} {q : Rn} (h : Rd w q.B 1 q.A q.b.length (q.b.map b8)) (hc : q.b.length ≤ q.c) {a z : Nat} (ha : a ≤ z) (hz : z ≤ q.b.length) : Rd w q.B 1 (cutA q.A q.c a 1) (z - a) (((q.b.drop a).take (z - a)).map b8) := by
  have := h.part (k := a) (m := z) (cap := q.c) ha hz hc
  rw [Nat.mul_one, Nat.mul_one] at this
  rw [List.map_take, List.map_drop]
  exact this
theorem Try.size5 : (Try.prog.info? 5).map (·.size) = some 1 := by kernel_rfl
set_option maxRecDepth 100000 in
set_option maxHeartbeats 8000000 in
theorem pay_any (w0 : World) (q : Rn) (evs : List Ev) (a0 : Nat) (s : List Int) (last : Int) (w : World) (h : RInv w0 q evs 0 0 w) (ho : ROk w0 q) (hn : evs.length ≤ 10000) (ha : a0 ≤ q.b.length) (hs : s.length ≤ 1000) (hsb : ∀ x ∈ s, 0 ≤ x ∧ x ≤ 255) :
    Calls Try.prog 61 #[.pointer (some ⟨q.R, 0, none⟩), .int .i64 a0, .string (strOfNums s), .int .u8 last] w (RPost w0 q evs a0 (payF q.most s last (q.b.drop a0))) := by
  have HO := hide ho
  have hlen := ho.len
  have CU := hide (fun (s : List Int) (st : Nat) (W : World) (hW : RInv w0 q evs st 0 W) (hs : s.length ≤ 100000) => cut64 w0 q evs st 0 s W hW ho hs)
  have AD := hide (fun (ev : Ev) (AN : Option Addr) (cN : Nat) (W : World) (hW : RInv w0 q evs 0 0 W) (hu : NumsAt W (.slice AN ev.nums.length cN) ev.nums) => add_any w0 q evs 0 0 ev AN cN W hW ho (by omega) hu)
  have PA := hide (fun W => parts_any s W s.length rfl (by omega) hsb)
  have hpn := parts_nice s hsb
  have RP := hide (fun W (hp : (partsF s).head.length ≤ 1000) => rparse_any (partsF s).head W (partsF s).head.length rfl hp hpn.1)
  obtain ⟨N, hN⟩ : ∃ N, q.b.length = N := ⟨_, rfl⟩
  obtain ⟨K, hK⟩ : ∃ K, skipN (q.b.drop a0) = K := ⟨_, rfl⟩
  have hKl := skip_le (q.b.drop a0)
  rw [hK, List.length_drop, hN] at hKl
  have SA := skip_at (q.b.drop a0)
  rw [hK] at SA
  rw [hN] at ha hlen
  have HNN := hide hN
  have HK := hide hK
  have SA := hide SA
  obtain ⟨Z, hZ⟩ : ∃ Z, a0 + K = Z := ⟨_, rfl⟩
  have ST := hide stops_any
  obtain ⟨⟨AE', cE', c0⟩, c1, c2, c3, c4, fz, rl, hrd, hB⟩ := h.cells ho
  have HI := hide h
  rw [HNN.out] at c3
  clear h ho hK hN
  go_enter Try.func61, Try.ntmps61
  go_wp2_with fail
  go_loopg [1] (Z - a0) (fun g s1 wr => ∃ a : Nat, a + g = Z ∧ a0 ≤ a ∧ s1 = .int .i64 a ∧ w = wr)
  case atStart => exact ⟨a0, by omega, Nat.le_refl _, rfl, rfl⟩
  case round =>
    obtain ⟨a, hag, haa, rfl, rfl⟩ := hrel
    by_cases hlt : a < Z
    · have haN : a < N := by omega
      obtain ⟨g, off, c, hA, hx, hdr, hcell⟩ := byte_of hrd (a := a) (by rw [HNN.out]; exact haN)
      rw [hA] at c3
      obtain ⟨x, hx2, hst⟩ := SA.out.1 (a - a0) (by omega)
      rw [List.getElem?_drop, show a0 + (a - a0) = a by omega, hx] at hx2
      injection hx2 with hx2
      subst hx2
      have ST1 := hide (ST.out c w)
      rw [hst] at ST1
      clear hA hx hdr hst
      go_wp2_with (go_at_call 49; go_must (refine ST1.out.mono ?_; rintro e w1 ⟨rfl, hw1⟩; obtain rfl := hw1.symm))
      go_roundg (Z - (a + 1))
      case measure => omega
      case rel => exact ⟨a + 1, by omega, by omega, by first | rfl | simp, rfl⟩
    · obtain rfl : Z = a := by omega
      obtain ⟨p, hp⟩ : ∃ p, partsF s = p := ⟨_, rfl⟩
      rw [hp] at RP hpn
      have PA1 := hide (PA.out w)
      rw [hp] at PA1
      have hp1 : p.head.length ≤ 1000 := by omega
      have hp2 : p.inter.length ≤ 1000 := by omega
      have cv := fun (W : World) (hW : Rd W q.B 1 (cutA q.A q.c a0 1) (Z - a0) (((q.b.drop a0).take (Z - a0)).map b8)) => conv_str (c := q.c - a0) hW
      obtain ⟨tl, htl⟩ : ∃ tl, (q.b.drop a0).take K = tl := ⟨_, rfl⟩
      have hZa : Z - a0 = K := by omega
      have htn : tl.length = K := by rw [← htl, List.length_take, List.length_drop, HNN.out]; omega
      have cu := fun W => cut_lh (P := Try.prog) (t := 22) (a := q.A) (len := N) (cap := q.c) Try.u22 Try.size5 a0 Z (L := a0) (H := Z) rfl rfl (by omega) (by have := HO.out.cap; rw [HNN.out] at this; omega) W
      have cv2 : ∀ W, Below w.heap.size w W → (convert 22 9 (.slice (cutA q.A q.c a0 1) K (q.c - a0))).run Try.prog W = .ok (.string (strOfNums tl)) W := fun W hb => by
        have := cv W (rd_cut (hrd.below (hb.mono hB)) HO.out.cap (by omega) (by rw [HNN.out]; omega))
        rw [hZa, htl] at this
        exact this
      have CV := hide cv2
      have HT := hide htl
      have HP := hide hp
      obtain ⟨pre, head, inter, ok⟩ := p
      dsimp only at RP hpn PA1 hp1 hp2
      obtain ⟨tx, ht1⟩ : ∃ tx, (cutT q.most tl).1 = tx := ⟨_, rfl⟩
      obtain ⟨ct, ht2⟩ : ∃ ct, (cutT q.most tl).2 = ct := ⟨_, rfl⟩
      have hcl : tx.length ≤ tl.length := by rw [← ht1]; unfold cutT; split <;> simp <;> omega
      have CU1 := hide (fun (W : World) (hb : Below w.heap.size w W) => CU.out tl 0 W (HI.out.call HO.out.size hb) (by omega))
      rw [ht1, ht2] at CU1
      obtain ⟨h1, hh1⟩ : ∃ h1, head.length = h1 := ⟨_, rfl⟩
      obtain ⟨h2, hh2⟩ : ∃ h2, inter.length = h2 := ⟨_, rfl⟩
      obtain ⟨h3, hh3⟩ : ∃ h3, tx.length = h3 := ⟨_, rfl⟩
      have z1 : (strOfNums head).size = h1 := by rw [strOfNums_size, hh1]
      have z2 : (strOfNums inter).size = h2 := by rw [strOfNums_size, hh2]
      have z3 : (strOfNums tx).size = h3 := by rw [strOfNums_size, hh3]
      have hbd : h1 ≤ 1000 ∧ h2 ≤ 1000 ∧ h3 ≤ 1000 := by omega
      obtain ⟨hb1, hb2, hb3⟩ := hbd
      by_cases hend : Z = N
      · have b0 : decide (Z < N) = false := by simp; omega
        have b1 : ((Z : Int) == (N : Int)) = true := by rw [beq_iff_eq]; omega
        obtain ⟨y, hy⟩ : ∃ y, h1 + h2 = y := ⟨_, rfl⟩
        obtain ⟨z, hzz⟩ : ∃ z, y + h3 = z := ⟨_, rfl⟩
        have e1 : (h1 : Int) + h2 = y := by omega
        have e2 : (y : Int) + h3 = z := by omega
        have w1 : IntKind.i64.wrap (y : Int) = y := IntWalk.i64_in _ (by omega)
        have w2 : IntKind.i64.wrap (z : Int) = z := IntWalk.i64_in _ (by omega)
        have HF := hide (show payF q.most s last (q.b.drop a0) = ⟨[], 3, if ok = true then z else 0, K⟩ by
          unfold payF
          rw [HK.out, if_pos (by rw [List.length_drop, HNN.out]; omega), HP.out, HT.out, ht1]
          dsimp only
          rw [hh1, hh2, hh3, hy, hzz])
        have W1 : ∀ W, Below w.heap.size w W → RInv w0 q evs 3 0 (W.setCell ⟨q.R, 1, none⟩ (.int .i64 3)) := fun W hb => (HI.out.call HO.out.size hb).setSt HO.out.own 3
        have W2 : ∀ W, Below w.heap.size w W → RInv w0 q evs 3 z ((W.setCell ⟨q.R, 1, none⟩ (.int .i64 3)).setCell ⟨q.R, 2, none⟩ (.int .i64 z)) := fun W hb => (W1 W hb).setHeld HO.out.own z
        have W1 := hide W1
        have W2 := hide W2
        clear hlt hp htl ht1 ht2 hh1 hh2 hh3 hy hzz cv cv2 hend hZ hpn RP AD SA ST
        cases ok with
        | true =>
          go_wp2_with (first
            | (go_at_call 62; go_must (refine PA1.out.mono ?_; rintro e w1 ⟨rfl, q1, rfl⟩; have cvq := CV.out _ (drewN_below w q1); have cuq := CU1.out _ (drewN_below w q1)))
            | (go_at_call 64; go_must (refine cuq.mono ?_; rintro e w2 ⟨rfl, hw2⟩; obtain rfl := hw2.symm)))
          go_ret
          rw [HF.out]
          refine ⟨ret_int ?_, by simpa using W2.out _ (drewN_below w q1)⟩
          show (Z : Int) = ((a0 + K : Nat) : Int)
          omega
        | false =>
          go_wp2_with (first
            | (go_at_call 62; go_must (refine PA1.out.mono ?_; rintro e w1 ⟨rfl, q1, rfl⟩; have cvq := CV.out _ (drewN_below w q1); have cuq := CU1.out _ (drewN_below w q1)))
            | (go_at_call 64; go_must (refine cuq.mono ?_; rintro e w2 ⟨rfl, hw2⟩; obtain rfl := hw2.symm)))
          go_ret
          rw [HF.out]
          refine ⟨ret_int ?_, by simpa using W1.out _ (drewN_below w q1)⟩
          show (Z : Int) = ((a0 + K : Nat) : Int)
          omega
      · have haN : Z < N := by omega
        obtain ⟨g, off, c, hA, hx, hdr, hcell⟩ := byte_of hrd (a := Z) (by rw [HNN.out]; exact haN)
        have hst := SA.out.2 c (by rw [List.getElem?_drop, show a0 + K = Z by omega]; exact hx)
        have ST1 := hide (ST.out c w)
        rw [hst] at ST1
        have hxK : (q.b.drop a0)[K]? = some c := by rw [List.getElem?_drop, show a0 + K = Z by omega]; exact hx
        have b1 : ((Z : Int) == (N : Int)) = false := by rw [beq_eq_false_iff_ne]; omega
        have RP1 := hide (fun W => RP.out W hp1)
        by_cases k : ok = true ∧ c = 27
        · obtain ⟨rfl, rfl⟩ := k
          have HF := hide (show payF q.most s last (q.b.drop a0) = ⟨[⟨5, 0, last, pre, numsF head, inter, tx, ct⟩], 0, 0, K⟩ by
            unfold payF
            rw [HK.out, if_neg (by rw [List.length_drop, HNN.out]; omega), HP.out, HT.out, ht1, ht2, if_pos ⟨rfl, hxK⟩])
          have AD1 := hide (fun (AN : Option Addr) (cN : Nat) (W : World) (hb : Below w.heap.size w W) (hu : NumsAt W (.slice AN (numsF head).length cN) (numsF head)) => AD.out ⟨5, 0, last, pre, numsF head, inter, tx, ct⟩ AN cN W (HI.out.call HO.out.size hb) hu)
          unfold evC at AD1
          dsimp only at AD1
          rw [hA] at c3 cu CV
          clear hlt hp htl ht1 ht2 hh1 hh2 hh3 cv cv2 hend hZ hpn RP AD SA ST hA hx hdr hst hxK
          go_wp2_with (first
            | (go_at_call 49; go_must (refine ST1.out.mono ?_; rintro e w1 ⟨rfl, hw1⟩; obtain rfl := hw1.symm))
            | (go_at_call 62; go_must (refine PA1.out.mono ?_; rintro e w1 ⟨rfl, q1, rfl⟩; have cvq := CV.out _ (drewN_below w q1); have cuq := CU1.out _ (drewN_below w q1)))
            | (go_at_call 64; go_must (refine cuq.mono ?_; rintro e w2 ⟨rfl, hw2⟩; obtain rfl := hw2.symm))
            | (go_at_call 63; go_must (refine (RP1.out _).mono ?_; rintro e w3 ⟨v, rfl, hN, hb⟩; obtain ⟨AN, cN, hv, hN2⟩ := hN; have hN := hide (show NumsAt w3 v (numsF head) from ⟨AN, cN, hv, hN2⟩); clear hN2; subst hv; have HB3 := hide ((drewN_below w q1).trans hb); have AD2 := hide (AD1.out AN cN w3 HB3.out hN.out); clear hb))
            | (go_at_call 39; go_must (refine AD2.out.mono ?_; rintro e w4 ⟨rfl, hI4⟩; have hI4 := hide hI4)))
          go_ret
          rw [HF.out]
          refine ⟨ret_int ?_, hI4.out⟩
          show (Z : Int) = ((a0 + K : Nat) : Int)
          omega
        · have HF := hide (show payF q.most s last (q.b.drop a0) = ⟨[], 0, 0, K⟩ by
            unfold payF
            rw [HK.out, if_neg (by rw [List.length_drop, HNN.out]; omega), HP.out, if_neg (by rw [hxK]; rintro ⟨k1, k2⟩; injection k2 with k2; exact k ⟨k1, k2⟩)])
          have HW := hide (fun W (hb : Below w.heap.size w W) => HI.out.call HO.out.size hb)
          rw [hA] at c3 cu CV
          cases ok with
          | false =>
            clear hlt hp htl ht1 ht2 hh1 hh2 hh3 cv cv2 hend hZ hpn RP AD SA ST hA hx hdr hst hxK k
            go_wp2_with (first
              | (go_at_call 49; go_must (refine ST1.out.mono ?_; rintro e w1 ⟨rfl, hw1⟩; obtain rfl := hw1.symm))
              | (go_at_call 62; go_must (refine PA1.out.mono ?_; rintro e w1 ⟨rfl, q1, rfl⟩; have cvq := CV.out _ (drewN_below w q1); have cuq := CU1.out _ (drewN_below w q1)))
              | (go_at_call 64; go_must (refine cuq.mono ?_; rintro e w2 ⟨rfl, hw2⟩; obtain rfl := hw2.symm)))
            go_ret
            rw [HF.out]
            refine ⟨ret_int ?_, by simpa using HW.out _ (drewN_below w q1)⟩
            show (Z : Int) = ((a0 + K : Nat) : Int)
            omega
          | true =>
            have b27 : (c == 27) = false := by rw [beq_eq_false_iff_ne]; exact fun e => k ⟨rfl, e⟩
            clear hlt hp htl ht1 ht2 hh1 hh2 hh3 cv cv2 hend hZ hpn RP AD SA ST hA hx hdr hst hxK k
            go_wp2_with (first
              | (go_at_call 49; go_must (refine ST1.out.mono ?_; rintro e w1 ⟨rfl, hw1⟩; obtain rfl := hw1.symm))
              | (go_at_call 62; go_must (refine PA1.out.mono ?_; rintro e w1 ⟨rfl, q1, rfl⟩; have cvq := CV.out _ (drewN_below w q1); have cuq := CU1.out _ (drewN_below w q1)))
              | (go_at_call 64; go_must (refine cuq.mono ?_; rintro e w2 ⟨rfl, hw2⟩; obtain rfl := hw2.symm)))
            go_ret
            rw [HF.out]
            refine ⟨ret_int ?_, by simpa using HW.out _ (drewN_below w q1)⟩
            show (Z : Int) = ((a0 + K : Nat) : Int)
            omega
end Go.Proofs.Ythbjjhoajecpcaa
