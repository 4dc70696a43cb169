/-
  The document's command walked. No condition but bounds.
-/
import Derived.Test.YthbjjhoajecpcaaAdd
namespace Go.Proofs.Ythbjjhoajecpcaa
open Go.RowKit Go.Proofs
set_option linter.unusedVariables false
theorem so_app (a b : List Int) : strOfNums a ++ strOfNums b = strOfNums (a ++ b) := by
  apply ByteArray.ext
  apply Array.ext'
  simp [strOfNums]
theorem conv_one (w : World) (c : Int) : (convert 22 9 (.slice (some ⟨w.heap.size, 0, none⟩) 1 1)).run Try.prog (w.alloc (.cells #[.int .u8 c] 5)) = .ok (.string (strOfNums [c])) (w.alloc (.cells #[.int .u8 c] 5)) :=
  conv_str (l := [c]) (c := 1) (rd_new (w := w) (e := 5) (cs := #[.int .u8 c]) (s := 1) rfl)
theorem more_more (e e' : List Ev) (k k' : Nat) (o : Out) : (o.more e' k').more e k = o.more (e ++ e') (k + k') := by simp [Out.more, Nat.add_assoc]
theorem more_nil (o : Out) : o.more [] 0 = o := by simp [Out.more]
/-- What a part of the bytes, from a on, leaves. -/
def RPost (w0 : World) (q : Rn) (evs : List Ev) (a : Nat) (o : Out) (e : Ending) (w' : World) : Prop := e = .returned (.int .i64 ((a + o.n : Nat) : Int)) ∧ RInv w0 q (evs ++ o.evs) o.st o.held w'
/-- A byte of the Run. -/
theorem byte_of {q : Rn} {w : World} (h : Rd w q.B 1 q.A q.b.length (q.b.map b8)) {a : Nat} (ha : a < q.b.length) : ∃ g off c, q.A = some ⟨g, off, none⟩ ∧ q.b[a]? = some c ∧ q.b.drop a = c :: q.b.drop (a + 1) ∧ w.cell? ⟨g, off + a, none⟩ = some (.int .u8 c) := by
  obtain ⟨g, off, x, e1, _, hx, hc⟩ := h.at1 ha
  exact ⟨g, off, x, e1, hx, drop_at hx, hc⟩
set_option maxRecDepth 100000 in
set_option maxHeartbeats 4000000 in
theorem cmd_any (w0 : World) (q : Rn) (evs : List Ev) (a0 : Nat) (w : World) (h : RInv w0 q evs 0 0 w) (ho : ROk w0 q) (hn : evs.length ≤ 10000) (ha : a0 ≤ q.b.length) :
    Calls Try.prog 53 #[.pointer (some ⟨q.R, 0, none⟩), .int .i64 a0] w (RPost w0 q evs a0 (cmdF q.most [] (q.b.drop a0))) := by
  have HO := hide ho
  have hlen := ho.len
  have CU := hide (fun (s : List Int) (W : World) (hW : RInv w0 q evs 0 0 W) (hs : s.length ≤ 100000) => cut64 w0 q evs 0 0 s W hW ho hs)
  have AD := hide (fun (ev : Ev) (AN : Option Addr) (cN : Nat) (W : World) (hW : RInv w0 q evs 0 0 W) (hu : NumsAt W (.slice AN ev.nums.length cN) ev.nums) => add_any w0 q evs 0 0 ev AN cN W hW ho (by omega) hu)
  obtain ⟨o, hoo⟩ : ∃ o, cmdF q.most [] (q.b.drop a0) = o := ⟨_, rfl⟩
  rw [hoo]
  have HOO := hide hoo
  have HHl := h.cells ho
  obtain ⟨⟨AE, cE, k0⟩, k1, k2, k3, k4, kf, kl, kr, kb⟩ := HHl
  clear k0 k1 k2 k3 k4 kf kr kb hoo ho
  go_enter Try.func53, Try.ntmps53
  go_wp2
  obtain ⟨N, hN⟩ : ∃ N, q.b.length = N := ⟨_, rfl⟩
  rw [hN] at ha hlen
  have HNN := hide hN
  go_loopg [1, 5] (N - a0) (fun g s1 s5 wr => ∃ (a : Nat) (s : List Int), a + g = N ∧ a0 ≤ a ∧ s1 = .int .i64 a ∧ s5 = .string (strOfNums s) ∧ s.length ≤ a ∧ Hid (o = (cmdF q.most s (q.b.drop a)).more [] (a - a0)) ∧ Hid (RInv w0 q evs 0 0 wr))
  case atStart => exact ⟨a0, [], by omega, Nat.le_refl _, rfl, rfl, by simp, by show _ = _; rw [Nat.sub_self, more_nil, HOO.out], h⟩
  case round =>
    clear h hN
    obtain ⟨a, s, hag, haa, rfl, rfl, hsl, HE, HI⟩ := hrel
    obtain ⟨⟨AE', cE', c0⟩, c1, c2, c3, c4, fz, rl, hrd, hB⟩ := HI.out.cells HO.out
    rw [HNN.out] at c3
    by_cases hlt : a < N
    · obtain ⟨g, off, c, hA, hx, hdr, hcell⟩ := byte_of hrd (a := a) (by rw [HNN.out]; exact hlt)
      rw [hA] at c3
      have hb := HO.out.low c (List.mem_of_getElem? hx)
      have HE2 := HE.out
      rw [hdr] at HE2
      clear hA hx hrd hdr c0 c1 c2 c4 HE
      by_cases k1 : c = 24 ∨ c = 26
      · have HF := hide (show o = ⟨[], 0, 0, a - a0⟩ by rw [HE2, cmdF, if_pos k1]; rfl)
        clear HE2
        have cs : c = 24 ∨ (c = 26 ∧ (c == 24) = false) := by
          rcases k1 with k | k
          · exact .inl k
          · exact .inr ⟨k, by subst k; rfl⟩
        clear k1
        rcases cs with rfl | ⟨rfl, b1⟩
        all_goals
          go_wp2
          go_ret
          rw [HF.out]
          refine ⟨ret_int ?_, by simpa using HI.out⟩
          show (a : Int) = ((a0 + (a - a0) : Nat) : Int)
          omega
      · have b1 : (c == 24) = false := by rw [beq_eq_false_iff_ne]; omega
        have b2 : (c == 26) = false := by rw [beq_eq_false_iff_ne]; omega
        by_cases k2 : c = 7 ∨ c = 27
        · have HF := hide (show o = ⟨[⟨4, 0, 0, 0, [], [], (cutT q.most s).1, (cutT q.most s).2⟩], 0, 0, (a - a0) + if c = 7 then 1 else 0⟩ by rw [HE2, cmdF, if_neg k1, if_pos k2]; rfl)
          clear HE2 k1
          have CU1 := hide (CU.out s wr HI.out (by omega))
          obtain ⟨tx, htx⟩ : ∃ tx, (cutT q.most s).1 = tx := ⟨_, rfl⟩
          obtain ⟨ct, hct⟩ : ∃ ct, (cutT q.most s).2 = ct := ⟨_, rfl⟩
          rw [htx, hct] at CU1 HF
          have AD1 := hide (AD.out ⟨4, 0, 0, 0, [], [], tx, ct⟩ none 0 wr HI.out (nums_none wr 0))
          unfold evC at AD1
          dsimp only at AD1
          clear htx hct
          have cs : c = 7 ∨ (c = 27 ∧ (c == 7) = false) := by
            rcases k2 with k | k
            · exact .inl k
            · exact .inr ⟨k, by subst k; rfl⟩
          clear k2
          rcases cs with rfl | ⟨rfl, b3⟩
          all_goals
            go_wp2_with (first
              | (go_at_call 64; go_must (refine CU1.out.mono ?_; rintro e w1 ⟨rfl, hw1⟩; obtain rfl := hw1.symm))
              | (go_at_call 39; go_must (refine AD1.out.mono ?_; rintro e w2 ⟨rfl, hI2⟩; have hI2 := hide hI2)))
            go_ret
            rw [HF.out]
            refine ⟨ret_int ?_, hI2.out⟩
            simp
            omega
        · have b3 : (c == 7) = false := by rw [beq_eq_false_iff_ne]; omega
          have b4 : (c == 27) = false := by rw [beq_eq_false_iff_ne]; omega
          by_cases k3 : 32 ≤ c ∧ ¬ c = 127
          · have HF := hide (show o = (cmdF q.most (s ++ [c]) (q.b.drop (a + 1))).more [] (a + 1 - a0) by rw [HE2, cmdF, if_neg k1, if_neg k2, if_pos k3, more_more, show a - a0 + 1 = a + 1 - a0 by omega]; rfl)
            obtain ⟨k3, k4⟩ := k3
            have b5 : (c != 127) = true := by simpa using k4
            have cv := conv_one wr c
            have e1 := so_app s [c]
            have z1 := strOfNums_size s
            have z2 : (strOfNums [c]).size = 1 := rfl
            have HI2 := hide (HI.out.call HO.out.size ((Below.refl _ wr).alloc (Nat.le_refl _) (.cells #[.int .u8 c] 5)))
            clear HE2 k1 k2
            go_wp2
            go_roundg (N - (a + 1))
            case measure => omega
            case rel => exact ⟨a + 1, s ++ [c], by omega, by omega, by simp, rfl, by simp; omega, HF.out, HI2.out⟩
          · have HF := hide (show o = (cmdF q.most s (q.b.drop (a + 1))).more [] (a + 1 - a0) by rw [HE2, cmdF, if_neg k1, if_neg k2, if_neg k3, more_more, show a - a0 + 1 = a + 1 - a0 by omega]; rfl)
            clear HE2 k1 k2
            by_cases k5 : c = 127
            · subst k5
              go_wp2
              go_roundg (N - (a + 1))
              case measure => omega
              case rel => exact ⟨a + 1, s, by omega, by omega, by simp, rfl, by omega, HF.out, HI.out⟩
            · have b5 : decide (32 ≤ c) = false := by simp; omega
              go_wp2
              go_roundg (N - (a + 1))
              case measure => omega
              case rel => exact ⟨a + 1, s, by omega, by omega, by simp, rfl, by omega, HF.out, HI.out⟩
    · have han : a = N := by omega
      have HF := hide (show o = ⟨[], 4, (cutT q.most s).1.length, a - a0⟩ by rw [HE.out, List.drop_eq_nil_of_le (by rw [HNN.out]; omega), cmdF]; rfl)
      have CU1 := hide (CU.out s wr HI.out (by omega))
      have hcl : (cutT q.most s).1.length ≤ s.length := by unfold cutT; split <;> simp <;> omega
      obtain ⟨tx, htx⟩ : ∃ tx, (cutT q.most s).1 = tx := ⟨_, rfl⟩
      rw [htx] at CU1 HF hcl
      have z1 := strOfNums_size tx
      obtain ⟨m, hm⟩ : ∃ m, tx.length = m := ⟨_, rfl⟩
      rw [hm] at z1 hcl HF
      have HX := hide ((HI.out.setSt HO.out.own 4).setHeld HO.out.own m)
      clear HE hrd c0 htx hm
      subst han
      go_wp2_with (go_at_call 64; go_must (refine CU1.out.mono ?_; rintro e w1 ⟨rfl, hw1⟩; obtain rfl := hw1.symm))
      go_ret
      rw [HF.out]
      refine ⟨ret_int ?_, by simpa using HX.out⟩
      show (a : Int) = ((a0 + (a - a0) : Nat) : Int)
      omega
end Go.Proofs.Ythbjjhoajecpcaa
