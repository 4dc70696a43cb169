/-
  The document's Close and Put, walked. No condition but bounds.
-/
import Derived.Test.YtoaeadjihpbhgaaRmend
namespace Go.Proofs.Ytoaeadjihpbhgaa
open Go.RowKit Go.Proofs
set_option linter.unusedVariables false
theorem own_of_row {base n c g : Nat} {l m : List Cell} {T : List Value} {w' : World} (hb : base ≤ g) (hnc : n ≤ c) (hs : (l.flatMap cellE ++ T).length = c * 8) (hm : c ≤ maxLen) (hl : l.length = n) (hlm : m.length = n) (hr : RowAt w' g [] m T) :
    w'.ownsRow base 40 8 (.slice (some ⟨g, 0, none⟩) n c) n (m.flatMap cellE) := by
  refine row_own hr hb hlm hnc ?_ hm
  rw [← hs, List.length_append, List.length_append, len_flat (E := cellE) (s := 8) (fun _ => rfl), len_flat (E := cellE) (s := 8) (fun _ => rfl), hlm, hl]
set_option maxRecDepth 100000 in
set_option maxHeartbeats 2000000 in
theorem rclose_any (l : List Cell) (n c B : Nat) (A : Option Addr) (w : World) (hl : Rd w B 8 A n (l.flatMap cellE)) (hB : B ≤ w.heap.size) (hn : n ≤ 100000) :
    Calls Try.prog 31 #[.slice A n c] w (RetRow (mendF (closeIn (mendF l))) n w) := by
  have M1 := hide (rmend_any l n c B A w hl hB hn)
  have RM := hide (fun (l : List Cell) (c : Nat) (A : Option Addr) (W : World) (h : W.ownsRow w.heap.size 40 8 (.slice A n c) n (l.flatMap cellE)) => rmend_any l n c W.heap.size A W (Rd.of_own h) (Nat.le_refl _) hn)
  have hll := hl.len (E := cellE) (fun _ => rfl) (by omega)
  obtain ⟨m, hm0⟩ : ∃ m, mendF l = m := ⟨_, rfl⟩
  have HM := hide (show m.length = n by rw [← hm0, mendF_len]; exact hll)
  rw [hm0] at M1 ⊢
  clear hl hll hm0
  by_cases h0 : 0 < n
  · have d1 : decide (0 < n) = true := by simpa using h0
    go_enter Try.func31, Try.ntmps31
    go_upto_region 3 with (go_at_call 21; go_must (refine (M1.out).mono ?_; rintro e w1 ⟨A1, c1, rfl, o1, h1, b1⟩))
    rcases own_row o1 with ⟨rfl, rfl, rfl⟩ | ⟨g, T, rfl, hb, hr, hnc, hs, hm⟩
    · omega
    · obtain ⟨k, hk⟩ : ∃ k : Nat, n - 1 = k := ⟨_, rfl⟩
      have hki : (n : Int) - 1 = k := by omega
      have hkn : k < n := by omega
      obtain ⟨u, hu⟩ : ∃ u, m[k]? = some u := ⟨_, List.getElem?_eq_getElem (by rw [HM.out]; exact hkn)⟩
      have e8 := hr.eight hu
      simp only [List.length_nil, Nat.zero_add] at e8
      obtain ⟨z0, z1, z2, z3, z4, z5, z6, z7⟩ := e8
      have f0 := fun i => hr.frozen i
      have HP := hide (show closeIn m = m.set k padC by unfold closeIn; rw [HM.out, if_pos h0, hk])
      have r2 := hide (hr.set8 hu padC (o := k * 8) (by simp))
      have HS := hide (And.intro hb (And.intro hnc (And.intro hs hm)))
      have B1 := hide b1
      clear hr hb hs hm b1 hu hk o1
      go_upto_region 4 with (fail)
      go_name_world W hW
      have OW := hide (show W.ownsRow w.heap.size 40 8 (.slice (some ⟨g, 0, none⟩) n c1) n ((closeIn m).flatMap cellE) by
        rw [← hW, HP.out]
        exact own_of_row HS.out.1 HS.out.2.1 HS.out.2.2.1 HS.out.2.2.2 HM.out (by simp; exact HM.out) r2.out)
      have BW := hide (show Below w.heap.size w W by rw [← hW]; exact (below_in B1.out (Below.refl _ _) (Nat.le_refl _)).trans ((eight_frm (Frm.refl (fun k => k = g) w1) _ _ _ _ _ _ _ _).to_below B1.out.size (fun i e => by have e : i = g := e; rw [e]; exact HS.out.1)))
      clear hW
      have M2 := hide (RM.out _ _ _ W OW.out)
      go_wp2_with (go_at_call 21; go_must (refine (M2.out).mono ?_; rintro e w3 ⟨A3, c3, rfl, o3, h3, b3⟩))
      go_ret
      exact ⟨A3, c3, rfl, own_le o3 BW.out.size, h3, below_in BW.out b3 (Nat.le_refl _)⟩
  · obtain rfl : n = 0 := by omega
    have d1 : decide (0 < 0) = false := by simp
    have HP := hide (show closeIn m = m by unfold closeIn; rw [HM.out, if_neg h0])
    clear h0
    go_enter Try.func31, Try.ntmps31
    go_upto_region 4 with (go_at_call 21; go_must (refine (M1.out).mono ?_; rintro e w1 ⟨A1, c1, rfl, o1, h1, b1⟩))
    have M2 := hide (RM.out _ _ _ w1 o1)
    have B1 := hide b1
    clear o1 b1
    go_wp2_with (go_at_call 21; go_must (refine (M2.out).mono ?_; rintro e w3 ⟨A3, c3, rfl, o3, h3, b3⟩))
    go_ret
    rw [HP.out]
    exact ⟨A3, c3, rfl, own_le o3 B1.out.size, h3, below_in B1.out b3 (Nat.le_refl _)⟩
end Go.Proofs.Ytoaeadjihpbhgaa
