/-
  WidthGreedy, walked. No condition but what the arguments' kinds bear.
-/
import Derived.Test.YtbaapdhfbhnlcaaLawFits
namespace Go.Proofs.Ytbaapdhfbhnlcaa
open Go.RowKit Go.Proofs
set_option linter.unusedVariables false
theorem rd_tail {w : World} {B n c : Nat} {A : Option Addr} {l : List Int} (h : Rd w B 1 A n (l.map rn)) {k : Nat} (hk : k ≤ n) (hc : n ≤ c) : Rd w B 1 (cutA A c k 1) (n - k) ((l.drop k).map rn) := by
  have := h.cutA hk hc
  rw [Nat.mul_one, ← List.map_drop] at this
  exact this
set_option maxHeartbeats 4000000 in
theorem lawgreedy_walk (w : World) (cols : Int) (A : Option Addr) (n c : Nat) (l : List Int) (e : l.length = n) (f : n ≤ c) (g : c ≤ maxLen) (h : Rd w w.heap.size 1 A n (l.map rn)) (hcl : cols ≤ 9223372036854775807) :
    Calls Try.prog 7 #[.int .i64 cols, .slice A n c] w fun e w' => e = .returned (.bool true) ∧ Below w.heap.size w w' := by
  have W := hide awake_any
  unfold maxLen at g
  by_cases hn : n ≤ 200
  · by_cases hc0 : 0 ≤ cols
    · have HL := hide e
      have F := hide (fun W h => fit_any l cols n c A W h (by omega) f hcl)
      have T := hide (fun (k : Nat) (W : World) (hk : k ≤ n) (h : Rd W W.heap.size 1 A n (l.map rn)) => text_any (l.take k) k c A W (rd_front h hk) (by omega))
      have C := hide (fun (k : Nat) (W : World) (hk : k ≤ n) (h : Rd W W.heap.size 1 A n (l.map rn)) => clus_any (l.drop k) (n - k) (c - k) (cutA A c k 1) W (rd_tail h hk f) (by omega) (by omega))
      have hd : decide (200 < n) = false := by simpa using hn
      have d0 : decide (cols < 0) = false := by simpa using hc0
      clear e
      go_enter Try.func7, Try.ntmps7
      go_upto_region 4 with (first
        | (go_at_call 11; go_must (refine (W.out _).mono ?_; rintro e w1 ⟨rfl, b1⟩; have h1 := rd_call h b1))
        | (go_at_call 17; go_must (refine (F.out _ h1).mono ?_; rintro e w4 hr; obtain ⟨r, rfl, hf, b4⟩ := hr; have hf := hide hf)))
      have h4 := rd_call h1 b4
      have B0 := hide (below_in b1 b4 (Nat.le_refl _))
      clear h1 b1 b4
      obtain ⟨f1, _, _, f4⟩ := hf.out
      obtain ⟨f5, f6⟩ := f4 hc0
      rw [HL.out] at f1 f6
      have cu := fun W => cut_h (P := Try.prog) (a := A) (len := n) (cap := c) (s := 1) Try.underlying25 Try.size21 r rfl (by omega) W
      rw [cutA_zero] at cu
      have cv := fun W => cut_l (P := Try.prog) (a := A) (len := n) (cap := c) Try.underlying25 Try.size21 r rfl f1 W
      obtain ⟨S, hS⟩ : ∃ S, textF (l.take r) = S := ⟨_, rfl⟩
      have T' := fun W hh => T.out r W f1 hh
      rw [hS] at T' f5
      have T := hide T'
      have d1 : decide (n < r) = false := by simpa using f1
      have d2 : decide (cols < S) = false := by simp; omega
      have C' := fun W hh => C.out r W f1 hh
      have hsb := textF_bounds (l.take r)
      rw [hS, List.length_take] at hsb
      have hsb2 : 0 ≤ S ∧ S ≤ 400 := by omega
      by_cases hrn : r = n
      · have dr : ((r : Int) == n) = true := by simp [hrn]
        have C := hide C'
        clear hrn f6 f5 hS T' C' hsb
        go_wp2_with (first
          | (go_at_call 12; go_must (refine (T.out _ h4).mono ?_; rintro e w5 ⟨rfl, b5⟩; have h5 := rd_call h4 b5))
          | (go_at_call 14; go_must (refine (C.out _ h5).mono ?_; rintro e w6 hr; obtain ⟨a6, c6, cells, rfl, r6, in6, b6⟩ := hr; have in6 := hide in6)))
        go_quiet (fail)
        go_wp2_with fail
        go_ret
        exact ⟨rfl, below_drewN' (below_in (below_in B0.out b5 (Nat.le_refl _)) b6 (Nat.le_refl _)) nq⟩
      · have hr1 : r < n := by omega
        have dr : ((r : Int) == n) = false := by simp; omega
        have hfc := first_cluster (l := l.drop r) (by rw [List.length_drop, HL.out]; omega)
        rw [List.length_drop, HL.out] at hfc
        have htn := text_next (l := l) (r := r) (by rw [HL.out]; exact hr1)
        have hgt : cols < textF (l.take (endF l r)) := by rcases f6 with f6 | f6; omega; exact f6
        rw [← htn, hS] at hgt
        obtain ⟨s, hs⟩ : ∃ s, seg (l.drop r) 0 (endF (l.drop r) 0) = s := ⟨_, rfl⟩
        have hsl : s.length ≤ 200 := by rw [← hs]; unfold seg; rw [List.length_take, List.length_drop, List.length_drop, HL.out]; omega
        rw [hs] at hgt hfc
        obtain ⟨S2, hS2⟩ : ∃ S2, textF s = S2 := ⟨_, rfl⟩
        have hs2b := textF_bounds s
        rw [hS2] at hgt hs2b
        obtain ⟨K, hK⟩ : ∃ K, (clF (l.drop r) (n - r)).length = K := ⟨_, rfl⟩
        have hKp : 0 < K := by rw [← hK, clF_len]; exact hfc.2
        unfold ClPost at C'
        rw [hK] at C'
        have C := hide C'
        have HF := hide hfc.1
        have T2 := hide (fun (A : Option Addr) (c : Nat) (W : World) (hr : Rd W W.heap.size 1 A s.length (s.map rn)) => text_any s s.length c A W hr (by omega))
        have T2' := T2.out
        rw [hS2] at T2'
        have T2 := hide T2'
        have hs2 : 0 ≤ S2 ∧ S2 ≤ 400 := by omega
        clear hrn f6 f5 hS T' C' hsb hfc htn hs hS2 T2' hK hs2b
        go_wp2_with (first
          | (go_at_call 12; go_must (refine (T.out _ h4).mono ?_; rintro e w5 ⟨rfl, b5⟩; have h5 := rd_call h4 b5))
          | (go_at_call 14; go_must (refine (C.out _ h5).mono ?_; rintro e w6 hr; obtain ⟨a6, c6, cells, rfl, r6, in6, b6⟩ := hr; have h6 := rd_call h5 b6; have in6 := hide in6)))
        obtain ⟨ob, o, rfl, obb, oc⟩ := r6.2 hKp
        obtain ⟨Ai, ci, hci, hcap, hri⟩ := in6.out 0 _ HF.out
        have c1 : w6.cell? ⟨ob, o, none⟩ = some (.slice Ai s.length ci) := oc 0 _ hci
        have B6 := hide (below_in (below_in B0.out b5 (Nat.le_refl _)) b6 (Nat.le_refl _))
        have dk : decide (0 < (K : Int)) = true := by simp; omega
        have dw : IntKind.i64.wrap (S + S2) = S + S2 := IntWalk.i64_in _ (by omega)
        clear oc hci b6 b5 h5 h4
        go_region_held3 (fun W => W.cell? ⟨ob, o, none⟩ = some (.slice Ai s.length ci))
          (first | (exact c1) | (exact (bb.cell (p := ⟨ob, o, none⟩) obb).trans c1) | (exact (bb2.cell (p := ⟨ob, o, none⟩) (Nat.lt_of_lt_of_le obb bb.size)).trans ((bb.cell (p := ⟨ob, o, none⟩) obb).trans c1)) | go_keep)
          (first | (go_at_call_of 12 Ai; (refine (T2.out _ _ _ (rd_call (w := w6.drew) hri.drew bb)).mono ?_; rintro e w8 ⟨rfl, bb2⟩)) | (go_at_call 12; (refine (T.out _ (Rd.drew h6)).mono ?_; rintro e w7 ⟨rfl, bb⟩)))
        go_wp2_with fail
        go_ret
        exact ⟨rfl, below_in (below_in B6.out.drew bb (Nat.le_refl _)) bb2 (Nat.le_refl _)⟩
    · have d0 : decide (cols < 0) = true := by simp; omega
      go_enter Try.func7, Try.ntmps7
      go_wp2_with (go_at_call 11; go_must (refine (W.out _).mono ?_; rintro e w3 ⟨rfl, b3⟩))
      all_goals first | (go_ret; exact ⟨rfl, b3⟩) | (exfalso; omega)
  · go_enter Try.func7, Try.ntmps7
    go_wp2_with (go_at_call 11; go_must (refine (W.out _).mono ?_; rintro e w3 ⟨rfl, b3⟩))
    all_goals first | (go_ret; exact ⟨rfl, b3⟩) | (exfalso; omega)
end Go.Proofs.Ytbaapdhfbhnlcaa
