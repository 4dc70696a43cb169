/-
  RankTops, walked. No condition but the arguments' kinds.
-/
import Derived.Test.YtndnjdocdfjmcaaMade
namespace Go.Proofs.Ytndnjdocdfjmcaa
open Go.RowKit Go.Proofs
set_option linter.unusedVariables false
theorem top_same (n : Int) (L : List Ent) : topF (pfxB ⟨#[]⟩) n L = topF (fun _ => true) n L := by
  unfold topF
  congr 2
  funext e
  exact pfx_empty e.text
theorem top_len (tk : ByteArray → Bool) (n : Int) (L : List Ent) : (topF tk n L).length ≤ L.length := by
  unfold topF
  rw [List.length_take]
  have := List.length_filter_le (fun e : Ent => tk e.text) L
  omega
theorem top_all (n : Int) (L : List Ent) (h : (L.length : Int) ≤ n) : topF (fun _ => true) n L = L := by
  unfold topF
  rw [List.filter_eq_self.2 (fun _ _ => rfl), List.take_of_length_le (by omega)]
theorem Both.len {w : World} {B X b Y most uses : Nat} {L : List Ent} (h : Both w B X b Y most uses L) : L.length ≤ most := by obtain ⟨_, M, _, hi⟩ := h.led; exact hi.len
set_option maxRecDepth 100000 in
set_option maxHeartbeats 8000000 in
theorem rankTops_walk (w : World) (m : Int) (wm : (Lit.int .u8 m).wf = true) (A : Option Addr) (n c : Nat) (ls : List ByteArray) (hl : ls.length = n) (hnc : n ≤ c) (hcm : c ≤ maxLen) (ha : Rd w w.heap.size 1 A n (ls.map Value.string)) (hq : ∀ x ∈ ls, x.size ≤ maxLen) (k : Int) (wk : (Lit.int .i64 k).wf = true) :
    Calls Try.prog 5 #[.int .u8 m, .slice A n c, .int .i64 k] w fun e w' => e = .returned (.bool true) ∧ Below w.heap.size w w' := by
  have bm := bounds_u8 wm
  obtain ⟨m', rfl⟩ : ∃ m' : Nat, m = m' := ⟨m.toNat, by omega⟩
  have GR := hide (fun (W : World) => great_any A n c W)
  by_cases hg : 100 < n
  · have d1 : decide (100 < n) = true := by simpa using hg
    rw [d1] at GR
    clear ha hq hl hg
    go_enter Try.func5, Try.ntmps5
    go_wp2_with (first
      | (go_at_call 9; go_must (refine (GR.out _).mono ?_; rintro e w1 ⟨rfl, rfl⟩))
      | (go_at_call 10; go_must (refine (awake_any _).mono ?_; rintro e w2 ⟨rfl, b2⟩)))
    go_ret
    exact ⟨rfl, b2⟩
  · have d1 : decide (100 < n) = false := by simpa using hg
    rw [d1] at GR
    have MD := hide (fun (W : World) (hb : Below w.heap.size w W) => made_any m' (by omega) A n c ls W ((ha.below hb).more hb.size) hq (by omega))
    obtain ⟨k0, hk0⟩ : ∃ k0, 1 + m' % 20 = k0 := ⟨_, rfl⟩
    have hk2 : k0 ≤ 20 := by omega
    rw [hk0] at MD
    clear ha hq hl hg hk0
    go_enter Try.func5, Try.ntmps5
    go_upto_region 6 with (first
      | (go_at_call 9; go_must (refine (GR.out _).mono ?_; rintro e w1 ⟨rfl, rfl⟩))
      | (go_at_call 10; go_must (refine (awake_any _).mono ?_; rintro e w2 ⟨rfl, b2⟩; have B2 := hide b2; clear b2))
      | (go_at_call 17; go_must (refine (MD.out _ B2.out).mono ?_; rintro e w3 ⟨X, b, Y, uses, L, rfl, bo, hu, b3⟩; have BO := hide bo; have B3 := hide (below_in B2.out b3 (Nat.le_refl _)); clear bo b3)))
    obtain ⟨AY, nY, cY, y1, y2⟩ := BO.out.ref
    have hln := own_len entE_len (by omega) y2
    subst hln
    have hL := BO.out.len
    have Y1 := hide y1
    have Y2 := hide y2
    have LD := hide BO.out.led
    have x2 := y1.cell 2
    simp only [List.getElem?_toArray, List.getElem?_cons_succ, List.getElem?_cons_zero] at x2
    have hYl := y1.lt
    obtain ⟨ll, hll⟩ : ∃ ll, L.length = ll := ⟨_, rfl⟩
    have T1 := hide (fun (W : World) (hW : Below w3.heap.size w3 W) => top_led W k (LD.out.call hW) (by omega))
    have T2 := hide (fun (W : World) (hW : Below w3.heap.size w3 W) => show Calls Try.prog 15 #[.pointer (some ⟨X, 0, none⟩), .int .i64 1000] W (RetSlice 31 3 (L.flatMap entE) W) from by have := top_led W 1000 (LD.out.call hW) (by omega); rwa [top_all 1000 L (by omega)] at this)
    have R1 := hide (fun (W : World) (hW : Below w3.heap.size w3 W) => show Calls Try.prog 19 #[.pointer (some ⟨Y, 0, none⟩), .string ⟨#[]⟩, .int .i64 k] W (RetSlice 55 3 ((topF (fun _ => true) k L).flatMap entE) W) from by have := top_ref W ⟨#[]⟩ k (BO.out.ref.call hW) (by omega); rwa [top_same] at this)
    have LN := hide (fun (W : World) (hW : Below w3.heap.size w3 W) => len_led W (LD.out.call hW))
    have htl := top_len (fun _ => true) k L
    obtain ⟨l1, hl1⟩ : ∃ l1, topF (fun _ => true) k L = l1 := ⟨_, rfl⟩
    rw [hl1] at T1 R1 htl
    have S1 := hide (fun (A1 A2 : Option Addr) (n1 n2 c1 c2 B1 B2 : Nat) (W : World) (h1 : Rd W B1 3 A1 n1 (l1.flatMap entE)) (h2 : Rd W B2 3 A2 n2 (l1.flatMap entE)) => same_ents l1 A1 A2 n1 n2 c1 c2 W h1 h2 (by have := h1.len entE_len (by omega); omega))
    have S2 := hide (fun (A1 A2 : Option Addr) (n1 n2 c1 c2 B1 B2 : Nat) (W : World) (h1 : Rd W B1 3 A1 n1 (L.flatMap entE)) (h2 : Rd W B2 3 A2 n2 (L.flatMap entE)) => same_ents L A1 A2 n1 n2 c1 c2 W h1 h2 (by have := h1.len entE_len (by omega); omega))
    have hk3 := hide hL
    rw [hll] at LN Y1 Y2 x2
    clear y1 y2 hL htl hll hl1
    go_region_held3 (fun W => W.cell? ⟨Y, 2, none⟩ = some (.slice AY ll cY))
      (first | (exact x2) | (exact z6) | (exact z5) | (exact z4) | (exact z3) | (exact z2) | (exact z1) | go_keep)
      (first
        | (go_at_call_of 15 k; (refine (T1.out _ (Below.refl w3.heap.size w3).drew).mono ?_); rintro e u1 ⟨A1, n1, c1, rfl, o1, bb⟩; have D1 := below_in (Below.refl w3.heap.size w3).drew bb (Nat.le_refl _); have O1 := hide o1; have z1 := (D1.cell (p := ⟨Y, 2, none⟩) hYl).trans x2; clear bb o1)
        | (go_at_call 19; (refine (R1.out _ D1).mono ?_); rintro e u2 ⟨A2, n2, c2, rfl, o2, bb⟩; have D2 := below_in D1 bb (Nat.le_refl _); have O2 := hide o2; have P1 := hide (own_call O1.out bb); have z2 := (D2.cell (p := ⟨Y, 2, none⟩) hYl).trans x2; clear bb o2)
        | (go_at_call 18; (refine (S2.out A4 AY n4 ll c4 cY _ _ _ (Rd.of_own O4.out) (Rd.of_own (own_call Y2.out D4))).mono ?_); rintro e u5 ⟨rfl, bb⟩; have D5 := below_in D4 bb (Nat.le_refl _); have z5 := (D5.cell (p := ⟨Y, 2, none⟩) hYl).trans x2; clear bb)
        | (go_at_call 18; (refine (S1.out A1 A2 n1 n2 c1 c2 _ _ _ (Rd.of_own P1.out) (Rd.of_own O2.out)).mono ?_); rintro e u3 ⟨rfl, bb⟩; have D3 := below_in D2 bb (Nat.le_refl _); have z3 := (D3.cell (p := ⟨Y, 2, none⟩) hYl).trans x2; clear bb)
        | (go_at_call 15; (refine (T2.out _ D3).mono ?_); rintro e u4 ⟨A4, n4, c4, rfl, o4, bb⟩; have D4 := below_in D3 bb (Nat.le_refl _); have O4 := hide o4; have z4 := (D4.cell (p := ⟨Y, 2, none⟩) hYl).trans x2; clear bb o4)
        | (go_at_call 14; (refine (LN.out _ D5).mono ?_); rintro e u6 ⟨rfl, rfl⟩; have z6 := z5))
    go_wp2_with fail
    go_ret
    exact ⟨rfl, below_in B3.out D5 (Nat.le_refl _)⟩
end Go.Proofs.Ytndnjdocdfjmcaa
