/-
  The walk of drop, and of Pop of an empty ring. No condition but bounds.
-/
import Derived.Test.YtailflbhcmgnpaaPop
namespace Go.Proofs.Ytailflbhcmgnpaa
open Go.RowKit Go.Proofs
set_option linter.unusedVariables false
theorem pop_empty (ok : Nat → Prop) (g : Nat) (S : Option Nat) (room gone len first : Nat) (rows : List (Value × Value)) (w : World) (h : RingOf ok w g S [] room gone len first rows) :
    Calls Try.prog 17 #[.pointer (some ⟨g, 0, none⟩)] w (RowOkPost ok none false w) := by
  have hw1 : Below w.heap.size w (w.alloc (.cells #[.slice none 0 0, .bool false] 30)) := (Below.refl _ _).alloc (Nat.le_refl _) _
  have LN := hide (len_any (slotsA S) len room first 0 gone g _ (h.blk.below hw1 h.lt))
  have HW1 := hide hw1
  clear h
  go_enter Try.func17, Try.ntmps17
  go_wp2_with (go_at_call 13; go_must (refine LN.out.mono ?_; rintro e w' ⟨rfl, rfl⟩))
  refine bodyPost_ret (v := .tuple #[.agg #[.slice none 0 0, .bool false], .bool false]) (by simp [results, Try.results17, go_sem]) rfl ?_
  exact ⟨_, _, rfl, rfl, HW1.out⟩
theorem pop_none (ok : Nat → Prop) (w : World) : Calls Try.prog 17 #[.pointer none] w (RowOkPost ok none false w) := by
  have hw1 : Below w.heap.size w (w.alloc (.cells #[.slice none 0 0, .bool false] 30)) := (Below.refl _ _).alloc (Nat.le_refl _) _
  have LN := hide len_none
  have HW1 := hide hw1
  go_enter Try.func17, Try.ntmps17
  go_wp2_with (go_at_call 13; go_must (refine (LN.out _).mono ?_; rintro e w' ⟨rfl, rfl⟩))
  refine bodyPost_ret (v := .tuple #[.agg #[.slice none 0 0, .bool false], .bool false]) (by simp [results, Try.results17, go_sem]) rfl ?_
  exact ⟨_, _, rfl, rfl, HW1.out⟩
/-- The row that goes, and the ring behind it. -/
def DropRow (ok : Nat → Prop) (g : Nat) (S : Option Nat) (L : List Row) (room gone len : Nat) (R : Row) (w : World) (e : Ending) (w' : World) : Prop :=
  ∃ v1 v2 first rows, e = .returned (.agg #[v1, v2]) ∧ RowV ok w' (v1, v2) R ∧ RingOf ok w' g S L room gone len first rows ∧ Frm (Own2 g S) w w' ∧ Keep45 ok w w'
set_option maxHeartbeats 4000000 in
theorem drop_in (ok : Nat → Prop) (g : Nat) (S : Option Nat) (L : List Row) (R : Row) (room gone len first : Nat) (rows : List (Value × Value)) (w : World) (h : RingOf ok w g S (R :: L) room gone len first rows) (hgn : gone ≤ 1000000000) :
    Calls Try.prog 26 #[.pointer (some ⟨g, 0, none⟩)] w (DropRow ok g S L room (gone + 1) len R w) := by
  have hR : (R :: L)[0]? = some R := rfl
  have hlen : (R :: L).length = L.length + 1 := rfl
  obtain ⟨s, p, rfl, hsg, hfl, hix, hp, hv, hs, c1, c2, f1, f2⟩ := h.cells hR
  have hix0 : ix len first 0 = first := by unfold ix; rw [if_neg (by omega)]; omega
  rw [hix0] at hp hix c1 c2 f1 f2
  have hle := h.le
  have hlr := h.ler
  have hrl := h.roomle
  have hgl := h.lt
  have hsl := hs.lt
  have hB := h.blk
  rw [hlen] at hB hle
  obtain ⟨n, hn⟩ : ∃ n, L.length = n := ⟨_, rfl⟩
  rw [hn] at hB hle
  obtain ⟨k, hk⟩ : ∃ k, ix len first 1 = k := ⟨_, rfl⟩
  obtain ⟨v1, v2⟩ := p
  obtain ⟨A, m, c, b, rfl, rfl⟩ := row_form hv
  have H := hide h
  have hn' := hide hn
  have hk' := hide hk
  have hkl : k ≤ len := by rw [← hk]; unfold ix; split <;> omega
  have SL := hide (fun (W : World) (hW : Blk W g 62 (ringC (some ⟨s, 0, none⟩) len room first (n + 1) gone)) => show Calls Try.prog 28 #[.pointer (some ⟨g, 0, none⟩), .int .i64 1] W fun e w' => e = .returned (.int .i64 k) ∧ W = w' by
    have := slot_any (some ⟨s, 0, none⟩) len room first (n + 1) gone 1 g W hW (by omega) (by omega) (by omega); rw [hk] at this; exact this)
  have hp := hide hp
  have hv := hide hv
  have hs := hide hs
  have n0 : n ≤ 100000 := by omega
  have BW := hide hB
  have hqg : w.heap.size ≠ g := by omega
  have hqs : w.heap.size ≠ s := by omega
  clear h hn hk hR hlen hB c1 c2 f1 f2 hix0
  go_enter Try.func26, Try.ntmps26
  go_upto_region 1 with (fail)
  go_name_world W0 hW0
  have b0 : Blk W0 g 62 (ringC (some ⟨s, 0, none⟩) len room first (n + 1) gone) := by rw [← hW0]; exact BW.out.alloc _
  have s0 : Blk W0 s 30 (flatP rows).toArray := by rw [← hW0]; exact hs.out.alloc _
  have q0 : Blk W0 w.heap.size 30 #[.slice none 0 0, .bool false] := by rw [← hW0]; exact Blk.new _ _ _
  have F0 : Frm (Own2 g (some s)) w W0 := by rw [← hW0]; exact (Frm.refl _ _).alloc _
  have Z0 : W0.heap.size = w.heap.size + 1 := by rw [← hW0]; simp
  have K0 : Keep45 ok w W0 := by rw [← hW0]; exact keep45_alloc _
  clear hW0
  obtain ⟨c1, c2⟩ := flatP_at hp.out
  have c1 : W0.cell? ⟨s, first * 2, none⟩ = some (.slice A m c) := by rw [s0.cell]; simpa using c1
  have c2 : W0.cell? ⟨s, first * 2 + 1, none⟩ = some (.bool b) := by rw [s0.cell]; simpa using c2
  obtain ⟨d0, d1, d2, d3, d4, e0, e1, e2, e3, e4⟩ := blk5 b0
  have n1 := World.new_ne W0 ⟨g, 0, none⟩ (by omega)
  have n2 := World.new_ne W0 ⟨g, 2, none⟩ (by omega)
  have n3 := World.new_ne W0 ⟨s, first * 2, none⟩ (by omega)
  have n4 := World.new_ne W0 ⟨s, first * 2 + 1, none⟩ (by omega)
  go_region_held3 (fun W => W.cell? ⟨g, 0, none⟩ = some (.slice (some ⟨s, 0, none⟩) len len) ∧ W.cell? ⟨g, 2, none⟩ = some (.int .i64 first) ∧ W.cell? ⟨s, first * 2, none⟩ = some (.slice A m c) ∧ W.cell? ⟨s, first * 2 + 1, none⟩ = some (.bool b))
    (first | (exact ⟨d0, d2, c1, c2⟩) | go_keep) (fail)
  go_upto_region 2 with (fail)
  go_name_world W1 hW1
  have b1 : Blk W1 g 62 (ringC (some ⟨s, 0, none⟩) len room first (n + 1) gone) := by rw [← hW1]; exact (b0.alloc _).drew
  have s1 : Blk W1 s 30 (flatP rows).toArray := by rw [← hW1]; exact (s0.alloc _).drew
  have q1 : Blk W1 w.heap.size 30 #[.slice none 0 0, .bool false] := by rw [← hW1]; exact (q0.alloc _).drew
  have t1 : Blk W1 (w.heap.size + 1) 30 #[.slice A m c, .bool b] := by rw [← hW1, ← Z0]; exact (Blk.new _ _ _).drew
  have F1 : Frm (Own2 g (some s)) w W1 := by rw [← hW1]; exact (F0.alloc _).drew
  have K1 : Keep45 ok w W1 := by rw [← hW1]; exact K0.trans fun b cs _ h => (h.alloc _).drew
  clear hW1 d0 d1 d2 d3 d4 e0 e1 e2 e3 e4 c1 c2 n1 n2 n3 n4 b0 s0 q0 F0 K0
  obtain ⟨c1, c2⟩ := flatP_at hp.out
  have c1 : W1.cell? ⟨s, first * 2, none⟩ = some (.slice A m c) := by rw [s1.cell]; simpa using c1
  have c2 : W1.cell? ⟨s, first * 2 + 1, none⟩ = some (.bool b) := by rw [s1.cell]; simpa using c2
  have f1 := s1.frozen (first * 2)
  have f2 := s1.frozen (first * 2 + 1)
  obtain ⟨d0, d1, d2, d3, d4, e0, e1, e2, e3, e4⟩ := blk5 b1
  have hgs : g ≠ s := Ne.symm hsg
  go_region_held3 (fun W => W.cell? ⟨g, 0, none⟩ = some (.slice (some ⟨s, 0, none⟩) len len) ∧ W.cell? ⟨g, 2, none⟩ = some (.int .i64 first))
    (first | (exact ⟨d0, d2⟩) | go_keep) (fail)
  go_upto_region 3 with (fail)
  go_name_world W2 hW2
  have b2 : Blk W2 g 62 (ringC (some ⟨s, 0, none⟩) len room first (n + 1) gone) := by rw [← hW2]; exact (b1.drew.far (p := ⟨s, _, none⟩) hgs _).far (p := ⟨s, _, none⟩) hgs _
  have s2 : Blk W2 s 30 (flatP (rows.set first (.slice none 0 0, .bool false))).toArray := by rw [← hW2]; exact slots_set s1.drew (by rw [H.out.rlen]; exact hfl) _ _
  have q2 : Blk W2 w.heap.size 30 #[.slice none 0 0, .bool false] := by rw [← hW2]; exact (q1.drew.far (p := ⟨s, _, none⟩) hqs _).far (p := ⟨s, _, none⟩) hqs _
  have t2 : Blk W2 (w.heap.size + 1) 30 #[.slice A m c, .bool b] := by rw [← hW2]; exact (t1.drew.far (p := ⟨s, _, none⟩) (show w.heap.size + 1 ≠ s by omega) _).far (p := ⟨s, _, none⟩) (show w.heap.size + 1 ≠ s by omega) _
  have F2 : Frm (Own2 g (some s)) w W2 := by rw [← hW2]; exact (F1.drew.setCell (p := ⟨s, _, none⟩) (fun _ => Or.inr rfl) _).setCell (p := ⟨s, _, none⟩) (fun _ => Or.inr rfl) _
  have K2 : Keep45 ok w W2 := by rw [← hW2]; exact ((K1.trans fun b cs _ h => h.drew).trans (keep45_set s1.drew (by decide) _ _)).trans (keep45_set (s1.drew.set_ _ _) (by decide) _ _)
  clear hW2 d0 d1 d2 d3 d4 e0 e1 e2 e3 e4 c1 c2 f1 f2 b1 s1 q1 t1 F1 K1
  obtain ⟨d0, d1, d2, d3, d4, e0, e1, e2, e3, e4⟩ := blk5 b2
  have B2 := hide b2
  have S2 := hide s2
  have Q2 := hide q2
  have T2 := hide t2
  have F2 := hide F2
  have K2 := hide K2
  clear b2 s2 q2 t2
  go_upto_region 4 with (go_at_call 28; go_must (refine (SL.out _ B2.out).mono ?_; rintro e w' ⟨rfl, rfl⟩))
  go_name_world W3 hW3
  have b3 : Blk W3 g 62 (ringC (some ⟨s, 0, none⟩) len room k (n + 1) gone) := by rw [← hW3]; exact ring_first B2.out
  have s3 : Blk W3 s 30 (flatP (rows.set first (.slice none 0 0, .bool false))).toArray := by rw [← hW3]; exact S2.out.far (p := ⟨g, _, none⟩) hsg _
  have q3 : Blk W3 w.heap.size 30 #[.slice none 0 0, .bool false] := by rw [← hW3]; exact Q2.out.far (p := ⟨g, _, none⟩) hqg _
  have t3 : Blk W3 (w.heap.size + 1) 30 #[.slice A m c, .bool b] := by rw [← hW3]; exact T2.out.far (p := ⟨g, _, none⟩) (show w.heap.size + 1 ≠ g by omega) _
  have F3 : Frm (Own2 g (some s)) w W3 := by rw [← hW3]; exact F2.out.setCell (p := ⟨g, _, none⟩) (fun _ => Or.inl rfl) _
  have K3 : Keep45 ok w W3 := by rw [← hW3]; exact K2.out.trans (keep45_set B2.out (by decide) _ _)
  clear hW3 d0 d1 d2 d3 d4 e0 e1 e2 e3 e4
  obtain ⟨d0, d1, d2, d3, d4, e0, e1, e2, e3, e4⟩ := blk5 b3
  have B3 := hide b3
  have S3 := hide s3
  have Q3 := hide q3
  have T3 := hide t3
  have F3 := hide F3
  have K3 := hide K3
  clear b3 s3 q3 t3
  go_upto_region 6 with (fail)
  go_name_world W4 hW4
  have b4 : Blk W4 g 62 (ringC (some ⟨s, 0, none⟩) len room k n (gone + 1)) := by rw [← hW4]; exact ring_gone (ring_n B3.out)
  have s4 : Blk W4 s 30 (flatP (rows.set first (.slice none 0 0, .bool false))).toArray := by rw [← hW4]; exact (S3.out.far (p := ⟨g, _, none⟩) hsg _).far (p := ⟨g, _, none⟩) hsg _
  have q4 : Blk W4 w.heap.size 30 #[.slice none 0 0, .bool false] := by rw [← hW4]; exact (Q3.out.far (p := ⟨g, _, none⟩) hqg _).far (p := ⟨g, _, none⟩) hqg _
  have t4 : Blk W4 (w.heap.size + 1) 30 #[.slice A m c, .bool b] := by rw [← hW4]; exact (T3.out.far (p := ⟨g, _, none⟩) (show w.heap.size + 1 ≠ g by omega) _).far (p := ⟨g, _, none⟩) (show w.heap.size + 1 ≠ g by omega) _
  have F4 : Frm (Own2 g (some s)) w W4 := by rw [← hW4]; exact (F3.out.setCell (p := ⟨g, _, none⟩) (fun _ => Or.inl rfl) _).setCell (p := ⟨g, _, none⟩) (fun _ => Or.inl rfl) _
  have K4 : Keep45 ok w W4 := by rw [← hW4]; exact (K3.out.trans (keep45_set B3.out (by decide) _ _)).trans (keep45_set (B3.out.set_ _ _) (by decide) _ _)
  clear hW4 d0 d1 d2 d3 d4 e0 e1 e2 e3 e4
  obtain ⟨x0, x1, x2, x3⟩ := blk2 q4
  obtain ⟨y0, y1, y2, y3⟩ := blk2 t4
  have B4 := hide b4
  have S4 := hide s4
  have Q4 := hide q4
  have F4 := hide F4
  have K4 := hide K4
  clear b4 s4 q4 t4
  go_wp2
  have q5 := (Q4.out.set_ 0 (.slice A m c)).set_ 1 (.bool b)
  obtain ⟨r0, r1, _⟩ := blk2 (a := .slice A m c) (b := .bool b) (by simpa using q5)
  refine bodyPost_ret (v := .agg #[.slice A m c, .bool b]) (by simp [results, Try.results26, go_sem, r0, r1]) rfl ?_
  have K5 := (K4.out.trans (keep45_set Q4.out (by decide) 0 (.slice A m c))).trans (keep45_set (Q4.out.set_ 0 (.slice A m c)) (by decide) 1 (.bool b))
  refine ⟨_, _, k, rows.set first (.slice none 0 0, .bool false), rfl, hv.out.keep K5, ?_, (F4.out.setCell (p := ⟨w.heap.size, 0, none⟩) (fun h => absurd h (Nat.lt_irrefl _)) _).setCell (p := ⟨w.heap.size, 1, none⟩) (fun h => absurd h (Nat.lt_irrefl _)) _, K5⟩
  have hkl2 : k < len := by rw [← hk'.out]; unfold ix; split <;> omega
  refine ⟨?_, by rw [List.length_set]; exact H.out.rlen, by rw [hn'.out]; omega, hlr, hrl, (fun e => by cases e), fun s' e => ?_, fun i T hT => ?_⟩
  · rw [hn'.out]
    exact (B4.out.far (p := ⟨w.heap.size, 0, none⟩) (Ne.symm hqg) _).far (p := ⟨w.heap.size, 1, none⟩) (Ne.symm hqg) _
  · injection e with e
    subst e
    exact ⟨(S4.out.far (p := ⟨w.heap.size, 0, none⟩) (Ne.symm hqs) _).far (p := ⟨w.heap.size, 1, none⟩) (Ne.symm hqs) _, hkl2⟩
  · have hi := (List.getElem?_eq_some_iff.1 hT).1
    rw [hn'.out] at hi
    obtain ⟨p, h1, h2⟩ := H.out.rows (i + 1) T (by rw [List.getElem?_cons_succ]; exact hT)
    have e : ix len k i = ix len first (i + 1) := by rw [← hk'.out]; unfold ix; split <;> split <;> (try split) <;> omega
    refine ⟨p, ?_, h2.keep K5⟩
    rw [e, List.getElem?_set_ne]
    · exact h1
    · intro e2
      have e3 : ix len first 0 = first := by unfold ix; rw [if_neg (by omega)]; omega
      have := ix_inj hfl (i := 0) (j := i + 1) (by omega) (by omega) (by rw [e3]; exact e2)
      omega
end Go.Proofs.Ytailflbhcmgnpaa
