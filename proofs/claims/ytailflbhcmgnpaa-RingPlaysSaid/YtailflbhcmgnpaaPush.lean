/-
  The walk of Push, way by way. No condition but bounds.
-/
import Derived.Test.YtailflbhcmgnpaaGrow
namespace Go.Proofs.Ytailflbhcmgnpaa
open Go.RowKit Go.Proofs
set_option linter.unusedVariables false
theorem push_none (ok : Nat → Prop) (v1 v2 : Value) (R : Row) (w : World) (hv : RowV ok w (v1, v2) R) : Calls Try.prog 10 #[.pointer none, .agg #[v1, v2]] w (RowOkPost ok none false w) := by
  obtain ⟨A, m, c, b, rfl, rfl⟩ := row_form hv
  clear hv
  go_enter Try.func10, Try.ntmps10
  go_wp2
  refine bodyPost_ret (v := .tuple #[.agg #[.slice none 0 0, .bool false], .bool false]) (by simp [results, Try.results10, go_sem]) rfl ?_
  exact ⟨_, _, rfl, rfl, ((Below.refl _ _).alloc (Nat.le_refl _) _).alloc (by simp) _⟩
/-- What Push leaves. -/
def PushPost (ok : Nat → Prop) (g : Nat) (S : Option Nat) (L : List Row) (room gone : Nat) (O : Row) (full : Bool) (w : World) (e : Ending) (w' : World) : Prop :=
  ∃ v1 v2 S', e = .returned (.tuple #[.agg #[v1, v2], .bool full]) ∧ RowV ok w' (v1, v2) O ∧ RingAt ok w' g S' L room gone ∧ (S' = S ∨ ∃ s, w.heap.size ≤ s ∧ S' = some s) ∧ Frm (Own2 g S) w w' ∧ Keep45 ok w w'

set_option maxHeartbeats 4000000 in
theorem push_zero (ok ok0 : Nat → Prop) (g : Nat) (S : Option Nat) (L : List Row) (room gone len first : Nat) (rows : List (Value × Value)) (v1 v2 : Value) (R : Row) (w : World) (h : RingOf ok w g S L room gone len first rows) (hv : RowV ok0 w (v1, v2) R) (hok : ∀ b, w.heap.size ≤ b → ok b) (hgn : gone ≤ 1000000000) (hz : room = 0):
    Calls Try.prog 10 #[.pointer (some ⟨g, 0, none⟩), .agg #[v1, v2]] w (PushPost ok g S L room (gone + 1) R true w) := by
  obtain ⟨A, m, c, b, rfl, rfl⟩ := row_form hv
  have hle := h.le
  have hlr := h.ler
  have hrl := h.roomle
  have hgl := h.lt
  have hss : ∀ s, S = some s → s < w.heap.size := fun s e => (h.slots s e).1.lt
  have OW := hide (fun (W : World) (hW : Below w.heap.size w W) => own_any ok0 ok _ _ R W (hv.keep (Keep45.below hW)) (fun b hb => hok b (Nat.le_trans hW.size hb)))
  have H := hide h
  have HSS := hide hss
  clear h hv hss
  go_enter Try.func10, Try.ntmps10
  go_upto_region 3 with (fail)
  go_name_world W0 hW0
  have B0 : Below w.heap.size w W0 := by rw [← hW0]; exact ((Below.refl _ _).alloc (Nat.le_refl _) _).alloc (by simp) _
  have q3 : Blk W0 w.heap.size 30 #[.slice A m c, .bool b] := by rw [← hW0]; exact (Blk.new _ _ _).alloc _
  have q4 : Blk W0 (w.heap.size + 1) 30 #[.slice none 0 0, .bool false] := by rw [← hW0]; exact Blk.new' (by simp) 30 _
  clear hW0
  obtain ⟨x0, x1, x2, x3⟩ := blk2 q3
  have Q3 := hide q3
  have Q4 := hide q4
  have B0 := hide B0
  clear q3 q4
  go_upto_region 4 with (go_at_call 25; go_must (refine (OW.out _ B0.out).mono ?_; rintro e w1 ⟨u1, u2, rfl, rv, bb⟩; obtain ⟨A', m', c', b', rfl, rfl⟩ := row_form rv; obtain ⟨y0, y1, y2, y3⟩ := blk2 (Q3.out.below bb Q3.out.lt)))
  have q31 := Q3.out.below bb Q3.out.lt
  have q41 := Q4.out.below bb Q4.out.lt
  have B1 := below_in B0.out bb (Nat.le_refl _)
  have h1 := H.out.below B1
  have hqg : w.heap.size ≠ g := by omega
  have rv2 := (rv.keep (keep45_set (ok := ok) q31 (by decide) 0 (.slice A' m' c'))).keep (keep45_set (q31.set_ 0 (.slice A' m' c')) (by decide) 1 (.bool b'))
  go_name_world W1 hW1
  have q3 : Blk W1 w.heap.size 30 #[.slice A' m' c', .bool b'] := by rw [← hW1]; exact (q31.set_ 0 _).set_ 1 _
  have q4 : Blk W1 (w.heap.size + 1) 30 #[.slice none 0 0, .bool false] := by rw [← hW1]; exact (q41.far (p := ⟨w.heap.size, 0, none⟩) (show w.heap.size + 1 ≠ w.heap.size by omega) _).far (p := ⟨w.heap.size, 1, none⟩) (show w.heap.size + 1 ≠ w.heap.size by omega) _
  have R1 : RingOf ok W1 g S L room gone len first rows := by
    rw [← hW1]
    exact h1.keep (fun cs k => (k.far (p := ⟨w.heap.size, 0, none⟩) (Ne.symm hqg) _).far (p := ⟨w.heap.size, 1, none⟩) (Ne.symm hqg) _)
      (fun s cs e k => (k.far (p := ⟨w.heap.size, 0, none⟩) (show s ≠ w.heap.size by have := HSS.out s e; omega) _).far (p := ⟨w.heap.size, 1, none⟩) (show s ≠ w.heap.size by have := HSS.out s e; omega) _)
      ((keep45_set q31 (by decide) 0 _).trans (keep45_set (q31.set_ 0 _) (by decide) 1 _))
  have rv1 : RowV ok W1 (.slice A' m' c', .bool b') R := by rw [← hW1]; exact rv2
  have B1 : Below w.heap.size w W1 := by rw [← hW1]; exact (B1.setCell (p := ⟨w.heap.size, 0, none⟩) (Nat.le_refl _) _).setCell (p := ⟨w.heap.size, 1, none⟩) (Nat.le_refl _) _
  have Z1 : w.heap.size + 2 ≤ W1.heap.size := by have := q4.lt; omega
  clear hW1 q31 q41 h1 rv2 rv x0 x1 x2 x3 y0 y1 y2 y3 bb Q3 Q4 B0
  obtain ⟨d0, d1, d2, d3, d4, f0, f1, f2, f3, f4⟩ := blk5 R1.blk
  obtain ⟨x0, x1, x2, x3⟩ := blk2 q3
  obtain ⟨y0, y1, y2, y3⟩ := blk2 q4
  have Q3 := hide q3
  have Q4 := hide q4
  have RV := hide rv1
  have B1 := hide B1
  clear q3 q4 rv1
  have hgw : g ≠ w.heap.size + 1 := by omega
  have hgw2 : w.heap.size ≠ w.heap.size + 1 := by omega
  have hr0 : room = 0 := hz
  subst hr0
  have RR := hide R1
  clear R1
  go_upto_region 6 with (fail)
  go_name_world W2 hW2
  have b2 := ring_gone (m := gone + 1) RR.out.blk
  have q3 : Blk W2 w.heap.size 30 #[.slice A' m' c', .bool b'] := by rw [← hW2]; exact Q3.out.far (p := ⟨g, 4, none⟩) hqg _
  have q4 : Blk W2 (w.heap.size + 1) 30 #[.slice none 0 0, .bool false] := by rw [← hW2]; exact Q4.out.far (p := ⟨g, 4, none⟩) (Ne.symm hgw) _
  have K2 : Keep45 ok W1 W2 := by rw [← hW2]; exact keep45_set RR.out.blk (by decide) 4 _
  have R2 : RingOf ok W2 g S L 0 (gone + 1) len first rows := by
    rw [← hW2]
    exact ⟨b2, RR.out.rlen, RR.out.le, RR.out.ler, RR.out.roomle, RR.out.nil, fun s e => ⟨(RR.out.slots s e).1.far (p := ⟨g, 4, none⟩) (Blk.ne_ (RR.out.slots s e).1 RR.out.blk (by decide)) _, (RR.out.slots s e).2⟩, fun i T hT => by
      obtain ⟨p, p1, p2⟩ := RR.out.rows i T hT
      exact ⟨p, p1, p2.keep (keep45_set RR.out.blk (by decide) 4 _)⟩⟩
  have F2 : Frm (Own2 g S) w W2 := by rw [← hW2]; exact (Frm.of_below B1.out fun i h1 h2 => by omega).setCell (p := ⟨g, 4, none⟩) (fun _ => Or.inl rfl) _
  clear hW2 b2 d0 d1 d2 d3 d4 f0 f1 f2 f3 f4 x0 x1 x2 x3 y0 y1 y2 y3
  obtain ⟨x0, x1, x2, x3⟩ := blk2 q3
  obtain ⟨y0, y1, y2, y3⟩ := blk2 q4
  have Q4' := hide q4
  have R2 := hide R2
  have F2 := hide F2
  have K2 := hide K2
  clear q3 q4
  go_wp2
  have q5 := (Q4'.out.set_ 0 (.slice A' m' c')).set_ 1 (.bool b')
  obtain ⟨r0, r1, _⟩ := blk2 (a := .slice A' m' c') (b := .bool b') (by simpa using q5)
  refine bodyPost_ret (v := .tuple #[.agg #[.slice A' m' c', .bool b'], .bool true]) (by simp [results, Try.results10, go_sem, r0, r1]) rfl ?_
  have K5 := (keep45_set (ok := ok) Q4'.out (by decide) 0 (.slice A' m' c')).trans (keep45_set (Q4'.out.set_ 0 (.slice A' m' c')) (by decide) 1 (.bool b'))
  refine ⟨_, _, S, rfl, (RV.out.keep K2.out).keep K5, ⟨len, first, rows, R2.out.keep (fun cs k => (k.far (p := ⟨w.heap.size + 1, 0, none⟩) hgw _).far (p := ⟨w.heap.size + 1, 1, none⟩) hgw _)
      (fun s cs e k => (k.far (p := ⟨w.heap.size + 1, 0, none⟩) (show s ≠ w.heap.size + 1 by have := HSS.out s e; omega) _).far (p := ⟨w.heap.size + 1, 1, none⟩) (show s ≠ w.heap.size + 1 by have := HSS.out s e; omega) _) K5⟩, .inl rfl,
    (F2.out.setCell (p := ⟨w.heap.size + 1, 0, none⟩) (fun h => absurd h (show ¬ w.heap.size + 1 < w.heap.size by omega)) _).setCell (p := ⟨w.heap.size + 1, 1, none⟩) (fun h => absurd h (show ¬ w.heap.size + 1 < w.heap.size by omega)) _, ((Keep45.below B1.out).trans K2.out).trans K5⟩

set_option maxHeartbeats 4000000 in
theorem push_full (ok ok0 : Nat → Prop) (g : Nat) (S : Option Nat) (L : List Row) (R0 : Row) (room gone len first : Nat) (rows : List (Value × Value)) (v1 v2 : Value) (R : Row) (w : World) (h : RingOf ok w g S (R0 :: L) room gone len first rows) (hv : RowV ok0 w (v1, v2) R) (hok : ∀ b, w.heap.size ≤ b → ok b) (hgn : gone ≤ 1000000000) (hz : L.length + 1 = room):
    Calls Try.prog 10 #[.pointer (some ⟨g, 0, none⟩), .agg #[v1, v2]] w (PushPost ok g S (L ++ [R]) room (gone + 1) R0 true w) := by
  obtain ⟨A, m, c, b, rfl, rfl⟩ := row_form hv
  have hle := h.le
  have hlr := h.ler
  have hrl := h.roomle
  have hgl := h.lt
  have hss : ∀ s, S = some s → s < w.heap.size := fun s e => (h.slots s e).1.lt
  have OW := hide (fun (W : World) (hW : Below w.heap.size w W) => own_any ok0 ok _ _ R W (hv.keep (Keep45.below hW)) (fun b hb => hok b (Nat.le_trans hW.size hb)))
  have H := hide h
  have HSS := hide hss
  clear h hv hss
  go_enter Try.func10, Try.ntmps10
  go_upto_region 3 with (fail)
  go_name_world W0 hW0
  have B0 : Below w.heap.size w W0 := by rw [← hW0]; exact ((Below.refl _ _).alloc (Nat.le_refl _) _).alloc (by simp) _
  have q3 : Blk W0 w.heap.size 30 #[.slice A m c, .bool b] := by rw [← hW0]; exact (Blk.new _ _ _).alloc _
  have q4 : Blk W0 (w.heap.size + 1) 30 #[.slice none 0 0, .bool false] := by rw [← hW0]; exact Blk.new' (by simp) 30 _
  clear hW0
  obtain ⟨x0, x1, x2, x3⟩ := blk2 q3
  have Q3 := hide q3
  have Q4 := hide q4
  have B0 := hide B0
  clear q3 q4
  go_upto_region 4 with (go_at_call 25; go_must (refine (OW.out _ B0.out).mono ?_; rintro e w1 ⟨u1, u2, rfl, rv, bb⟩; obtain ⟨A', m', c', b', rfl, rfl⟩ := row_form rv; obtain ⟨y0, y1, y2, y3⟩ := blk2 (Q3.out.below bb Q3.out.lt)))
  have q31 := Q3.out.below bb Q3.out.lt
  have q41 := Q4.out.below bb Q4.out.lt
  have B1 := below_in B0.out bb (Nat.le_refl _)
  have h1 := H.out.below B1
  have hqg : w.heap.size ≠ g := by omega
  have rv2 := (rv.keep (keep45_set (ok := ok) q31 (by decide) 0 (.slice A' m' c'))).keep (keep45_set (q31.set_ 0 (.slice A' m' c')) (by decide) 1 (.bool b'))
  go_name_world W1 hW1
  have q3 : Blk W1 w.heap.size 30 #[.slice A' m' c', .bool b'] := by rw [← hW1]; exact (q31.set_ 0 _).set_ 1 _
  have q4 : Blk W1 (w.heap.size + 1) 30 #[.slice none 0 0, .bool false] := by rw [← hW1]; exact (q41.far (p := ⟨w.heap.size, 0, none⟩) (show w.heap.size + 1 ≠ w.heap.size by omega) _).far (p := ⟨w.heap.size, 1, none⟩) (show w.heap.size + 1 ≠ w.heap.size by omega) _
  have R1 : RingOf ok W1 g S (R0 :: L) room gone len first rows := by
    rw [← hW1]
    exact h1.keep (fun cs k => (k.far (p := ⟨w.heap.size, 0, none⟩) (Ne.symm hqg) _).far (p := ⟨w.heap.size, 1, none⟩) (Ne.symm hqg) _)
      (fun s cs e k => (k.far (p := ⟨w.heap.size, 0, none⟩) (show s ≠ w.heap.size by have := HSS.out s e; omega) _).far (p := ⟨w.heap.size, 1, none⟩) (show s ≠ w.heap.size by have := HSS.out s e; omega) _)
      ((keep45_set q31 (by decide) 0 _).trans (keep45_set (q31.set_ 0 _) (by decide) 1 _))
  have rv1 : RowV ok W1 (.slice A' m' c', .bool b') R := by rw [← hW1]; exact rv2
  have B1 : Below w.heap.size w W1 := by rw [← hW1]; exact (B1.setCell (p := ⟨w.heap.size, 0, none⟩) (Nat.le_refl _) _).setCell (p := ⟨w.heap.size, 1, none⟩) (Nat.le_refl _) _
  have Z1 : w.heap.size + 2 ≤ W1.heap.size := by have := q4.lt; omega
  clear hW1 q31 q41 h1 rv2 rv x0 x1 x2 x3 y0 y1 y2 y3 bb Q3 Q4 B0
  obtain ⟨d0, d1, d2, d3, d4, f0, f1, f2, f3, f4⟩ := blk5 R1.blk
  obtain ⟨x0, x1, x2, x3⟩ := blk2 q3
  obtain ⟨y0, y1, y2, y3⟩ := blk2 q4
  have Q3 := hide q3
  have Q4 := hide q4
  have RV := hide rv1
  have B1 := hide B1
  clear q3 q4 rv1
  have hga : g ≠ W1.heap.size := by omega
  have hr0 : ((room : Int) == 0) = false := by simp; omega
  have RR := hide R1
  clear R1
  go_upto_region 8 with (fail)
  go_name_world W2 hW2
  obtain ⟨q6, hq6⟩ : ∃ q6, W1.heap.size = q6 := ⟨_, rfl⟩
  have q3 : Blk W2 w.heap.size 30 #[.slice A' m' c', .bool b'] := by rw [← hW2]; exact Q3.out.alloc _
  have q4 : Blk W2 (w.heap.size + 1) 30 #[.slice none 0 0, .bool false] := by rw [← hW2]; exact Q4.out.alloc _
  have q6b : Blk W2 q6 30 #[.slice none 0 0, .bool false] := by rw [← hW2, ← hq6]; exact Blk.new _ _ _
  have R2 : RingOf ok W2 g S (R0 :: L) room gone len first rows := by rw [← hW2]; exact RR.out.below ((Below.refl _ _).alloc (Nat.le_refl _) _)
  have rv2 : RowV ok W2 (.slice A' m' c', .bool b') R := by rw [← hW2]; exact RV.out.keep (keep45_alloc _)
  have B2 : Below w.heap.size w W2 := by rw [← hW2]; exact B1.out.alloc B1.out.size _
  have Z2 : w.heap.size + 2 ≤ q6 := by omega
  rw [hq6]
  clear hW2 hq6 hga d0 d1 d2 d3 d4 f0 f1 f2 f3 f4 x0 x1 x2 x3 y0 y1 y2 y3 B1 RV RR Z1
  obtain ⟨d0, d1, d2, d3, d4, f0, f1, f2, f3, f4⟩ := blk5 R2.blk
  have hnr : (((R0 :: L)).length : Int) = room := by simp; omega
  go_quiet (fail)
  go_upto_region 10 with (fail)
  go_name_world W3 hW3
  have q33 : Blk W3 w.heap.size 30 #[.slice A' m' c', .bool b'] := by rw [← hW3]; exact q3.drewN nq
  have q43 : Blk W3 (w.heap.size + 1) 30 #[.slice none 0 0, .bool false] := by rw [← hW3]; exact q4.drewN nq
  have q63 : Blk W3 q6 30 #[.slice none 0 0, .bool false] := by rw [← hW3]; exact q6b.drewN nq
  have R3 : RingOf ok W3 g S (R0 :: L) room gone len first rows := by rw [← hW3]; exact R2.keep (fun _ k => k.drewN nq) (fun _ _ _ k => k.drewN nq) (keep45_drewN nq)
  have rv3 : RowV ok W3 (.slice A' m' c', .bool b') R := by rw [← hW3]; exact rv2.keep (keep45_drewN nq)
  have B3 : Below w.heap.size w W3 := by rw [← hW3]; exact below_drewN' B2 nq
  clear hW3 q3 q4 q6b R2 rv2 B2 d0 d1 d2 d3 d4 f0 f1 f2 f3 f4 hnr
  have DR := hide (drop_in ok g S L R0 room gone len first rows W3 R3 hgn)
  have hqs : ∀ q, w.heap.size ≤ q → ¬ Own2 g S q := fun q hq h => by
    rcases h with h | h
    · omega
    · have := HSS.out q h; omega
  have HQ := hide hqs
  have Q33 := hide q33
  have Q43 := hide q43
  have Q63 := hide q63
  have RV3 := hide rv3
  have B3 := hide B3
  clear hqs q33 q43 q63 R3 rv3
  go_upto_region 11 with (go_at_call 26; go_must (refine DR.out.mono ?_; rintro e w1 ⟨o1, o2, first2, rows2, rfl, rvo, R4, F4, K4⟩; obtain ⟨oA, om, oc, ob, rfl, rfl⟩ := row_form rvo; have q64 := Q63.out.frm F4 (HQ.out _ (by omega)); obtain ⟨z0, z1, z2, z3⟩ := blk2 q64; have RV4 := hide (RV3.out.keep K4); have Q34 := hide (Q33.out.frm F4 (HQ.out _ (by omega))); have Q44 := hide (Q43.out.frm F4 (HQ.out _ (by omega))); have F4 := hide F4; have K4 := hide K4; have R4 := hide R4; have RVO := hide rvo))
  go_name_world W4 hW4
  have kq : Keep45 ok w1 W4 := by rw [← hW4]; exact (keep45_set q64 (by decide) 0 _).trans (keep45_set (q64.set_ 0 _) (by decide) 1 _)
  have q3 : Blk W4 w.heap.size 30 #[.slice A' m' c', .bool b'] := by rw [← hW4]; exact (Q34.out.far (p := ⟨q6, 0, none⟩) (show w.heap.size ≠ q6 by omega) _).far (p := ⟨q6, 1, none⟩) (show w.heap.size ≠ q6 by omega) _
  have q4 : Blk W4 (w.heap.size + 1) 30 #[.slice none 0 0, .bool false] := by rw [← hW4]; exact (Q44.out.far (p := ⟨q6, 0, none⟩) (show w.heap.size + 1 ≠ q6 by omega) _).far (p := ⟨q6, 1, none⟩) (show w.heap.size + 1 ≠ q6 by omega) _
  have q6b : Blk W4 q6 30 #[.slice oA om oc, .bool ob] := by rw [← hW4]; exact (q64.set_ 0 _).set_ 1 _
  have R5 : RingOf ok W4 g S L room (gone + 1) len first2 rows2 := by
    rw [← hW4]
    exact R4.out.keep (fun _ k => (k.far (p := ⟨q6, 0, none⟩) (show g ≠ q6 by omega) _).far (p := ⟨q6, 1, none⟩) (show g ≠ q6 by omega) _) (fun s _ e k => (k.far (p := ⟨q6, 0, none⟩) (show s ≠ q6 by have := HSS.out s e; omega) _).far (p := ⟨q6, 1, none⟩) (show s ≠ q6 by have := HSS.out s e; omega) _) ((keep45_set q64 (by decide) 0 _).trans (keep45_set (q64.set_ 0 _) (by decide) 1 _))
  have rv2 := RV4.out.keep kq
  have rvo2 := RVO.out.keep kq
  have F5 : Frm (Own2 g S) w W4 := by
    rw [← hW4]
    exact (((Frm.of_below B3.out fun i h1 h2 => by omega).trans F4.out fun i hi h => h).setCell (p := ⟨q6, 0, none⟩) (fun h => absurd h (show ¬ q6 < w.heap.size by omega)) _).setCell (p := ⟨q6, 1, none⟩) (fun h => absurd h (show ¬ q6 < w.heap.size by omega)) _
  have K5 : Keep45 ok w W4 := (((Keep45.below B3.out).trans K4.out).trans kq)
  clear hW4 z0 z1 z2 z3 q64 kq
  have hle2 := R5.le
  have hlt2 : L.length < len := by have := hle; simp at this; omega
  have hSn : S ≠ none := fun e => by have := (R5.nil e).1; omega
  obtain ⟨s, rfl⟩ : ∃ s, S = some s := by cases S with
    | none => exact absurd rfl hSn
    | some s => exact ⟨s, rfl⟩
  have hsn : s < w.heap.size ∨ q6 < s := .inl (HSS.out s rfl)
  obtain ⟨d0, d1, d2, d3, d4, f0, f1, f2, f3, f4⟩ := blk5 R5.blk
  have hnl : ((L.length : Int) == len) = false := by simp; omega
  replace d0 : W4.cell? ⟨g, 0, none⟩ = some (.slice (some ⟨s, 0, none⟩) len len) := d0
  go_quiet (fail)
  clear d0 d1 d2 d3 d4 f0 f1 f2 f3 f4 hnl
  go_upto_region 13 with (fail)
  go_name_world W5 hW5
  have nq5 : True := trivial
  have q35 : Blk W5 w.heap.size 30 #[.slice A' m' c', .bool b'] := by rw [← hW5]; exact q3.drewN _
  have q45 : Blk W5 (w.heap.size + 1) 30 #[.slice none 0 0, .bool false] := by rw [← hW5]; exact q4.drewN _
  have q65 : Blk W5 q6 30 #[.slice oA om oc, .bool ob] := by rw [← hW5]; exact q6b.drewN _
  have R6 : RingOf ok W5 g (some s) L room (gone + 1) len first2 rows2 := by rw [← hW5]; exact R5.keep (fun _ k => k.drewN _) (fun _ _ _ k => k.drewN _) (keep45_drewN _)
  have rv5 : RowV ok W5 (.slice A' m' c', .bool b') R := by rw [← hW5]; exact rv2.keep (keep45_drewN _)
  have rvo5 : RowV ok W5 (.slice oA om oc, .bool ob) R0 := by rw [← hW5]; exact rvo2.keep (keep45_drewN _)
  have F6 : Frm (Own2 g (some s)) w W5 := by rw [← hW5]; exact F5.drewN _
  have K6 : Keep45 ok w W5 := by rw [← hW5]; exact K5.trans (keep45_drewN _)
  clear hW5 q3 q4 q6b R5 rv2 rvo2 F5 K5
  have hB5 := R6.blk
  obtain ⟨hs5, hf5⟩ := R6.slots s rfl
  have hsg : s ≠ g := Blk.ne_ hs5 hB5 (by decide)
  obtain ⟨n, hn⟩ : ∃ n, L.length = n := ⟨_, rfl⟩
  rw [hn] at hB5 hlt2
  have hrl5 := R6.rlen
  have hlr5 := R6.ler
  obtain ⟨k, hk⟩ : ∃ k, ix len first2 n = k := ⟨_, rfl⟩
  have hkl : k < len := by rw [← hk]; exact ix_lt hf5 hlt2
  have SL := hide (fun (W : World) (hW : Blk W g 62 (ringC (some ⟨s, 0, none⟩) len room first2 n (gone + 1))) => show Calls Try.prog 28 #[.pointer (some ⟨g, 0, none⟩), .int .i64 n] W fun e w' => e = .returned (.int .i64 k) ∧ W = w' by
    have := slot_any (some ⟨s, 0, none⟩) len room first2 n (gone + 1) n g W hW (by omega) (by omega) (by omega); rw [hk] at this; exact this)
  obtain ⟨p0, hp0⟩ : ∃ p0, (rows2)[k]? = some p0 := ⟨_, List.getElem?_eq_getElem (by omega)⟩
  obtain ⟨c3, c4⟩ := flatP_at hp0
  have c3 : W5.cell? ⟨s, k * 2, none⟩ = some p0.1 := by rw [hs5.cell]; simpa using c3
  have c4 : W5.cell? ⟨s, k * 2 + 1, none⟩ = some p0.2 := by rw [hs5.cell]; simpa using c4
  have c5 := hs5.frozen (k * 2)
  have c6 := hs5.frozen (k * 2 + 1)
  obtain ⟨d0, d1, d2, d3, d4, f0, f1, f2, f3, f4⟩ := blk5 hB5
  replace d0 : W5.cell? ⟨g, 0, none⟩ = some (.slice (some ⟨s, 0, none⟩) len len) := d0
  obtain ⟨x0, x1, x2, x3⟩ := blk2 q35
  have HN := hide hn
  have HK := hide hk
  have HB := hide hB5
  have HS5 := hide hs5
  have R6 := hide R6
  have hgs : g ≠ s := Ne.symm hsg
  have hws : w.heap.size ≠ s := by omega
  have hsw : s ≠ w.heap.size := by omega
  have hws1 : w.heap.size + 1 ≠ s := by omega
  have hws6 : q6 ≠ s := by omega
  have hn9 : n ≤ 100000 := by omega
  have Q35 := hide q35
  have Q45 := hide q45
  have Q65 := hide q65
  have F6 := hide F6
  have K6 := hide K6
  clear hn hk hB5 hs5 hp0 q35 q45 q65
  go_region_held3 (fun W => W.cell? ⟨g, 0, none⟩ = some (.slice (some ⟨s, 0, none⟩) len len) ∧ W.cell? ⟨g, 3, none⟩ = some (.int .i64 n) ∧ W.cell? ⟨w.heap.size, 0, none⟩ = some (.slice A' m' c') ∧ W.cell? ⟨w.heap.size, 1, none⟩ = some (.bool b'))
    (first | (exact ⟨d0, d3, x0, x1⟩) | go_keep) ((go_at_call 28; (refine (SL.out _ HB.out.drew).mono ?_; rintro e w' ⟨rfl, rfl⟩)))
  go_upto_region 14 with (fail)
  go_name_world W6 hW6
  have b6 : Blk W6 g 62 (ringC (some ⟨s, 0, none⟩) len room first2 n (gone + 1)) := by rw [← hW6]; exact (HB.out.drew.far (p := ⟨s, _, none⟩) hgs _).far (p := ⟨s, _, none⟩) hgs _
  have s6 : Blk W6 s 30 (flatP ((rows2).set k (.slice A' m' c', .bool b'))).toArray := by rw [← hW6]; exact slots_set HS5.out.drew (by omega) _ _
  have q46 : Blk W6 (w.heap.size + 1) 30 #[.slice none 0 0, .bool false] := by rw [← hW6]; exact (Q45.out.drew.far (p := ⟨s, _, none⟩) hws1 _).far (p := ⟨s, _, none⟩) hws1 _
  have q66 : Blk W6 q6 30 #[.slice oA om oc, .bool ob] := by rw [← hW6]; exact (Q65.out.drew.far (p := ⟨s, _, none⟩) hws6 _).far (p := ⟨s, _, none⟩) hws6 _
  have kk6 : Keep45 ok W5 W6 := by rw [← hW6]; exact (Keep45.trans (fun b cs _ h => h.drew) (keep45_set HS5.out.drew (by decide) _ _)).trans (keep45_set (HS5.out.drew.set_ _ _) (by decide) _ _)
  have F7 : Frm (Own2 g (some s)) w W6 := by rw [← hW6]; exact (F6.out.drew.setCell (p := ⟨s, _, none⟩) (fun _ => Or.inr rfl) _).setCell (p := ⟨s, _, none⟩) (fun _ => Or.inr rfl) _
  clear hW6 d0 d1 d2 d3 d4 f0 f1 f2 f3 f4 x0 x1 x2 x3 c3 c4 c5 c6
  obtain ⟨d0, d1, d2, d3, d4, f0, f1, f2, f3, f4⟩ := blk5 b6
  have B6 := hide b6
  have S6 := hide s6
  have Q46 := hide q46
  have Q66 := hide q66
  have KK6 := hide kk6
  have F7 := hide F7
  clear b6 s6 q46 q66 kk6
  go_upto_region 15 with (fail)
  go_name_world W7 hW7
  have b7 : Blk W7 g 62 (ringC (some ⟨s, 0, none⟩) len room first2 (n + 1) (gone + 1)) := by rw [← hW7]; exact ring_n (m := n + 1) B6.out
  have s7 : Blk W7 s 30 (flatP ((rows2).set k (.slice A' m' c', .bool b'))).toArray := by rw [← hW7]; exact S6.out.far (p := ⟨g, 3, none⟩) hsg _
  have q47 : Blk W7 (w.heap.size + 1) 30 #[.slice none 0 0, .bool false] := by rw [← hW7]; exact Q46.out.far (p := ⟨g, 3, none⟩) (show w.heap.size + 1 ≠ g by omega) _
  have q67 : Blk W7 q6 30 #[.slice oA om oc, .bool ob] := by rw [← hW7]; exact Q66.out.far (p := ⟨g, 3, none⟩) (show q6 ≠ g by omega) _
  have kk7 : Keep45 ok W5 W7 := by rw [← hW7]; exact KK6.out.trans (keep45_set B6.out (by decide) 3 _)
  have F8 : Frm (Own2 g (some s)) w W7 := by rw [← hW7]; exact F7.out.setCell (p := ⟨g, 3, none⟩) (fun _ => Or.inl rfl) _
  clear hW7 d0 d1 d2 d3 d4 f0 f1 f2 f3 f4
  obtain ⟨x0, x1, x2, x3⟩ := blk2 q47
  obtain ⟨y0, y1, y2, y3⟩ := blk2 q67
  have B7 := hide b7
  have S7 := hide s7
  have Q47 := hide q47
  have KK7 := hide kk7
  have F8 := hide F8
  clear b7 s7 q47 q67 kk7
  go_wp2
  have q5 := (Q47.out.set_ 0 (.slice oA om oc)).set_ 1 (.bool ob)
  obtain ⟨r0, r1, _⟩ := blk2 (a := .slice oA om oc) (b := .bool ob) (by simpa using q5)
  refine bodyPost_ret (v := .tuple #[.agg #[.slice oA om oc, .bool ob], .bool true]) (by simp [results, Try.results10, go_sem, r0, r1]) rfl ?_
  have K8 := KK7.out.trans ((keep45_set (ok := ok) Q47.out (by decide) 0 (.slice oA om oc)).trans (keep45_set (Q47.out.set_ 0 (.slice oA om oc)) (by decide) 1 (.bool ob)))
  have hg1 : g ≠ w.heap.size + 1 := by omega
  refine ⟨_, _, some s, rfl, rvo5.keep K8, ⟨len, first2, (rows2).set k (.slice A' m' c', .bool b'), ?_⟩, .inl rfl,
    (F8.out.setCell (p := ⟨w.heap.size + 1, 0, none⟩) (fun h => absurd h (show ¬ w.heap.size + 1 < w.heap.size by omega)) _).setCell (p := ⟨w.heap.size + 1, 1, none⟩) (fun h => absurd h (show ¬ w.heap.size + 1 < w.heap.size by omega)) _, K6.out.trans K8⟩
  refine ⟨?_, by rw [List.length_set]; exact hrl5, by rw [List.length_append, List.length_singleton, HN.out]; omega, hlr5, hrl, (fun e => by cases e), fun s' e => ?_, fun i T hT => ?_⟩
  · rw [List.length_append, List.length_singleton, HN.out]
    exact (B7.out.far (p := ⟨w.heap.size + 1, 0, none⟩) hg1 _).far (p := ⟨w.heap.size + 1, 1, none⟩) hg1 _
  · injection e with e
    subst e
    exact ⟨(S7.out.far (p := ⟨w.heap.size + 1, 0, none⟩) (Ne.symm hws1) _).far (p := ⟨w.heap.size + 1, 1, none⟩) (Ne.symm hws1) _, hf5⟩
  · have hi := (List.getElem?_eq_some_iff.1 hT).1
    rw [List.length_append, List.length_singleton, HN.out] at hi
    by_cases e : i = n
    · subst e
      rw [List.getElem?_append_right (by rw [HN.out]; exact Nat.le_refl _), HN.out, Nat.sub_self] at hT
      simp at hT
      subst hT
      rw [HK.out]
      exact ⟨_, List.getElem?_set_self (by omega), rv5.keep K8⟩
    · rw [List.getElem?_append_left (by rw [HN.out]; omega)] at hT
      obtain ⟨p, p1, p2⟩ := R6.out.rows i T hT
      refine ⟨p, ?_, p2.keep K8⟩
      rw [List.getElem?_set_ne]
      · exact p1
      · rw [← HK.out]
        intro e2
        exact e (ix_inj hf5 (by omega) hlt2 e2.symm)

set_option maxHeartbeats 4000000 in
theorem push_more (ok ok0 : Nat → Prop) (g : Nat) (S : Option Nat) (L : List Row) (room gone len first : Nat) (rows : List (Value × Value)) (v1 v2 : Value) (R : Row) (w : World) (h : RingOf ok w g S L room gone len first rows) (hv : RowV ok0 w (v1, v2) R) (hok : ∀ b, w.heap.size ≤ b → ok b) (hgn : gone ≤ 1000000000) (hz : L.length < room) (hln : L.length < len):
    Calls Try.prog 10 #[.pointer (some ⟨g, 0, none⟩), .agg #[v1, v2]] w (PushPost ok g S (L ++ [R]) room gone none false w) := by
  obtain ⟨A, m, c, b, rfl, rfl⟩ := row_form hv
  have hle := h.le
  have hlr := h.ler
  have hrl := h.roomle
  have hgl := h.lt
  have hss : ∀ s, S = some s → s < w.heap.size := fun s e => (h.slots s e).1.lt
  have OW := hide (fun (W : World) (hW : Below w.heap.size w W) => own_any ok0 ok _ _ R W (hv.keep (Keep45.below hW)) (fun b hb => hok b (Nat.le_trans hW.size hb)))
  have H := hide h
  have HSS := hide hss
  clear h hv hss
  go_enter Try.func10, Try.ntmps10
  go_upto_region 3 with (fail)
  go_name_world W0 hW0
  have B0 : Below w.heap.size w W0 := by rw [← hW0]; exact ((Below.refl _ _).alloc (Nat.le_refl _) _).alloc (by simp) _
  have q3 : Blk W0 w.heap.size 30 #[.slice A m c, .bool b] := by rw [← hW0]; exact (Blk.new _ _ _).alloc _
  have q4 : Blk W0 (w.heap.size + 1) 30 #[.slice none 0 0, .bool false] := by rw [← hW0]; exact Blk.new' (by simp) 30 _
  clear hW0
  obtain ⟨x0, x1, x2, x3⟩ := blk2 q3
  have Q3 := hide q3
  have Q4 := hide q4
  have B0 := hide B0
  clear q3 q4
  go_upto_region 4 with (go_at_call 25; go_must (refine (OW.out _ B0.out).mono ?_; rintro e w1 ⟨u1, u2, rfl, rv, bb⟩; obtain ⟨A', m', c', b', rfl, rfl⟩ := row_form rv; obtain ⟨y0, y1, y2, y3⟩ := blk2 (Q3.out.below bb Q3.out.lt)))
  have q31 := Q3.out.below bb Q3.out.lt
  have q41 := Q4.out.below bb Q4.out.lt
  have B1 := below_in B0.out bb (Nat.le_refl _)
  have h1 := H.out.below B1
  have hqg : w.heap.size ≠ g := by omega
  have rv2 := (rv.keep (keep45_set (ok := ok) q31 (by decide) 0 (.slice A' m' c'))).keep (keep45_set (q31.set_ 0 (.slice A' m' c')) (by decide) 1 (.bool b'))
  go_name_world W1 hW1
  have q3 : Blk W1 w.heap.size 30 #[.slice A' m' c', .bool b'] := by rw [← hW1]; exact (q31.set_ 0 _).set_ 1 _
  have q4 : Blk W1 (w.heap.size + 1) 30 #[.slice none 0 0, .bool false] := by rw [← hW1]; exact (q41.far (p := ⟨w.heap.size, 0, none⟩) (show w.heap.size + 1 ≠ w.heap.size by omega) _).far (p := ⟨w.heap.size, 1, none⟩) (show w.heap.size + 1 ≠ w.heap.size by omega) _
  have R1 : RingOf ok W1 g S L room gone len first rows := by
    rw [← hW1]
    exact h1.keep (fun cs k => (k.far (p := ⟨w.heap.size, 0, none⟩) (Ne.symm hqg) _).far (p := ⟨w.heap.size, 1, none⟩) (Ne.symm hqg) _)
      (fun s cs e k => (k.far (p := ⟨w.heap.size, 0, none⟩) (show s ≠ w.heap.size by have := HSS.out s e; omega) _).far (p := ⟨w.heap.size, 1, none⟩) (show s ≠ w.heap.size by have := HSS.out s e; omega) _)
      ((keep45_set q31 (by decide) 0 _).trans (keep45_set (q31.set_ 0 _) (by decide) 1 _))
  have rv1 : RowV ok W1 (.slice A' m' c', .bool b') R := by rw [← hW1]; exact rv2
  have B1 : Below w.heap.size w W1 := by rw [← hW1]; exact (B1.setCell (p := ⟨w.heap.size, 0, none⟩) (Nat.le_refl _) _).setCell (p := ⟨w.heap.size, 1, none⟩) (Nat.le_refl _) _
  have Z1 : w.heap.size + 2 ≤ W1.heap.size := by have := q4.lt; omega
  clear hW1 q31 q41 h1 rv2 rv x0 x1 x2 x3 y0 y1 y2 y3 bb Q3 Q4 B0
  obtain ⟨d0, d1, d2, d3, d4, f0, f1, f2, f3, f4⟩ := blk5 R1.blk
  obtain ⟨x0, x1, x2, x3⟩ := blk2 q3
  obtain ⟨y0, y1, y2, y3⟩ := blk2 q4
  have Q3 := hide q3
  have Q4 := hide q4
  have RV := hide rv1
  have B1 := hide B1
  clear q3 q4 rv1
  have hga : g ≠ W1.heap.size := by omega
  have hr0 : ((room : Int) == 0) = false := by simp; omega
  have RR := hide R1
  clear R1
  go_upto_region 8 with (fail)
  go_name_world W2 hW2
  obtain ⟨q6, hq6⟩ : ∃ q6, W1.heap.size = q6 := ⟨_, rfl⟩
  have q3 : Blk W2 w.heap.size 30 #[.slice A' m' c', .bool b'] := by rw [← hW2]; exact Q3.out.alloc _
  have q4 : Blk W2 (w.heap.size + 1) 30 #[.slice none 0 0, .bool false] := by rw [← hW2]; exact Q4.out.alloc _
  have q6b : Blk W2 q6 30 #[.slice none 0 0, .bool false] := by rw [← hW2, ← hq6]; exact Blk.new _ _ _
  have R2 : RingOf ok W2 g S L room gone len first rows := by rw [← hW2]; exact RR.out.below ((Below.refl _ _).alloc (Nat.le_refl _) _)
  have rv2 : RowV ok W2 (.slice A' m' c', .bool b') R := by rw [← hW2]; exact RV.out.keep (keep45_alloc _)
  have B2 : Below w.heap.size w W2 := by rw [← hW2]; exact B1.out.alloc B1.out.size _
  have Z2 : w.heap.size + 2 ≤ q6 := by omega
  rw [hq6]
  clear hW2 hq6 hga d0 d1 d2 d3 d4 f0 f1 f2 f3 f4 x0 x1 x2 x3 y0 y1 y2 y3 B1 RV RR Z1
  obtain ⟨d0, d1, d2, d3, d4, f0, f1, f2, f3, f4⟩ := blk5 R2.blk
  have hnr : ((L.length : Int) == room) = false := by simp; omega
  go_quiet (fail)
  go_upto_region 11 with (fail)
  go_name_world W4 hW4
  have q33 : Blk W4 w.heap.size 30 #[.slice A' m' c', .bool b'] := by rw [← hW4]; exact q3.drewN nq
  have q43 : Blk W4 (w.heap.size + 1) 30 #[.slice none 0 0, .bool false] := by rw [← hW4]; exact q4.drewN nq
  have q63 : Blk W4 q6 30 #[.slice none 0 0, .bool false] := by rw [← hW4]; exact q6b.drewN nq
  have R5 : RingOf ok W4 g S L room gone len first rows := by rw [← hW4]; exact R2.keep (fun _ k => k.drewN nq) (fun _ _ _ k => k.drewN nq) (keep45_drewN nq)
  have rv4 : RowV ok W4 (.slice A' m' c', .bool b') R := by rw [← hW4]; exact rv2.keep (keep45_drewN nq)
  have B4 : Below w.heap.size w W4 := by rw [← hW4]; exact below_drewN' B2 nq
  clear hW4 q3 q4 q6b R2 rv2 B2 d0 d1 d2 d3 d4 f0 f1 f2 f3 f4 hnr
  have q3 := q33
  have q4 := q43
  have q6b := q63
  have rv2 := rv4
  have rvo2 : RowV ok W4 (.slice none 0 0, .bool false) none := rfl
  have F5 : Frm (Own2 g S) w W4 := Frm.of_below B4 fun i h1 h2 => by omega
  have K5 : Keep45 ok w W4 := Keep45.below B4
  have hlt2 := hln
  clear q33 q43 q63 rv4
  have hSn : S ≠ none := fun e => by have := (R5.nil e).1; omega
  obtain ⟨s, rfl⟩ : ∃ s, S = some s := by cases S with
    | none => exact absurd rfl hSn
    | some s => exact ⟨s, rfl⟩
  have hsn : s < w.heap.size ∨ q6 < s := .inl (HSS.out s rfl)
  obtain ⟨d0, d1, d2, d3, d4, f0, f1, f2, f3, f4⟩ := blk5 R5.blk
  have hnl : ((L.length : Int) == len) = false := by simp; omega
  replace d0 : W4.cell? ⟨g, 0, none⟩ = some (.slice (some ⟨s, 0, none⟩) len len) := d0
  go_quiet (fail)
  clear d0 d1 d2 d3 d4 f0 f1 f2 f3 f4 hnl
  go_upto_region 13 with (fail)
  go_name_world W5 hW5
  have nq5 : True := trivial
  have q35 : Blk W5 w.heap.size 30 #[.slice A' m' c', .bool b'] := by rw [← hW5]; exact q3.drewN _
  have q45 : Blk W5 (w.heap.size + 1) 30 #[.slice none 0 0, .bool false] := by rw [← hW5]; exact q4.drewN _
  have q65 : Blk W5 q6 30 #[.slice none 0 0, .bool false] := by rw [← hW5]; exact q6b.drewN _
  have R6 : RingOf ok W5 g (some s) L room gone len first rows := by rw [← hW5]; exact R5.keep (fun _ k => k.drewN _) (fun _ _ _ k => k.drewN _) (keep45_drewN _)
  have rv5 : RowV ok W5 (.slice A' m' c', .bool b') R := by rw [← hW5]; exact rv2.keep (keep45_drewN _)
  have rvo5 : RowV ok W5 (.slice none 0 0, .bool false) none := by rw [← hW5]; exact rvo2.keep (keep45_drewN _)
  have F6 : Frm (Own2 g (some s)) w W5 := by rw [← hW5]; exact F5.drewN _
  have K6 : Keep45 ok w W5 := by rw [← hW5]; exact K5.trans (keep45_drewN _)
  clear hW5 q3 q4 q6b R5 rv2 rvo2 F5 K5
  have hB5 := R6.blk
  obtain ⟨hs5, hf5⟩ := R6.slots s rfl
  have hsg : s ≠ g := Blk.ne_ hs5 hB5 (by decide)
  obtain ⟨n, hn⟩ : ∃ n, L.length = n := ⟨_, rfl⟩
  rw [hn] at hB5 hlt2
  have hrl5 := R6.rlen
  have hlr5 := R6.ler
  obtain ⟨k, hk⟩ : ∃ k, ix len first n = k := ⟨_, rfl⟩
  have hkl : k < len := by rw [← hk]; exact ix_lt hf5 hlt2
  have SL := hide (fun (W : World) (hW : Blk W g 62 (ringC (some ⟨s, 0, none⟩) len room first n gone)) => show Calls Try.prog 28 #[.pointer (some ⟨g, 0, none⟩), .int .i64 n] W fun e w' => e = .returned (.int .i64 k) ∧ W = w' by
    have := slot_any (some ⟨s, 0, none⟩) len room first n gone n g W hW (by omega) (by omega) (by omega); rw [hk] at this; exact this)
  obtain ⟨p0, hp0⟩ : ∃ p0, (rows)[k]? = some p0 := ⟨_, List.getElem?_eq_getElem (by omega)⟩
  obtain ⟨c3, c4⟩ := flatP_at hp0
  have c3 : W5.cell? ⟨s, k * 2, none⟩ = some p0.1 := by rw [hs5.cell]; simpa using c3
  have c4 : W5.cell? ⟨s, k * 2 + 1, none⟩ = some p0.2 := by rw [hs5.cell]; simpa using c4
  have c5 := hs5.frozen (k * 2)
  have c6 := hs5.frozen (k * 2 + 1)
  obtain ⟨d0, d1, d2, d3, d4, f0, f1, f2, f3, f4⟩ := blk5 hB5
  replace d0 : W5.cell? ⟨g, 0, none⟩ = some (.slice (some ⟨s, 0, none⟩) len len) := d0
  obtain ⟨x0, x1, x2, x3⟩ := blk2 q35
  have HN := hide hn
  have HK := hide hk
  have HB := hide hB5
  have HS5 := hide hs5
  have R6 := hide R6
  have hgs : g ≠ s := Ne.symm hsg
  have hws : w.heap.size ≠ s := by omega
  have hsw : s ≠ w.heap.size := by omega
  have hws1 : w.heap.size + 1 ≠ s := by omega
  have hws6 : q6 ≠ s := by omega
  have hn9 : n ≤ 100000 := by omega
  have Q35 := hide q35
  have Q45 := hide q45
  have Q65 := hide q65
  have F6 := hide F6
  have K6 := hide K6
  clear hn hk hB5 hs5 hp0 q35 q45 q65
  go_region_held3 (fun W => W.cell? ⟨g, 0, none⟩ = some (.slice (some ⟨s, 0, none⟩) len len) ∧ W.cell? ⟨g, 3, none⟩ = some (.int .i64 n) ∧ W.cell? ⟨w.heap.size, 0, none⟩ = some (.slice A' m' c') ∧ W.cell? ⟨w.heap.size, 1, none⟩ = some (.bool b'))
    (first | (exact ⟨d0, d3, x0, x1⟩) | go_keep) ((go_at_call 28; (refine (SL.out _ HB.out.drew).mono ?_; rintro e w' ⟨rfl, rfl⟩)))
  go_upto_region 14 with (fail)
  go_name_world W6 hW6
  have b6 : Blk W6 g 62 (ringC (some ⟨s, 0, none⟩) len room first n gone) := by rw [← hW6]; exact (HB.out.drew.far (p := ⟨s, _, none⟩) hgs _).far (p := ⟨s, _, none⟩) hgs _
  have s6 : Blk W6 s 30 (flatP ((rows).set k (.slice A' m' c', .bool b'))).toArray := by rw [← hW6]; exact slots_set HS5.out.drew (by omega) _ _
  have q46 : Blk W6 (w.heap.size + 1) 30 #[.slice none 0 0, .bool false] := by rw [← hW6]; exact (Q45.out.drew.far (p := ⟨s, _, none⟩) hws1 _).far (p := ⟨s, _, none⟩) hws1 _
  have q66 : Blk W6 q6 30 #[.slice none 0 0, .bool false] := by rw [← hW6]; exact (Q65.out.drew.far (p := ⟨s, _, none⟩) hws6 _).far (p := ⟨s, _, none⟩) hws6 _
  have kk6 : Keep45 ok W5 W6 := by rw [← hW6]; exact (Keep45.trans (fun b cs _ h => h.drew) (keep45_set HS5.out.drew (by decide) _ _)).trans (keep45_set (HS5.out.drew.set_ _ _) (by decide) _ _)
  have F7 : Frm (Own2 g (some s)) w W6 := by rw [← hW6]; exact (F6.out.drew.setCell (p := ⟨s, _, none⟩) (fun _ => Or.inr rfl) _).setCell (p := ⟨s, _, none⟩) (fun _ => Or.inr rfl) _
  clear hW6 d0 d1 d2 d3 d4 f0 f1 f2 f3 f4 x0 x1 x2 x3 c3 c4 c5 c6
  obtain ⟨d0, d1, d2, d3, d4, f0, f1, f2, f3, f4⟩ := blk5 b6
  have B6 := hide b6
  have S6 := hide s6
  have Q46 := hide q46
  have Q66 := hide q66
  have KK6 := hide kk6
  have F7 := hide F7
  clear b6 s6 q46 q66 kk6
  go_upto_region 15 with (fail)
  go_name_world W7 hW7
  have b7 : Blk W7 g 62 (ringC (some ⟨s, 0, none⟩) len room first (n + 1) gone) := by rw [← hW7]; exact ring_n (m := n + 1) B6.out
  have s7 : Blk W7 s 30 (flatP ((rows).set k (.slice A' m' c', .bool b'))).toArray := by rw [← hW7]; exact S6.out.far (p := ⟨g, 3, none⟩) hsg _
  have q47 : Blk W7 (w.heap.size + 1) 30 #[.slice none 0 0, .bool false] := by rw [← hW7]; exact Q46.out.far (p := ⟨g, 3, none⟩) (show w.heap.size + 1 ≠ g by omega) _
  have q67 : Blk W7 q6 30 #[.slice none 0 0, .bool false] := by rw [← hW7]; exact Q66.out.far (p := ⟨g, 3, none⟩) (show q6 ≠ g by omega) _
  have kk7 : Keep45 ok W5 W7 := by rw [← hW7]; exact KK6.out.trans (keep45_set B6.out (by decide) 3 _)
  have F8 : Frm (Own2 g (some s)) w W7 := by rw [← hW7]; exact F7.out.setCell (p := ⟨g, 3, none⟩) (fun _ => Or.inl rfl) _
  clear hW7 d0 d1 d2 d3 d4 f0 f1 f2 f3 f4
  obtain ⟨x0, x1, x2, x3⟩ := blk2 q47
  obtain ⟨y0, y1, y2, y3⟩ := blk2 q67
  have B7 := hide b7
  have S7 := hide s7
  have Q47 := hide q47
  have KK7 := hide kk7
  have F8 := hide F8
  clear b7 s7 q47 q67 kk7
  go_wp2
  have q5 := (Q47.out.set_ 0 (.slice none 0 0)).set_ 1 (.bool false)
  obtain ⟨r0, r1, _⟩ := blk2 (a := .slice none 0 0) (b := .bool false) (by simpa using q5)
  refine bodyPost_ret (v := .tuple #[.agg #[.slice none 0 0, .bool false], .bool false]) (by simp [results, Try.results10, go_sem, r0, r1]) rfl ?_
  have K8 := KK7.out.trans ((keep45_set (ok := ok) Q47.out (by decide) 0 (.slice none 0 0)).trans (keep45_set (Q47.out.set_ 0 (.slice none 0 0)) (by decide) 1 (.bool false)))
  have hg1 : g ≠ w.heap.size + 1 := by omega
  refine ⟨_, _, some s, rfl, rvo5.keep K8, ⟨len, first, (rows).set k (.slice A' m' c', .bool b'), ?_⟩, .inl rfl,
    (F8.out.setCell (p := ⟨w.heap.size + 1, 0, none⟩) (fun h => absurd h (show ¬ w.heap.size + 1 < w.heap.size by omega)) _).setCell (p := ⟨w.heap.size + 1, 1, none⟩) (fun h => absurd h (show ¬ w.heap.size + 1 < w.heap.size by omega)) _, K6.out.trans K8⟩
  refine ⟨?_, by rw [List.length_set]; exact hrl5, by rw [List.length_append, List.length_singleton, HN.out]; omega, hlr5, hrl, (fun e => by cases e), fun s' e => ?_, fun i T hT => ?_⟩
  · rw [List.length_append, List.length_singleton, HN.out]
    exact (B7.out.far (p := ⟨w.heap.size + 1, 0, none⟩) hg1 _).far (p := ⟨w.heap.size + 1, 1, none⟩) hg1 _
  · injection e with e
    subst e
    exact ⟨(S7.out.far (p := ⟨w.heap.size + 1, 0, none⟩) (Ne.symm hws1) _).far (p := ⟨w.heap.size + 1, 1, none⟩) (Ne.symm hws1) _, hf5⟩
  · have hi := (List.getElem?_eq_some_iff.1 hT).1
    rw [List.length_append, List.length_singleton, HN.out] at hi
    by_cases e : i = n
    · subst e
      rw [List.getElem?_append_right (by rw [HN.out]; exact Nat.le_refl _), HN.out, Nat.sub_self] at hT
      simp at hT
      subst hT
      rw [HK.out]
      exact ⟨_, List.getElem?_set_self (by omega), rv5.keep K8⟩
    · rw [List.getElem?_append_left (by rw [HN.out]; omega)] at hT
      obtain ⟨p, p1, p2⟩ := R6.out.rows i T hT
      refine ⟨p, ?_, p2.keep K8⟩
      rw [List.getElem?_set_ne]
      · exact p1
      · rw [← HK.out]
        intro e2
        exact e (ix_inj hf5 (by omega) hlt2 e2.symm)

set_option maxHeartbeats 4000000 in
theorem push_grow (ok ok0 : Nat → Prop) (g : Nat) (S : Option Nat) (L : List Row) (room gone len first : Nat) (rows : List (Value × Value)) (v1 v2 : Value) (R : Row) (w : World) (h : RingOf ok w g S L room gone len first rows) (hv : RowV ok0 w (v1, v2) R) (hok : ∀ b, w.heap.size ≤ b → ok b) (hgn : gone ≤ 1000000000) (hz : L.length < room) (hln : L.length = len):
    Calls Try.prog 10 #[.pointer (some ⟨g, 0, none⟩), .agg #[v1, v2]] w (PushPost ok g S (L ++ [R]) room gone none false w) := by
  obtain ⟨A, m, c, b, rfl, rfl⟩ := row_form hv
  have hle := h.le
  have hlr := h.ler
  have hrl := h.roomle
  have hgl := h.lt
  have hss : ∀ s, S = some s → s < w.heap.size := fun s e => (h.slots s e).1.lt
  have OW := hide (fun (W : World) (hW : Below w.heap.size w W) => own_any ok0 ok _ _ R W (hv.keep (Keep45.below hW)) (fun b hb => hok b (Nat.le_trans hW.size hb)))
  have H := hide h
  have HSS := hide hss
  clear h hv hss
  go_enter Try.func10, Try.ntmps10
  go_upto_region 3 with (fail)
  go_name_world W0 hW0
  have B0 : Below w.heap.size w W0 := by rw [← hW0]; exact ((Below.refl _ _).alloc (Nat.le_refl _) _).alloc (by simp) _
  have q3 : Blk W0 w.heap.size 30 #[.slice A m c, .bool b] := by rw [← hW0]; exact (Blk.new _ _ _).alloc _
  have q4 : Blk W0 (w.heap.size + 1) 30 #[.slice none 0 0, .bool false] := by rw [← hW0]; exact Blk.new' (by simp) 30 _
  clear hW0
  obtain ⟨x0, x1, x2, x3⟩ := blk2 q3
  have Q3 := hide q3
  have Q4 := hide q4
  have B0 := hide B0
  clear q3 q4
  go_upto_region 4 with (go_at_call 25; go_must (refine (OW.out _ B0.out).mono ?_; rintro e w1 ⟨u1, u2, rfl, rv, bb⟩; obtain ⟨A', m', c', b', rfl, rfl⟩ := row_form rv; obtain ⟨y0, y1, y2, y3⟩ := blk2 (Q3.out.below bb Q3.out.lt)))
  have q31 := Q3.out.below bb Q3.out.lt
  have q41 := Q4.out.below bb Q4.out.lt
  have B1 := below_in B0.out bb (Nat.le_refl _)
  have h1 := H.out.below B1
  have hqg : w.heap.size ≠ g := by omega
  have rv2 := (rv.keep (keep45_set (ok := ok) q31 (by decide) 0 (.slice A' m' c'))).keep (keep45_set (q31.set_ 0 (.slice A' m' c')) (by decide) 1 (.bool b'))
  go_name_world W1 hW1
  have q3 : Blk W1 w.heap.size 30 #[.slice A' m' c', .bool b'] := by rw [← hW1]; exact (q31.set_ 0 _).set_ 1 _
  have q4 : Blk W1 (w.heap.size + 1) 30 #[.slice none 0 0, .bool false] := by rw [← hW1]; exact (q41.far (p := ⟨w.heap.size, 0, none⟩) (show w.heap.size + 1 ≠ w.heap.size by omega) _).far (p := ⟨w.heap.size, 1, none⟩) (show w.heap.size + 1 ≠ w.heap.size by omega) _
  have R1 : RingOf ok W1 g S L room gone len first rows := by
    rw [← hW1]
    exact h1.keep (fun cs k => (k.far (p := ⟨w.heap.size, 0, none⟩) (Ne.symm hqg) _).far (p := ⟨w.heap.size, 1, none⟩) (Ne.symm hqg) _)
      (fun s cs e k => (k.far (p := ⟨w.heap.size, 0, none⟩) (show s ≠ w.heap.size by have := HSS.out s e; omega) _).far (p := ⟨w.heap.size, 1, none⟩) (show s ≠ w.heap.size by have := HSS.out s e; omega) _)
      ((keep45_set q31 (by decide) 0 _).trans (keep45_set (q31.set_ 0 _) (by decide) 1 _))
  have rv1 : RowV ok W1 (.slice A' m' c', .bool b') R := by rw [← hW1]; exact rv2
  have B1 : Below w.heap.size w W1 := by rw [← hW1]; exact (B1.setCell (p := ⟨w.heap.size, 0, none⟩) (Nat.le_refl _) _).setCell (p := ⟨w.heap.size, 1, none⟩) (Nat.le_refl _) _
  have Z1 : w.heap.size + 2 ≤ W1.heap.size := by have := q4.lt; omega
  clear hW1 q31 q41 h1 rv2 rv x0 x1 x2 x3 y0 y1 y2 y3 bb Q3 Q4 B0
  obtain ⟨d0, d1, d2, d3, d4, f0, f1, f2, f3, f4⟩ := blk5 R1.blk
  obtain ⟨x0, x1, x2, x3⟩ := blk2 q3
  obtain ⟨y0, y1, y2, y3⟩ := blk2 q4
  have Q3 := hide q3
  have Q4 := hide q4
  have RV := hide rv1
  have B1 := hide B1
  clear q3 q4 rv1
  have hga : g ≠ W1.heap.size := by omega
  have hr0 : ((room : Int) == 0) = false := by simp; omega
  have RR := hide R1
  clear R1
  go_upto_region 8 with (fail)
  go_name_world W2 hW2
  obtain ⟨q6, hq6⟩ : ∃ q6, W1.heap.size = q6 := ⟨_, rfl⟩
  have q3 : Blk W2 w.heap.size 30 #[.slice A' m' c', .bool b'] := by rw [← hW2]; exact Q3.out.alloc _
  have q4 : Blk W2 (w.heap.size + 1) 30 #[.slice none 0 0, .bool false] := by rw [← hW2]; exact Q4.out.alloc _
  have q6b : Blk W2 q6 30 #[.slice none 0 0, .bool false] := by rw [← hW2, ← hq6]; exact Blk.new _ _ _
  have R2 : RingOf ok W2 g S L room gone len first rows := by rw [← hW2]; exact RR.out.below ((Below.refl _ _).alloc (Nat.le_refl _) _)
  have rv2 : RowV ok W2 (.slice A' m' c', .bool b') R := by rw [← hW2]; exact RV.out.keep (keep45_alloc _)
  have B2 : Below w.heap.size w W2 := by rw [← hW2]; exact B1.out.alloc B1.out.size _
  have Z2 : w.heap.size + 2 ≤ q6 := by omega
  rw [hq6]
  clear hW2 hq6 hga d0 d1 d2 d3 d4 f0 f1 f2 f3 f4 x0 x1 x2 x3 y0 y1 y2 y3 B1 RV RR Z1
  obtain ⟨d0, d1, d2, d3, d4, f0, f1, f2, f3, f4⟩ := blk5 R2.blk
  have hnr : ((L.length : Int) == room) = false := by simp; omega
  go_quiet (fail)
  go_upto_region 11 with (fail)
  go_name_world W3 hW3
  have q33 : Blk W3 w.heap.size 30 #[.slice A' m' c', .bool b'] := by rw [← hW3]; exact q3.drewN nq
  have q43 : Blk W3 (w.heap.size + 1) 30 #[.slice none 0 0, .bool false] := by rw [← hW3]; exact q4.drewN nq
  have q63 : Blk W3 q6 30 #[.slice none 0 0, .bool false] := by rw [← hW3]; exact q6b.drewN nq
  have R3 : RingOf ok W3 g S L room gone len first rows := by rw [← hW3]; exact R2.keep (fun _ k => k.drewN nq) (fun _ _ _ k => k.drewN nq) (keep45_drewN nq)
  have rv3 : RowV ok W3 (.slice A' m' c', .bool b') R := by rw [← hW3]; exact rv2.keep (keep45_drewN nq)
  have B3 : Below w.heap.size w W3 := by rw [← hW3]; exact below_drewN' B2 nq
  clear hW3 q3 q4 q6b R2 rv2 B2 d0 d1 d2 d3 d4 f0 f1 f2 f3 f4 hnr
  obtain ⟨d0, d1, d2, d3, d4, f0, f1, f2, f3, f4⟩ := blk5 R3.blk
  have hnl : ((L.length : Int) == len) = true := by simp [hln]
  have R3 := hide R3
  go_quiet (fail)
  clear d0 d1 d2 d3 d4 f0 f1 f2 f3 f4 hnl
  go_upto_region 12 with (fail)
  go_name_world W4 hW4
  have q3 : Blk W4 w.heap.size 30 #[.slice A' m' c', .bool b'] := by rw [← hW4]; exact q33.drewN _
  have q4 : Blk W4 (w.heap.size + 1) 30 #[.slice none 0 0, .bool false] := by rw [← hW4]; exact q43.drewN _
  have q6b : Blk W4 q6 30 #[.slice none 0 0, .bool false] := by rw [← hW4]; exact q63.drewN _
  have R4 : RingOf ok W4 g S L room gone len first rows := by rw [← hW4]; exact R3.out.keep (fun _ k => k.drewN _) (fun _ _ _ k => k.drewN _) (keep45_drewN _)
  have rv4 : RowV ok W4 (.slice A' m' c', .bool b') R := by rw [← hW4]; exact rv3.keep (keep45_drewN _)
  have B4 : Below w.heap.size w W4 := by rw [← hW4]; exact below_drewN' B3 _
  clear hW4 q33 q43 q63 R3 rv3 B3
  have GR := hide (grow_in ok g S L room gone len first rows W4 R4 hln (by omega))
  have hz6 : q6 < W4.heap.size := q6b.lt
  have hzw : w.heap.size ≤ W4.heap.size := B4.size
  have HS0 := hide HSS.out
  have Q3 := hide q3
  have Q4 := hide q4
  have Q6 := hide q6b
  have RV4 := hide rv4
  have B4 := hide B4
  clear q3 q4 q6b R4 rv4
  obtain ⟨S0, hS0⟩ : ∃ S0, S = S0 := ⟨_, rfl⟩
  go_upto_region 13 with (go_at_call 27; go_must (refine GR.out.mono ?_; rintro e w5 ⟨rfl, sz, rs, R5, hlt2, FG, KG⟩; have R5 := hide R5; have FG := hide FG; have KG := hide KG))
  go_name_world W5' hW5'
  subst hW5'
  have q3 := Q3.out.frm FG.out (show ¬ w.heap.size = g by omega)
  have q4 := Q4.out.frm FG.out (show ¬ w.heap.size + 1 = g by omega)
  have q6b := Q6.out.frm FG.out (show ¬ q6 = g by omega)
  have rv2 := RV4.out.keep KG.out
  have rvo2 : RowV ok w5 (.slice none 0 0, .bool false) none := rfl
  have F5 : Frm (Own2 g S) w w5 := (Frm.of_below B4.out fun i h1 h2 => by omega).trans FG.out fun i hi h => Or.inl h
  have K5 : Keep45 ok w w5 := (Keep45.below B4.out).trans KG.out
  obtain ⟨s, hs⟩ : ∃ s, W4.heap.size = s := ⟨_, rfl⟩
  have R5 := R5.out
  rw [hs] at R5 hz6 hzw
  have hsn : s < w.heap.size ∨ q6 < s := .inr hz6
  go_name_world W5 hW5
  have nq5 : True := trivial
  have q35 : Blk W5 w.heap.size 30 #[.slice A' m' c', .bool b'] := by rw [← hW5]; exact q3
  have q45 : Blk W5 (w.heap.size + 1) 30 #[.slice none 0 0, .bool false] := by rw [← hW5]; exact q4
  have q65 : Blk W5 q6 30 #[.slice none 0 0, .bool false] := by rw [← hW5]; exact q6b
  have R6 : RingOf ok W5 g (some s) L room gone sz 0 rs := by rw [← hW5]; exact R5
  have rv5 : RowV ok W5 (.slice A' m' c', .bool b') R := by rw [← hW5]; exact rv2
  have rvo5 : RowV ok W5 (.slice none 0 0, .bool false) none := by rw [← hW5]; exact rvo2
  have F6 : Frm (Own2 g S) w W5 := by rw [← hW5]; exact F5
  have K6 : Keep45 ok w W5 := by rw [← hW5]; exact K5
  clear hW5 q3 q4 q6b R5 rv2 rvo2 F5 K5
  have hB5 := R6.blk
  obtain ⟨hs5, hf5⟩ := R6.slots s rfl
  have hsg : s ≠ g := Blk.ne_ hs5 hB5 (by decide)
  obtain ⟨n, hn⟩ : ∃ n, L.length = n := ⟨_, rfl⟩
  rw [hn] at hB5 hlt2
  have hrl5 := R6.rlen
  have hlr5 := R6.ler
  obtain ⟨k, hk⟩ : ∃ k, ix sz 0 n = k := ⟨_, rfl⟩
  have hkl : k < sz := by rw [← hk]; exact ix_lt hf5 hlt2
  have SL := hide (fun (W : World) (hW : Blk W g 62 (ringC (some ⟨s, 0, none⟩) sz room 0 n gone)) => show Calls Try.prog 28 #[.pointer (some ⟨g, 0, none⟩), .int .i64 n] W fun e w' => e = .returned (.int .i64 k) ∧ W = w' by
    have := slot_any (some ⟨s, 0, none⟩) sz room 0 n gone n g W hW (by omega) (by omega) (by omega); rw [hk] at this; exact this)
  obtain ⟨p0, hp0⟩ : ∃ p0, (rs)[k]? = some p0 := ⟨_, List.getElem?_eq_getElem (by omega)⟩
  obtain ⟨c3, c4⟩ := flatP_at hp0
  have c3 : W5.cell? ⟨s, k * 2, none⟩ = some p0.1 := by rw [hs5.cell]; simpa using c3
  have c4 : W5.cell? ⟨s, k * 2 + 1, none⟩ = some p0.2 := by rw [hs5.cell]; simpa using c4
  have c5 := hs5.frozen (k * 2)
  have c6 := hs5.frozen (k * 2 + 1)
  obtain ⟨d0, d1, d2, d3, d4, f0, f1, f2, f3, f4⟩ := blk5 hB5
  replace d0 : W5.cell? ⟨g, 0, none⟩ = some (.slice (some ⟨s, 0, none⟩) sz sz) := d0
  obtain ⟨x0, x1, x2, x3⟩ := blk2 q35
  have HN := hide hn
  have HK := hide hk
  have HB := hide hB5
  have HS5 := hide hs5
  have R6 := hide R6
  have hgs : g ≠ s := Ne.symm hsg
  have hws : w.heap.size ≠ s := by omega
  have hsw : s ≠ w.heap.size := by omega
  have hws1 : w.heap.size + 1 ≠ s := by omega
  have hws6 : q6 ≠ s := by omega
  have hn9 : n ≤ 100000 := by omega
  have Q35 := hide q35
  have Q45 := hide q45
  have Q65 := hide q65
  have F6 := hide F6
  have K6 := hide K6
  clear hn hk hB5 hs5 hp0 q35 q45 q65
  go_region_held3 (fun W => W.cell? ⟨g, 0, none⟩ = some (.slice (some ⟨s, 0, none⟩) sz sz) ∧ W.cell? ⟨g, 3, none⟩ = some (.int .i64 n) ∧ W.cell? ⟨w.heap.size, 0, none⟩ = some (.slice A' m' c') ∧ W.cell? ⟨w.heap.size, 1, none⟩ = some (.bool b'))
    (first | (exact ⟨d0, d3, x0, x1⟩) | go_keep) ((go_at_call 28; (refine (SL.out _ HB.out.drew).mono ?_; rintro e w' ⟨rfl, rfl⟩)))
  go_upto_region 14 with (fail)
  go_name_world W6 hW6
  have b6 : Blk W6 g 62 (ringC (some ⟨s, 0, none⟩) sz room 0 n gone) := by rw [← hW6]; exact (HB.out.drew.far (p := ⟨s, _, none⟩) hgs _).far (p := ⟨s, _, none⟩) hgs _
  have s6 : Blk W6 s 30 (flatP ((rs).set k (.slice A' m' c', .bool b'))).toArray := by rw [← hW6]; exact slots_set HS5.out.drew (by omega) _ _
  have q46 : Blk W6 (w.heap.size + 1) 30 #[.slice none 0 0, .bool false] := by rw [← hW6]; exact (Q45.out.drew.far (p := ⟨s, _, none⟩) hws1 _).far (p := ⟨s, _, none⟩) hws1 _
  have q66 : Blk W6 q6 30 #[.slice none 0 0, .bool false] := by rw [← hW6]; exact (Q65.out.drew.far (p := ⟨s, _, none⟩) hws6 _).far (p := ⟨s, _, none⟩) hws6 _
  have kk6 : Keep45 ok W5 W6 := by rw [← hW6]; exact (Keep45.trans (fun b cs _ h => h.drew) (keep45_set HS5.out.drew (by decide) _ _)).trans (keep45_set (HS5.out.drew.set_ _ _) (by decide) _ _)
  have F7 : Frm (Own2 g S) w W6 := by rw [← hW6]; exact (F6.out.drew.setCell (p := ⟨s, _, none⟩) (fun h => absurd h (show ¬ s < w.heap.size by omega)) _).setCell (p := ⟨s, _, none⟩) (fun h => absurd h (show ¬ s < w.heap.size by omega)) _
  clear hW6 d0 d1 d2 d3 d4 f0 f1 f2 f3 f4 x0 x1 x2 x3 c3 c4 c5 c6
  obtain ⟨d0, d1, d2, d3, d4, f0, f1, f2, f3, f4⟩ := blk5 b6
  have B6 := hide b6
  have S6 := hide s6
  have Q46 := hide q46
  have Q66 := hide q66
  have KK6 := hide kk6
  have F7 := hide F7
  clear b6 s6 q46 q66 kk6
  go_upto_region 15 with (fail)
  go_name_world W7 hW7
  have b7 : Blk W7 g 62 (ringC (some ⟨s, 0, none⟩) sz room 0 (n + 1) gone) := by rw [← hW7]; exact ring_n (m := n + 1) B6.out
  have s7 : Blk W7 s 30 (flatP ((rs).set k (.slice A' m' c', .bool b'))).toArray := by rw [← hW7]; exact S6.out.far (p := ⟨g, 3, none⟩) hsg _
  have q47 : Blk W7 (w.heap.size + 1) 30 #[.slice none 0 0, .bool false] := by rw [← hW7]; exact Q46.out.far (p := ⟨g, 3, none⟩) (show w.heap.size + 1 ≠ g by omega) _
  have q67 : Blk W7 q6 30 #[.slice none 0 0, .bool false] := by rw [← hW7]; exact Q66.out.far (p := ⟨g, 3, none⟩) (show q6 ≠ g by omega) _
  have kk7 : Keep45 ok W5 W7 := by rw [← hW7]; exact KK6.out.trans (keep45_set B6.out (by decide) 3 _)
  have F8 : Frm (Own2 g S) w W7 := by rw [← hW7]; exact F7.out.setCell (p := ⟨g, 3, none⟩) (fun _ => Or.inl rfl) _
  clear hW7 d0 d1 d2 d3 d4 f0 f1 f2 f3 f4
  obtain ⟨x0, x1, x2, x3⟩ := blk2 q47
  obtain ⟨y0, y1, y2, y3⟩ := blk2 q67
  have B7 := hide b7
  have S7 := hide s7
  have Q47 := hide q47
  have KK7 := hide kk7
  have F8 := hide F8
  clear b7 s7 q47 q67 kk7
  go_wp2
  have q5 := (Q47.out.set_ 0 (.slice none 0 0)).set_ 1 (.bool false)
  obtain ⟨r0, r1, _⟩ := blk2 (a := .slice none 0 0) (b := .bool false) (by simpa using q5)
  refine bodyPost_ret (v := .tuple #[.agg #[.slice none 0 0, .bool false], .bool false]) (by simp [results, Try.results10, go_sem, r0, r1]) rfl ?_
  have K8 := KK7.out.trans ((keep45_set (ok := ok) Q47.out (by decide) 0 (.slice none 0 0)).trans (keep45_set (Q47.out.set_ 0 (.slice none 0 0)) (by decide) 1 (.bool false)))
  have hg1 : g ≠ w.heap.size + 1 := by omega
  refine ⟨_, _, some s, rfl, rvo5.keep K8, ⟨sz, 0, (rs).set k (.slice A' m' c', .bool b'), ?_⟩, .inr ⟨s, hzw, rfl⟩,
    (F8.out.setCell (p := ⟨w.heap.size + 1, 0, none⟩) (fun h => absurd h (show ¬ w.heap.size + 1 < w.heap.size by omega)) _).setCell (p := ⟨w.heap.size + 1, 1, none⟩) (fun h => absurd h (show ¬ w.heap.size + 1 < w.heap.size by omega)) _, K6.out.trans K8⟩
  refine ⟨?_, by rw [List.length_set]; exact hrl5, by rw [List.length_append, List.length_singleton, HN.out]; omega, hlr5, hrl, (fun e => by cases e), fun s' e => ?_, fun i T hT => ?_⟩
  · rw [List.length_append, List.length_singleton, HN.out]
    exact (B7.out.far (p := ⟨w.heap.size + 1, 0, none⟩) hg1 _).far (p := ⟨w.heap.size + 1, 1, none⟩) hg1 _
  · injection e with e
    subst e
    exact ⟨(S7.out.far (p := ⟨w.heap.size + 1, 0, none⟩) (Ne.symm hws1) _).far (p := ⟨w.heap.size + 1, 1, none⟩) (Ne.symm hws1) _, hf5⟩
  · have hi := (List.getElem?_eq_some_iff.1 hT).1
    rw [List.length_append, List.length_singleton, HN.out] at hi
    by_cases e : i = n
    · subst e
      rw [List.getElem?_append_right (by rw [HN.out]; exact Nat.le_refl _), HN.out, Nat.sub_self] at hT
      simp at hT
      subst hT
      rw [HK.out]
      exact ⟨_, List.getElem?_set_self (by omega), rv5.keep K8⟩
    · rw [List.getElem?_append_left (by rw [HN.out]; omega)] at hT
      obtain ⟨p, p1, p2⟩ := R6.out.rows i T hT
      refine ⟨p, ?_, p2.keep K8⟩
      rw [List.getElem?_set_ne]
      · exact p1
      · rw [← HK.out]
        intro e2
        exact e (ix_inj hf5 (by omega) hlt2 e2.symm)
end Go.Proofs.Ytailflbhcmgnpaa
