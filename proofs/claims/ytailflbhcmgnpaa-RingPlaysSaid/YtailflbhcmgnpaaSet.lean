/-
  Push of any ring; the walks of Set and Clear. No condition but bounds.
-/
import Derived.Test.YtailflbhcmgnpaaPush
namespace Go.Proofs.Ytailflbhcmgnpaa
open Go.RowKit Go.Proofs
set_option linter.unusedVariables false
/-- What is held behind a row that came, in so much room; what goes. -/
def pL (room : Nat) (L : List Row) (R : Row) : List Row := if L.length < room then L ++ [R] else (L ++ [R]).tail
def pO (room : Nat) (L : List Row) (R : Row) : Row := if L.length < room then none else (L ++ [R]).headD none
def pB (room : Nat) (L : List Row) : Bool := decide (room ≤ L.length)
def pG (room : Nat) (L : List Row) (gone : Nat) : Nat := if L.length < room then gone else gone + 1
theorem pL_len {room : Nat} {L : List Row} (R : Row) (h : L.length ≤ room) : (pL room L R).length ≤ room := by
  unfold pL
  split
  · simp; omega
  · simp; omega
theorem push_any (ok ok0 : Nat → Prop) (g : Nat) (S : Option Nat) (L : List Row) (room gone : Nat) (v1 v2 : Value) (R : Row) (w : World) (h : RingAt ok w g S L room gone) (hv : RowV ok0 w (v1, v2) R) (hok : ∀ b, w.heap.size ≤ b → ok b) (hgn : gone ≤ 1000000000) :
    Calls Try.prog 10 #[.pointer (some ⟨g, 0, none⟩), .agg #[v1, v2]] w (PushPost ok g S (pL room L R) room (pG room L gone) (pO room L R) (pB room L) w) := by
  obtain ⟨len, first, rows, h⟩ := h
  have hle := h.le
  have hlr := h.ler
  by_cases h1 : L.length < room
  · have e1 : pL room L R = L ++ [R] := by unfold pL; rw [if_pos h1]
    have e2 : pG room L gone = gone := by unfold pG; rw [if_pos h1]
    have e3 : pO room L R = none := by unfold pO; rw [if_pos h1]
    have e4 : pB room L = false := by unfold pB; simp; omega
    rw [e1, e2, e3, e4]
    by_cases h2 : L.length < len
    · exact push_more ok ok0 g S L room gone len first rows v1 v2 R w h hv hok hgn h1 h2
    · exact push_grow ok ok0 g S L room gone len first rows v1 v2 R w h hv hok hgn h1 (by omega)
  · have e2 : pG room L gone = gone + 1 := by unfold pG; rw [if_neg h1]
    have e4 : pB room L = true := by unfold pB; simp; omega
    rw [e2, e4]
    cases L with
    | nil =>
      have hr : room = 0 := by simp at h1; omega
      have e1 : pL room [] R = [] := by unfold pL; rw [if_neg h1]; rfl
      have e3 : pO room [] R = R := by unfold pO; rw [if_neg h1]; rfl
      rw [e1, e3]
      exact push_zero ok ok0 g S [] room gone len first rows v1 v2 R w h hv hok hgn hr
    | cons R0 L =>
      have e1 : pL room (R0 :: L) R = L ++ [R] := by unfold pL; rw [if_neg h1]; rfl
      have e3 : pO room (R0 :: L) R = R0 := by unfold pO; rw [if_neg h1]; rfl
      rw [e1, e3]
      simp only [List.length_cons] at h1 hle
      exact push_full ok ok0 g S L R0 room gone len first rows v1 v2 R w h hv hok hgn (by omega)
theorem set_out (ok ok0 : Nat → Prop) (g : Nat) (S : Option Nat) (L : List Row) (room gone len first : Nat) (i : Int) (rows : List (Value × Value)) (v1 v2 : Value) (R : Row) (w : World) (h : RingOf ok w g S L room gone len first rows) (hv : RowV ok0 w (v1, v2) R) (hi : i < 0 ∨ (L.length : Int) ≤ i) :
    Calls Try.prog 24 #[.pointer (some ⟨g, 0, none⟩), .int .i64 i, .agg #[v1, v2]] w fun e w' => e = .returned (.bool false) ∧ Below w.heap.size w w' := by
  obtain ⟨A, m, c, b, rfl, rfl⟩ := row_form hv
  have hw1 : Below w.heap.size w (w.alloc (.cells #[.slice A m c, .bool b] 30)) := (Below.refl _ _).alloc (Nat.le_refl _) _
  have LN := hide (len_any (slotsA S) len room first L.length gone g _ (h.blk.below hw1 h.lt))
  have HW1 := hide hw1
  by_cases h0 : i < 0
  · clear h hv
    go_enter Try.func24, Try.ntmps24
    go_wp2
    go_ret
    exact ⟨rfl, HW1.out⟩
  · have h1 : (L.length : Int) ≤ i := by omega
    have d : decide (i < 0) = false := by simp; omega
    clear h hv
    go_enter Try.func24, Try.ntmps24
    go_wp2_with (go_at_call 13; go_must (refine LN.out.mono ?_; rintro e w' ⟨rfl, rfl⟩))
    go_ret
    exact ⟨rfl, HW1.out⟩
theorem set_none (ok0 : Nat → Prop) (i : Int) (v1 v2 : Value) (R : Row) (w : World) (hv : RowV ok0 w (v1, v2) R) :
    Calls Try.prog 24 #[.pointer none, .int .i64 i, .agg #[v1, v2]] w fun e w' => e = .returned (.bool false) ∧ Below w.heap.size w w' := by
  obtain ⟨A, m, c, b, rfl, rfl⟩ := row_form hv
  have hw1 : Below w.heap.size w (w.alloc (.cells #[.slice A m c, .bool b] 30)) := (Below.refl _ _).alloc (Nat.le_refl _) _
  have LN := hide len_none
  have HW1 := hide hw1
  clear hv
  by_cases h0 : i < 0
  · go_enter Try.func24, Try.ntmps24
    go_wp2
    go_ret
    exact ⟨rfl, HW1.out⟩
  · have d : decide (i < 0) = false := by simp; omega
    have d1 : decide (0 ≤ i) = true := by simp; omega
    go_enter Try.func24, Try.ntmps24
    go_wp2_with (go_at_call 13; go_must (refine (LN.out _).mono ?_; rintro e w' ⟨rfl, rfl⟩))
    go_ret
    exact ⟨rfl, HW1.out⟩
/-- The ring behind a call that turns it alone, and a number or a Boolean is handed back. -/
def RingEnd (ok : Nat → Prop) (g : Nat) (S S' : Option Nat) (L : List Row) (room gone : Nat) (v : Value) (w : World) (e : Ending) (w' : World) : Prop :=
  e = .returned v ∧ RingAt ok w' g S' L room gone ∧ Frm (Own2 g S) w w' ∧ Keep45 ok w w'
set_option maxHeartbeats 4000000 in
theorem set_in (ok ok0 : Nat → Prop) (g : Nat) (S : Option Nat) (L : List Row) (room gone len first i : Nat) (rows : List (Value × Value)) (v1 v2 : Value) (R : Row) (w : World) (h : RingOf ok w g S L room gone len first rows) (hv : RowV ok0 w (v1, v2) R) (hi : i < L.length) (hok : ∀ b, w.heap.size ≤ b → ok b) :
    Calls Try.prog 24 #[.pointer (some ⟨g, 0, none⟩), .int .i64 i, .agg #[v1, v2]] w (RingEnd ok g S S (L.set i R) room gone (.bool true) w) := by
  obtain ⟨A, m, c, b, rfl, rfl⟩ := row_form hv
  obtain ⟨s, p, rfl, hsg, hfl, hix, hp, hvp, hs, c1, c2, g1, g2⟩ := h.cells (List.getElem?_eq_getElem hi)
  have hle := h.le
  have hlr := h.ler
  have hrl := h.roomle
  have hgl := h.lt
  have hsl := hs.lt
  have hw1 : Below w.heap.size w (w.alloc (.cells #[.slice A m c, .bool b] 30)) := (Below.refl _ _).alloc (Nat.le_refl _) _
  obtain ⟨n, hn⟩ : ∃ n, L.length = n := ⟨_, rfl⟩
  obtain ⟨k, hk⟩ : ∃ k, ix len first i = k := ⟨_, rfl⟩
  have hB := h.blk
  rw [hn] at hB hle hi
  rw [hk] at c1 c2 g1 g2 hix hp
  have LN := hide (len_any (slotsA (some s)) len room first n gone g _ (hB.below hw1 hgl))
  have SL := hide (fun (W : World) (hW : Blk W g 62 (ringC (some ⟨s, 0, none⟩) len room first n gone)) => show Calls Try.prog 28 #[.pointer (some ⟨g, 0, none⟩), .int .i64 i] W fun e w' => e = .returned (.int .i64 k) ∧ W = w' by
    have := slot_any (some ⟨s, 0, none⟩) len room first n gone i g W hW (by omega) (by omega) (by omega); rw [hk] at this; exact this)
  have OW := hide (fun (W : World) (hW : Below w.heap.size w W) => own_any ok0 ok _ _ R W (hv.keep (Keep45.below hW)) (fun b hb => hok b (Nat.le_trans hW.size hb)))
  have H := hide h
  have HN := hide hn
  have HK := hide hk
  have dn : decide (n ≤ i) = false := by simp; omega
  have dn2 : decide ((n : Int) ≤ i) = false := by simp; omega
  have hrlen := h.rlen
  clear h hv hn hk hp hvp c1 c2 g1 g2
  go_enter Try.func24, Try.ntmps24
  go_upto_region 3 with (go_at_call 13; go_must (refine LN.out.mono ?_; rintro e w' ⟨rfl, rfl⟩))
  go_name_world W0 hW0
  have b0 : Blk W0 g 62 (ringC (some ⟨s, 0, none⟩) len room first n gone) := by rw [← hW0]; exact hB.alloc _
  have s0 : Blk W0 s 30 (flatP rows).toArray := by rw [← hW0]; exact hs.alloc _
  have q0 : Blk W0 w.heap.size 30 #[.slice A m c, .bool b] := by rw [← hW0]; exact Blk.new _ _ _
  have B0 : Below w.heap.size w W0 := by rw [← hW0]; exact hw1
  clear hW0 hB hs hw1
  obtain ⟨d0, d1, d2, d3, d4, f0, f1, f2, f3, f4⟩ := blk5 b0
  replace d0 : W0.cell? ⟨g, 0, none⟩ = some (.slice (some ⟨s, 0, none⟩) len len) := d0
  obtain ⟨x0, x1, x2, x3⟩ := blk2 q0
  obtain ⟨p0, hp0⟩ : ∃ p0, rows[k]? = some p0 := ⟨_, List.getElem?_eq_getElem (by omega)⟩
  have hgs : g ≠ s := Ne.symm hsg
  have hws : w.heap.size ≠ s := by omega
  have hsw : s ≠ w.heap.size := by omega
  have hwg : w.heap.size ≠ g := by omega
  have HP0 := hide hp0
  have Bb := hide b0
  have Ss := hide s0
  have Qq := hide q0
  have B0 := hide B0
  have z0 : w.heap.size < W0.heap.size := q0.lt
  clear b0 s0 q0 hp0
  go_region_held3 (fun W => W.cell? ⟨g, 0, none⟩ = some (.slice (some ⟨s, 0, none⟩) len len) ∧ W.cell? ⟨w.heap.size, 0, none⟩ = some (.slice A m c) ∧ W.cell? ⟨w.heap.size, 1, none⟩ = some (.bool b))
    (first | (exact ⟨d0, x0, x1⟩) | (exact ⟨(bb.cell (p := ⟨g, 0, none⟩) (show g < W0.heap.size by omega)).trans d0, (bb.cell (p := ⟨w.heap.size, 0, none⟩) z0).trans x0, (bb.cell (p := ⟨w.heap.size, 1, none⟩) z0).trans x1⟩) | go_keep)
    (first | (go_at_call 28; (refine (SL.out _ Bb.out.drew).mono ?_; rintro e w' ⟨rfl, rfl⟩)) | (go_at_call 25; (refine (OW.out _ B0.out.drew).mono ?_); rintro e w1 ⟨u1, u2, rfl, rv, bb⟩; obtain ⟨A', m', c', b', rfl, rfl⟩ := row_form rv; have s1 := Ss.out.drew.below bb (show s < W0.heap.size by omega); obtain ⟨c3, c4⟩ := flatP_at HP0.out; have c3 : w1.cell? ⟨s, k * 2, none⟩ = some p0.1 := (by rw [s1.cell]; simpa using c3); have c4 : w1.cell? ⟨s, k * 2 + 1, none⟩ = some p0.2 := (by rw [s1.cell]; simpa using c4); have c5 := s1.frozen (k * 2); have c6 := s1.frozen (k * 2 + 1); have S1 := hide s1; clear s1))
  go_wp2
  go_ret
  have K1 : Keep45 ok w w1 := Keep45.below (below_in B0.out.drew bb (Nat.le_refl _))
  have K2 := (keep45_set (ok := ok) S1.out (by decide) (k * 2) (.slice A' m' c')).trans (keep45_set (S1.out.set_ (k * 2) (.slice A' m' c')) (by decide) (k * 2 + 1) (.bool b'))
  refine ⟨rfl, ⟨len, first, rows.set k (.slice A' m' c', .bool b'), ⟨?_, by rw [List.length_set]; exact hrlen, by rw [List.length_set, HN.out]; exact hle, hlr, hrl, (fun e => by cases e), fun s' e => ?_, fun j T hT => ?_⟩⟩, ?_, K1.trans K2⟩
  · rw [List.length_set, HN.out]
    exact ((Bb.out.drew.below bb (show g < W0.heap.size by omega)).far (p := ⟨s, _, none⟩) hgs _).far (p := ⟨s, _, none⟩) hgs _
  · injection e with e
    subst e
    exact ⟨slots_set S1.out (by omega) _ _, hfl⟩
  · by_cases e : j = i
    · subst e
      rw [List.getElem?_set_self (by rw [HN.out]; exact hi)] at hT
      injection hT with hT
      subst hT
      exact ⟨_, by rw [HK.out]; exact List.getElem?_set_self (by omega), rv.keep K2⟩
    · rw [List.getElem?_set_ne (Ne.symm e)] at hT
      have hj := (List.getElem?_eq_some_iff.1 hT).1
      rw [HN.out] at hj
      obtain ⟨p, p1, p2⟩ := H.out.rows j T hT
      refine ⟨p, ?_, p2.keep (K1.trans K2)⟩
      rw [List.getElem?_set_ne]
      · exact p1
      · rw [← HK.out]
        intro e2
        exact e (ix_inj hfl (by omega) (by omega) e2.symm)
  · exact (((Frm.of_below (below_in B0.out.drew bb (Nat.le_refl _)) fun i h1 h2 => by omega).setCell (p := ⟨s, _, none⟩) (fun _ => Or.inr rfl) _).setCell (p := ⟨s, _, none⟩) (fun _ => Or.inr rfl) _)
end Go.Proofs.Ytailflbhcmgnpaa
