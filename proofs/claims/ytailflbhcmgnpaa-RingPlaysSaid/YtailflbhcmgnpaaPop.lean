/-
  What stores make of a ring; the walk of Pop. No condition but bounds.
-/
import Derived.Test.YtailflbhcmgnpaaAllR
import Derived.Lib.ItoaWalk
namespace Go.Proofs.Ytailflbhcmgnpaa
open Go.RowKit Go.Proofs
set_option linter.unusedVariables false
section
variable {ok : Nat → Prop} {w : World}
theorem keep45_set {g : Nat} {t : TypeId} {cs : Array Value} (h : Blk w g t cs) (ht : 45 ≠ t) (i : Nat) (v : Value) : Keep45 ok w (w.setCell ⟨g, i, none⟩ v) := fun b cs' _ hb => hb.far (p := ⟨g, i, none⟩) (hb.ne_ h ht) v
theorem keep45_alloc (o : Obj) : Keep45 ok w (w.alloc o) := fun b cs _ hb => hb.alloc o
theorem keep45_drewN (q : Nat) : Keep45 ok w (w.drewN q) := fun b cs _ hb => hb.drewN q
end
theorem flatP_set : ∀ (rows : List (Value × Value)) (k : Nat) (a b : Value), k < rows.length → ((flatP rows).set (k * 2) a).set (k * 2 + 1) b = flatP (rows.set k (a, b))
  | [], k, a, b, h => by simp at h
  | p :: rows, 0, a, b, h => by simp [flatP]
  | p :: rows, k + 1, a, b, h => by
    have ih := flatP_set rows k a b (by simpa using h)
    have e : flatP (p :: rows) = p.1 :: p.2 :: flatP rows := by simp [flatP]
    rw [e, show (k + 1) * 2 = k * 2 + 1 + 1 by omega, show k * 2 + 1 + 1 + 1 = (k * 2 + 1) + 1 + 1 by omega]
    simp only [List.set_cons_succ]
    rw [ih]
    simp [flatP]
theorem slots_set {w : World} {s k : Nat} {rows : List (Value × Value)} (h : Blk w s 30 (flatP rows).toArray) (hk : k < rows.length) (a b : Value) :
    Blk ((w.setCell ⟨s, k * 2, none⟩ a).setCell ⟨s, k * 2 + 1, none⟩ b) s 30 (flatP (rows.set k (a, b))).toArray := by
  have := (h.set_ (k * 2) a).set_ (k * 2 + 1) b
  rw [← flatP_set rows k a b hk]
  simpa using this
theorem ring_n {w : World} {g : Nat} {S : Option Addr} {len room first n gone m : Nat} (h : Blk w g 62 (ringC S len room first n gone)) : Blk (w.setCell ⟨g, 3, none⟩ (.int .i64 m)) g 62 (ringC S len room first m gone) := h.set_ 3 _
theorem ring_first {w : World} {g : Nat} {S : Option Addr} {len room first n gone m : Nat} (h : Blk w g 62 (ringC S len room first n gone)) : Blk (w.setCell ⟨g, 2, none⟩ (.int .i64 m)) g 62 (ringC S len room m n gone) := h.set_ 2 _
theorem ring_gone {w : World} {g : Nat} {S : Option Addr} {len room first n gone m : Nat} (h : Blk w g 62 (ringC S len room first n gone)) : Blk (w.setCell ⟨g, 4, none⟩ (.int .u64 m)) g 62 (ringC S len room first n m) := h.set_ 4 _
theorem ring_slots {w : World} {g : Nat} {S S' : Option Addr} {len len' room first n gone : Nat} (h : Blk w g 62 (ringC S len room first n gone)) : Blk (w.setCell ⟨g, 0, none⟩ (.slice S' len' len')) g 62 #[.slice S' len' len', .int .i64 room, .int .i64 first, .int .i64 n, .int .u64 gone] := h.set_ 0 _
/-- The blocks that a ring's functions may turn. -/
def Own2 (g : Nat) (S : Option Nat) (k : Nat) : Prop := k = g ∨ S = some k
/-- A row that goes, and the ring behind it. -/
def RingRow (ok ok' : Nat → Prop) (g : Nat) (S : Option Nat) (L : List Row) (room gone : Nat) (R : Row) (w : World) (e : Ending) (w' : World) : Prop :=
  ∃ v1 v2, e = .returned (.tuple #[.agg #[v1, v2], .bool true]) ∧ RowV ok' w' (v1, v2) R ∧ RingAt ok w' g S L room gone ∧ Frm (Own2 g S) w w' ∧ Keep45 ok w w'
set_option maxHeartbeats 4000000 in
theorem pop_in (ok : Nat → Prop) (g : Nat) (S : Option Nat) (L : List Row) (R : Row) (room gone len first : Nat) (rows : List (Value × Value)) (w : World) (h : RingOf ok w g S (L ++ [R]) room gone len first rows) :
    Calls Try.prog 17 #[.pointer (some ⟨g, 0, none⟩)] w (RingRow ok ok g S L room gone R w) := by
  have hR : (L ++ [R])[L.length]? = some R := by simp
  have hlen : (L ++ [R]).length = L.length + 1 := by simp
  obtain ⟨s, p, rfl, hsg, hfl, hix, hp, hv, hs, c1, c2, f1, f2⟩ := h.cells hR
  have hle := h.le
  have hlr := h.ler
  have hrl := h.roomle
  have hgl := h.lt
  have hsl := hs.lt
  have hB := h.blk
  rw [hlen] at hB hle
  obtain ⟨n, hn⟩ : ∃ n, L.length = n := ⟨_, rfl⟩
  rw [hn] at hB hle hp hix c1 c2 f1 f2
  obtain ⟨k, hk⟩ : ∃ k, ix len first n = k := ⟨_, rfl⟩
  rw [hk] at hp hix c1 c2 f1 f2
  obtain ⟨v1, v2⟩ := p
  obtain ⟨A, m, c, b, rfl, rfl⟩ := row_form hv
  have H := hide h
  have hn' := hide hn
  have hk' := hide hk
  have LN := hide (fun (W : World) (hW : Blk W g 62 (ringC (some ⟨s, 0, none⟩) len room first (n + 1) gone)) => len_any (some ⟨s, 0, none⟩) len room first (n + 1) gone g W hW)
  have SL := hide (fun (W : World) (hW : Blk W g 62 (ringC (some ⟨s, 0, none⟩) len room first n gone)) => show Calls Try.prog 28 #[.pointer (some ⟨g, 0, none⟩), .int .i64 n] W fun e w' => e = .returned (.int .i64 k) ∧ W = w' by
    have := slot_any (some ⟨s, 0, none⟩) len room first n gone n g W hW (by omega) (by omega) (by omega); rw [hk] at this; exact this)
  have hp := hide hp
  have hv := hide hv
  have hs := hide hs
  have b0 := hB.alloc (.cells #[.slice none 0 0, .bool false] 30)
  have q0 := Blk.new w 30 #[.slice none 0 0, .bool false]
  obtain ⟨d0, d1, d2, d3, d4, e0, e1, e2, e3, e4⟩ := blk5 b0
  have n0 : n ≤ 100000 := by omega
  have n2 : ((n : Int) + 1 == 0) = false := by simp; omega
  have B0 := hide b0
  have Q0 := hide q0
  have BW := hide hB
  clear h hn hk hR hlen hB b0 q0 c1 c2 f1 f2
  go_enter Try.func17, Try.ntmps17
  go_upto_region 4 with (go_at_call 13; go_must (refine (LN.out _ B0.out).mono ?_; rintro e w' ⟨rfl, rfl⟩))
  go_name_world W1 hW1
  have hqg : w.heap.size ≠ g := by omega
  have hqs : w.heap.size ≠ s := by omega
  have b1 : Blk W1 g 62 (ringC (some ⟨s, 0, none⟩) len room first n gone) := by rw [← hW1]; exact (ring_n BW.out).alloc _
  have s1 : Blk W1 s 30 (flatP rows).toArray := by rw [← hW1]; exact (hs.out.far (p := ⟨g, 3, none⟩) hsg _).alloc _
  have q1 : Blk W1 w.heap.size 30 #[.slice none 0 0, .bool false] := by rw [← hW1]; exact Blk.new' (by simp) 30 _
  have F1 : Frm (Own2 g (some s)) w W1 := by rw [← hW1]; exact ((Frm.refl _ _).setCell (p := ⟨g, 3, none⟩) (fun _ => Or.inl rfl) _).alloc _
  have Z1 : W1.heap.size = w.heap.size + 1 := by rw [← hW1]; simp
  have K1 : Keep45 ok w W1 := by rw [← hW1]; exact (keep45_set BW.out (by decide) 3 _).trans (keep45_alloc _)
  clear hW1 d0 d1 d2 d3 d4 e0 e1 e2 e3 e4
  obtain ⟨c1, c2⟩ := flatP_at hp.out
  have c1 : W1.cell? ⟨s, k * 2, none⟩ = some (.slice A m c) := by rw [s1.cell]; simpa using c1
  have c2 : W1.cell? ⟨s, k * 2 + 1, none⟩ = some (.bool b) := by rw [s1.cell]; simpa using c2
  obtain ⟨d0, d1, d2, d3, d4, e0, e1, e2, e3, e4⟩ := blk5 b1
  have B1 := hide b1
  have S1 := hide s1
  have Q1 := hide q1
  have F1 := hide F1
  clear b1 s1 q1
  go_upto_region 6 with (go_at_call 28; go_must (refine (SL.out _ B1.out).mono ?_; rintro e w' ⟨rfl, rfl⟩))
  go_name_world W2 hW2
  have b2 : Blk W2 g 62 (ringC (some ⟨s, 0, none⟩) len room first n gone) := by rw [← hW2]; exact B1.out.alloc _
  have s2 : Blk W2 s 30 (flatP rows).toArray := by rw [← hW2]; exact S1.out.alloc _
  have q2 : Blk W2 w.heap.size 30 #[.slice none 0 0, .bool false] := by rw [← hW2]; exact Q1.out.alloc _
  have t2 : Blk W2 W1.heap.size 30 #[.slice A m c, .bool b] := by rw [← hW2]; exact Blk.new _ _ _
  have F2 : Frm (Own2 g (some s)) w W2 := by rw [← hW2]; exact F1.out.alloc _
  have K2 : Keep45 ok w W2 := by rw [← hW2]; exact K1.trans (keep45_alloc _)
  clear hW2 d0 d1 d2 d3 d4 e0 e1 e2 e3 e4 c1 c2
  obtain ⟨c1, c2⟩ := flatP_at hp.out
  have c1 : W2.cell? ⟨s, k * 2, none⟩ = some (.slice A m c) := by rw [s2.cell]; simpa using c1
  have c2 : W2.cell? ⟨s, k * 2 + 1, none⟩ = some (.bool b) := by rw [s2.cell]; simpa using c2
  have f1 := s2.frozen (k * 2)
  have f2 := s2.frozen (k * 2 + 1)
  obtain ⟨d0, d1, d2, d3, d4, e0, e1, e2, e3, e4⟩ := blk5 b2
  have B2 := hide b2
  have S2 := hide s2
  have Q2 := hide q2
  have T2 := hide t2
  have F2 := hide F2
  clear b2 s2 q2 t2
  go_upto_region 7 with (fail)
  go_name_world W3 hW3
  have b3 : Blk W3 g 62 (ringC (some ⟨s, 0, none⟩) len room first n gone) := by rw [← hW3]; exact (B2.out.far (p := ⟨s, _, none⟩) (Ne.symm hsg) _).far (p := ⟨s, _, none⟩) (Ne.symm hsg) _
  have s3 : Blk W3 s 30 (flatP (rows.set k (.slice none 0 0, .bool false))).toArray := by rw [← hW3]; exact slots_set S2.out (by rw [H.out.rlen]; exact hix) _ _
  have q3 : Blk W3 w.heap.size 30 #[.slice none 0 0, .bool false] := by rw [← hW3]; exact (Q2.out.far (p := ⟨s, _, none⟩) hqs _).far (p := ⟨s, _, none⟩) hqs _
  have t3 : Blk W3 W1.heap.size 30 #[.slice A m c, .bool b] := by rw [← hW3]; exact (T2.out.far (p := ⟨s, _, none⟩) (show W1.heap.size ≠ s by omega) _).far (p := ⟨s, _, none⟩) (show W1.heap.size ≠ s by omega) _
  have F3 : Frm (Own2 g (some s)) w W3 := by rw [← hW3]; exact (F2.out.setCell (p := ⟨s, _, none⟩) (fun _ => Or.inr rfl) _).setCell (p := ⟨s, _, none⟩) (fun _ => Or.inr rfl) _
  have K3 : Keep45 ok w W3 := by rw [← hW3]; exact (K2.trans (keep45_set S2.out (by decide) _ _)).trans (keep45_set (S2.out.set_ _ _) (by decide) _ _)
  clear hW3 d0 d1 d2 d3 d4 e0 e1 e2 e3 e4 c1 c2 f1 f2
  obtain ⟨x0, x1, x2, x3⟩ := blk2 q3
  rw [Z1] at t3
  obtain ⟨y0, y1, y2, y3⟩ := blk2 t3
  have B3 := hide b3
  have S3 := hide s3
  have Q3 := hide q3
  have T3 := hide t3
  have F3 := hide F3
  clear b3 s3 q3 t3
  go_wp2
  have q4 := (Q3.out.set_ 0 (.slice A m c)).set_ 1 (.bool b)
  obtain ⟨r0, r1, _⟩ := blk2 (a := .slice A m c) (b := .bool b) (by simpa using q4)
  refine bodyPost_ret (v := .tuple #[.agg #[.slice A m c, .bool b], .bool true]) (by simp [results, Try.results17, go_sem, r0, r1]) rfl ?_
  have K4 := (K3.trans (keep45_set Q3.out (by decide) 0 (.slice A m c))).trans (keep45_set (Q3.out.set_ 0 (.slice A m c)) (by decide) 1 (.bool b))
  refine ⟨_, _, rfl, hv.out.keep K4, ⟨len, first, rows.set k (.slice none 0 0, .bool false), ?_⟩, (F3.out.setCell (p := ⟨w.heap.size, 0, none⟩) (fun h => absurd h (Nat.lt_irrefl _)) _).setCell (p := ⟨w.heap.size, 1, none⟩) (fun h => absurd h (Nat.lt_irrefl _)) _, K4⟩
  refine ⟨?_, by rw [List.length_set]; exact H.out.rlen, by rw [hn'.out]; omega, hlr, hrl, (fun e => by cases e), fun s' e => ?_, fun i S hS => ?_⟩
  · rw [hn'.out]
    exact (B3.out.far (p := ⟨w.heap.size, 0, none⟩) (Ne.symm hqg) _).far (p := ⟨w.heap.size, 1, none⟩) (Ne.symm hqg) _
  · injection e with e
    subst e
    exact ⟨(S3.out.far (p := ⟨w.heap.size, 0, none⟩) (Ne.symm hqs) _).far (p := ⟨w.heap.size, 1, none⟩) (Ne.symm hqs) _, hfl⟩
  · have hi := (List.getElem?_eq_some_iff.1 hS).1
    rw [hn'.out] at hi
    obtain ⟨p, h1, h2⟩ := H.out.rows i S (by rw [List.getElem?_append_left (by rw [hn'.out]; exact hi)]; exact hS)
    refine ⟨p, ?_, h2.keep K4⟩
    rw [List.getElem?_set_ne]
    · exact h1
    · rw [← hk'.out]
      intro e
      have := ix_inj hfl (by omega) (by omega) e
      omega
end Go.Proofs.Ytailflbhcmgnpaa
