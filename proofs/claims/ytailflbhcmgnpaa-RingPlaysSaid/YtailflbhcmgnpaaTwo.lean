/-
  A ring and the document's beside it; what a call of the one or of the other leaves; does walked, kind by kind. No condition but bounds.
-/
import Derived.Test.YtailflbhcmgnpaaReff
namespace Go.Proofs.Ytailflbhcmgnpaa
open Go.RowKit Go.Proofs
set_option linter.unusedVariables false
structure Two (base : Nat) (w : World) (g m : Nat) (S : Option Nat) (v : Value) (LR : List Row) (gR : Nat) (LM : List Row) (gM room : Nat) : Prop where
  ring : RingAt any w g S LR room gR
  ref : RefAt base w m v LM room gM
  apart : ∀ s, S = some s → v.ownBlock ≠ some s
  gb : base ≤ g
  mb : base ≤ m
  sb : ∀ s, S = some s → base ≤ s
section
variable {base g m gR gM gR' gM' room : Nat} {w w' : World} {S S' : Option Nat} {v v' : Value} {LR LM LR' LM' : List Row}
theorem RefAt.keep {L : List Row} (h : RefAt base w m v L room gM) (hm : ∀ cs, Blk w m 53 cs → Blk w' m 53 cs) (hv : ∀ s cs, v.ownBlock = some s → Blk w s 30 cs → Blk w' s 30 cs) (hk : Keep45 any w w') : RefAt base w' m v L room gM := by
  obtain ⟨hB, rows, ho, hr⟩ := h
  refine ⟨hm _ hB, rows, ⟨ho.1, ?_⟩, hr.keep hk⟩
  rcases ho.2 with h2 | ⟨b, cap, cur, rfl, h1, hh, rest⟩
  · exact .inl h2
  · exact .inr ⟨b, cap, cur, rfl, h1, hv b cur rfl hh, rest⟩
theorem Two.len (h : Two base w g m S v LR gR LM gM room) : LR.length ≤ room ∧ room ≤ 100000 := by
  obtain ⟨len, first, rows, k⟩ := h.ring
  exact ⟨Nat.le_trans k.le k.ler, k.roomle⟩
theorem Two.lt (h : Two base w g m S v LR gR LM gM room) : g < w.heap.size ∧ m < w.heap.size := by
  obtain ⟨len, first, rows, k⟩ := h.ring
  exact ⟨k.lt, h.ref.blk.lt⟩
theorem Two.blkg (h : Two base w g m S v LR gR LM gM room) : ∃ cs, Blk w g 62 cs := by
  obtain ⟨len, first, rows, k⟩ := h.ring
  exact ⟨_, k.blk⟩
theorem Two.blks (h : Two base w g m S v LR gR LM gM room) {s : Nat} (e : S = some s) : ∃ cs, Blk w s 30 cs := by
  obtain ⟨len, first, rows, k⟩ := h.ring
  exact ⟨_, (k.slots s e).1⟩
theorem Two.below (h : Two base w g m S v LR gR LM gM room) (hb : Below w.heap.size w w') : Two base w' g m S v LR gR LM gM room :=
  ⟨h.ring.below hb, h.ref.keep (fun _ k => k.below hb k.lt) (fun _ _ _ k => k.below hb k.lt) (Keep45.below hb), h.apart, h.gb, h.mb, h.sb⟩
/-- Behind a call of the ring's. -/
theorem Two.turn (h : Two base w g m S v LR gR LM gM room) (hr : RingAt any w' g S' LR' room gR') (t : Turn g S S' w w') (hb : base ≤ w.heap.size) : Two base w' g m S' v LR' gR' LM gM room := by
  obtain ⟨cg, bg⟩ := h.blkg
  obtain ⟨hB, rows, ho, hrr⟩ := h.ref
  refine ⟨hr, h.ref.keep (fun cs k => t.blk k (k.ne_ bg (by decide)) ?_) (fun s cs e k => t.blk k (k.ne_ bg (by decide)) ?_) t.keep, ?_, h.gb, h.mb, ?_⟩
  · intro e
    obtain ⟨cs', k'⟩ := h.blks e
    exact k'.ne_ k (by decide) rfl
  · intro e2
    exact h.apart s e2 e
  · intro s e e2
    rcases t.slots s e with h1 | h1
    · exact h.apart s h1 e2
    · have := (ho.lt s e2).2
      omega
  · intro s e
    rcases t.slots s e with h1 | h1
    · exact h.sb s h1
    · omega
/-- Behind a call of the document's. -/
theorem Two.turnM (h : Two base w g m S v LR gR LM gM room) (hr : RefAt base w' m v' LM' room gM') (t : TurnM m v v' w w') (hb : base ≤ w.heap.size) : Two base w' g m S v' LR gR LM' gM' room := by
  obtain ⟨cg, bg⟩ := h.blkg
  obtain ⟨hB, rows, ho, hrr⟩ := h.ref
  have hslt : ∀ s, S = some s → s < w.heap.size := fun s e => by obtain ⟨cs, k⟩ := h.blks e; exact k.lt
  refine ⟨?_, hr, ?_, h.gb, h.mb, h.sb⟩
  · obtain ⟨len, first, rws, k⟩ := h.ring
    refine ⟨len, first, rws, k.keep (fun cs b => b.frm t.frm ?_) (fun s cs e b => b.frm t.frm ?_) t.keep⟩
    · rintro (e | e)
      · exact b.ne_ hB (by decide) e
      · exact own_ne ho b (by decide) e.symm
    · rintro (e2 | e2)
      · exact b.ne_ hB (by decide) e2
      · exact h.apart s e e2
  · intro s e e2
    rcases t.slots s e2 with h1 | h1
    · exact h.apart s e h1
    · have := hslt s e
      omega
theorem Two.base_turn (h : Two base w g m S v LR gR LM gM room) (t : Turn g S S' w w') (hb : base ≤ w.heap.size) : Below base w w' :=
  t.frm.to_below hb fun i hi => by
    rcases hi with rfl | hi
    · exact h.gb
    · exact h.sb i hi
theorem Two.base_turnM (h : Two base w g m S v LR gR LM gM room) (t : TurnM m v v' w w') (hb : base ≤ w.heap.size) : Below base w w' := by
  obtain ⟨hB, rows, ho, hrr⟩ := h.ref
  refine t.frm.to_below hb fun i hi => ?_
  rcases hi with rfl | hi
  · exact h.mb
  · exact (ho.lt i hi).1
end
/-- What does leaves. -/
def DoesPost (base g m room gone : Nat) (w : World) (e : Ending) (w' : World) : Prop :=
  e = .returned (.bool true) ∧ ∃ S v L gone', Two base w' g m S v L gone' L gone' room ∧ gone' ≤ gone + 300 ∧ Below base w w'
set_option maxRecDepth 100000 in
set_option maxHeartbeats 4000000 in
theorem does_clear (base g m : Nat) (S : Option Nat) (v : Value) (L : List Row) (gone room : Nat) (N : Int) (w : World) (h : Two base w g m S v L gone L gone room) (hb : base ≤ w.heap.size) (hr : room ≤ 255) (hg : gone ≤ 100000000) :
    Calls Try.prog 18 #[.pointer (some ⟨g, 0, none⟩), .pointer (some ⟨m, 0, none⟩), .agg #[.int .i64 4, .int .i64 N]] w (DoesPost base g m room gone w) := by
  have hl := h.len
  obtain ⟨n, hn⟩ : ∃ n, L.length = n := ⟨_, rfl⟩
  have hw0 : Below w.heap.size w (w.alloc (.cells #[.int .i64 4, .int .i64 N] 55)) := (Below.refl _ _).alloc (Nat.le_refl _) _
  have q0 := blk2 (Blk.new w 55 #[.int .i64 4, .int .i64 N])
  obtain ⟨q0, q1, _, _⟩ := q0
  have h0 := hide (h.below hw0)
  have HW0 := hide hw0
  have C1 := hide (clear_t g S L room gone n _ h0.out.ring hn (by omega))
  have HN := hide hn
  clear h hn hw0
  go_enter Try.func18, Try.ntmps18
  go_wp2_with (first
    | (go_at_call 23; go_must (refine C1.out.mono ?_; rintro e w1 ⟨S1, rfl, r1, t1⟩; have z1 := Nat.le_trans hb (Nat.le_trans HW0.out.size t1.frm.size); have T1 := hide (h0.out.turn r1 t1 (Nat.le_trans hb HW0.out.size)); have b1 := hide (h0.out.base_turn t1 (Nat.le_trans hb HW0.out.size)); clear r1 t1))
    | (go_at_call 31; go_must (refine (rclear_t base m v L room gone n _ T1.out.ref HN.out (by have := HN.out; omega) (by omega)).mono ?_; rintro e w2 ⟨v2, rfl, r2, t2⟩)))
  go_ret
  have hn := HN.out
  exact ⟨rfl, S1, v2, [], gone + n, T1.out.turnM r2 t2 z1, by omega, ((HW0.out.mono hb).trans b1.out).trans (T1.out.base_turnM t2 z1)⟩
end Go.Proofs.Ytailflbhcmgnpaa
