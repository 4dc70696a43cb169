/-
  A ring as a list of rows; the walk of At. No condition but bounds.
-/
import Derived.Test.YtailflbhcmgnpaaSame2
namespace Go.Proofs.Ytailflbhcmgnpaa
open Go.RowKit Go.Proofs
set_option linter.unusedVariables false
def slotsA (S : Option Nat) : Option Addr := S.map fun s => ⟨s, 0, none⟩
/-- Ring g holds the rows L, in the slots S. -/
structure RingOf (ok : Nat → Prop) (w : World) (g : Nat) (S : Option Nat) (L : List Row) (room gone len first : Nat) (rows : List (Value × Value)) : Prop where
  blk : Blk w g 62 (ringC (slotsA S) len room first L.length gone)
  rlen : rows.length = len
  le : L.length ≤ len
  ler : len ≤ room
  roomle : room ≤ 100000
  nil : S = none → len = 0 ∧ first = 0
  slots : ∀ s, S = some s → Blk w s 30 (flatP rows).toArray ∧ first < len
  rows : ∀ (i : Nat) (R : Row), L[i]? = some R → ∃ p, rows[ix len first i]? = some p ∧ RowV ok w p R
def RingAt (ok : Nat → Prop) (w : World) (g : Nat) (S : Option Nat) (L : List Row) (room gone : Nat) : Prop := ∃ len first rows, RingOf ok w g S L room gone len first rows
section
variable {ok ok' : Nat → Prop} {w w' : World} {g room gone len first : Nat} {S : Option Nat} {L : List Row} {rows : List (Value × Value)}
/-- Kept: where the ring's block, its slots and the rows' blocks lie as they lay. -/
theorem RingOf.keep (h : RingOf ok w g S L room gone len first rows) (hg : ∀ cs, Blk w g 62 cs → Blk w' g 62 cs) (hs : ∀ s cs, S = some s → Blk w s 30 cs → Blk w' s 30 cs) (hk : Keep45 ok w w') : RingOf ok w' g S L room gone len first rows :=
  ⟨hg _ h.blk, h.rlen, h.le, h.ler, h.roomle, h.nil, fun s e => ⟨hs s _ e (h.slots s e).1, (h.slots s e).2⟩, fun i R hR => by
    obtain ⟨p, h1, h2⟩ := h.rows i R hR
    exact ⟨p, h1, h2.keep hk⟩⟩
theorem RingOf.below (h : RingOf ok w g S L room gone len first rows) (hb : Below w.heap.size w w') : RingOf ok w' g S L room gone len first rows :=
  h.keep (fun _ k => k.below hb k.lt) (fun _ _ _ k => k.below hb k.lt) (Keep45.below hb)
theorem RingOf.lt (h : RingOf ok w g S L room gone len first rows) : g < w.heap.size := h.blk.lt
theorem RingOf.slot_some (h : RingOf ok w g S L room gone len first rows) (hp : 0 < L.length) : ∃ s, S = some s ∧ Blk w s 30 (flatP rows).toArray ∧ first < len ∧ s ≠ g := by
  cases S with
  | none => have := h.nil rfl; have := h.le; omega
  | some s => exact ⟨s, rfl, (h.slots s rfl).1, (h.slots s rfl).2, Blk.ne_ (h.slots s rfl).1 h.blk (by decide)⟩
theorem RingOf.cells (h : RingOf ok w g S L room gone len first rows) {i : Nat} {R : Row} (hR : L[i]? = some R) :
    ∃ s p, S = some s ∧ s ≠ g ∧ first < len ∧ ix len first i < len ∧ rows[ix len first i]? = some p ∧ RowV ok w p R ∧ Blk w s 30 (flatP rows).toArray ∧
      w.cell? ⟨s, ix len first i * 2, none⟩ = some p.1 ∧ w.cell? ⟨s, ix len first i * 2 + 1, none⟩ = some p.2 ∧ w.frozen? ⟨s, ix len first i * 2, none⟩ = false ∧ w.frozen? ⟨s, ix len first i * 2 + 1, none⟩ = false := by
  have hi := (List.getElem?_eq_some_iff.1 hR).1
  obtain ⟨s, e, hs, hf, hne⟩ := h.slot_some (by omega)
  obtain ⟨p, hp, hv⟩ := h.rows i R hR
  obtain ⟨c1, c2⟩ := flatP_at hp
  have hl := h.le
  exact ⟨s, p, e, hne, hf, ix_lt hf (by omega), hp, hv, hs, by rw [hs.cell]; simpa using c1, by rw [hs.cell]; simpa using c2, hs.frozen _, hs.frozen _⟩
end
def RowOkPost (ok : Nat → Prop) (R : Row) (b : Bool) (w : World) (e : Ending) (w' : World) : Prop := ∃ v1 v2, e = .returned (.tuple #[.agg #[v1, v2], .bool b]) ∧ RowV ok w' (v1, v2) R ∧ Below w.heap.size w w'
set_option maxHeartbeats 4000000 in
theorem at_in (ok ok' : Nat → Prop) (g : Nat) (S : Option Nat) (L : List Row) (room gone len first i : Nat) (rows : List (Value × Value)) (R : Row) (w : World) (h : RingOf ok w g S L room gone len first rows) (hR : L[i]? = some R) (hok : ∀ b, w.heap.size ≤ b → ok' b) :
    Calls Try.prog 15 #[.pointer (some ⟨g, 0, none⟩), .int .i64 i] w (RowOkPost ok' R true w) := by
  have hi := (List.getElem?_eq_some_iff.1 hR).1
  obtain ⟨s, p, rfl, hsg, hfl, hix, hp, hv, hs, c1, c2, _, _⟩ := h.cells hR
  have hle := h.le
  have hlr := h.ler
  have hrl := h.roomle
  have hgl := h.lt
  have hsl := hs.lt
  obtain ⟨v1, v2⟩ := p
  obtain ⟨A, n, c, b, rfl, rfl⟩ := row_form hv
  have hw1 : Below w.heap.size w (w.alloc (.cells #[.slice none 0 0, .bool false] 30)) := (Below.refl _ _).alloc (Nat.le_refl _) _
  have SL := hide (fun (W : World) (hW : Below w.heap.size w W) => slot_any (slotsA (some s)) len room first L.length gone i g W (h.blk.below hW hgl) (by omega) (by omega) (by omega))
  have OW := hide (fun (W : World) (hW : Below w.heap.size w W) => own_any ok ok' _ _ R W (hv.keep (Keep45.below hW)) (fun b hb => hok b (Nat.le_trans hW.size hb)))
  have LN := hide (fun (W : World) (hW : Below w.heap.size w W) => len_any (slotsA (some s)) len room first L.length gone g W (h.blk.below hW hgl))
  obtain ⟨d0, d1, d2, d3, d4, _⟩ := blk5 (h.blk.below hw1 hgl)
  have d0 : (w.alloc (.cells #[.slice none 0 0, .bool false] 30)).cell? ⟨g, 0, none⟩ = some (.slice (some ⟨s, 0, none⟩) len len) := d0
  have c1 := (hw1.cell (p := ⟨s, _, none⟩) hsl).trans c1
  have c2 := (hw1.cell (p := ⟨s, _, none⟩) hsl).trans c2
  have SL' := SL.out
  obtain ⟨q, hq⟩ : ∃ q, ix len first i = q := ⟨_, rfl⟩
  rw [hq] at c1 c2 hix SL'
  have SL := hide SL'
  have hne1 : g ≠ w.heap.size := by omega
  have hne2 : s ≠ w.heap.size := by omega
  have hne3 : w.heap.size ≠ g := by omega
  have hne4 : w.heap.size ≠ s := by omega
  have hin : i < L.length := hi
  have HW1 := hide hw1
  have dn : decide (L.length ≤ i) = false := by simp; omega
  have dn2 : decide ((L.length : Int) ≤ i) = false := by simp; omega
  have k0 := Blk.new w 30 #[.slice none 0 0, .bool false]
  obtain ⟨e0, e1, e2, e3⟩ := blk2 k0
  have K0 := hide k0
  clear h hR hp hv hs hq SL' hw1 k0
  go_enter Try.func15, Try.ntmps15
  go_wp2_with (go_at_call 13; go_must (refine (LN.out _ HW1.out).mono ?_; rintro e w' ⟨rfl, rfl⟩))
  go_region_held3 (fun W => W.cell? ⟨g, 0, none⟩ = some (.slice (some ⟨s, 0, none⟩) len len) ∧ W.cell? ⟨s, q * 2, none⟩ = some (.slice A n c) ∧ W.cell? ⟨s, q * 2 + 1, none⟩ = some (.bool b))
    (first | (exact ⟨d0, c1, c2⟩) | (exact ⟨(bb.cell (p := ⟨g, 0, none⟩) (by simp; omega)).trans d0, (bb.cell (p := ⟨s, q * 2, none⟩) (by simp; omega)).trans c1, (bb.cell (p := ⟨s, q * 2 + 1, none⟩) (by simp; omega)).trans c2⟩) | go_keep)
    (first | (go_at_call 28; (refine (SL.out _ HW1.out.drew).mono ?_; rintro e w' ⟨rfl, rfl⟩)) | (go_at_call 25; (refine (OW.out _ HW1.out.drew).mono ?_; rintro e w1 ⟨u1, u2, rfl, rv, bb⟩; obtain ⟨A', n', c', b', rfl, rfl⟩ := row_form rv; obtain ⟨f0, f1, f2, f3⟩ := blk2 (K0.out.drew.below bb (by simp)))))
  go_wp2
  have k2 := ((K0.out.drew.below bb (by simp)).set_ 0 (.slice A' n' c')).set_ 1 (.bool b')
  obtain ⟨r0, r1, _⟩ := blk2 (a := .slice A' n' c') (b := .bool b') (by simpa using k2)
  refine bodyPost_ret (v := .tuple #[.agg #[.slice A' n' c', .bool b'], .bool true]) (by simp [results, Try.results15, go_sem, r0, r1]) rfl ?_
  refine ⟨_, _, rfl, rv.keep fun b cs _ hB => ?_, ?_⟩
  · have hz := hB.ne_ (K0.out.drew.below bb (by simp)) (by decide)
    exact (hB.far (p := ⟨w.heap.size, 0, none⟩) hz _).far (p := ⟨w.heap.size, 1, none⟩) hz _
  · exact ((below_in HW1.out.drew bb (Nat.le_refl _)).setCell (p := ⟨w.heap.size, 0, none⟩) (Nat.le_refl _) _).setCell (p := ⟨w.heap.size, 1, none⟩) (Nat.le_refl _) _
/-- A place that isn't there. -/
theorem at_out (ok : Nat → Prop) (g : Nat) (S : Option Nat) (L : List Row) (room gone len first : Nat) (i : Int) (rows : List (Value × Value)) (w : World) (h : RingOf ok w g S L room gone len first rows) (hi : i < 0 ∨ (L.length : Int) ≤ i) :
    Calls Try.prog 15 #[.pointer (some ⟨g, 0, none⟩), .int .i64 i] w (RowOkPost ok none false w) := by
  have hw1 : Below w.heap.size w (w.alloc (.cells #[.slice none 0 0, .bool false] 30)) := (Below.refl _ _).alloc (Nat.le_refl _) _
  have LN := hide (len_any (slotsA S) len room first L.length gone g _ (h.blk.below hw1 h.lt))
  have r0 := Blk.new w 30 #[.slice none 0 0, .bool false]
  have HW1 := hide hw1
  by_cases h0 : i < 0
  · clear h
    go_enter Try.func15, Try.ntmps15
    go_wp2
    refine bodyPost_ret (v := .tuple #[.agg #[.slice none 0 0, .bool false], .bool false]) (by simp [results, Try.results15, go_sem]) rfl ?_
    exact ⟨_, _, rfl, rfl, HW1.out⟩
  · have h1 : (L.length : Int) ≤ i := by omega
    have d : decide (i < 0) = false := by simp; omega
    clear h
    go_enter Try.func15, Try.ntmps15
    go_wp2_with (go_at_call 13; go_must (refine LN.out.mono ?_; rintro e w' ⟨rfl, rfl⟩))
    refine bodyPost_ret (v := .tuple #[.agg #[.slice none 0 0, .bool false], .bool false]) (by simp [results, Try.results15, go_sem]) rfl ?_
    exact ⟨_, _, rfl, rfl, HW1.out⟩
theorem at_none (ok : Nat → Prop) (i : Int) (w : World) : Calls Try.prog 15 #[.pointer none, .int .i64 i] w (RowOkPost ok none false w) := by
  have hw1 : Below w.heap.size w (w.alloc (.cells #[.slice none 0 0, .bool false] 30)) := (Below.refl _ _).alloc (Nat.le_refl _) _
  have LN := hide len_none
  have HW1 := hide hw1
  by_cases h0 : i < 0
  · go_enter Try.func15, Try.ntmps15
    go_wp2
    refine bodyPost_ret (v := .tuple #[.agg #[.slice none 0 0, .bool false], .bool false]) (by simp [results, Try.results15, go_sem]) rfl ?_
    exact ⟨_, _, rfl, rfl, HW1.out⟩
  · have d : decide (i < 0) = false := by simp; omega
    have d1 : decide (0 ≤ i) = true := by simp; omega
    go_enter Try.func15, Try.ntmps15
    go_wp2_with (go_at_call 13; go_must (refine (LN.out _).mono ?_; rintro e w' ⟨rfl, rfl⟩))
    refine bodyPost_ret (v := .tuple #[.agg #[.slice none 0 0, .bool false], .bool false]) (by simp [results, Try.results15, go_sem]) rfl ?_
    exact ⟨_, _, rfl, rfl, HW1.out⟩
end Go.Proofs.Ytailflbhcmgnpaa
