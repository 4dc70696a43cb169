/-
  Push of a heap of entries, walked. No condition but bounds.
-/
import Derived.Test.YtndnjdocdfjmcaaDown
import Derived.Lib.ItoaWalk
namespace Go.Proofs.Ytndnjdocdfjmcaa
open Go.RowKit Go.Proofs
set_option linter.unusedVariables false
/-- A heap's variable, and its row's block. -/
def HS (H : Nat) (A : Option Addr) (k : Nat) : Prop := k = H ∨ RB A k
theorem rb_hs {w w' : World} {H : Nat} {A : Option Addr} (h : Frm (RB A) w w') : Frm (HS H A) w w' := h.mono fun _ _ e => .inr e
/-- A heap, one entry more. -/
def PushPost (base H : Nat) (A0 : Option Addr) (n : Nat) (l : List Ent) (w : World) (e : Ending) (w' : World) : Prop :=
  ∃ A c, e = .returned (.tuple #[]) ∧ HeapAt w' base H A (n + 1) c l ∧ Frm (HS H A0) w w' ∧ ∀ k, RB A k → RB A0 k ∨ w.heap.size ≤ k
theorem push_end {base H : Nat} {A A3 : Option Addr} {n c c3 : Nat} {l : List Ent} {s : Ent} {w W w3 : World} (hW : HeapAt W base H A n c l) (hBW : Below w.heap.size w W)
    (app : App (W.alloc (.cells #[.string s.text, .int .i64 s.cnt, .int .i64 s.last] 31)) base 31 3 (.slice A n c) (.slice A3 (n + 1) c3) (n + 1) (l.flatMap entE ++ #[Value.string s.text, .int .i64 s.cnt, .int .i64 s.last].toList) w3) :
    HeapAt (w3.setCell ⟨H, 0, none⟩ (.slice A3 (n + 1) c3)) base H A3 (n + 1) c3 (l ++ [s]) ∧ Frm (HS H A) w (w3.setCell ⟨H, 0, none⟩ (.slice A3 (n + 1) c3)) ∧ ∀ k, RB A3 k → RB A k ∨ w.heap.size ≤ k := by
  have k3 := app.blk (hW.blk.alloc _) (hW.own.alloc _) (by decide)
  refine ⟨⟨?_, ?_⟩, ?_, ?_⟩
  · have := k3.set_ 0 (.slice A3 (n + 1) c3)
    simpa using this
  · exact own_far (p := ⟨H, 0, none⟩) (own_snocE s app.own rfl) (own_ne app.own k3 (by decide)) _
  · have f1 : Frm (HS H A) w (W.alloc (.cells #[.string s.text, .int .i64 s.cnt, .int .i64 s.last] 31)) := (call_frm hBW).alloc _
    exact (app.frm f1 (fun k hk _ => .inr (rb_own hk))).setCell (p := ⟨H, 0, none⟩) (fun _ => .inl rfl) _
  · intro k hk
    rcases app.at_ with h | ⟨g, h, hg⟩
    · left
      have h1 := own_rb (n := n + 1) (c := c3) hk
      rw [h] at h1
      exact rb_own h1
    · right
      have h1 := own_rb (n := n + 1) (c := c3) hk
      rw [h] at h1
      injection h1 with h1
      have := hBW.size
      rw [World.size_alloc] at hg
      omega
theorem three_cell {a b c : Value} (ha : a.oneCell' = true) (hb : b.oneCell' = true) (hc : c.oneCell' = true) : ∀ u ∈ #[a, b, c].toList, u.oneCell' = true := by
  intro u hu
  simp at hu
  rcases hu with rfl | rfl | rfl
  · exact ha
  · exact hb
  · exact hc
set_option maxRecDepth 100000 in
set_option maxHeartbeats 4000000 in
theorem pushM_any (base H : Nat) (A : Option Addr) (n c : Nat) (l : List Ent) (s : Ent) (w : World) (h : HeapAt w base H A n c l) (hn : n ≤ 100000) (hbw : base ≤ w.heap.size) :
    Calls Try.prog 56 #[.pointer (some ⟨H, 0, none⟩), .iface 31 (entA s)] w (PushPost base H A n (l ++ [s]) w) := by
  have HH := hide h
  have c0 := h.cell
  have hHl := h.blk.lt
  clear h
  unfold entA
  have AS := assert31
  go_enter Try.func56, Try.ntmps56
  go_upto_region 2 with (fail)
  go_name_world W hW
  have BW := hide (show Below w.heap.size w W by rw [← hW]; exact (Below.refl _ _).alloc (Nat.le_refl _) _)
  have k1 : Blk W w.heap.size 31 #[.string s.text, .int .i64 s.cnt, .int .i64 s.last] := by rw [← hW]; exact Blk.new _ _ _
  have HW := hide (HH.out.call BW.out)
  have c1 := HW.out.cell
  have p0 := k1.cell 0
  have p1 := k1.cell 1
  have p2 := k1.cell 2
  have hk1 := k1.lt
  have K1 := hide k1
  simp at p0 p1 p2
  have hbW := Nat.le_trans hbw BW.out.size
  clear hW k1 c0
  have EF := hide (show ∀ V, Below W.heap.size W V → V.cell? ⟨H, 0, none⟩ = some (.slice A n c) ∧ V.cell? ⟨w.heap.size, 0, none⟩ = some (.string s.text) ∧ V.cell? ⟨w.heap.size, 1, none⟩ = some (.int .i64 s.cnt) ∧ V.cell? ⟨w.heap.size, 2, none⟩ = some (.int .i64 s.last) from fun V hV => ⟨(hV.cell (p := ⟨H, 0, none⟩) HW.out.blk.lt).trans c1, (hV.cell (p := ⟨w.heap.size, 0, none⟩) hk1).trans p0, (hV.cell (p := ⟨w.heap.size, 1, none⟩) hk1).trans p1, (hV.cell (p := ⟨w.heap.size, 2, none⟩) hk1).trans p2⟩)
  have zH := HW.out.blk.lt
  have HNE := hide (own_new HH.out.own (Nat.le_refl w.heap.size))
  go_region_law (refine step_append1 Try.sl67 (by rfl) _ _ (by rfl) base (.slice A n c) n _ #[.string s.text, .int .i64 s.cnt, .int .i64 s.last] W 1 (by rfl) (by rfl) rfl HW.out.own rfl (three_cell rfl rfl rfl) (by simp only [maxLen]; omega) (by omega) hbW ?_; intro A3 c3 w3 app; have k3 := hide (app.blk (HW.out.blk.alloc _) (HW.out.own.alloc _) (by decide)); have q3 := hide ((K1.out.alloc _).grown app.grown HNE.out); have z0 := k3.out.cell 0; have zf := k3.out.frozen 0; have y0 := q3.out.cell 0; have y1 := q3.out.cell 1; have y2 := q3.out.cell 2; simp at z0 y0 y1 y2)
  all_goals
    have EN := hide (push_end HW.out BW.out app)
    clear z0 zf y0 y1 y2
    go_end0
    exact ⟨A3, c3, rfl, EN.out.1, EN.out.2.1, EN.out.2.2⟩
end Go.Proofs.Ytndnjdocdfjmcaa
