/-
  Push and Pop of a heap of streams, walked; container/heap's Push and Pop. No condition but bounds.
-/
import Derived.Test.YtkcmpddefohkeaaDown
import Derived.Deep.RegionLaw
namespace Go.Proofs.Ytkcmpddefohkeaa
open Go.RowKit Go.Proofs
set_option linter.unusedVariables false
theorem Try.sl47 : SliceOf Try.prog 47 53 2 32 := SliceOf.mk (z := .agg #[.slice none 0 0, .int .i64 0]) (by kernel_rfl) (by kernel_rfl) (by kernel_rfl) (by omega)
theorem assert53 (v : Value) (w : World) : (Instr.typeAssert (.iface 53 v) 20 53 true).run Try.prog w = .ok (.tuple #[v, .bool true]) w := by kernel_rfl
/-- A heap, one stream more. -/
def PushPost (base H : Nat) (left : Int) (n : Nat) (l : List Strm) (w : World) (e : Ending) (w' : World) : Prop :=
  ∃ A c, e = .returned (.tuple #[]) ∧ HeapAt w' base H left A (n + 1) c l ∧ KeepT w w' ∧ Below base w w'
theorem push_end {base H : Nat} {left : Int} {A A3 : Option Addr} {n c c3 : Nat} {l : List Strm} {s : Strm} {w W w3 : World} (hW : HeapAt W base H left A n c l) (hs : SOk w s) (hBW : Below w.heap.size w W) (hbw : base ≤ w.heap.size)
    (app : App (W.alloc (.cells #[.slice s.A s.n s.c, .int .i64 s.which] 53)) base 53 2 (.slice A n c) (.slice A3 (n + 1) c3) (n + 1) (l.flatMap stE ++ #[Value.slice s.A s.n s.c, .int .i64 s.which].toList) w3) :
    HeapAt (w3.setCell ⟨H, 0, none⟩ (.slice A3 (n + 1) c3)) base H left A3 (n + 1) c3 (l ++ [s]) ∧ KeepT w (w3.setCell ⟨H, 0, none⟩ (.slice A3 (n + 1) c3)) ∧ Below base w (w3.setCell ⟨H, 0, none⟩ (.slice A3 (n + 1) c3)) := by
  have k3 := app.blk (hW.blk.alloc _) (hW.own.alloc _) (by decide)
  have kW : KeepT W (W.alloc (.cells #[.slice s.A s.n s.c, .int .i64 s.which] 53)) := fun g t cs _ _ hk => hk.alloc _
  have kk : KeepT W (w3.setCell ⟨H, 0, none⟩ (.slice A3 (n + 1) c3)) := (kW.grown (hW.own.alloc _) app.grown).set k3 (.inl rfl) 0 _
  have k0 := ((KeepT.refl w).call hBW).trans kk
  refine ⟨⟨?_, ?_, ?_, hW.hb⟩, k0, ?_⟩
  · have := k3.set_ 0 (.slice A3 (n + 1) c3)
    simpa using this
  · exact own_far (p := ⟨H, 0, none⟩) (own_snocE s app.own rfl) (own_ne app.own k3 (by decide)) _
  · intro x hx
    rcases List.mem_append.1 hx with hx | hx
    · exact (hW.ok x hx).keep kk
    · rw [List.mem_singleton] at hx; subst hx; exact hs.keep k0
  · have b1 : Below base w (W.alloc (.cells #[.slice s.A s.n s.c, .int .i64 s.which] 53)) := (hBW.mono hbw).alloc (Nat.le_trans hbw hBW.size) _
    have b2 := app.below (hW.own.alloc _) b1 (Nat.le_refl _) (Nat.le_trans hbw (Nat.le_trans hBW.size (by simp)))
    exact b2.setCell (p := ⟨H, 0, none⟩) hW.hb _
theorem two_cell {a b : Value} (ha : a.oneCell' = true) (hb : b.oneCell' = true) : ∀ u ∈ #[a, b].toList, u.oneCell' = true := by
  intro u hu
  simp at hu
  rcases hu with rfl | rfl
  · exact ha
  · exact hb
set_option maxRecDepth 100000 in
set_option maxHeartbeats 4000000 in
theorem pushM_any (base H : Nat) (left : Int) (A : Option Addr) (n c : Nat) (l : List Strm) (s : Strm) (w : World) (h : HeapAt w base H left A n c l) (hs : SOk w s) (hn : n ≤ 100000) (hbw : base ≤ w.heap.size) :
    Calls Try.prog 59 #[.pointer (some ⟨H, 0, none⟩), .iface 53 (.agg #[.slice s.A s.n s.c, .int .i64 s.which])] w (PushPost base H left n (l ++ [s]) w) := by
  have HH := hide h
  have HS := hide hs
  have c0 := h.cell
  have hHl := h.blk.lt
  clear h hs
  have AS := assert53
  go_enter Try.func59, Try.ntmps59
  go_upto_region 2 with (fail)
  go_name_world W hW
  have BW := hide (show Below w.heap.size w W by rw [← hW]; exact (Below.refl _ _).alloc (Nat.le_refl _) _)
  have k1 : Blk W w.heap.size 53 #[.slice s.A s.n s.c, .int .i64 s.which] := by rw [← hW]; exact Blk.new _ _ _
  have HW := hide (HH.out.call BW.out)
  have c1 := HW.out.cell
  have p0 := k1.cell 0
  have p1 := k1.cell 1
  have hk1 := k1.lt
  have K1 := hide k1
  simp at p0 p1
  have hbW := Nat.le_trans hbw BW.out.size
  clear hW k1 c0
  have EF := hide (show ∀ V, Below W.heap.size W V → V.cell? ⟨H, 0, none⟩ = some (.slice A n c) ∧ V.cell? ⟨w.heap.size, 0, none⟩ = some (.slice s.A s.n s.c) ∧ V.cell? ⟨w.heap.size, 1, none⟩ = some (.int .i64 s.which) from fun V hV => ⟨(hV.cell (p := ⟨H, 0, none⟩) HW.out.blk.lt).trans c1, (hV.cell (p := ⟨w.heap.size, 0, none⟩) hk1).trans p0, (hV.cell (p := ⟨w.heap.size, 1, none⟩) hk1).trans p1⟩)
  have zH := HW.out.blk.lt
  have HNE := hide (own_new HH.out.own (Nat.le_refl w.heap.size))
  go_region_law (refine step_append1 Try.sl47 (by rfl) _ _ (by rfl) base (.slice A n c) n _ #[.slice s.A s.n s.c, .int .i64 s.which] W 1 (by rfl) (by rfl) rfl HW.out.own rfl (two_cell rfl rfl) (by simp only [maxLen]; omega) (by omega) hbW ?_; intro A3 c3 w3 app; have k3 := hide (app.blk (HW.out.blk.alloc _) (HW.out.own.alloc _) (by decide)); have q3 := hide ((K1.out.alloc _).grown app.grown HNE.out); have z0 := k3.out.cell 0; have zf := k3.out.frozen 0; have y0 := q3.out.cell 0; have y1 := q3.out.cell 1; simp at z0 y0 y1)
  all_goals
    have EN := hide (push_end HW.out HS.out BW.out hbw app)
    clear z0 zf y0 y1
    go_end0
    exact ⟨A3, c3, rfl, EN.out.1, EN.out.2.1, EN.out.2.2⟩
end Go.Proofs.Ytkcmpddefohkeaa
