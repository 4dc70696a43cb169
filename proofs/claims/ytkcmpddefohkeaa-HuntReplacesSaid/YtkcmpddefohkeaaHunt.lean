/-
  A hunt in memory; Left, and Next where nothing is to come, walked. No condition but bounds.
-/
import Derived.Test.YtkcmpddefohkeaaPopH
import Derived.Test.YtkcmpddefohkeaaHits
namespace Go.Proofs.Ytkcmpddefohkeaa
open Go.RowKit Go.Proofs
set_option linter.unusedVariables false
def hitE (h : Nat × Nat) : List Value := [.int .i64 h.1, .int .i64 h.2]
theorem hitE_len (h : Nat × Nat) : (hitE h).length = 2 := rfl
/-- A stream's hits. -/
def hitsOf (s : Strm) : List (Nat × Nat) := s.ps.map (fun p => (p, s.which))
/-- A hunt with hits L still to come, in order. -/
def HuntAt (w : World) (base H : Nat) (L : List (Nat × Nat)) : Prop :=
  ∃ A n c l, HeapAt w base H L.length A n c l ∧ HeapOK ltS l l.length ∧ (∀ s ∈ l, s.ps.Pairwise (· < ·)) ∧ (l.flatMap hitsOf).Perm L ∧ L.Pairwise hitLt
theorem strms_le {w : World} : ∀ {l : List Strm}, (∀ s ∈ l, SOk w s) → l.length ≤ (l.flatMap hitsOf).length
  | [], _ => Nat.le_refl _
  | s :: l, h => by
    have h1 := strms_le (l := l) (fun x hx => h x (by simp [hx]))
    have h2 := h s (by simp)
    have : (hitsOf s).length = s.n := by unfold hitsOf; rw [List.length_map, h2.len]
    have := h2.pos
    rw [List.flatMap_cons, List.length_append, List.length_cons]
    omega
theorem hit_lt {a b : Strm} {p : Nat} (h : ltS a b = false) (hp : p ∈ a.ps) (hs : a.ps.Pairwise (· < ·)) : ¬ hitLt (p, a.which) (hdOf b, b.which) := by
  have hle : hdOf a ≤ p := by
    unfold hdOf
    cases hl : a.ps with
    | nil => rw [hl] at hp; cases hp
    | cons x xs =>
      rw [hl] at hp hs
      rcases List.mem_cons.1 hp with rfl | hp
      · exact Nat.le_refl _
      · exact Nat.le_of_lt ((List.pairwise_cons.1 hs).1 p hp)
  unfold ltS at h
  unfold hitLt
  simp only
  split at h
  · rename_i e
    simp at h
    omega
  · rename_i e
    simp at h
    omega
theorem head_in {w : World} {s : Strm} (h : SOk w s) : ∃ t, s.ps = hdOf s :: t := by
  have h1 := h.len
  have h2 := h.pos
  unfold hdOf
  cases hl : s.ps with
  | nil => rw [hl] at h1; simp at h1; omega
  | cons x xs => exact ⟨xs, rfl⟩
/-- The next hit. -/
theorem hunt_step {w : World} {l : List Strm} {L : List (Nat × Nat)} {r : Strm} (hok : ∀ s ∈ l, SOk w s) (ho : HeapOK ltS l l.length) (hs : ∀ s ∈ l, s.ps.Pairwise (· < ·)) (hp : (l.flatMap hitsOf).Perm L) (hL : L.Pairwise hitLt) (hr : l[0]? = some r) {t : List Nat} (ht : r.ps = hdOf r :: t) :
    ∃ L', L = (hdOf r, r.which) :: L' ∧ ((t.map (fun p => (p, r.which))) ++ (popF ltS l).flatMap hitsOf).Perm L' := by
  obtain ⟨_, hpp, _, hmin⟩ := pop_heap ordS ho hr
  have hrl := List.mem_of_getElem? hr
  have hh : hitsOf r = (hdOf r, r.which) :: t.map (fun p => (p, r.which)) := by unfold hitsOf; rw [ht]; simp
  obtain ⟨L', e⟩ := least_first (h := (hdOf r, r.which)) hp hL (List.mem_flatMap.2 ⟨r, hrl, by rw [hh]; simp⟩) (fun x hx => by
    obtain ⟨s, hsl, hx⟩ := List.mem_flatMap.1 hx
    obtain ⟨p, hps, rfl⟩ := List.mem_map.1 hx
    exact hit_lt (hmin s hsl) hps (hs s hsl))
  refine ⟨L', e, ?_⟩
  have h1 := (hpp.flatMap_right hitsOf).trans hp
  rw [List.flatMap_cons, hh, e, List.cons_append] at h1
  exact h1.cons_inv
set_option maxRecDepth 100000 in
set_option maxHeartbeats 2000000 in
theorem left_any (base H : Nat) (L : List (Nat × Nat)) (w : World) (h : HuntAt w base H L) : Calls Try.prog 15 #[.pointer (some ⟨H, 0, none⟩)] w fun e w' => e = .returned (.int .i64 L.length) ∧ w = w' := by
  obtain ⟨A, n, c, l, hh, _⟩ := h
  have c1 := hh.blk.cell 1
  simp at c1
  clear hh
  go_enter Try.func15, Try.ntmps15
  go_wp2
  go_ret
  exact ⟨rfl, rfl⟩
theorem left_nil (w : World) : Calls Try.prog 15 #[.pointer none] w fun e w' => e = .returned (.int .i64 0) ∧ w = w' := by
  go_enter Try.func15, Try.ntmps15
  go_wp2
  go_ret
  exact ⟨rfl, rfl⟩
/-- A hit, or none, handed back; what is still to come. -/
def NextPost (base H : Nat) (h : Nat × Nat) (ok : Bool) (L : List (Nat × Nat)) (w : World) (e : Ending) (w' : World) : Prop :=
  e = .returned (.tuple #[.agg #[.int .i64 h.1, .int .i64 h.2], .bool ok]) ∧ HuntAt w' base H L ∧ KeepT w w' ∧ Below base w w'
theorem HuntAt.call {w w' : World} {base H : Nat} {L : List (Nat × Nat)} (h : HuntAt w base H L) (hb : Below w.heap.size w w') : HuntAt w' base H L := by
  obtain ⟨A, n, c, l, hh, h1, h2, h3, h4⟩ := h
  exact ⟨A, n, c, l, hh.call hb, h1, h2, h3, h4⟩
set_option maxRecDepth 100000 in
set_option maxHeartbeats 2000000 in
theorem next_nil (w : World) : Calls Try.prog 16 #[.pointer none] w fun e w' => e = .returned (.tuple #[.agg #[.int .i64 0, .int .i64 0], .bool false]) ∧ Below w.heap.size w w' := by
  go_enter Try.func16, Try.ntmps16
  go_wp2
  exact bodyPost_ret (v := .tuple #[.agg #[.int .i64 0, .int .i64 0], .bool false]) (by simp [results, Try.results16, go_sem]) rfl ⟨rfl, (Below.refl _ _).alloc (Nat.le_refl _) _⟩
set_option maxRecDepth 100000 in
set_option maxHeartbeats 2000000 in
theorem next_none (base H : Nat) (w : World) (h : HuntAt w base H []) (hbw : base ≤ w.heap.size) : Calls Try.prog 16 #[.pointer (some ⟨H, 0, none⟩)] w (NextPost base H (0, 0) false [] w) := by
  have HH := hide h
  obtain ⟨A, n, c, l, hh, h1, h2, h3, h4⟩ := h
  have hn : n = 0 := by
    have h5 : l.length ≤ 0 := by have := strms_le hh.ok; rwa [h3.length_eq] at this
    have h6 := hh.len
    omega
  subst hn
  have c0 := hh.cell
  have hHl := hh.blk.lt
  clear hh h1 h2 h3 h4
  go_enter Try.func16, Try.ntmps16
  go_wp2
  have BW : Below w.heap.size w (w.alloc (.cells #[.int .i64 0, .int .i64 0] 33)) := (Below.refl _ _).alloc (Nat.le_refl _) _
  exact bodyPost_ret (v := .tuple #[.agg #[.int .i64 0, .int .i64 0], .bool false]) (by simp [results, Try.results16, go_sem]) rfl ⟨rfl, HH.out.call BW, (KeepT.refl w).call BW, BW.mono hbw⟩
end Go.Proofs.Ytkcmpddefohkeaa
