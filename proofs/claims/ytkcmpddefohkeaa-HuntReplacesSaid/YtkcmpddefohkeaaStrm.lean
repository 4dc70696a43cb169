/-
  A heap of streams in memory; Less, Swap, walked. No condition but bounds.
-/
import Derived.Test.YtkcmpddefohkeaaMeth
import Derived.Lib.ItoaWalk
namespace Go.Proofs.Ytkcmpddefohkeaa
open Go.RowKit Go.Proofs
set_option linter.unusedVariables false
structure Strm where
  A : Option Addr
  n : Nat
  c : Nat
  ps : List Nat
  which : Nat
deriving Inhabited
def stE (s : Strm) : List Value := [.slice s.A s.n s.c, .int .i64 s.which]
theorem stE_len (s : Strm) : (stE s).length = 2 := rfl
def hdOf (s : Strm) : Nat := s.ps.headD 0
/-- Does a stream's first hit come ahead of another's? -/
def ltS (a b : Strm) : Bool := if hdOf a = hdOf b then decide (a.which < b.which) else decide (hdOf a < hdOf b)
theorem ordS : Ord ltS := by
  refine ⟨fun a => by unfold ltS; simp, fun a b h => ?_, fun a b c h1 h2 => ?_⟩
  · unfold ltS at *
    by_cases e : hdOf a = hdOf b
    · rw [if_pos e] at h; rw [if_pos e.symm]; simp at h ⊢; omega
    · rw [if_neg e] at h; rw [if_neg (Ne.symm e)]; simp at h ⊢; omega
  · unfold ltS at *
    split at h1 <;> split at h2 <;> split <;> simp_all <;> omega
/-- A stream's places stand in a row of numbers. -/
structure SOk (w : World) (s : Strm) : Prop where
  len : s.ps.length = s.n
  pos : 0 < s.n
  cap : s.n ≤ s.c
  row : ∃ b off cs, s.A = some ⟨b, off, none⟩ ∧ Blk w b 3 cs ∧ ∀ j p, s.ps[j]? = some p → cs[off + j]? = some (nI p)
/-- Blocks of other kinds than heaps and their rows stay as they are. -/
def KeepT (w w' : World) : Prop := ∀ g t cs, t ≠ 49 → t ≠ 53 → Blk w g t cs → Blk w' g t cs
theorem KeepT.refl (w : World) : KeepT w w := fun _ _ _ _ _ h => h
theorem KeepT.trans {a b c : World} (h : KeepT a b) (k : KeepT b c) : KeepT a c := fun g t cs h1 h2 hb => k g t cs h1 h2 (h g t cs h1 h2 hb)
theorem KeepT.call {a b w' : World} (h : KeepT a b) (hb : Below b.heap.size b w') : KeepT a w' := fun g t cs h1 h2 hk => (h g t cs h1 h2 hk).below hb (h g t cs h1 h2 hk).lt
theorem KeepT.set {a w : World} (h : KeepT a w) {b t0 : Nat} {cs0 : Array Value} (hb : Blk w b t0 cs0) (ht : t0 = 49 ∨ t0 = 53) (i : Nat) (u : Value) : KeepT a (w.setCell ⟨b, i, none⟩ u) :=
  fun g t cs h1 h2 hg => (h g t cs h1 h2 hg).far (p := ⟨b, i, none⟩) ((h g t cs h1 h2 hg).ne_ hb (by rcases ht with rfl | rfl; exact h1; exact h2)) u
theorem KeepT.grown {a w w' : World} (h : KeepT a w) {B s n : Nat} {v : Value} {xs : List Value} (hown : w.ownsRow B 53 s v n xs) (hg : w.grownBy w' v.ownBlock) : KeepT a w' :=
  fun g t cs h1 h2 hb => (h g t cs h1 h2 hb).grown hg (own_ne hown (h g t cs h1 h2 hb) (Ne.symm h2))
theorem own_keepT {w w' : World} {base s n : Nat} {e : TypeId} {v : Value} {xs : List Value} (h : w.ownsRow base e s v n xs) (hk : KeepT w w') (h1 : e ≠ 49) (h2 : e ≠ 53) : w'.ownsRow base e s v n xs := by
  refine ⟨h.1, ?_⟩
  rcases h.2 with h3 | ⟨g, cap, cur, rfl, hb, hg, rest⟩
  · exact .inl h3
  · exact .inr ⟨g, cap, cur, rfl, hb, hk g e cur h1 h2 hg, rest⟩
theorem SOk.keep {w w' : World} {s : Strm} (h : SOk w s) (hk : KeepT w w') : SOk w' s := by
  obtain ⟨h1, h2, h3, b, off, cs, h4, h5, h6⟩ := h
  exact ⟨h1, h2, h3, b, off, cs, h4, hk _ _ _ (by decide) (by decide) h5, h6⟩
theorem SOk.head {w : World} {s : Strm} (h : SOk w s) : ∃ b off, s.A = some ⟨b, off, none⟩ ∧ b < w.heap.size ∧ w.cell? ⟨b, off, none⟩ = some (.int .i64 (hdOf s)) := by
  obtain ⟨h1, h2, h3, b, off, cs, h4, h5, h6⟩ := h
  refine ⟨b, off, h4, h5.lt, ?_⟩
  cases hp : s.ps with
  | nil => rw [hp] at h1; simp at h1; omega
  | cons p ps =>
    have := h6 0 p (by rw [hp]; rfl)
    rw [h5.cell, ← Nat.add_zero off, this]
    unfold hdOf nI
    rw [hp]; rfl
set_option maxRecDepth 100000 in
set_option maxHeartbeats 4000000 in
theorem less_any (base : Nat) (A : Option Addr) (n c : Nat) (l : List Strm) (i j : Nat) (a b : Strm) (w : World) (ho : w.ownsRow base 53 2 (.slice A n c) n (l.flatMap stE)) (hn : n ≤ 100000) (hi : l[i]? = some a) (hj : l[j]? = some b) (ha : SOk w a) (hb : SOk w b) :
    Calls Try.prog 56 #[.slice A n c, .int .i64 i, .int .i64 j] w fun e w' => e = .returned (.bool (ltS a b)) ∧ Below w.heap.size w w' := by
  have hil := (List.getElem?_eq_some_iff.1 hi).1
  have hjl := (List.getElem?_eq_some_iff.1 hj).1
  rcases own_rowE stE_len (by omega) ho with ⟨_, _, rfl⟩ | ⟨g, T, rfl, hbg, hr, hnc, hs, hm, hln⟩
  · simp at hi
  · have a0 : w.cell? ⟨g, i * 2 + 0, none⟩ = some (.slice a.A a.n a.c) := hr.at_ stE_len hi (i := 0) rfl
    have a1 : w.cell? ⟨g, i * 2 + 1, none⟩ = some (.int .i64 a.which) := hr.at_ stE_len hi (i := 1) rfl
    have b0 : w.cell? ⟨g, j * 2 + 0, none⟩ = some (.slice b.A b.n b.c) := hr.at_ stE_len hj (i := 0) rfl
    have b1 : w.cell? ⟨g, j * 2 + 1, none⟩ = some (.int .i64 b.which) := hr.at_ stE_len hj (i := 1) rfl
    simp only [Nat.add_zero] at a0 b0
    obtain ⟨ba, oa, hA, hla, ca⟩ := ha.head
    obtain ⟨bb, ob, hB, hlb, cb⟩ := hb.head
    have pa := ha.pos
    have pb := hb.pos
    rw [hA] at a0
    rw [hB] at b0
    obtain ⟨x, hx⟩ : ∃ x, hdOf a = x := ⟨_, rfl⟩
    obtain ⟨y, hy⟩ : ∃ y, hdOf b = y := ⟨_, rfl⟩
    rw [hx] at ca
    rw [hy] at cb
    have hin : i < n := by omega
    have hjn : j < n := by omega
    have hgl := hr.blk.lt
    have i1 : (0 : Int) ≤ i := by omega
    have i2 : (i : Int) ≤ n := by omega
    have i3 : (0 : Int) ≤ j := by omega
    have i4 : (j : Int) ≤ n := by omega
    have i5 : (0 : Int) < a.n := by omega
    have i6 : (0 : Int) < b.n := by omega
    have HL := hide (show ltS a b = if x = y then decide (a.which < b.which) else decide (x < y) by unfold ltS; rw [hx, hy])
    clear hi hj ha hb ho hil hjl hr hs hm hx hy hA hB hln
    by_cases hxy : x = y
    · subst hxy
      have e1 : ((x : Int) == (x : Int)) = true := by simp
      have e2 : (x != x) = false := by simp
      have HR := hide (show ltS a b = decide (a.which < b.which) by rw [HL.out, if_pos rfl])
      go_enter Try.func56, Try.ntmps56
      go_upto_region 1 with (fail)
      go_region
      · go_upto_region 2 with (fail)
        go_name_world W hW
        have k1 : Blk W w.heap.size 53 #[.slice (some ⟨ba, oa, none⟩) a.n a.c, .int .i64 a.which] := by rw [← hW]; exact ((Blk.new _ _ _).alloc _).drew
        have k2 : Blk W (w.heap.size + 1) 53 #[.slice (some ⟨bb, ob, none⟩) b.n b.c, .int .i64 b.which] := by rw [← hW]; exact (Blk.new' (by rw [World.size_alloc]) _ _).drew
        have BW := hide (show Below w.heap.size w W by rw [← hW]; exact (((Below.refl _ _).alloc (Nat.le_refl _) _).alloc (by rw [World.size_alloc]; omega) _).drew)
        have za := (BW.out.cell (p := ⟨ba, oa, none⟩) hla).trans ca
        have zb := (BW.out.cell (p := ⟨bb, ob, none⟩) hlb).trans cb
        have p0 := k1.cell 0
        have p1 := k1.cell 1
        have q0 := k2.cell 0
        have q1 := k2.cell 1
        simp at p0 p1 q0 q1
        clear hW k1 k2 a0 a1 b0 b1 ca cb
        go_quiet (fail)
        go_wp2
        go_ret
        rw [HR.out]
        exact ⟨rfl, below_drewN' BW.out _⟩
      · go_upto_region 2 with (fail)
        go_name_world W hW
        have k1 : Blk W w.heap.size 53 #[.slice (some ⟨bb, ob, none⟩) b.n b.c, .int .i64 b.which] := by rw [← hW]; exact ((Blk.new _ _ _).alloc _).drew
        have k2 : Blk W (w.heap.size + 1) 53 #[.slice (some ⟨ba, oa, none⟩) a.n a.c, .int .i64 a.which] := by rw [← hW]; exact (Blk.new' (by rw [World.size_alloc]) _ _).drew
        have BW := hide (show Below w.heap.size w W by rw [← hW]; exact (((Below.refl _ _).alloc (Nat.le_refl _) _).alloc (by rw [World.size_alloc]; omega) _).drew)
        have za := (BW.out.cell (p := ⟨ba, oa, none⟩) hla).trans ca
        have zb := (BW.out.cell (p := ⟨bb, ob, none⟩) hlb).trans cb
        have p0 := k1.cell 0
        have p1 := k1.cell 1
        have q0 := k2.cell 0
        have q1 := k2.cell 1
        simp at p0 p1 q0 q1
        clear hW k1 k2 a0 a1 b0 b1 ca cb
        go_quiet (fail)
        go_wp2
        go_ret
        rw [HR.out]
        exact ⟨rfl, below_drewN' BW.out _⟩
    · have e1 : (x == y) = false := by simpa using hxy
      have e2 : (x != y) = true := by simpa using hxy
      have HR := hide (show ltS a b = decide (x < y) by rw [HL.out, if_neg hxy])
      go_enter Try.func56, Try.ntmps56
      go_upto_region 1 with (fail)
      go_region
      · go_upto_region 2 with (fail)
        go_name_world W hW
        have k1 : Blk W w.heap.size 53 #[.slice (some ⟨ba, oa, none⟩) a.n a.c, .int .i64 a.which] := by rw [← hW]; exact ((Blk.new _ _ _).alloc _).drew
        have k2 : Blk W (w.heap.size + 1) 53 #[.slice (some ⟨bb, ob, none⟩) b.n b.c, .int .i64 b.which] := by rw [← hW]; exact (Blk.new' (by rw [World.size_alloc]) _ _).drew
        have BW := hide (show Below w.heap.size w W by rw [← hW]; exact (((Below.refl _ _).alloc (Nat.le_refl _) _).alloc (by rw [World.size_alloc]; omega) _).drew)
        have za := (BW.out.cell (p := ⟨ba, oa, none⟩) hla).trans ca
        have zb := (BW.out.cell (p := ⟨bb, ob, none⟩) hlb).trans cb
        have p0 := k1.cell 0
        have p1 := k1.cell 1
        have q0 := k2.cell 0
        have q1 := k2.cell 1
        simp at p0 p1 q0 q1
        clear hW k1 k2 a0 a1 b0 b1 ca cb
        go_quiet (fail)
        go_upto_region 3 with (fail)
        go_quiet (fail)
        go_wp2
        go_ret
        rw [HR.out]
        exact ⟨rfl, below_drewN' (below_drewN' BW.out _) _⟩
      · go_upto_region 2 with (fail)
        go_name_world W hW
        have k1 : Blk W w.heap.size 53 #[.slice (some ⟨bb, ob, none⟩) b.n b.c, .int .i64 b.which] := by rw [← hW]; exact ((Blk.new _ _ _).alloc _).drew
        have k2 : Blk W (w.heap.size + 1) 53 #[.slice (some ⟨ba, oa, none⟩) a.n a.c, .int .i64 a.which] := by rw [← hW]; exact (Blk.new' (by rw [World.size_alloc]) _ _).drew
        have BW := hide (show Below w.heap.size w W by rw [← hW]; exact (((Below.refl _ _).alloc (Nat.le_refl _) _).alloc (by rw [World.size_alloc]; omega) _).drew)
        have za := (BW.out.cell (p := ⟨ba, oa, none⟩) hla).trans ca
        have zb := (BW.out.cell (p := ⟨bb, ob, none⟩) hlb).trans cb
        have p0 := k1.cell 0
        have p1 := k1.cell 1
        have q0 := k2.cell 0
        have q1 := k2.cell 1
        simp at p0 p1 q0 q1
        clear hW k1 k2 a0 a1 b0 b1 ca cb
        go_quiet (fail)
        go_upto_region 3 with (fail)
        go_quiet (fail)
        go_wp2
        go_ret
        rw [HR.out]
        exact ⟨rfl, below_drewN' (below_drewN' BW.out _) _⟩
end Go.Proofs.Ytkcmpddefohkeaa
