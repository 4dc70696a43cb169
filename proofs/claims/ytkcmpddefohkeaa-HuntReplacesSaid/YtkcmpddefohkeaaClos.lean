/-
  The functions that take the places, one place each. No condition but bounds.
-/
import Derived.Test.YtkcmpddefohkeaaEach
namespace Go.Proofs.Ytkcmpddefohkeaa
open Go.RowKit Go.Proofs
set_option linter.unusedVariables false
def nI (p : Nat) : Value := .int .i64 p
theorem Try.sl39 : SliceOf Try.prog 39 3 1 8 := SliceOf.mk (z := .int .i64 0) (by kernel_rfl) (by kernel_rfl) (by kernel_rfl) (by omega)
theorem one_nI (p : Nat) : ∀ u ∈ #[Value.int .i64 p].toList, u.oneCell' = true := by intro u hu; simp at hu; subst hu; rfl
theorem App.new_ne {w w' : World} {base : Nat} {e : TypeId} {size n : Nat} {v v' : Value} {ys : List Value} {G : Nat} (h : App w base e size v v' n ys w') (hv : v.ownBlock ≠ some G) (hG : G < w.heap.size) : v'.ownBlock ≠ some G := by
  rcases h.at_ with h | ⟨g, h, hg⟩
  · rw [h]; exact hv
  · rw [h]; intro e; injection e with e; omega
/-- The slice of the places so far, captured in one block; G is another block. -/
def PInv (w0 : World) (g G : Nat) (l : List Nat) (w : World) : Prop :=
  ∃ A c, Blk w g 39 #[.slice A l.length c] ∧ w.ownsRow w0.heap.size 3 1 (.slice A l.length c) l.length (l.map nI) ∧ Below w0.heap.size w0 w ∧ (Value.slice A l.length c).ownBlock ≠ some G
theorem PInv.drewN {w0 w : World} {g G : Nat} {l : List Nat} (h : PInv w0 g G l w) (q : Nat) : PInv w0 g G l (w.drewN q) := by
  obtain ⟨A, c, h1, h2, h3, h4⟩ := h
  exact ⟨A, c, h1.drewN q, h2, below_drewN' h3 q, h4⟩
/-- A place is appended. -/
theorem PInv.next {w0 w w2 : World} {g G p : Nat} {l : List Nat} {A A1 : Option Addr} {c c1 : Nat} {bs : List Int} (hg : w0.heap.size ≤ g) (hgG : g ≠ G) (hB : Blk w g 39 #[.slice A l.length c]) (hown : w.ownsRow w0.heap.size 3 1 (.slice A l.length c) l.length (l.map nI)) (hb : Below w0.heap.size w0 w) (hne : (Value.slice A l.length c).ownBlock ≠ some G)
    (hT : Tab w G bs) (app : App (w.alloc (.cells #[.int .i64 p] 3)) w0.heap.size 3 1 (.slice A l.length c) (.slice A1 (l.length + 1) c1) (l.length + 1) (l.map nI ++ #[Value.int .i64 p].toList) w2) :
    PInv w0 g G (l ++ [p]) (w2.setCell ⟨g, 0, none⟩ (.slice A1 (l.length + 1) c1)) ∧ Tab (w2.setCell ⟨g, 0, none⟩ (.slice A1 (l.length + 1) c1)) G bs := by
  have k1 := app.blk (hB.alloc _) (hown.alloc _) (by decide)
  have o1 := own_far app.own (p := ⟨g, 0, none⟩) (own_ne app.own k1 (by decide)) (.slice A1 (l.length + 1) c1)
  have b1 := (app.below (hown.alloc _) (hb.alloc hb.size _) (Nat.le_refl _) (by have := hb.size; simp; omega)).setCell (p := ⟨g, 0, none⟩) hg (.slice A1 (l.length + 1) c1)
  have t1 := (Blk.grown (Blk.alloc hT _) app.grown (fun e => hne e.symm)).far (p := ⟨g, 0, none⟩) (Ne.symm hgG) (.slice A1 (l.length + 1) c1)
  refine ⟨⟨A1, c1, ?_, ?_, b1, ?_⟩, t1⟩
  · have := k1.set_ 0 (.slice A1 (l.length + 1) c1)
    rw [List.length_append]; simpa using this
  · rw [List.length_append, List.map_append]; exact o1
  · rw [List.length_append]; exact app.new_ne hne (by have := Blk.lt hT; simp; omega)
set_option maxHeartbeats 1000000 in
theorem places1 (w0 : World) (g G p : Nat) (l : List Nat) (bs : List Int) (w : World) (hg : w0.heap.size ≤ g) (hgG : g ≠ G) (h : PInv w0 g G l w) (hT : Tab w G bs) (hl : l.length ≤ 400) (hp : p ≤ 400) :
    Calls Try.prog 35 #[.int .i64 (p : Int), .pointer (some ⟨g, 0, none⟩)] w fun e w2 => e = .returned (.bool true) ∧ PInv w0 g G (l ++ [p]) w2 ∧ Tab w2 G bs := by
  obtain ⟨A, c, hB, hown, hb, hne⟩ := h
  have d1 := hB.cell 0
  have d2 := hB.frozen 0
  simp only [List.getElem?_toArray, List.getElem?_cons_zero] at d1
  have hbz := hb.size
  go_enter Try.func35, Try.ntmps35
  go_wp2_with (at_builtin; go_must (refine wpList_append1 Try.sl39 rfl _ _ rfl w0.heap.size (.slice A l.length c) l.length (l.map nI) #[.int .i64 p] w 1 rfl rfl rfl hown rfl (one_nI p) (by simp only [maxLen]; omega) (by omega) hbz ?_; intro A1 c1 w2 app; have k1 := app.blk (hB.alloc _) (hown.alloc _) (by decide); have d3 := k1.cell 0; simp only [List.getElem?_toArray, List.getElem?_cons_zero] at d3; have d4 := k1.frozen 0))
  go_ret
  have := PInv.next hg hgG hB hown hb hne hT app
  exact ⟨rfl, this.1, this.2⟩
end Go.Proofs.Ytkcmpddefohkeaa
