/-
  The functions that take the places, one place each. No condition but bounds.
-/
import Derived.Test.YtglonmjacacjaaaEach
namespace Go.Proofs.Ytglonmjacacjaaa
open Go.RowKit Go.Proofs
set_option linter.unusedVariables false
def nI (p : Nat) : Value := .int .i64 p
theorem Try.sl23 : SliceOf Try.prog 23 3 1 8 := SliceOf.mk (z := .int .i64 0) (by kernel_rfl) (by kernel_rfl) (by kernel_rfl) (by omega)
theorem one_nI (p : Nat) : ∀ u ∈ #[Value.int .i64 p].toList, u.oneCell' = true := by intro u hu; simp at hu; subst hu; rfl
theorem App.new_ne {w w' : World} {base : Nat} {e : TypeId} {size n : Nat} {v v' : Value} {ys : List Value} {G : Nat} (h : App w base e size v v' n ys w') (hv : v.ownBlock ≠ some G) (hG : G < w.heap.size) : v'.ownBlock ≠ some G := by
  rcases h.at_ with h | ⟨g, h, hg⟩
  · rw [h]; exact hv
  · rw [h]; intro e; injection e with e; omega
/-- The slice of the places so far, captured in one block; G is another block. -/
def PInv (w0 : World) (g G : Nat) (l : List Nat) (w : World) : Prop :=
  ∃ A c, Blk w g 23 #[.slice A l.length c] ∧ w.ownsRow w0.heap.size 3 1 (.slice A l.length c) l.length (l.map nI) ∧ Below w0.heap.size w0 w ∧ (Value.slice A l.length c).ownBlock ≠ some G
theorem PInv.drewN {w0 w : World} {g G : Nat} {l : List Nat} (h : PInv w0 g G l w) (q : Nat) : PInv w0 g G l (w.drewN q) := by
  obtain ⟨A, c, h1, h2, h3, h4⟩ := h
  exact ⟨A, c, h1.drewN q, h2, below_drewN' h3 q, h4⟩
/-- A place is appended. -/
theorem PInv.next {w0 w w2 : World} {g G p : Nat} {l : List Nat} {A A1 : Option Addr} {c c1 : Nat} {bs : List Int} (hg : w0.heap.size ≤ g) (hgG : g ≠ G) (hB : Blk w g 23 #[.slice A l.length c]) (hown : w.ownsRow w0.heap.size 3 1 (.slice A l.length c) l.length (l.map nI)) (hb : Below w0.heap.size w0 w) (hne : (Value.slice A l.length c).ownBlock ≠ some G)
    (hT : Tab w G bs) (app : App (w.alloc (.cells #[.int .i64 p] 3)) w0.heap.size 3 1 (.slice A l.length c) (.slice A1 (l.length + 1) c1) (l.length + 1) (l.map nI ++ #[Value.int .i64 p].toList) w2) :
    PInv w0 g G (l ++ [p]) (w2.setCell ⟨g, 0, none⟩ (.slice A1 (l.length + 1) c1)) ∧ Tab (w2.setCell ⟨g, 0, none⟩ (.slice A1 (l.length + 1) c1)) G bs := by
  have k1 := app.blk (hB.alloc _) (hown.alloc _) (by decide)
  have o1 := own_far app.own (p := ⟨g, 0, none⟩) (own_ne app.own k1 (by decide)) (.slice A1 (l.length + 1) c1)
  have b1 := (app.below (hown.alloc _) (hb.alloc hb.size _) (Nat.le_refl _) (by have := hb.size; simp; omega)).setCell (p := ⟨g, 0, none⟩) hg (.slice A1 (l.length + 1) c1)
  have t1 := (Blk.grown (Blk.alloc hT _) app.grown (fun e => hne e.symm)).far (p := ⟨g, 0, none⟩) (Ne.symm hgG) (.slice A1 (l.length + 1) c1)
  refine ⟨⟨A1, c1, ?_, ?_, b1, ?_⟩, t1⟩
  · have := k1.set_ 0 (.slice A1 (l.length + 1) c1)
    rw [List.length_append]; simpa using this
  · rw [List.length_append, List.map_append]; exact o1
  · rw [List.length_append]; exact app.new_ne hne (by have := Blk.lt hT; simp; omega)
set_option maxHeartbeats 1000000 in
theorem places1 (w0 : World) (g G p : Nat) (l : List Nat) (bs : List Int) (w : World) (hg : w0.heap.size ≤ g) (hgG : g ≠ G) (h : PInv w0 g G l w) (hT : Tab w G bs) (hl : l.length ≤ 400) (hp : p ≤ 400) :
    Calls Try.prog 28 #[.int .i64 (p : Int), .pointer (some ⟨g, 0, none⟩)] w fun e w2 => e = .returned (.bool true) ∧ PInv w0 g G (l ++ [p]) w2 ∧ Tab w2 G bs := by
  obtain ⟨A, c, hB, hown, hb, hne⟩ := h
  have d1 := hB.cell 0
  have d2 := hB.frozen 0
  simp only [List.getElem?_toArray, List.getElem?_cons_zero] at d1
  have hbz := hb.size
  go_enter Try.func28, Try.ntmps28
  go_wp2_with (at_builtin; go_must (refine wpList_append1 Try.sl23 rfl _ _ rfl w0.heap.size (.slice A l.length c) l.length (l.map nI) #[.int .i64 p] w 1 rfl rfl rfl hown rfl (one_nI p) (by simp only [maxLen]; omega) (by omega) hbz ?_; intro A1 c1 w2 app; have k1 := app.blk (hB.alloc _) (hown.alloc _) (by decide); have d3 := k1.cell 0; simp only [List.getElem?_toArray, List.getElem?_cons_zero] at d3; have d4 := k1.frozen 0))
  go_ret
  have := PInv.next hg hgG hB hown hb hne hT app
  exact ⟨rfl, this.1, this.2⟩
/-- The count. -/
def CInv (w0 : World) (g : Nat) (l : List Nat) (w : World) : Prop := Blk w g 3 #[.int .i64 l.length] ∧ Below w0.heap.size w0 w
theorem count1 (w0 : World) (g G p : Nat) (l : List Nat) (bs : List Int) (w : World) (hg : w0.heap.size ≤ g) (hgG : g ≠ G) (h : CInv w0 g l w) (hT : Tab w G bs) (hl : l.length ≤ 400) :
    Calls Try.prog 24 #[.int .i64 (p : Int), .pointer (some ⟨g, 0, none⟩)] w fun e w2 => e = .returned (.bool true) ∧ CInv w0 g (l ++ [p]) w2 ∧ Tab w2 G bs := by
  obtain ⟨hB, hb⟩ := h
  have d1 := hB.cell 0
  have d2 := hB.frozen 0
  simp only [List.getElem?_toArray, List.getElem?_cons_zero] at d1
  go_enter Try.func24, Try.ntmps24
  go_wp2
  go_ret
  refine ⟨rfl, ⟨?_, hb.setCell (p := ⟨g, 0, none⟩) hg _⟩, Blk.far hT (Ne.symm hgG) _⟩
  have := hB.set_ 0 (.int .i64 ((l.length : Int) + 1))
  rw [List.length_append]
  simpa using this
/-- What is found: a place, or nothing. -/
def NInv (w0 : World) (g : Nat) (f : Int) (F : List Nat → Option Nat) (l : List Nat) (w : World) : Prop :=
  Blk w g 3 #[.int .i64 f] ∧ Blk w (g + 1) 3 #[.int .i64 ((F l).getD 0)] ∧ Blk w (g + 2) 4 #[.bool (F l).isSome] ∧ Below w0.heap.size w0 w
theorem NInv.drewN {w0 w : World} {g : Nat} {f : Int} {F : List Nat → Option Nat} {l : List Nat} (h : NInv w0 g f F l w) (q : Nat) : NInv w0 g f F l (w.drewN q) :=
  ⟨h.1.drewN q, h.2.1.drewN q, h.2.2.1.drewN q, below_drewN' h.2.2.2 q⟩
theorem NInv.put {w0 w : World} {g p G : Nat} {f : Int} {F : List Nat → Option Nat} {l l' : List Nat} {bs : List Int} (hg : w0.heap.size ≤ g) (hG : g + 2 < G) (h : NInv w0 g f F l w) (hF : F l' = some p) (hT : Tab w G bs) :
    NInv w0 g f F l' ((w.setCell ⟨g + 1, 0, none⟩ (.int .i64 p)).setCell ⟨g + 2, 0, none⟩ (.bool true)) ∧ Tab ((w.setCell ⟨g + 1, 0, none⟩ (.int .i64 p)).setCell ⟨g + 2, 0, none⟩ (.bool true)) G bs := by
  obtain ⟨h1, h2, h3, h4⟩ := h
  refine ⟨⟨(h1.far (p := ⟨g + 1, 0, none⟩) (show g ≠ g + 1 by omega) _).far (p := ⟨g + 2, 0, none⟩) (show g ≠ g + 2 by omega) _, ?_, ?_, (h4.setCell (p := ⟨g + 1, 0, none⟩) (show _ ≤ g + 1 by omega) _).setCell (p := ⟨g + 2, 0, none⟩) (show _ ≤ g + 2 by omega) _⟩,
    (Blk.far hT (p := ⟨g + 1, 0, none⟩) (show G ≠ g + 1 by omega) _).far (p := ⟨g + 2, 0, none⟩) (show G ≠ g + 2 by omega) _⟩
  · rw [hF]; exact (h2.set_ 0 _).far (p := ⟨g + 2, 0, none⟩) (show g + 1 ≠ g + 2 by omega) _
  · rw [hF]; exact (h3.far (p := ⟨g + 1, 0, none⟩) (show g + 2 ≠ g + 1 by omega) _).set_ 0 _
theorem NInv.same {w0 w : World} {g : Nat} {f : Int} {F : List Nat → Option Nat} {l l' : List Nat} (h : NInv w0 g f F l w) (hF : F l' = F l) : NInv w0 g f F l' w := by
  unfold NInv; rw [hF]; exact h
set_option maxHeartbeats 1000000 in
theorem next1 (w0 : World) (g G p : Nat) (f : Int) (l : List Nat) (bs : List Int) (w : World) (hg : w0.heap.size ≤ g) (hG : g + 2 < G) (hall : ∀ x ∈ l, below_ f x = true) (h : NInv w0 g f (nextF f) l w) (hT : Tab w G bs) :
    Calls Try.prog 25 #[.int .i64 (p : Int), .pointer (some ⟨g, 0, none⟩), .pointer (some ⟨g + 1, 0, none⟩), .pointer (some ⟨g + 2, 0, none⟩)] w fun e w2 => e = .returned (.bool (below_ f p)) ∧ NInv w0 g f (nextF f) (l ++ [p]) w2 ∧ Tab w2 G bs := by
  have hn := nextF_none hall
  have d1 := h.1.cell 0
  have d2 := h.2.1.cell 0
  have d3 := h.2.2.1.cell 0
  have e1 := h.1.frozen 0
  have e2 := h.2.1.frozen 0
  have e3 := h.2.2.1.frozen 0
  rw [hn] at d2 d3
  simp only [List.getElem?_toArray, List.getElem?_cons_zero, Option.getD_none, Option.isSome_none] at d1 d2 d3
  have hs := nextF_snoc f l p
  rw [hn, Option.none_or] at hs
  by_cases hfp : f ≤ (p : Int)
  · rw [if_pos hfp] at hs
    have H := hide (NInv.put hg hG h hs hT)
    have hr := hide (show below_ f p = false by unfold below_; simpa using hfp)
    clear hs h hT hall hn
    go_enter Try.func25, Try.ntmps25
    go_wp2
    go_ret
    exact ⟨ret_bool hr.out.symm, H.out.1, H.out.2⟩
  · rw [if_neg hfp] at hs
    have H := hide (NInv.same h (l' := l ++ [p]) (by rw [hs, hn]))
    have hr := hide (show below_ f p = true by unfold below_; simp; omega)
    have hd : decide (f ≤ (p : Int)) = false := by simpa using hfp
    clear hs h hall hn
    go_enter Try.func25, Try.ntmps25
    go_wp2
    go_ret
    exact ⟨ret_bool hr.out.symm, H.out, hT⟩
set_option maxHeartbeats 1000000 in
theorem ahead1 (w0 : World) (g G p : Nat) (f : Int) (l : List Nat) (bs : List Int) (w : World) (hg : w0.heap.size ≤ g) (hG : g + 2 < G) (h : NInv w0 g f (aheadF f) l w) (hT : Tab w G bs) :
    Calls Try.prog 26 #[.int .i64 (p : Int), .pointer (some ⟨g, 0, none⟩), .pointer (some ⟨g + 1, 0, none⟩), .pointer (some ⟨g + 2, 0, none⟩)] w fun e w2 => e = .returned (.bool (below_ f p)) ∧ NInv w0 g f (aheadF f) (l ++ [p]) w2 ∧ Tab w2 G bs := by
  have d1 := h.1.cell 0
  have d2 := h.2.1.cell 0
  have d3 := h.2.2.1.cell 0
  have e1 := h.1.frozen 0
  have e2 := h.2.1.frozen 0
  have e3 := h.2.2.1.frozen 0
  simp only [List.getElem?_toArray, List.getElem?_cons_zero] at d1 d2 d3
  have hs := aheadF_snoc f l p
  by_cases hfp : (p : Int) < f
  · rw [if_pos hfp] at hs
    have H := hide (NInv.put hg hG h hs hT)
    have hr := hide (show below_ f p = true by unfold below_; simpa using hfp)
    have hd : decide ((p : Int) < f) = true := by simpa using hfp
    clear hs h hT
    go_enter Try.func26, Try.ntmps26
    go_wp2
    go_ret
    exact ⟨ret_bool hr.out.symm, H.out.1, H.out.2⟩
  · rw [if_neg hfp] at hs
    have H := hide (NInv.same h (l' := l ++ [p]) hs)
    have hr := hide (show below_ f p = false by unfold below_; simp; omega)
    have hd : decide ((p : Int) < f) = false := by simpa using hfp
    clear hs h
    go_enter Try.func26, Try.ntmps26
    go_wp2
    go_ret
    exact ⟨ret_bool hr.out.symm, H.out, hT⟩
end Go.Proofs.Ytglonmjacacjaaa
