/-
  CharsNames, walked. No condition but what the arguments' kinds bear.
-/
import Derived.Test.YtbacobajmmkjeaaAwake
import Derived.Deep.RegionHeld3
import Derived.BigRegion
namespace Go.Proofs.Ytbacobajmmkjeaa
open Go.RowKit Go.Proofs
set_option linter.unusedVariables false

theorem keepN {w W w' : World} {g h : Nat} {a b c d u o : Int}
    (hS : (W.cell? ⟨g, 0, none⟩ = some (.int .i64 a) ∧ W.cell? ⟨g, 1, none⟩ = some (.int .i64 b) ∧ W.cell? ⟨g, 2, none⟩ = some (.int .i64 c) ∧ W.cell? ⟨g, 3, none⟩ = some (.int .i64 d) ∧ W.cell? ⟨g, 4, none⟩ = some (.int .i64 u) ∧ W.cell? ⟨g, 5, none⟩ = some (.int .i64 o)) ∧ (W.cell? ⟨h, 0, none⟩ = some (.int .i64 a) ∧ W.cell? ⟨h, 1, none⟩ = some (.int .i64 b) ∧ W.cell? ⟨h, 2, none⟩ = some (.int .i64 c) ∧ W.cell? ⟨h, 3, none⟩ = some (.int .i64 d) ∧ W.cell? ⟨h, 4, none⟩ = some (.int .i64 u) ∧ W.cell? ⟨h, 5, none⟩ = some (.int .i64 o)) ∧ g < W.heap.size ∧ h < W.heap.size ∧ w.heap.size ≤ W.heap.size ∧ Below w.heap.size w W)
    (hb : Below W.heap.size W w') :
    (w'.cell? ⟨g, 0, none⟩ = some (.int .i64 a) ∧ w'.cell? ⟨g, 1, none⟩ = some (.int .i64 b) ∧ w'.cell? ⟨g, 2, none⟩ = some (.int .i64 c) ∧ w'.cell? ⟨g, 3, none⟩ = some (.int .i64 d) ∧ w'.cell? ⟨g, 4, none⟩ = some (.int .i64 u) ∧ w'.cell? ⟨g, 5, none⟩ = some (.int .i64 o)) ∧ (w'.cell? ⟨h, 0, none⟩ = some (.int .i64 a) ∧ w'.cell? ⟨h, 1, none⟩ = some (.int .i64 b) ∧ w'.cell? ⟨h, 2, none⟩ = some (.int .i64 c) ∧ w'.cell? ⟨h, 3, none⟩ = some (.int .i64 d) ∧ w'.cell? ⟨h, 4, none⟩ = some (.int .i64 u) ∧ w'.cell? ⟨h, 5, none⟩ = some (.int .i64 o)) ∧ g < w'.heap.size ∧ h < w'.heap.size ∧ w.heap.size ≤ w'.heap.size ∧ Below w.heap.size w w' := by
  obtain ⟨⟨c0, c1, c2, c3, c4, c5⟩, ⟨e0, e1, e2, e3, e4, e5⟩, hg, hh, hs, hB⟩ := hS
  have hz := hb.size
  have cg : ∀ i, w'.cell? ⟨g, i, none⟩ = W.cell? ⟨g, i, none⟩ := fun i => hb.cell hg
  have ch : ∀ i, w'.cell? ⟨h, i, none⟩ = W.cell? ⟨h, i, none⟩ := fun i => hb.cell hh
  refine ⟨⟨(cg 0).trans c0, (cg 1).trans c1, (cg 2).trans c2, (cg 3).trans c3, (cg 4).trans c4, (cg 5).trans c5⟩, ⟨(ch 0).trans e0, (ch 1).trans e1, (ch 2).trans e2, (ch 3).trans e3, (ch 4).trans e4, (ch 5).trans e5⟩, by omega, by omega, by omega, below_in hB hb (Nat.le_refl _)⟩

theorem endN {w W : World} {p q : Prop} {g h : Nat} (hS : p ∧ q ∧ g < W.heap.size ∧ h < W.heap.size ∧ w.heap.size ≤ W.heap.size ∧ Below w.heap.size w W) : Below w.heap.size w W := hS.2.2.2.2.2
theorem eqPost {e : Ending} {w w' : World} {a b c d u o A B C D U O : Int} (h : e = .returned (.agg #[.int .i64 a, .int .i64 b, .int .i64 c, .int .i64 d, .int .i64 u, .int .i64 o]) ∧ Below w.heap.size w w')
    (h0 : A = a) (h1 : B = b) (h2 : C = c) (h3 : D = d) (h4 : U = u) (h5 : O = o) : e = .returned (.agg #[.int .i64 A, .int .i64 B, .int .i64 C, .int .i64 D, .int .i64 U, .int .i64 O]) ∧ Below w.heap.size w w' := by
  subst h0 h1 h2 h3 h4 h5; exact h

set_option maxHeartbeats 4000000 in
theorem lawnames_walk (w : World) (a b c d u o x : Int) (s : ByteArray) (x0 : 0 ≤ x) (x1 : x ≤ 255) :
    Calls Try.prog 6 #[.agg #[.int .i64 a, .int .i64 b, .int .i64 c, .int .i64 d, .int .i64 u, .int .i64 o], .string s, .int .u8 x] w fun e w' => e = .returned (.bool true) ∧ Below w.heap.size w w' := by
  obtain ⟨a1, h0⟩ : ∃ y, y = setF 0 s.toList x a := ⟨_, rfl⟩
  obtain ⟨b1, h1⟩ : ∃ y, y = setF 1 s.toList x b := ⟨_, rfl⟩
  obtain ⟨c1, h2⟩ : ∃ y, y = setF 2 s.toList x c := ⟨_, rfl⟩
  obtain ⟨d1, h3⟩ : ∃ y, y = setF 3 s.toList x d := ⟨_, rfl⟩
  obtain ⟨u1, h4⟩ : ∃ y, y = takeF u x := ⟨_, rfl⟩
  obtain ⟨u2, h5⟩ : ∃ y, y = lockU u x := ⟨_, rfl⟩
  obtain ⟨o2, h6⟩ : ∃ y, y = lockO o x := ⟨_, rfl⟩
  have N1 := hide (fun w => (name_any a b c d u o x s w x0 x1).mono fun _ _ h => eqPost h h0 h1 h2 h3 rfl rfl)
  have N2 := hide (fun w => (refname_any a b c d u o x s w x0 x1).mono fun _ _ h => eqPost h h0 h1 h2 h3 rfl rfl)
  have T1 := hide (fun w => (take_any a b c d u o x w).mono fun _ _ h => eqPost h rfl rfl rfl rfl h4 rfl)
  have T2 := hide (fun w => (reftake_any a b c d u o x w).mono fun _ _ h => eqPost h rfl rfl rfl rfl h4 rfl)
  have L1 := hide (fun w => (lock_any a b c d u o x w).mono fun _ _ h => eqPost h rfl rfl rfl rfl h5 h6)
  have L2 := hide (fun w => (reflock_any a b c d u o x w).mono fun _ _ h => eqPost h rfl rfl rfl rfl h5 h6)
  have OF := hide (fun a b c d u o w => of_any a b c d u o w)
  have NW := hide (fun w => new_any w)
  have FI := hide (fun w => first_any w)
  have AW := hide (fun w => awake_any w)
  clear h0 h1 h2 h3 h4 h5 h6
  go_enter Try.func6, Try.ntmps6
  go_upto_region 2 with (go_at_call 10; go_must (refine (OF.out _ _ _ _ _ _ _).mono ?_; rintro e w1 ⟨rfl, hb1⟩))
  have g1 := (Blk.new w 24 #[.int .i64 a, .int .i64 b, .int .i64 c, .int .i64 d, .int .i64 u, .int .i64 o]).below hb1 (by simp)
  have H1 : Below w.heap.size w w1 := below_in ((Below.refl _ _).alloc (Nat.le_refl _) _) hb1 (Nat.le_refl _)
  obtain ⟨w2, hw2⟩ : ∃ w2, w2 = w1.alloc (.cells #[.int .i64 a, .int .i64 b, .int .i64 c, .int .i64 d, .int .i64 u, .int .i64 o] 28) := ⟨_, rfl⟩
  have B0 : Blk w2 w.heap.size 24 #[.int .i64 a, .int .i64 b, .int .i64 c, .int .i64 d, .int .i64 u, .int .i64 o] := by rw [hw2]; exact g1.alloc _
  have B1 : Blk w2 w1.heap.size 28 #[.int .i64 a, .int .i64 b, .int .i64 c, .int .i64 d, .int .i64 u, .int .i64 o] := by rw [hw2]; exact Blk.new _ _ _
  have H2 : Below w.heap.size w w2 := by rw [hw2]; exact H1.alloc H1.size _
  simp only [← hw2]
  clear hw2 g1 H1 hb1
  have l0 := B0.lt
  have l1 := B1.lt
  have l2 := H2.size
  have l3 := H2.drew
  obtain ⟨d0, d1', d2, d3, d4, d5, df0, df1, df2, df3, df4, df5⟩ := blk6 B0
  obtain ⟨p0, p1, p2, p3, p4, p5, pf0, pf1, pf2, pf3, pf4, pf5⟩ := blk6 B1
  go_region_held3 (fun W => (W.cell? ⟨w.heap.size, 0, none⟩ = some (.int .i64 a) ∧ W.cell? ⟨w.heap.size, 1, none⟩ = some (.int .i64 b) ∧ W.cell? ⟨w.heap.size, 2, none⟩ = some (.int .i64 c) ∧ W.cell? ⟨w.heap.size, 3, none⟩ = some (.int .i64 d) ∧ W.cell? ⟨w.heap.size, 4, none⟩ = some (.int .i64 u) ∧ W.cell? ⟨w.heap.size, 5, none⟩ = some (.int .i64 o)) ∧ (W.cell? ⟨w1.heap.size, 0, none⟩ = some (.int .i64 a) ∧ W.cell? ⟨w1.heap.size, 1, none⟩ = some (.int .i64 b) ∧ W.cell? ⟨w1.heap.size, 2, none⟩ = some (.int .i64 c) ∧ W.cell? ⟨w1.heap.size, 3, none⟩ = some (.int .i64 d) ∧ W.cell? ⟨w1.heap.size, 4, none⟩ = some (.int .i64 u) ∧ W.cell? ⟨w1.heap.size, 5, none⟩ = some (.int .i64 o)) ∧ w.heap.size < W.heap.size ∧ w1.heap.size < W.heap.size ∧ w.heap.size ≤ W.heap.size ∧ Below w.heap.size w W)
    (first | (exact keepN (by assumption) hb) | (exact ⟨⟨d0, d1', d2, d3, d4, d5⟩, ⟨p0, p1, p2, p3, p4, p5⟩, l0, l1, l2, l3⟩) | go_keep)
    (first | (go_at_call 15; (refine (N1.out _).mono ?_; rintro e w' ⟨rfl, hb⟩)) | (go_at_call 10; (refine (OF.out _ _ _ _ _ _ _).mono ?_; rintro e w' ⟨rfl, hb⟩)) | (go_at_call 16; (refine (N2.out _).mono ?_; rintro e w' ⟨rfl, hb⟩)) | (go_at_call 17; (refine (T1.out _).mono ?_; rintro e w' ⟨rfl, hb⟩)) | (go_at_call 18; (refine (T2.out _).mono ?_; rintro e w' ⟨rfl, hb⟩)) | (go_at_call 14; (refine (L1.out _).mono ?_; rintro e w' ⟨rfl, hb⟩)) | (go_at_call 19; (refine (L2.out _).mono ?_; rintro e w' ⟨rfl, hb⟩)) | (go_at_call 20; (refine (NW.out _).mono ?_; rintro e w' ⟨rfl, hb⟩)) | (go_at_call 21; (refine (FI.out _).mono ?_; rintro e w' ⟨rfl, hb⟩)) | (go_at_call 11; (refine (AW.out _).mono ?_; rintro e w' ⟨rfl, hb⟩)))
  all_goals go_wp2_with fail
  all_goals go_ret
  all_goals (refine ⟨rfl, ?_⟩; first | assumption | (apply endN; assumption))
end Go.Proofs.Ytbacobajmmkjeaa
