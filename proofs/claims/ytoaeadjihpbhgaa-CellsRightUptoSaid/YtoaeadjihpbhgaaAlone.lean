/-
  alone and does, walked. No condition but bounds. (printed by gen_alone.py)
-/
import Derived.Test.YtoaeadjihpbhgaaRtext
namespace Go.Proofs.Ytoaeadjihpbhgaa
open Go.RowKit Go.Proofs
set_option linter.unusedVariables false
theorem rmarkc_any (l : List Cell) (n c B : Nat) (A : Option Addr) (x r : Int) (w : World) (hl : Rd w B 8 A n (l.flatMap cellE)) (hB : B ≤ w.heap.size) (hn : n ≤ 100000) (hq : ∀ c ∈ l, MoreQ c) :
    Calls Try.prog 27 #[.slice A n c, .int .i64 x, .int .i32 r] w (RetRow (mendF (markIn x r (mendF l))) n w) := by
  have hml : (mendF l).length = n := by rw [mendF_len]; exact hl.len (E := cellE) (fun _ => rfl) (by omega)
  by_cases hno : x < 0 ∨ (n : Int) ≤ x ∨ ∃ u, (mendF l)[x.toNat]? = some u ∧ (u.r = 0 ∨ widOf r ≠ 0)
  · exact rmark_no l n c B A x r w hl hB hn hno
  · obtain ⟨u, hu⟩ : ∃ u, (mendF l)[x.toNat]? = some u := ⟨_, List.getElem?_eq_getElem (by omega)⟩
    refine rmark_yes l n c B A x r w hl hB hn u x.toNat (by omega) (by omega) hu ?_ ?_ (mendF_more hq u (List.mem_of_getElem? hu))
    · intro h0; exact hno (.inr (.inr ⟨u, hu, .inl h0⟩))
    · by_cases h0 : widOf r = 0
      · exact h0
      · exact absurd (.inr (.inr ⟨u, hu, .inr h0⟩)) hno
structure Op9 where
  kd : Int
  x : Int
  n : Int
  r : Int
  a : At8
deriving Inhabited
def opE (o : Op9) : List Value := [.int .i64 o.kd, .int .i64 o.x, .int .i64 o.n, .int .i32 o.r, .int .i64 o.a.fk, .int .i64 o.a.fn, .int .i64 o.a.bk, .int .i64 o.a.bn, .int .i64 o.a.fl]
/-- What an operation makes of a row. -/
def aloneF (o : Op9) (l : List Cell) : List Cell :=
  if o.kd = 0 then mendF (putIn o.x o.r o.a (mendF l)) else if o.kd = 1 then mendF (markIn o.x o.r (mendF l)) else if o.kd = 2 then mendF (eraseIn o.x o.n o.a.bk o.a.bn (mendF l))
  else if o.kd = 3 then mendF (insertIn o.x o.n o.a.bk o.a.bn (mendF l)) else if o.kd = 4 then mendF (deleteIn o.x o.n o.a.bk o.a.bn (mendF l)) else if o.kd = 5 then mendF (closeIn (mendF l)) else mendF l
theorem blk9 {w : World} {g : Nat} {t : TypeId} {a b c d e f h i j : Value} (k : Blk w g t #[a, b, c, d, e, f, h, i, j]) :
    w.cell? ⟨g, 0, none⟩ = some a ∧ w.cell? ⟨g, 1, none⟩ = some b ∧ w.cell? ⟨g, 2, none⟩ = some c ∧ w.cell? ⟨g, 3, none⟩ = some d ∧ w.cell? ⟨g, 4, none⟩ = some e ∧ w.cell? ⟨g, 5, none⟩ = some f ∧ w.cell? ⟨g, 6, none⟩ = some h ∧ w.cell? ⟨g, 7, none⟩ = some i ∧ w.cell? ⟨g, 8, none⟩ = some j :=
  ⟨k.cell 0, k.cell 1, k.cell 2, k.cell 3, k.cell 4, k.cell 5, k.cell 6, k.cell 7, k.cell 8⟩
set_option maxRecDepth 100000 in
set_option maxHeartbeats 4000000 in
theorem alone_any (l : List Cell) (o : Op9) (n c B : Nat) (A : Option Addr) (w : World) (hl : Rd w B 8 A n (l.flatMap cellE)) (hB : B ≤ w.heap.size) (hn : n ≤ 100000) (hq : ∀ c ∈ l, MoreQ c) :
    Calls Try.prog 17 #[.slice A n c, .agg #[.int .i64 o.kd, .int .i64 o.x, .int .i64 o.n, .int .i32 o.r, .int .i64 o.a.fk, .int .i64 o.a.fn, .int .i64 o.a.bk, .int .i64 o.a.bn, .int .i64 o.a.fl]] w (RetRow (aloneF o l) n w) := by
  have HL := hide hl
  have HQ := hide hq
  have PRE := hide (fun (W : World) (hW : Below w.heap.size w W) => And.intro (hl.below (hW.mono hB)) (Nat.le_trans hB hW.size))
  clear hl hq
  by_cases h0 : o.kd = 0
  · have HA := hide (show aloneF o l = mendF (putIn o.x o.r o.a (mendF l)) by unfold aloneF; rw [if_pos h0])
    rw [h0]
    clear h0
    go_enter Try.func17, Try.ntmps17
    go_upto_region 2 with (fail)
    go_name_world W hW
    have k0 : Blk W w.heap.size 34 #[.int .i64 0, .int .i64 o.x, .int .i64 o.n, .int .i32 o.r, .int .i64 o.a.fk, .int .i64 o.a.fn, .int .i64 o.a.bk, .int .i64 o.a.bn, .int .i64 o.a.fl] := by rw [← hW]; exact (Blk.new _ _ _).alloc _
    have k1 : Blk W (w.heap.size + 1) 23 #[.int .i64 o.a.bk, .int .i64 o.a.bn] := by rw [← hW]; exact Blk.new' (by rw [World.size_alloc]) _ _
    have BW := hide (show Below w.heap.size w W by rw [← hW]; exact ((Below.refl _ _).alloc (Nat.le_refl _) _).alloc (by rw [World.size_alloc]; omega) _)
    clear hW
    obtain ⟨p0, p1, p2, p3, p4, p5, p6, p7, p8⟩ := blk9 k0
    have r0 := k1.cell 0
    have r1 := k1.cell 1
    simp at r0 r1
    have C1 := hide (putc_any l n c B A o.x o.r o.a W (PRE.out W BW.out).1 (PRE.out W BW.out).2 hn)
    clear k0 k1
    go_wp2_with (go_at_call 22; go_must (refine (C1.out).mono ?_; rintro e w1 ⟨A1, c1, rfl, o1, h1, b1⟩))
    go_ret
    rw [HA.out]
    exact ⟨A1, c1, rfl, own_le o1 BW.out.size, h1, below_in BW.out b1 (Nat.le_refl _)⟩
  · skip
    by_cases h1 : o.kd = 1
    · have HA := hide (show aloneF o l = mendF (markIn o.x o.r (mendF l)) by unfold aloneF; rw [if_neg h0, if_pos h1])
      rw [h1]
      clear h0 h1
      go_enter Try.func17, Try.ntmps17
      go_upto_region 2 with (fail)
      go_name_world W hW
      have k0 : Blk W w.heap.size 34 #[.int .i64 1, .int .i64 o.x, .int .i64 o.n, .int .i32 o.r, .int .i64 o.a.fk, .int .i64 o.a.fn, .int .i64 o.a.bk, .int .i64 o.a.bn, .int .i64 o.a.fl] := by rw [← hW]; exact (Blk.new _ _ _).alloc _
      have k1 : Blk W (w.heap.size + 1) 23 #[.int .i64 o.a.bk, .int .i64 o.a.bn] := by rw [← hW]; exact Blk.new' (by rw [World.size_alloc]) _ _
      have BW := hide (show Below w.heap.size w W by rw [← hW]; exact ((Below.refl _ _).alloc (Nat.le_refl _) _).alloc (by rw [World.size_alloc]; omega) _)
      clear hW
      obtain ⟨p0, p1, p2, p3, p4, p5, p6, p7, p8⟩ := blk9 k0
      have r0 := k1.cell 0
      have r1 := k1.cell 1
      simp at r0 r1
      have C1 := hide (markc_any l n c B A o.x o.r W (PRE.out W BW.out).1 (PRE.out W BW.out).2 hn HQ.out)
      clear k0 k1
      go_wp2_with (go_at_call 37; go_must (refine (C1.out).mono ?_; rintro e w1 ⟨A1, c1, rfl, o1, h1, b1⟩))
      go_ret
      rw [HA.out]
      exact ⟨A1, c1, rfl, own_le o1 BW.out.size, h1, below_in BW.out b1 (Nat.le_refl _)⟩
    · skip
      by_cases h2 : o.kd = 2
      · have HA := hide (show aloneF o l = mendF (eraseIn o.x o.n o.a.bk o.a.bn (mendF l)) by unfold aloneF; rw [if_neg h0, if_neg h1, if_pos h2])
        rw [h2]
        clear h0 h1 h2
        go_enter Try.func17, Try.ntmps17
        go_upto_region 2 with (fail)
        go_name_world W hW
        have k0 : Blk W w.heap.size 34 #[.int .i64 2, .int .i64 o.x, .int .i64 o.n, .int .i32 o.r, .int .i64 o.a.fk, .int .i64 o.a.fn, .int .i64 o.a.bk, .int .i64 o.a.bn, .int .i64 o.a.fl] := by rw [← hW]; exact (Blk.new _ _ _).alloc _
        have k1 : Blk W (w.heap.size + 1) 23 #[.int .i64 o.a.bk, .int .i64 o.a.bn] := by rw [← hW]; exact Blk.new' (by rw [World.size_alloc]) _ _
        have BW := hide (show Below w.heap.size w W by rw [← hW]; exact ((Below.refl _ _).alloc (Nat.le_refl _) _).alloc (by rw [World.size_alloc]; omega) _)
        clear hW
        obtain ⟨p0, p1, p2, p3, p4, p5, p6, p7, p8⟩ := blk9 k0
        have r0 := k1.cell 0
        have r1 := k1.cell 1
        simp at r0 r1
        have C1 := hide (erasec_any l n c B A o.x o.n o.a.bk o.a.bn W (PRE.out W BW.out).1 (PRE.out W BW.out).2 hn)
        clear k0 k1
        go_wp2_with (go_at_call 23; go_must (refine (C1.out).mono ?_; rintro e w1 ⟨A1, c1, rfl, o1, h1, b1⟩))
        go_ret
        rw [HA.out]
        exact ⟨A1, c1, rfl, own_le o1 BW.out.size, h1, below_in BW.out b1 (Nat.le_refl _)⟩
      · skip
        by_cases h3 : o.kd = 3
        · have HA := hide (show aloneF o l = mendF (insertIn o.x o.n o.a.bk o.a.bn (mendF l)) by unfold aloneF; rw [if_neg h0, if_neg h1, if_neg h2, if_pos h3])
          rw [h3]
          clear h0 h1 h2 h3
          go_enter Try.func17, Try.ntmps17
          go_upto_region 2 with (fail)
          go_name_world W hW
          have k0 : Blk W w.heap.size 34 #[.int .i64 3, .int .i64 o.x, .int .i64 o.n, .int .i32 o.r, .int .i64 o.a.fk, .int .i64 o.a.fn, .int .i64 o.a.bk, .int .i64 o.a.bn, .int .i64 o.a.fl] := by rw [← hW]; exact (Blk.new _ _ _).alloc _
          have k1 : Blk W (w.heap.size + 1) 23 #[.int .i64 o.a.bk, .int .i64 o.a.bn] := by rw [← hW]; exact Blk.new' (by rw [World.size_alloc]) _ _
          have BW := hide (show Below w.heap.size w W by rw [← hW]; exact ((Below.refl _ _).alloc (Nat.le_refl _) _).alloc (by rw [World.size_alloc]; omega) _)
          clear hW
          obtain ⟨p0, p1, p2, p3, p4, p5, p6, p7, p8⟩ := blk9 k0
          have r0 := k1.cell 0
          have r1 := k1.cell 1
          simp at r0 r1
          have C1 := hide (insertc_any l n c B A o.x o.n o.a.bk o.a.bn W (PRE.out W BW.out).1 (PRE.out W BW.out).2 hn)
          clear k0 k1
          go_wp2_with (go_at_call 38; go_must (refine (C1.out).mono ?_; rintro e w1 ⟨A1, c1, rfl, o1, h1, b1⟩))
          go_ret
          rw [HA.out]
          exact ⟨A1, c1, rfl, own_le o1 BW.out.size, h1, below_in BW.out b1 (Nat.le_refl _)⟩
        · skip
          by_cases h4 : o.kd = 4
          · have HA := hide (show aloneF o l = mendF (deleteIn o.x o.n o.a.bk o.a.bn (mendF l)) by unfold aloneF; rw [if_neg h0, if_neg h1, if_neg h2, if_neg h3, if_pos h4])
            rw [h4]
            clear h0 h1 h2 h3 h4
            go_enter Try.func17, Try.ntmps17
            go_upto_region 2 with (fail)
            go_name_world W hW
            have k0 : Blk W w.heap.size 34 #[.int .i64 4, .int .i64 o.x, .int .i64 o.n, .int .i32 o.r, .int .i64 o.a.fk, .int .i64 o.a.fn, .int .i64 o.a.bk, .int .i64 o.a.bn, .int .i64 o.a.fl] := by rw [← hW]; exact (Blk.new _ _ _).alloc _
            have k1 : Blk W (w.heap.size + 1) 23 #[.int .i64 o.a.bk, .int .i64 o.a.bn] := by rw [← hW]; exact Blk.new' (by rw [World.size_alloc]) _ _
            have BW := hide (show Below w.heap.size w W by rw [← hW]; exact ((Below.refl _ _).alloc (Nat.le_refl _) _).alloc (by rw [World.size_alloc]; omega) _)
            clear hW
            obtain ⟨p0, p1, p2, p3, p4, p5, p6, p7, p8⟩ := blk9 k0
            have r0 := k1.cell 0
            have r1 := k1.cell 1
            simp at r0 r1
            have C1 := hide (deletec_any l n c B A o.x o.n o.a.bk o.a.bn W (PRE.out W BW.out).1 (PRE.out W BW.out).2 hn)
            clear k0 k1
            go_wp2_with (go_at_call 39; go_must (refine (C1.out).mono ?_; rintro e w1 ⟨A1, c1, rfl, o1, h1, b1⟩))
            go_ret
            rw [HA.out]
            exact ⟨A1, c1, rfl, own_le o1 BW.out.size, h1, below_in BW.out b1 (Nat.le_refl _)⟩
          · skip
            by_cases h5 : o.kd = 5
            · have HA := hide (show aloneF o l = mendF (closeIn (mendF l)) by unfold aloneF; rw [if_neg h0, if_neg h1, if_neg h2, if_neg h3, if_neg h4, if_pos h5])
              rw [h5]
              clear h0 h1 h2 h3 h4 h5
              go_enter Try.func17, Try.ntmps17
              go_upto_region 2 with (fail)
              go_name_world W hW
              have k0 : Blk W w.heap.size 34 #[.int .i64 5, .int .i64 o.x, .int .i64 o.n, .int .i32 o.r, .int .i64 o.a.fk, .int .i64 o.a.fn, .int .i64 o.a.bk, .int .i64 o.a.bn, .int .i64 o.a.fl] := by rw [← hW]; exact (Blk.new _ _ _).alloc _
              have k1 : Blk W (w.heap.size + 1) 23 #[.int .i64 o.a.bk, .int .i64 o.a.bn] := by rw [← hW]; exact Blk.new' (by rw [World.size_alloc]) _ _
              have BW := hide (show Below w.heap.size w W by rw [← hW]; exact ((Below.refl _ _).alloc (Nat.le_refl _) _).alloc (by rw [World.size_alloc]; omega) _)
              clear hW
              obtain ⟨p0, p1, p2, p3, p4, p5, p6, p7, p8⟩ := blk9 k0
              have r0 := k1.cell 0
              have r1 := k1.cell 1
              simp at r0 r1
              have C1 := hide (close_any l n c B A W (PRE.out W BW.out).1 (PRE.out W BW.out).2 hn)
              clear k0 k1
              go_wp2_with (go_at_call 40; go_must (refine (C1.out).mono ?_; rintro e w1 ⟨A1, c1, rfl, o1, h1, b1⟩))
              go_ret
              rw [HA.out]
              exact ⟨A1, c1, rfl, own_le o1 BW.out.size, h1, below_in BW.out b1 (Nat.le_refl _)⟩
            · skip
              have HA := hide (show aloneF o l = mendF l by unfold aloneF; rw [if_neg h0, if_neg h1, if_neg h2, if_neg h3, if_neg h4, if_neg h5])
              have e0 : (o.kd == 0) = false := by simpa using h0
              have e1 : (o.kd == 1) = false := by simpa using h1
              have e2 : (o.kd == 2) = false := by simpa using h2
              have e3 : (o.kd == 3) = false := by simpa using h3
              have e4 : (o.kd == 4) = false := by simpa using h4
              have e5 : (o.kd == 5) = false := by simpa using h5
              clear h0 h1 h2 h3 h4 h5
              go_enter Try.func17, Try.ntmps17
              go_upto_region 2 with (fail)
              go_name_world W hW
              have k0 : Blk W w.heap.size 34 #[.int .i64 o.kd, .int .i64 o.x, .int .i64 o.n, .int .i32 o.r, .int .i64 o.a.fk, .int .i64 o.a.fn, .int .i64 o.a.bk, .int .i64 o.a.bn, .int .i64 o.a.fl] := by rw [← hW]; exact (Blk.new _ _ _).alloc _
              have k1 : Blk W (w.heap.size + 1) 23 #[.int .i64 o.a.bk, .int .i64 o.a.bn] := by rw [← hW]; exact Blk.new' (by rw [World.size_alloc]) _ _
              have BW := hide (show Below w.heap.size w W by rw [← hW]; exact ((Below.refl _ _).alloc (Nat.le_refl _) _).alloc (by rw [World.size_alloc]; omega) _)
              clear hW
              obtain ⟨p0, p1, p2, p3, p4, p5, p6, p7, p8⟩ := blk9 k0
              have r0 := k1.cell 0
              have r1 := k1.cell 1
              simp at r0 r1
              have C1 := hide (mend_any l n c B A W (PRE.out W BW.out).1 (PRE.out W BW.out).2 hn)
              clear k0 k1
              go_wp2_with (go_at_call 20; go_must (refine (C1.out).mono ?_; rintro e w1 ⟨A1, c1, rfl, o1, h1, b1⟩))
              go_ret
              rw [HA.out, ← mend_mend]
              exact ⟨A1, c1, rfl, own_le o1 BW.out.size, h1, below_in BW.out b1 (Nat.le_refl _)⟩
/-- Two rows handed back. -/
def TwoRows (l m : List Cell) (n : Nat) (w : World) (e : Ending) (w' : World) : Prop :=
  ∃ A c A' c', e = .returned (.tuple #[.slice A n c, .slice A' n c']) ∧ Rd w' w'.heap.size 8 A n (l.flatMap cellE) ∧ n ≤ c ∧ Rd w' w'.heap.size 8 A' n (m.flatMap cellE) ∧ n ≤ c' ∧ Below w.heap.size w w'
set_option maxRecDepth 100000 in
set_option maxHeartbeats 4000000 in
theorem does_any (l : List Cell) (o : Op9) (n c B : Nat) (A : Option Addr) (w : World) (hl : Rd w B 8 A n (l.flatMap cellE)) (hB : B ≤ w.heap.size) (hn : n ≤ 100000) (hq : ∀ c ∈ l, MoreQ c) :
    Calls Try.prog 12 #[.slice A n c, .agg #[.int .i64 o.kd, .int .i64 o.x, .int .i64 o.n, .int .i32 o.r, .int .i64 o.a.fk, .int .i64 o.a.fn, .int .i64 o.a.bk, .int .i64 o.a.bn, .int .i64 o.a.fl]] w (TwoRows (aloneF o l) (aloneF o l) n w) := by
  have HL := hide hl
  have HQ := hide hq
  have AL := hide (fun (W : World) (hW : Below w.heap.size w W) => alone_any l o n c B A W (hl.below (hW.mono hB)) (Nat.le_trans hB hW.size) hn hq)
  have PRE := hide (fun (W : World) (hW : Below w.heap.size w W) => And.intro (hl.below (hW.mono hB)) (Nat.le_trans hB hW.size))
  clear hl hq
  by_cases h0 : o.kd = 0
  · have HA := hide (show aloneF o l = mendF (putIn o.x o.r o.a (mendF l)) by unfold aloneF; rw [if_pos h0])
    rw [h0] at AL ⊢
    clear h0
    go_enter Try.func12, Try.ntmps12
    go_upto_region 2 with (fail)
    go_name_world W hW
    have k0 : Blk W w.heap.size 34 #[.int .i64 0, .int .i64 o.x, .int .i64 o.n, .int .i32 o.r, .int .i64 o.a.fk, .int .i64 o.a.fn, .int .i64 o.a.bk, .int .i64 o.a.bn, .int .i64 o.a.fl] := by rw [← hW]; exact (Blk.new _ _ _).alloc _
    have k1 : Blk W (w.heap.size + 1) 23 #[.int .i64 o.a.bk, .int .i64 o.a.bn] := by rw [← hW]; exact Blk.new' (by rw [World.size_alloc]) _ _
    have BW := hide (show Below w.heap.size w W by rw [← hW]; exact ((Below.refl _ _).alloc (Nat.le_refl _) _).alloc (by rw [World.size_alloc]; omega) _)
    clear hW
    obtain ⟨p0, p1, p2, p3, p4, p5, p6, p7, p8⟩ := blk9 k0
    have K0 := hide k0
    have K1 := hide k1
    have C1 := hide (AL.out W BW.out)
    clear k0 k1
    go_upto_region 3 with (go_at_call 17; go_must (refine (C1.out).mono ?_; rintro e w1 ⟨A1, c1, rfl, o1, h1, b1⟩))
    have BW1 := hide (below_in BW.out b1 (Nat.le_refl _))
    have k0 := K0.out.below b1 K0.out.lt
    have k1 := K1.out.below b1 K1.out.lt
    clear p0 p1 p2 p3 p4 p5 p6 p7 p8
    obtain ⟨p0, p1, p2, p3, p4, p5, p6, p7, p8⟩ := blk9 k0
    have r0 := k1.cell 0
    have r1 := k1.cell 1
    simp at r0 r1
    have C2 := hide (rputc_any l n c B A o.x o.r o.a w1 (PRE.out w1 BW1.out).1 (PRE.out w1 BW1.out).2 hn)
    have O1 := hide o1
    clear k0 k1 b1 o1
    go_wp2_with (go_at_call 26; go_must (refine (C2.out).mono ?_; rintro e w2 ⟨A2, c2, rfl, o2, h2, b2⟩))
    go_ret2
    rw [HA.out] at O1 ⊢
    exact ⟨A1, c1, A2, c2, rfl, Rd.of_own (own_call O1.out b2), h1, Rd.of_own o2, h2, below_in BW1.out b2 (Nat.le_refl _)⟩
  · skip
    by_cases h1 : o.kd = 1
    · have HA := hide (show aloneF o l = mendF (markIn o.x o.r (mendF l)) by unfold aloneF; rw [if_neg h0, if_pos h1])
      rw [h1] at AL ⊢
      clear h0 h1
      go_enter Try.func12, Try.ntmps12
      go_upto_region 2 with (fail)
      go_name_world W hW
      have k0 : Blk W w.heap.size 34 #[.int .i64 1, .int .i64 o.x, .int .i64 o.n, .int .i32 o.r, .int .i64 o.a.fk, .int .i64 o.a.fn, .int .i64 o.a.bk, .int .i64 o.a.bn, .int .i64 o.a.fl] := by rw [← hW]; exact (Blk.new _ _ _).alloc _
      have k1 : Blk W (w.heap.size + 1) 23 #[.int .i64 o.a.bk, .int .i64 o.a.bn] := by rw [← hW]; exact Blk.new' (by rw [World.size_alloc]) _ _
      have BW := hide (show Below w.heap.size w W by rw [← hW]; exact ((Below.refl _ _).alloc (Nat.le_refl _) _).alloc (by rw [World.size_alloc]; omega) _)
      clear hW
      obtain ⟨p0, p1, p2, p3, p4, p5, p6, p7, p8⟩ := blk9 k0
      have K0 := hide k0
      have K1 := hide k1
      have C1 := hide (AL.out W BW.out)
      clear k0 k1
      go_upto_region 3 with (go_at_call 17; go_must (refine (C1.out).mono ?_; rintro e w1 ⟨A1, c1, rfl, o1, h1, b1⟩))
      have BW1 := hide (below_in BW.out b1 (Nat.le_refl _))
      have k0 := K0.out.below b1 K0.out.lt
      have k1 := K1.out.below b1 K1.out.lt
      clear p0 p1 p2 p3 p4 p5 p6 p7 p8
      obtain ⟨p0, p1, p2, p3, p4, p5, p6, p7, p8⟩ := blk9 k0
      have r0 := k1.cell 0
      have r1 := k1.cell 1
      simp at r0 r1
      have C2 := hide (rmarkc_any l n c B A o.x o.r w1 (PRE.out w1 BW1.out).1 (PRE.out w1 BW1.out).2 hn HQ.out)
      have O1 := hide o1
      clear k0 k1 b1 o1
      go_wp2_with (go_at_call 27; go_must (refine (C2.out).mono ?_; rintro e w2 ⟨A2, c2, rfl, o2, h2, b2⟩))
      go_ret2
      rw [HA.out] at O1 ⊢
      exact ⟨A1, c1, A2, c2, rfl, Rd.of_own (own_call O1.out b2), h1, Rd.of_own o2, h2, below_in BW1.out b2 (Nat.le_refl _)⟩
    · skip
      by_cases h2 : o.kd = 2
      · have HA := hide (show aloneF o l = mendF (eraseIn o.x o.n o.a.bk o.a.bn (mendF l)) by unfold aloneF; rw [if_neg h0, if_neg h1, if_pos h2])
        rw [h2] at AL ⊢
        clear h0 h1 h2
        go_enter Try.func12, Try.ntmps12
        go_upto_region 2 with (fail)
        go_name_world W hW
        have k0 : Blk W w.heap.size 34 #[.int .i64 2, .int .i64 o.x, .int .i64 o.n, .int .i32 o.r, .int .i64 o.a.fk, .int .i64 o.a.fn, .int .i64 o.a.bk, .int .i64 o.a.bn, .int .i64 o.a.fl] := by rw [← hW]; exact (Blk.new _ _ _).alloc _
        have k1 : Blk W (w.heap.size + 1) 23 #[.int .i64 o.a.bk, .int .i64 o.a.bn] := by rw [← hW]; exact Blk.new' (by rw [World.size_alloc]) _ _
        have BW := hide (show Below w.heap.size w W by rw [← hW]; exact ((Below.refl _ _).alloc (Nat.le_refl _) _).alloc (by rw [World.size_alloc]; omega) _)
        clear hW
        obtain ⟨p0, p1, p2, p3, p4, p5, p6, p7, p8⟩ := blk9 k0
        have K0 := hide k0
        have K1 := hide k1
        have C1 := hide (AL.out W BW.out)
        clear k0 k1
        go_upto_region 3 with (go_at_call 17; go_must (refine (C1.out).mono ?_; rintro e w1 ⟨A1, c1, rfl, o1, h1, b1⟩))
        have BW1 := hide (below_in BW.out b1 (Nat.le_refl _))
        have k0 := K0.out.below b1 K0.out.lt
        have k1 := K1.out.below b1 K1.out.lt
        clear p0 p1 p2 p3 p4 p5 p6 p7 p8
        obtain ⟨p0, p1, p2, p3, p4, p5, p6, p7, p8⟩ := blk9 k0
        have r0 := k1.cell 0
        have r1 := k1.cell 1
        simp at r0 r1
        have C2 := hide (rerasec_any l n c B A o.x o.n o.a.bk o.a.bn w1 (PRE.out w1 BW1.out).1 (PRE.out w1 BW1.out).2 hn)
        have O1 := hide o1
        clear k0 k1 b1 o1
        go_wp2_with (go_at_call 28; go_must (refine (C2.out).mono ?_; rintro e w2 ⟨A2, c2, rfl, o2, h2, b2⟩))
        go_ret2
        rw [HA.out] at O1 ⊢
        exact ⟨A1, c1, A2, c2, rfl, Rd.of_own (own_call O1.out b2), h1, Rd.of_own o2, h2, below_in BW1.out b2 (Nat.le_refl _)⟩
      · skip
        by_cases h3 : o.kd = 3
        · have HA := hide (show aloneF o l = mendF (insertIn o.x o.n o.a.bk o.a.bn (mendF l)) by unfold aloneF; rw [if_neg h0, if_neg h1, if_neg h2, if_pos h3])
          rw [h3] at AL ⊢
          clear h0 h1 h2 h3
          go_enter Try.func12, Try.ntmps12
          go_upto_region 2 with (fail)
          go_name_world W hW
          have k0 : Blk W w.heap.size 34 #[.int .i64 3, .int .i64 o.x, .int .i64 o.n, .int .i32 o.r, .int .i64 o.a.fk, .int .i64 o.a.fn, .int .i64 o.a.bk, .int .i64 o.a.bn, .int .i64 o.a.fl] := by rw [← hW]; exact (Blk.new _ _ _).alloc _
          have k1 : Blk W (w.heap.size + 1) 23 #[.int .i64 o.a.bk, .int .i64 o.a.bn] := by rw [← hW]; exact Blk.new' (by rw [World.size_alloc]) _ _
          have BW := hide (show Below w.heap.size w W by rw [← hW]; exact ((Below.refl _ _).alloc (Nat.le_refl _) _).alloc (by rw [World.size_alloc]; omega) _)
          clear hW
          obtain ⟨p0, p1, p2, p3, p4, p5, p6, p7, p8⟩ := blk9 k0
          have K0 := hide k0
          have K1 := hide k1
          have C1 := hide (AL.out W BW.out)
          clear k0 k1
          go_upto_region 3 with (go_at_call 17; go_must (refine (C1.out).mono ?_; rintro e w1 ⟨A1, c1, rfl, o1, h1, b1⟩))
          have BW1 := hide (below_in BW.out b1 (Nat.le_refl _))
          have k0 := K0.out.below b1 K0.out.lt
          have k1 := K1.out.below b1 K1.out.lt
          clear p0 p1 p2 p3 p4 p5 p6 p7 p8
          obtain ⟨p0, p1, p2, p3, p4, p5, p6, p7, p8⟩ := blk9 k0
          have r0 := k1.cell 0
          have r1 := k1.cell 1
          simp at r0 r1
          have C2 := hide (rinsertc_any l n c B A o.x o.n o.a.bk o.a.bn w1 (PRE.out w1 BW1.out).1 (PRE.out w1 BW1.out).2 hn)
          have O1 := hide o1
          clear k0 k1 b1 o1
          go_wp2_with (go_at_call 29; go_must (refine (C2.out).mono ?_; rintro e w2 ⟨A2, c2, rfl, o2, h2, b2⟩))
          go_ret2
          rw [HA.out] at O1 ⊢
          exact ⟨A1, c1, A2, c2, rfl, Rd.of_own (own_call O1.out b2), h1, Rd.of_own o2, h2, below_in BW1.out b2 (Nat.le_refl _)⟩
        · skip
          by_cases h4 : o.kd = 4
          · have HA := hide (show aloneF o l = mendF (deleteIn o.x o.n o.a.bk o.a.bn (mendF l)) by unfold aloneF; rw [if_neg h0, if_neg h1, if_neg h2, if_neg h3, if_pos h4])
            rw [h4] at AL ⊢
            clear h0 h1 h2 h3 h4
            go_enter Try.func12, Try.ntmps12
            go_upto_region 2 with (fail)
            go_name_world W hW
            have k0 : Blk W w.heap.size 34 #[.int .i64 4, .int .i64 o.x, .int .i64 o.n, .int .i32 o.r, .int .i64 o.a.fk, .int .i64 o.a.fn, .int .i64 o.a.bk, .int .i64 o.a.bn, .int .i64 o.a.fl] := by rw [← hW]; exact (Blk.new _ _ _).alloc _
            have k1 : Blk W (w.heap.size + 1) 23 #[.int .i64 o.a.bk, .int .i64 o.a.bn] := by rw [← hW]; exact Blk.new' (by rw [World.size_alloc]) _ _
            have BW := hide (show Below w.heap.size w W by rw [← hW]; exact ((Below.refl _ _).alloc (Nat.le_refl _) _).alloc (by rw [World.size_alloc]; omega) _)
            clear hW
            obtain ⟨p0, p1, p2, p3, p4, p5, p6, p7, p8⟩ := blk9 k0
            have K0 := hide k0
            have K1 := hide k1
            have C1 := hide (AL.out W BW.out)
            clear k0 k1
            go_upto_region 3 with (go_at_call 17; go_must (refine (C1.out).mono ?_; rintro e w1 ⟨A1, c1, rfl, o1, h1, b1⟩))
            have BW1 := hide (below_in BW.out b1 (Nat.le_refl _))
            have k0 := K0.out.below b1 K0.out.lt
            have k1 := K1.out.below b1 K1.out.lt
            clear p0 p1 p2 p3 p4 p5 p6 p7 p8
            obtain ⟨p0, p1, p2, p3, p4, p5, p6, p7, p8⟩ := blk9 k0
            have r0 := k1.cell 0
            have r1 := k1.cell 1
            simp at r0 r1
            have C2 := hide (rdeletec_any l n c B A o.x o.n o.a.bk o.a.bn w1 (PRE.out w1 BW1.out).1 (PRE.out w1 BW1.out).2 hn)
            have O1 := hide o1
            clear k0 k1 b1 o1
            go_wp2_with (go_at_call 30; go_must (refine (C2.out).mono ?_; rintro e w2 ⟨A2, c2, rfl, o2, h2, b2⟩))
            go_ret2
            rw [HA.out] at O1 ⊢
            exact ⟨A1, c1, A2, c2, rfl, Rd.of_own (own_call O1.out b2), h1, Rd.of_own o2, h2, below_in BW1.out b2 (Nat.le_refl _)⟩
          · skip
            by_cases h5 : o.kd = 5
            · have HA := hide (show aloneF o l = mendF (closeIn (mendF l)) by unfold aloneF; rw [if_neg h0, if_neg h1, if_neg h2, if_neg h3, if_neg h4, if_pos h5])
              rw [h5] at AL ⊢
              clear h0 h1 h2 h3 h4 h5
              go_enter Try.func12, Try.ntmps12
              go_upto_region 2 with (fail)
              go_name_world W hW
              have k0 : Blk W w.heap.size 34 #[.int .i64 5, .int .i64 o.x, .int .i64 o.n, .int .i32 o.r, .int .i64 o.a.fk, .int .i64 o.a.fn, .int .i64 o.a.bk, .int .i64 o.a.bn, .int .i64 o.a.fl] := by rw [← hW]; exact (Blk.new _ _ _).alloc _
              have k1 : Blk W (w.heap.size + 1) 23 #[.int .i64 o.a.bk, .int .i64 o.a.bn] := by rw [← hW]; exact Blk.new' (by rw [World.size_alloc]) _ _
              have BW := hide (show Below w.heap.size w W by rw [← hW]; exact ((Below.refl _ _).alloc (Nat.le_refl _) _).alloc (by rw [World.size_alloc]; omega) _)
              clear hW
              obtain ⟨p0, p1, p2, p3, p4, p5, p6, p7, p8⟩ := blk9 k0
              have K0 := hide k0
              have K1 := hide k1
              have C1 := hide (AL.out W BW.out)
              clear k0 k1
              go_upto_region 3 with (go_at_call 17; go_must (refine (C1.out).mono ?_; rintro e w1 ⟨A1, c1, rfl, o1, h1, b1⟩))
              have BW1 := hide (below_in BW.out b1 (Nat.le_refl _))
              have k0 := K0.out.below b1 K0.out.lt
              have k1 := K1.out.below b1 K1.out.lt
              clear p0 p1 p2 p3 p4 p5 p6 p7 p8
              obtain ⟨p0, p1, p2, p3, p4, p5, p6, p7, p8⟩ := blk9 k0
              have r0 := k1.cell 0
              have r1 := k1.cell 1
              simp at r0 r1
              have C2 := hide (rclose_any l n c B A w1 (PRE.out w1 BW1.out).1 (PRE.out w1 BW1.out).2 hn)
              have O1 := hide o1
              clear k0 k1 b1 o1
              go_wp2_with (go_at_call 31; go_must (refine (C2.out).mono ?_; rintro e w2 ⟨A2, c2, rfl, o2, h2, b2⟩))
              go_ret2
              rw [HA.out] at O1 ⊢
              exact ⟨A1, c1, A2, c2, rfl, Rd.of_own (own_call O1.out b2), h1, Rd.of_own o2, h2, below_in BW1.out b2 (Nat.le_refl _)⟩
            · skip
              have HA := hide (show aloneF o l = mendF l by unfold aloneF; rw [if_neg h0, if_neg h1, if_neg h2, if_neg h3, if_neg h4, if_neg h5])
              have e0 : (o.kd == 0) = false := by simpa using h0
              have e1 : (o.kd == 1) = false := by simpa using h1
              have e2 : (o.kd == 2) = false := by simpa using h2
              have e3 : (o.kd == 3) = false := by simpa using h3
              have e4 : (o.kd == 4) = false := by simpa using h4
              have e5 : (o.kd == 5) = false := by simpa using h5
              clear h0 h1 h2 h3 h4 h5
              go_enter Try.func12, Try.ntmps12
              go_upto_region 2 with (fail)
              go_name_world W hW
              have k0 : Blk W w.heap.size 34 #[.int .i64 o.kd, .int .i64 o.x, .int .i64 o.n, .int .i32 o.r, .int .i64 o.a.fk, .int .i64 o.a.fn, .int .i64 o.a.bk, .int .i64 o.a.bn, .int .i64 o.a.fl] := by rw [← hW]; exact (Blk.new _ _ _).alloc _
              have k1 : Blk W (w.heap.size + 1) 23 #[.int .i64 o.a.bk, .int .i64 o.a.bn] := by rw [← hW]; exact Blk.new' (by rw [World.size_alloc]) _ _
              have BW := hide (show Below w.heap.size w W by rw [← hW]; exact ((Below.refl _ _).alloc (Nat.le_refl _) _).alloc (by rw [World.size_alloc]; omega) _)
              clear hW
              obtain ⟨p0, p1, p2, p3, p4, p5, p6, p7, p8⟩ := blk9 k0
              have K0 := hide k0
              have K1 := hide k1
              have C1 := hide (AL.out W BW.out)
              clear k0 k1
              go_upto_region 3 with (go_at_call 17; go_must (refine (C1.out).mono ?_; rintro e w1 ⟨A1, c1, rfl, o1, h1, b1⟩))
              have BW1 := hide (below_in BW.out b1 (Nat.le_refl _))
              have k0 := K0.out.below b1 K0.out.lt
              have k1 := K1.out.below b1 K1.out.lt
              clear p0 p1 p2 p3 p4 p5 p6 p7 p8
              obtain ⟨p0, p1, p2, p3, p4, p5, p6, p7, p8⟩ := blk9 k0
              have r0 := k1.cell 0
              have r1 := k1.cell 1
              simp at r0 r1
              have C2 := hide (rmend_any l n c B A w1 (PRE.out w1 BW1.out).1 (PRE.out w1 BW1.out).2 hn)
              have O1 := hide o1
              clear k0 k1 b1 o1
              go_wp2_with (go_at_call 21; go_must (refine (C2.out).mono ?_; rintro e w2 ⟨A2, c2, rfl, o2, h2, b2⟩))
              go_ret2
              rw [HA.out] at O1 ⊢
              exact ⟨A1, c1, A2, c2, rfl, Rd.of_own (own_call O1.out b2), h1, Rd.of_own o2, h2, below_in BW1.out b2 (Nat.le_refl _)⟩
end Go.Proofs.Ytoaeadjihpbhgaa
