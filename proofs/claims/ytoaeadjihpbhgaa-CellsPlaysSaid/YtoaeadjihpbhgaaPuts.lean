/-
  Close and Put of a row, walked. No condition but bounds.
  Put of a row, walked: the closure. No condition but bounds.
  Put of a row, walked. No condition but bounds.
  wipe, walked. No condition but bounds.
  Erase, walked. No condition but bounds.
  Erase, walked: the closure. No condition but bounds.
  Erase of a row, walked. No condition but bounds.
-/
import Derived.Test.YtoaeadjihpbhgaaWith
import Derived.Test.YtoaeadjihpbhgaaRof
namespace Go.Proofs.Ytoaeadjihpbhgaa
open Go.RowKit Go.Proofs
set_option linter.unusedVariables false
def padC : Cell := ⟨0, { data := #[] }, 3, ⟨0, 0, 0, 0, 0⟩⟩
def closeIn (m : List Cell) : List Cell := if 0 < m.length then m.set (m.length - 1) padC else m
def putIn (x r : Int) (a : At8) (m : List Cell) : List Cell :=
  if widOf r = 1 ∧ 0 ≤ x ∧ x < m.length then m.set x.toNat ⟨r, { data := #[] }, 0, a⟩
  else if widOf r = 2 ∧ 0 ≤ x ∧ x + 1 < m.length then (m.set (x.toNat + 1) ⟨r, { data := #[] }, 2, a⟩).set x.toNat ⟨r, { data := #[] }, 1, a⟩
  else m
theorem closeIn_len (m : List Cell) : (closeIn m).length = m.length := by unfold closeIn; split <;> simp
theorem putIn_len (x r : Int) (a : At8) (m : List Cell) : (putIn x r a m).length = m.length := by unfold putIn; (repeat' split) <;> simp
/-- A row in its place, behind stores. -/
theorem done_row {base n c g : Nat} {l m : List Cell} {T : List Value} {w w' : World} (hb : base ≤ g) (hnc : n ≤ c) (hs : (l.flatMap cellE ++ T).length = c * 8) (hm : c ≤ maxLen) (hl : l.length = n) (hlm : m.length = n) (hr : RowAt w' g [] m T) (hf : Frm (fun k => k = g) w w') :
    DonePost base n c (some ⟨g, 0, none⟩) m w (.returned (.tuple #[])) w' := by
  refine ⟨rfl, row_own hr hb hlm hnc ?_ hm, hf.mono (fun i _ e => by rw [show i = g from e]; rfl)⟩
  rw [← hs, List.length_append, List.length_append, len_flat (E := cellE) (s := 8) (fun _ => rfl), len_flat (E := cellE) (s := 8) (fun _ => rfl), hlm, hl]
theorem eight_frm {w0 w : World} {g o : Nat} (h : Frm (fun k => k = g) w0 w) (a b c d e f i j : Value) :
    Frm (fun k => k = g) w0 ((((((((w.setCell ⟨g, o, none⟩ a).setCell ⟨g, o + 1, none⟩ b).setCell ⟨g, o + 2, none⟩ c).setCell ⟨g, o + 3, none⟩ d).setCell ⟨g, o + 4, none⟩ e).setCell ⟨g, o + 5, none⟩ f).setCell ⟨g, o + 6, none⟩ i).setCell ⟨g, o + 7, none⟩ j) :=
  (((((((h.setCell (p := ⟨g, o, none⟩) (fun _ => rfl) a).setCell (p := ⟨g, o + 1, none⟩) (fun _ => rfl) b).setCell (p := ⟨g, o + 2, none⟩) (fun _ => rfl) c).setCell (p := ⟨g, o + 3, none⟩) (fun _ => rfl) d).setCell (p := ⟨g, o + 4, none⟩) (fun _ => rfl) e).setCell (p := ⟨g, o + 5, none⟩) (fun _ => rfl) f).setCell (p := ⟨g, o + 6, none⟩) (fun _ => rfl) i).setCell (p := ⟨g, o + 7, none⟩) (fun _ => rfl) j
theorem frm_of {w w' : World} {S : Nat → Prop} (h : Below w.heap.size w w') : Frm S w w' := Frm.of_below h (fun i h1 h2 => by omega)
set_option maxHeartbeats 2000000 in
theorem close1_any (base n c : Nat) (A : Option Addr) (m : List Cell) (w : World) (h : w.ownsRow base 40 8 (.slice A n c) n (m.flatMap cellE)) (hn : n ≤ 100000) : Calls Try.prog 58 #[.slice A n c] w (DonePost base n c A (closeIn m) w) := by
  have hl := own_len (E := cellE) (size := 8) (fun _ => rfl) (by omega) h
  have HO := hide h
  rcases own_row h with ⟨rfl, rfl, rfl⟩ | ⟨g, T, rfl, hb, hr, hnc, hs, hm⟩
  · clear h hl
    go_enter Try.func58, Try.ntmps58
    go_wp2
    go_end0
    exact ⟨rfl, HO.out, Frm.refl _ _⟩
  · by_cases h0 : n = 0
    · subst h0
      have hm0 : m = [] := List.eq_nil_of_length_eq_zero hl.symm
      subst hm0
      clear h hl hr hs hm
      go_enter Try.func58, Try.ntmps58
      go_wp2
      go_end0
      exact ⟨rfl, HO.out, Frm.refl _ _⟩
    · obtain ⟨q, hq⟩ : ∃ q, n - 1 = q := ⟨_, rfl⟩
      have hq2 : (n : Int) - 1 = q := by omega
      have hqn : q < n := by omega
      obtain ⟨x, hx⟩ : ∃ x, m[q]? = some x := ⟨_, List.getElem?_eq_getElem (by omega)⟩
      have e8 := hr.eight hx
      simp only [List.length_nil, Nat.zero_add] at e8
      obtain ⟨x0, x1, x2, x3, x4, x5, x6, x7⟩ := e8
      have f0 := fun i => hr.frozen i
      have HR := hide hr
      have HX := hide hx
      have HS := hide (And.intro hb (And.intro hnc (And.intro hs (And.intro hm hl))))
      have HC := hide (show closeIn m = m.set q padC by unfold closeIn; rw [if_pos (by omega), ← hl, hq])
      have h0' : 0 < n := by omega
      clear h hl hr hx hb hnc hs hm hq h0
      go_enter Try.func58, Try.ntmps58
      go_wp2
      go_end0
      obtain ⟨hb, hnc, hs, hm, hl⟩ := HS.out
      rw [HC.out]
      exact done_row hb hnc hs hm hl.symm (by simp; exact hl.symm) (HR.out.set8 HX.out padC (o := q * 8) (by simp)) (eight_frm (Frm.refl _ _) _ _ _ _ _ _ _ _)
theorem close_any (l : List Cell) (n c B : Nat) (A : Option Addr) (w : World) (hl : Rd w B 8 A n (l.flatMap cellE)) (hB : B ≤ w.heap.size) (hn : n ≤ 100000) :
    Calls Try.prog 40 #[.slice A n c] w (RetRow (mendF (closeIn (mendF l))) n w) := by
  have W1 := hide (with_any l closeIn n c B A 58 #[] w hl hB hn (fun _ _ => rfl) (fun A c W _ h => close1_any _ n c A _ W h hn))
  clear hl
  go_enter Try.func40, Try.ntmps40
  go_wp2_with (go_at_call 44; go_must (refine (W1.out).mono ?_; rintro e w1 ⟨A1, c1, rfl, o1, h1, b1⟩))
  go_ret
  exact ⟨A1, c1, rfl, o1, h1, b1⟩
end Go.Proofs.Ytoaeadjihpbhgaa
namespace Go.Proofs.Ytoaeadjihpbhgaa
open Go.RowKit Go.Proofs
set_option linter.unusedVariables false
/-- The five cells of an attribute in a box. -/
def Five (w : World) (b : Nat) (a : At8) : Prop := w.cell? ⟨b, 0, none⟩ = some (.int .i64 a.fk) ∧ w.cell? ⟨b, 1, none⟩ = some (.int .i64 a.fn) ∧ w.cell? ⟨b, 2, none⟩ = some (.int .i64 a.bk) ∧ w.cell? ⟨b, 3, none⟩ = some (.int .i64 a.bn) ∧ w.cell? ⟨b, 4, none⟩ = some (.int .i64 a.fl)
theorem Five.below {w w' : World} {b B : Nat} {a : At8} (h : Five w b a) (hb : Below B w w') (hl : b < B) : Five w' b a :=
  ⟨(hb.cell (p := ⟨b, 0, none⟩) hl).trans h.1, (hb.cell (p := ⟨b, 1, none⟩) hl).trans h.2.1, (hb.cell (p := ⟨b, 2, none⟩) hl).trans h.2.2.1, (hb.cell (p := ⟨b, 3, none⟩) hl).trans h.2.2.2.1, (hb.cell (p := ⟨b, 4, none⟩) hl).trans h.2.2.2.2⟩
set_option maxRecDepth 100000 in
set_option maxHeartbeats 2000000 in
theorem put1_any (base n c bx br ba : Nat) (A : Option Addr) (m : List Cell) (x r : Int) (a : At8) (w : World) (h : w.ownsRow base 40 8 (.slice A n c) n (m.flatMap cellE)) (hn : n ≤ 100000) (hbase : base ≤ w.heap.size)
    (hx : w.cell? ⟨bx, 0, none⟩ = some (.int .i64 x)) (hr : w.cell? ⟨br, 0, none⟩ = some (.int .i32 r)) (ha : Five w ba a) (l1 : bx < base) (l2 : br < base) (l3 : ba < base) :
    Calls Try.prog 46 #[.slice A n c, .pointer (some ⟨br, 0, none⟩), .pointer (some ⟨bx, 0, none⟩), .pointer (some ⟨ba, 0, none⟩)] w (DonePost base n c A (putIn x r a m) w) := by
  have hl := own_len (E := cellE) (size := 8) (fun _ => rfl) (by omega) h
  have HO := hide h
  have OF := hide (fun W => of_any r W)
  obtain ⟨wd, hwd⟩ : ∃ wd, widOf r = wd := ⟨_, rfl⟩
  have hwb := widOf_bounds r
  rw [hwd] at OF hwb
  have HX := hide (And.intro hx (And.intro hr ha))
  have HH := hide (show ∀ W, Below w.heap.size w W → W.cell? ⟨bx, 0, none⟩ = some (.int .i64 x) ∧ W.cell? ⟨br, 0, none⟩ = some (.int .i32 r) ∧ Five W ba a from fun W hW => ⟨(hW.cell (p := ⟨bx, 0, none⟩) (by show bx < _; omega)).trans hx, (hW.cell (p := ⟨br, 0, none⟩) (by show br < _; omega)).trans hr, ha.below hW (by omega)⟩)
  by_cases hno : x < 0 ∨ wd < 1 ∨ (n : Int) - wd < x
  · have HP := hide (show putIn x r a m = m by
      unfold putIn
      rw [hwd, if_neg (by omega), if_neg (by omega)])
    have hno2 : x < 0 ∨ (0 ≤ x ∧ wd < 1) ∨ (0 ≤ x ∧ 1 ≤ wd ∧ (n : Int) - wd < x) := by omega
    clear hno hwd hl h ha
    rcases hno2 with h1 | ⟨h0, h1⟩ | ⟨h0, h2, h1⟩
    all_goals
      go_enter Try.func46, Try.ntmps46
      go_wp2_with (go_at_call 47; go_must (refine (OF.out _).mono ?_; rintro e w1 ⟨rfl, b1⟩; obtain ⟨hx1, hr1, ha1⟩ := HH.out w1 b1; have B1 := hide b1; clear b1))
      go_end0
      rw [HP.out]
      exact ⟨rfl, own_call HO.out B1.out, frm_of B1.out⟩
  · rcases own_row h with ⟨rfl, rfl, rfl⟩ | ⟨g, T, rfl, hb, hrow, hnc, hs, hm⟩
    · exfalso; omega
    · obtain ⟨k, rfl⟩ : ∃ k : Nat, x = k := ⟨x.toNat, by omega⟩
      obtain ⟨u, hu⟩ : ∃ u, m[k]? = some u := ⟨_, List.getElem?_eq_getElem (by omega)⟩
      have HS := hide (And.intro hb (And.intro hnc (And.intro hs (And.intro hm hl))))
      have HROW := hide hrow
      have HU := hide hu
      have hkn : k < n := by omega
      have hgl := hrow.blk.lt
      have hw2 : wd = 1 ∨ wd = 2 := by omega
      rcases hw2 with rfl | rfl
      · have HP := hide (show putIn k r a m = m.set k ⟨r, { data := #[] }, 0, a⟩ by
          unfold putIn
          rw [hwd, if_pos ⟨rfl, by omega, by omega⟩]
          simp)
        have d1 : decide ((n : Int) - 1 < k) = false := by simp; omega
        clear hno hwd hl h ha hb hrow hnc hs hm hu
        go_enter Try.func46, Try.ntmps46
        go_upto_region 7 with (go_at_call 47; go_must (refine (OF.out _).mono ?_; rintro e w1 ⟨rfl, b1⟩; obtain ⟨hx1, hr1, ha0, ha1, ha2, ha3, ha4⟩ := HH.out w1 b1; have r1 := HROW.out.below b1 hgl; have gl1 := r1.blk.lt; have lx := Nat.lt_of_lt_of_le l1 (Nat.le_trans hbase b1.size); have lr := Nat.lt_of_lt_of_le l2 (Nat.le_trans hbase b1.size); have la := Nat.lt_of_lt_of_le l3 (Nat.le_trans hbase b1.size); have R1 := hide r1; have B1 := hide b1; clear b1 r1))
        go_name_world W5 hW5
        have q5 : Blk W5 w1.heap.size 40 #[.int .i32 r, .string { data := #[] }, .int .i64 0, .int .i64 a.fk, .int .i64 a.fn, .int .i64 a.bk, .int .i64 a.bn, .int .i64 a.fl] := by rw [← hW5]; exact Blk.new _ _ _
        have n5 : Below w1.heap.size w1 W5 := by rw [← hW5]; exact (Below.refl _ _).alloc (Nat.le_refl _) _
        have r5 := R1.out.below n5 gl1
        have e8 := r5.eight HU.out
        simp only [List.length_nil, Nat.zero_add] at e8
        obtain ⟨z0, z1, z2, z3, z4, z5, z6, z7⟩ := e8
        have f0 := fun i => r5.frozen i
        have hx5 := (n5.cell (p := ⟨bx, 0, none⟩) lx).trans hx1
        obtain ⟨⟨p0, p1, p2, p3, p4, p5, p6, p7⟩, _⟩ := blk8 q5
        have R5 := hide r5
        have F5 := hide ((frm_of (S := fun k => k = g) B1.out).trans (frm_of (S := fun k => k = g) n5) (fun i _ h => h))
        clear hW5 n5 q5 r5
        go_wp2
        go_end0
        obtain ⟨hb, hnc, hs, hm, hl⟩ := HS.out
        rw [HP.out]
        refine done_row hb hnc hs hm hl.symm (by simp; exact hl.symm) ?_ (eight_frm F5.out _ _ _ _ _ _ _ _)
        exact R5.out.set8 HU.out ⟨r, { data := #[] }, 0, a⟩ (o := k * 8) (by simp)
      · have hk1 : k + 1 < n := by omega
        obtain ⟨v, hv⟩ : ∃ v, m[k + 1]? = some v := ⟨_, List.getElem?_eq_getElem (by omega)⟩
        have HP := hide (show putIn k r a m = (m.set (k + 1) ⟨r, { data := #[] }, 2, a⟩).set k ⟨r, { data := #[] }, 1, a⟩ by
          unfold putIn
          rw [hwd, if_neg (by omega), if_pos ⟨rfl, by omega, by omega⟩]
          simp)
        have hu2 : (m.set (k + 1) ⟨r, { data := #[] }, 2, a⟩)[k]? = some u := by rw [List.getElem?_set_ne (by omega)]; exact hu
        have HU2 := hide hu2
        have HV := hide hv
        have d1 : decide ((n : Int) - 2 < k) = false := by simp; omega
        clear hno hwd hl h ha hb hrow hnc hs hm hu hu2 hv
        go_enter Try.func46, Try.ntmps46
        go_upto_region 5 with (go_at_call 47; go_must (refine (OF.out _).mono ?_; rintro e w1 ⟨rfl, b1⟩; obtain ⟨hx1, hr1, ha0, ha1, ha2, ha3, ha4⟩ := HH.out w1 b1; have r1 := HROW.out.below b1 hgl; have gl1 := r1.blk.lt; have lx := Nat.lt_of_lt_of_le l1 (Nat.le_trans hbase b1.size); have lr := Nat.lt_of_lt_of_le l2 (Nat.le_trans hbase b1.size); have la := Nat.lt_of_lt_of_le l3 (Nat.le_trans hbase b1.size); have R1 := hide r1; have B1 := hide b1; clear b1 r1))
        go_name_world W5 hW5
        have q5 : Blk W5 w1.heap.size 40 #[.int .i32 r, .string { data := #[] }, .int .i64 2, .int .i64 a.fk, .int .i64 a.fn, .int .i64 a.bk, .int .i64 a.bn, .int .i64 a.fl] := by rw [← hW5]; exact Blk.new _ _ _
        have n5 : Below w1.heap.size w1 W5 := by rw [← hW5]; exact (Below.refl _ _).alloc (Nat.le_refl _) _
        have r5 := R1.out.below n5 gl1
        have e8 := r5.eight HV.out
        simp only [List.length_nil, Nat.zero_add] at e8
        obtain ⟨z0, z1, z2, z3, z4, z5, z6, z7⟩ := e8
        have f0 := fun i => r5.frozen i
        have hx5 := (n5.cell (p := ⟨bx, 0, none⟩) lx).trans hx1
        obtain ⟨⟨p0, p1, p2, p3, p4, p5, p6, p7⟩, _⟩ := blk8 q5
        have R5 := hide r5
        have Q5 := hide q5
        have hbg : w1.heap.size ≠ g := by omega
        have F5 := hide ((frm_of (S := fun k => k = g) B1.out).trans (frm_of (S := fun k => k = g) n5) (fun i _ h => h))
        have z5' := n5.size
        clear hW5 n5 q5 r5
        go_upto_region 6 with (fail)
        go_name_world W6 hW6
        have r6 : RowAt W6 g [] (m.set (k + 1) ⟨r, { data := #[] }, 2, a⟩) T := by rw [← hW6]; exact R5.out.set8 HV.out ⟨r, { data := #[] }, 2, a⟩ (o := (k + 1) * 8) (by simp)
        have f6 : Frm (fun k => k = g) W5 W6 := by rw [← hW6]; exact eight_frm (Frm.refl _ _) _ _ _ _ _ _ _ _
        have q6 := Q5.out.frm f6 hbg
        have R6 := hide r6
        have Q6 := hide q6
        have F6 := hide (F5.out.trans f6 (fun i _ h => h))
        have hx6 : W6.cell? ⟨bx, 0, none⟩ = some (.int .i64 k) := (World.cell?_of_block (f6.block bx (by omega) (by show bx ≠ g; have := HS.out.1; omega))).trans hx5
        obtain ⟨⟨s0, s1, s2, s3, s4, s5, s6, s7⟩, ⟨t0, t1, t2, t3, t4, t5, t6, t7⟩⟩ := blk8 q6
        clear hW6 f6 q6 r6 z0 z1 z2 z3 z4 z5 z6 z7 f0 p0 p1 p2 p3 p4 p5 p6 p7
        go_upto_region 7 with (fail)
        go_name_world W7 hW7
        have q7 : Blk W7 w1.heap.size 40 #[.int .i32 r, .string { data := #[] }, .int .i64 1, .int .i64 a.fk, .int .i64 a.fn, .int .i64 a.bk, .int .i64 a.bn, .int .i64 a.fl] := by rw [← hW7]; exact Q6.out.set_ 2 (.int .i64 1)
        have r7 : RowAt W7 g [] (m.set (k + 1) ⟨r, { data := #[] }, 2, a⟩) T := by rw [← hW7]; exact ⟨R6.out.blk.far (p := ⟨w1.heap.size, 2, none⟩) (Ne.symm hbg) _⟩
        have f7 : Frm (fun k => k = w1.heap.size) W6 W7 := by rw [← hW7]; exact (Frm.refl (fun k => k = w1.heap.size) W6).setCell (p := ⟨w1.heap.size, 2, none⟩) (fun _ => rfl) _
        have hx7 : W7.cell? ⟨bx, 0, none⟩ = some (.int .i64 k) := (World.cell?_of_block (f7.block bx (by have := F6.out.size; omega) (by show bx ≠ w1.heap.size; omega))).trans hx6
        have e8 := r7.eight HU2.out
        simp only [List.length_nil, Nat.zero_add] at e8
        obtain ⟨z0, z1, z2, z3, z4, z5, z6, z7⟩ := e8
        have f0 := fun i => r7.frozen i
        obtain ⟨⟨p0, p1, p2, p3, p4, p5, p6, p7⟩, _⟩ := blk8 q7
        have R7 := hide r7
        have F7 := hide (show Frm (fun k => k = g) w W7 from F6.out.trans f7 (fun i hi h => by have h : i = w1.heap.size := h; have := B1.out.size; omega))
        clear hW7 f7 q7 r7 s0 s1 s2 s3 s4 s5 s6 s7 t0 t1 t2 t3 t4 t5 t6 t7
        go_wp2
        go_end0
        obtain ⟨hb, hnc, hs, hm, hl⟩ := HS.out
        rw [HP.out]
        refine done_row hb hnc hs hm hl.symm (by simp; exact hl.symm) ?_ (eight_frm F7.out _ _ _ _ _ _ _ _)
        exact R7.out.set8 HU2.out ⟨r, { data := #[] }, 1, a⟩ (o := k * 8) (by simp)
end Go.Proofs.Ytoaeadjihpbhgaa
namespace Go.Proofs.Ytoaeadjihpbhgaa
open Go.RowKit Go.Proofs
set_option linter.unusedVariables false
theorem own_le {w : World} {base base' size n : Nat} {e : TypeId} {v : Value} {xs : List Value} (h : w.ownsRow base e size v n xs) (hb : base' ≤ base) : w.ownsRow base' e size v n xs :=
  ⟨h.1, h.2.elim Or.inl (fun ⟨g, cap, cur, hv, hg, r⟩ => Or.inr ⟨g, cap, cur, hv, Nat.le_trans hb hg, r⟩)⟩
set_option maxHeartbeats 2000000 in
theorem putc_any (l : List Cell) (n c B : Nat) (A : Option Addr) (x r : Int) (a : At8) (w : World) (hl : Rd w B 8 A n (l.flatMap cellE)) (hB : B ≤ w.heap.size) (hn : n ≤ 100000) :
    Calls Try.prog 22 #[.slice A n c, .int .i64 x, .int .i32 r, .agg #[.int .i64 a.fk, .int .i64 a.fn, .int .i64 a.bk, .int .i64 a.bn, .int .i64 a.fl]] w (RetRow (mendF (putIn x r a (mendF l))) n w) := by
  have HL := hide hl
  clear hl
  go_enter Try.func22, Try.ntmps22
  go_upto_region 1 with (fail)
  go_name_world W hW
  have k0 : Blk W w.heap.size 3 #[.int .i64 x] := by rw [← hW]; exact ((Blk.new w _ _).alloc _).alloc _
  have k1 : Blk W (w.heap.size + 1) 21 #[.int .i32 r] := by rw [← hW]; exact (Blk.new' (by rw [World.size_alloc]) _ _).alloc _
  have k2 : Blk W (w.heap.size + 1 + 1) 32 #[.int .i64 a.fk, .int .i64 a.fn, .int .i64 a.bk, .int .i64 a.bn, .int .i64 a.fl] := by rw [← hW]; exact Blk.new' (by rw [World.size_alloc, World.size_alloc]) _ _
  have bW : Below w.heap.size w W := by rw [← hW]; exact (((Below.refl _ _).alloc (Nat.le_refl _) _).alloc (by rw [World.size_alloc]; omega) _).alloc (by rw [World.size_alloc, World.size_alloc]; omega) _
  clear hW
  have W1 := hide (with_any l (putIn x r a) n c B A 46 #[.pointer (some ⟨w.heap.size + 1, 0, none⟩), .pointer (some ⟨w.heap.size, 0, none⟩), .pointer (some ⟨w.heap.size + 1 + 1, 0, none⟩)] W (HL.out.below (bW.mono hB)) (Nat.le_trans hB bW.size) hn (fun _ _ => rfl) (fun A c W' b h =>
    put1_any W.heap.size n c w.heap.size (w.heap.size + 1) (w.heap.size + 1 + 1) A (mendF l) x r a W' h hn b.size ((k0.below b k0.lt).cell 0) ((k1.below b k1.lt).cell 0)
      ⟨(k2.below b k2.lt).cell 0, (k2.below b k2.lt).cell 1, (k2.below b k2.lt).cell 2, (k2.below b k2.lt).cell 3, (k2.below b k2.lt).cell 4⟩ k0.lt k1.lt k2.lt))
  have BW := hide bW
  clear k0 k1 k2 bW
  go_wp2_with (go_at_call 44; go_must (refine (W1.out).mono ?_; rintro e w1 ⟨A1, c1, rfl, o1, h1, b1⟩))
  go_ret
  exact ⟨A1, c1, rfl, own_le o1 BW.out.size, h1, below_in BW.out b1 (Nat.le_refl _)⟩
end Go.Proofs.Ytoaeadjihpbhgaa
namespace Go.Proofs.Ytoaeadjihpbhgaa
open Go.RowKit Go.Proofs
set_option linter.unusedVariables false
/-- The first k cells made blanks. -/
def wipeK (bk bn : Int) (k : Nat) (l : List Cell) : List Cell := List.replicate k (blankC bk bn) ++ l.drop k
theorem wipeK_step (bk bn : Int) {k : Nat} {l : List Cell} (hk : k < l.length) : (wipeK bk bn k l).set k (blankC bk bn) = wipeK bk bn (k + 1) l := by
  unfold wipeK
  rw [List.set_append, if_neg (by simp), List.length_replicate, Nat.sub_self, List.drop_eq_getElem_cons hk, List.set_cons_zero, List.replicate_succ']
  simp
theorem wipeK_at (bk bn : Int) {k : Nat} {l : List Cell} (hk : k < l.length) : (wipeK bk bn k l)[k]? = some l[k] := by
  unfold wipeK
  rw [List.getElem?_append_right (by simp), List.length_replicate, Nat.sub_self, List.drop_eq_getElem_cons hk]
  rfl
def WipePost (g : Nat) (P : List Value) (l : List Cell) (T : List Value) (w : World) (e : Ending) (w' : World) : Prop :=
  e = .returned (.tuple #[]) ∧ RowAt w' g P l T ∧ Frm (fun k => k = g) w w'
set_option maxHeartbeats 2000000 in
theorem wipe_row (g o : Nat) (P T : List Value) (l : List Cell) (n c : Nat) (bk bn : Int) (w : World) (h : RowAt w g P l T) (ho : o = P.length) (hl : l.length = n) (hn : n ≤ 100000) :
    Calls Try.prog 49 #[.slice (some ⟨g, o, none⟩) n c, .agg #[.int .i64 bk, .int .i64 bn]] w (WipePost g P (wipeK bk bn n l) T w) := by
  have H := hide h
  have hg0 := h.blk.lt
  have HL := hide hl
  have HO := hide ho
  have BL := hide (fun (W : World) => blank_any bk bn W)
  clear h hl ho
  go_enter Try.func49, Try.ntmps49
  go_wp2
  go_loopg [7] n (fun gg s2 wr => ∃ (k : Nat), k ≤ n ∧ n - k ≤ gg ∧ s2 = .int .i64 k ∧ Hid (RowAt wr g P (wipeK bk bn k l) T) ∧ Hid (Frm (fun k => k = g) w wr) ∧ Hid (Blk wr w.heap.size 23 #[.int .i64 bk, .int .i64 bn]))
  case atStart => exact ⟨0, by omega, by omega, rfl, by unfold wipeK; exact ⟨H.out.blk.alloc _⟩, (Frm.refl _ _).alloc _, Blk.new _ _ _⟩
  case round =>
    obtain ⟨k, hkn, hgk, rfl, HR, HF, HB⟩ := hrel
    have hgl := HR.out.blk.lt
    have hbl := HB.out.lt
    by_cases hlt : k < n
    · have d1 : decide (k < n) = true := by simpa using hlt
      have b0 := HB.out.cell 0
      have b1 := HB.out.cell 1
      simp at b0 b1
      have hx := wipeK_at bk bn (k := k) (l := l) (by rw [HL.out]; exact hlt)
      have HX := hide hx
      clear hx
      go_wp2_with (go_at_call 24; go_must (refine (BL.out _).mono ?_; rintro e w1 ⟨rfl, c1⟩; have r1 := HR.out.below c1 hgl; have e8 := r1.eight HX.out; rw [← HO.out] at e8; obtain ⟨z0, z1, z2, z3, z4, z5, z6, z7⟩ := e8; have f0 := fun i => r1.frozen i; have gl1 := r1.blk.lt; have R1 := hide r1; have B1 := hide (HB.out.below c1 hbl); have C1 := hide c1; clear c1 r1))
      go_roundg (n - (k + 1))
      case measure => omega
      case rel =>
        refine ⟨k + 1, by omega, by omega, by go_num, ?_, ?_, ?_⟩
        · rw [← wipeK_step bk bn (by rw [HL.out]; exact hlt)]
          exact R1.out.set8 HX.out (blankC bk bn) (o := o + k * 8) (by rw [HO.out])
        · exact eight_frm (HF.out.trans (frm_of (S := fun k => k = g) C1.out) (fun i _ h => h)) _ _ _ _ _ _ _ _
        · exact B1.out.frm (eight_frm (Frm.refl (fun k => k = g) _) _ _ _ _ _ _ _ _) (Nat.ne_of_gt hg0)
    · obtain rfl : k = n := by omega
      have d1 : decide (k < k) = false := by simp
      go_wp2
      go_end0
      exact ⟨rfl, HR.out, HF.out⟩
end Go.Proofs.Ytoaeadjihpbhgaa
namespace Go.Proofs.Ytoaeadjihpbhgaa
open Go.RowKit Go.Proofs
set_option linter.unusedVariables false
def wipeAB (bk bn : Int) (a b : Nat) (m : List Cell) : List Cell := m.take a ++ (List.replicate (b - a) (blankC bk bn) ++ m.drop b)
theorem wipeAB_len (bk bn : Int) {a b : Nat} {m : List Cell} (h : a ≤ b) (hb : b ≤ m.length) : (wipeAB bk bn a b m).length = m.length := by
  unfold wipeAB; simp; omega
theorem wipe_part (g a b c o q : Nat) (T : List Value) (m : List Cell) (bk bn : Int) (w : World) (h : RowAt w g [] m T) (hab : a ≤ b) (hb : b ≤ m.length) (hn : m.length ≤ 100000) (ho : o = a * 8) (hq : q = b - a) :
    Calls Try.prog 49 #[.slice (some ⟨g, o, none⟩) q c, .agg #[.int .i64 bk, .int .i64 bn]] w (WipePost g [] (wipeAB bk bn a b m) T w) := by
  have hp := h.part a (b - a)
  have hlen : ((m.take a).flatMap cellE).length = a * 8 := by rw [len_flat (E := cellE) (s := 8) (fun _ => rfl), List.length_take]; congr 1; omega
  refine (wipe_row g o _ _ _ q c bk bn w hp (by rw [ho, List.nil_append, hlen]) (by simp; omega) (by omega)).mono fun e w' ⟨he, hr, hf⟩ => ⟨he, ⟨?_⟩, hf⟩
  have hd : wipeK bk bn q (List.take (b - a) (List.drop a m)) = List.replicate (b - a) (blankC bk bn) := by
    unfold wipeK
    rw [hq, List.drop_of_length_le (by simp; omega), List.append_nil]
  have := hr.blk
  rw [hd, List.drop_drop, show a + (b - a) = b by omega] at this
  unfold wipeAB
  simpa [List.flatMap_append, List.append_assoc] using this
def eraseIn (x y bk bn : Int) (m : List Cell) : List Cell := if max 0 x < min y m.length then wipeAB bk bn (max 0 x).toNat (min y m.length).toNat m else m
theorem eraseIn_len (x y bk bn : Int) (m : List Cell) : (eraseIn x y bk bn m).length = m.length := by
  unfold eraseIn; split
  · exact wipeAB_len _ _ (by omega) (by omega)
  · rfl
end Go.Proofs.Ytoaeadjihpbhgaa
namespace Go.Proofs.Ytoaeadjihpbhgaa
open Go.RowKit Go.Proofs
set_option linter.unusedVariables false
theorem done_same {base n c : Nat} {A : Option Addr} {m : List Cell} {w : World} (h : w.ownsRow base 40 8 (.slice A n c) n (m.flatMap cellE)) : DonePost base n c A m w (.returned (.tuple #[])) w := ⟨rfl, h, Frm.refl _ _⟩
set_option maxRecDepth 100000 in
set_option maxHeartbeats 2000000 in
theorem erase1_any (base n c bx bY bc : Nat) (A : Option Addr) (m : List Cell) (x y bk bn : Int) (w : World) (h : w.ownsRow base 40 8 (.slice A n c) n (m.flatMap cellE)) (hn : n ≤ 100000)
    (hx : w.cell? ⟨bx, 0, none⟩ = some (.int .i64 x)) (hy : w.cell? ⟨bY, 0, none⟩ = some (.int .i64 y)) (hc0 : w.cell? ⟨bc, 0, none⟩ = some (.int .i64 bk)) (hc1 : w.cell? ⟨bc, 1, none⟩ = some (.int .i64 bn)) (l3 : bc < base) :
    Calls Try.prog 48 #[.slice A n c, .pointer (some ⟨bx, 0, none⟩), .pointer (some ⟨bY, 0, none⟩), .pointer (some ⟨bc, 0, none⟩)] w (DonePost base n c A (eraseIn x y bk bn m) w) := by
  have hl := own_len (E := cellE) (size := 8) (fun _ => rfl) (by omega) h
  have HO := hide h
  by_cases hlt : max 0 x < min y n
  · rcases own_row h with ⟨rfl, rfl, rfl⟩ | ⟨g, T, rfl, hb, hr, hnc, hs, hm⟩
    · exfalso; omega
    · obtain ⟨p, hp⟩ : ∃ p : Nat, (p : Int) = max 0 x := ⟨(max 0 x).toNat, by omega⟩
      obtain ⟨q, hq⟩ : ∃ q : Nat, (q : Int) = min y n := ⟨(min y n).toNat, by omega⟩
      obtain ⟨d, hd⟩ : ∃ d : Nat, d = q - p := ⟨_, rfl⟩
      have HE := hide (show eraseIn x y bk bn m = wipeAB bk bn p q m by
        unfold eraseIn; rw [← hl, if_pos hlt, ← hp, ← hq]; simp)
      have e1 := fun ts W => max2_ Try.prog ts 3 (k := .i64) hp W
      have e2 := fun ts W => min2_ Try.prog ts 3 (k := .i64) hq W
      have hpq : p < q := by omega
      have hqn : q ≤ n := by omega
      have d1 : decide (p < q) = true := by simpa using hpq
      have HW := hide (fun (W : World) (hW : RowAt W g [] m T) (c : Nat) => wipe_part g p q c (p * 8) (q - p) T m bk bn W hW (by omega) (by omega) (by omega) rfl rfl)
      have HR := hide hr
      have HS := hide (And.intro hb (And.intro hnc (And.intro hs (And.intro hm hl))))
      have hpq' : p ≤ q := by omega
      have hqc : q ≤ c := by omega
      clear h hr hlt hl hs hp hq hm hb hd
      go_enter Try.func48, Try.ntmps48
      go_wp2
      go_quiet (fail)
      go_upto_region 2 with (fail)
      go_name_world W hW
      have HRW := hide (show RowAt W g [] m T by rw [← hW]; exact ⟨HR.out.blk.drewN _⟩)
      have HFW := hide (show Frm (fun k => k = g) w W by rw [← hW]; exact (Frm.refl _ _).drewN _)
      have hc0W : W.cell? ⟨bc, 0, none⟩ = some (.int .i64 bk) := by rw [← hW]; exact hc0
      have hc1W : W.cell? ⟨bc, 1, none⟩ = some (.int .i64 bn) := by rw [← hW]; exact hc1
      clear hW
      have hcp : ¬ c = p := by omega
      have hgW := HRW.out.blk.lt
      have hcg : bc < g := by have := HS.out.1; omega
      have hcne : bc ≠ g := by omega
      have hcl : bc < W.heap.size := by omega
      have hc0D : W.drew.cell? ⟨bc, 0, none⟩ = some (.int .i64 bk) := by simpa using hc0W
      have hc1D : W.drew.cell? ⟨bc, 1, none⟩ = some (.int .i64 bn) := by simpa using hc1W
      have hclD : bc < W.drew.heap.size := hcl
      have DD := hide (fun (w1 : World) (f1 : Frm (fun k => k = g) W.drew w1) => And.intro ((show w1.cell? ⟨bc, 0, none⟩ = W.drew.cell? ⟨bc, 0, none⟩ from World.cell?_of_block (f1.block bc hclD hcne)).trans hc0D) ((show w1.cell? ⟨bc, 1, none⟩ = W.drew.cell? ⟨bc, 1, none⟩ from World.cell?_of_block (f1.block bc hclD hcne)).trans hc1D))
      have RD := hide (show RowAt W.drew g [] m T from ⟨HRW.out.blk.drew⟩)
      go_region_held3 (fun V => V.cell? ⟨bc, 0, none⟩ = some (.int .i64 bk) ∧ V.cell? ⟨bc, 1, none⟩ = some (.int .i64 bn))
        (with_reducible first | (exact ⟨hc0D, hc1D⟩) | (exact ⟨hc0W, hc1W⟩) | (exact cc) | go_keep)
        ((go_at_call 49; (with_reducible refine (HW.out _ RD.out _).mono ?_); rintro e w1 ⟨rfl, r1, f1⟩; have cc := DD.out _ f1; have R1 := hide r1; have F1 := hide f1; clear r1 f1))
      go_wp2
      go_end0
      obtain ⟨hb, hnc, hs, hm, hl⟩ := HS.out
      rw [HE.out]
      refine done_row hb hnc hs hm hl.symm (by rw [wipeAB_len _ _ hpq' (by omega)]; exact hl.symm) R1.out ((show Frm (fun k => k = g) w W.drew from HFW.out.drew).trans F1.out (fun i _ h => h))
  · have HE := hide (show eraseIn x y bk bn m = m by unfold eraseIn; rw [← hl, if_neg hlt])
    obtain ⟨p, hp⟩ : ∃ p : Int, p = max 0 x := ⟨_, rfl⟩
    obtain ⟨q, hq⟩ : ∃ q : Int, q = min y n := ⟨_, rfl⟩
    have e1 := fun ts W => max2_ Try.prog ts 3 (k := .i64) hp W
    have e2 := fun ts W => min2_ Try.prog ts 3 (k := .i64) hq W
    have d1 : decide (p < q) = false := by rw [hp, hq]; simpa using hlt
    clear h hlt hl hp hq
    go_enter Try.func48, Try.ntmps48
    go_wp2
    go_quiet (fail)
    go_wp2
    go_end0
    rw [HE.out]
    exact ⟨rfl, own_drewN HO.out _, (Frm.refl _ _).drewN _⟩
end Go.Proofs.Ytoaeadjihpbhgaa
namespace Go.Proofs.Ytoaeadjihpbhgaa
open Go.RowKit Go.Proofs
set_option linter.unusedVariables false
set_option maxHeartbeats 2000000 in
theorem erasec_any (l : List Cell) (n c B : Nat) (A : Option Addr) (x y bk bn : Int) (w : World) (hl : Rd w B 8 A n (l.flatMap cellE)) (hB : B ≤ w.heap.size) (hn : n ≤ 100000) :
    Calls Try.prog 23 #[.slice A n c, .int .i64 x, .int .i64 y, .agg #[.int .i64 bk, .int .i64 bn]] w (RetRow (mendF (eraseIn x y bk bn (mendF l))) n w) := by
  have HL := hide hl
  clear hl
  go_enter Try.func23, Try.ntmps23
  go_upto_region 1 with (fail)
  go_name_world W hW
  have k0 : Blk W w.heap.size 3 #[.int .i64 x] := by rw [← hW]; exact ((Blk.new w _ _).alloc _).alloc _
  have k1 : Blk W (w.heap.size + 1) 3 #[.int .i64 y] := by rw [← hW]; exact (Blk.new' (by rw [World.size_alloc]) _ _).alloc _
  have k2 : Blk W (w.heap.size + 1 + 1) 23 #[.int .i64 bk, .int .i64 bn] := by rw [← hW]; exact Blk.new' (by rw [World.size_alloc, World.size_alloc]) _ _
  have bW : Below w.heap.size w W := by rw [← hW]; exact (((Below.refl _ _).alloc (Nat.le_refl _) _).alloc (by rw [World.size_alloc]; omega) _).alloc (by rw [World.size_alloc, World.size_alloc]; omega) _
  clear hW
  have W1 := hide (with_any l (eraseIn x y bk bn) n c B A 48 #[.pointer (some ⟨w.heap.size, 0, none⟩), .pointer (some ⟨w.heap.size + 1, 0, none⟩), .pointer (some ⟨w.heap.size + 1 + 1, 0, none⟩)] W (HL.out.below (bW.mono hB)) (Nat.le_trans hB bW.size) hn (fun _ _ => rfl) (fun A c W' b h =>
    erase1_any W.heap.size n c w.heap.size (w.heap.size + 1) (w.heap.size + 1 + 1) A (mendF l) x y bk bn W' h hn ((k0.below b k0.lt).cell 0) ((k1.below b k1.lt).cell 0)
      ((k2.below b k2.lt).cell 0) ((k2.below b k2.lt).cell 1) k2.lt))
  have BW := hide bW
  clear k0 k1 k2 bW
  go_wp2_with (go_at_call 44; go_must (refine (W1.out).mono ?_; rintro e w1 ⟨A1, c1, rfl, o1, h1, b1⟩))
  go_ret
  exact ⟨A1, c1, rfl, own_le o1 BW.out.size, h1, below_in BW.out b1 (Nat.le_refl _)⟩
end Go.Proofs.Ytoaeadjihpbhgaa
