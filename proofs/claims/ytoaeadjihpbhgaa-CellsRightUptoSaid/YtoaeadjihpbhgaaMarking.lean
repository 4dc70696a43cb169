/-
  Mark, walked: the closure. No condition but bounds.
  Mark, walked: the closure. No condition but bounds.
  Mark, walked: the closure, where a mark is asked for. No condition but bounds.
  Mark of a row, walked; a mended row's halves. No condition but bounds.
-/
import Derived.Test.YtoaeadjihpbhgaaCuts
import Derived.Test.YtoaeadjihpbhgaaPut
namespace Go.Proofs.Ytoaeadjihpbhgaa
open Go.RowKit Go.Proofs
set_option linter.unusedVariables false
def setMore (k : Nat) (M : ByteArray) (m : List Cell) : List Cell := m.modify k (fun c => { c with more := M })
theorem setMore_len (k : Nat) (M : ByteArray) (m : List Cell) : (setMore k M m).length = m.length := by unfold setMore; simp
theorem setMore_at {k : Nat} {M : ByteArray} {m : List Cell} {v : Cell} (h : m[k]? = some v) : setMore k M m = m.set k { v with more := M } := by
  unfold setMore
  apply List.ext_getElem?
  intro i
  rw [List.getElem?_modify, List.getElem?_set]
  by_cases hi : k = i
  · subst hi
    obtain ⟨hlt, rfl⟩ := List.getElem?_eq_some_iff.1 h
    simp [hlt]
  · simp [hi]
/-- What a mark makes of a cell's text. -/
def marked (r : Int) (u : Cell) : ByteArray := u.more ++ strOfNums (putF r)
def markIn (x r : Int) (m : List Cell) : List Cell :=
  match m[x.toNat]? with
  | none => m
  | some u =>
    if 0 ≤ x ∧ u.r ≠ 0 ∧ widOf r = 0 ∧ (marked r u).size ≤ 32 then
      setMore x.toNat (marked r u) (if u.half = 1 then setMore (x.toNat + 1) (marked r u) m else if u.half = 2 then setMore (x.toNat - 1) (marked r u) m else m)
    else m
theorem markIn_len (x r : Int) (m : List Cell) : (markIn x r m).length = m.length := by
  unfold markIn
  split
  · rfl
  · split
    · rw [setMore_len]
      split
      · rw [setMore_len]
      · split
        · rw [setMore_len]
        · rfl
    · rfl
theorem markIn_no {x r : Int} {m : List Cell} (h : x < 0 ∨ (m.length : Int) ≤ x ∨ ∃ u, m[x.toNat]? = some u ∧ (u.r = 0 ∨ widOf r ≠ 0 ∨ 32 < (marked r u).size)) : markIn x r m = m := by
  unfold markIn
  split
  · rfl
  · rename_i u hu
    rw [if_neg]
    rintro ⟨h0, h1, h2, h3⟩
    rcases h with h | h | ⟨v, hv, h⟩
    · omega
    · have := (List.getElem?_eq_some_iff.1 hu).1; omega
    · rw [hu] at hv; injection hv with hv; subst hv
      rcases h with h | h | h
      · exact h1 h
      · exact h h2
      · omega
theorem markIn_yes {x r : Int} {m : List Cell} {u : Cell} (h0 : 0 ≤ x) (hu : m[x.toNat]? = some u) (h1 : u.r ≠ 0) (h2 : widOf r = 0) (h3 : (marked r u).size ≤ 32) :
    markIn x r m = setMore x.toNat (marked r u) (if u.half = 1 then setMore (x.toNat + 1) (marked r u) m else if u.half = 2 then setMore (x.toNat - 1) (marked r u) m else m) := by
  unfold markIn
  rw [hu]
  show (if _ then _ else _) = _
  rw [if_pos ⟨h0, h1, h2, h3⟩]
/-- A left half has a cell behind it, a right one a cell ahead. -/
def HalfOk (m : List Cell) : Prop := ∀ k c, m[k]? = some c → (c.half = 1 → k + 1 < m.length) ∧ (c.half = 2 → 1 ≤ k)
theorem putF_len (r : Int) : (putF r).length ≤ 4 := by
  unfold putF
  (repeat' split) <;> simp
theorem marked_size (r : Int) (u : Cell) : (marked r u).size = u.more.size + (putF r).length := by
  unfold marked; rw [ByteArray.size_append, strOfNums_size]
end Go.Proofs.Ytoaeadjihpbhgaa
namespace Go.Proofs.Ytoaeadjihpbhgaa
open Go.RowKit Go.Proofs
set_option linter.unusedVariables false
set_option maxRecDepth 100000 in
set_option maxHeartbeats 2000000 in
theorem mark1_no (base n c bx br : Nat) (A : Option Addr) (m : List Cell) (x r : Int) (w : World) (h : w.ownsRow base 40 8 (.slice A n c) n (m.flatMap cellE)) (hn : n ≤ 100000) (hbase : base ≤ w.heap.size)
    (hx : w.cell? ⟨bx, 0, none⟩ = some (.int .i64 x)) (hr : w.cell? ⟨br, 0, none⟩ = some (.int .i32 r)) (l1 : bx < base) (l2 : br < base)
    (hno : x < 0 ∨ (n : Int) ≤ x ∨ ∃ u, m[x.toNat]? = some u ∧ (u.r = 0 ∨ widOf r ≠ 0)) :
    Calls Try.prog 55 #[.slice A n c, .pointer (some ⟨bx, 0, none⟩), .pointer (some ⟨br, 0, none⟩)] w (DonePost base n c A (markIn x r m) w) := by
  have hl := own_len (E := cellE) (size := 8) (fun _ => rfl) (by omega) h
  have HO := hide h
  have HP := hide (show markIn x r m = m from markIn_no (by
    rcases hno with h | h | ⟨u, hu, h⟩
    · exact .inl h
    · exact .inr (.inl (by omega))
    · exact .inr (.inr ⟨u, hu, h.elim .inl (fun h => .inr (.inl h))⟩)))
  by_cases h0 : x < 0
  · have d1 : decide (x < 0) = true := by simpa using h0
    clear hno hl h
    go_enter Try.func55, Try.ntmps55
    go_wp2
    go_end0
    rw [HP.out]
    exact ⟨rfl, HO.out, Frm.refl _ _⟩
  · obtain ⟨X, rfl⟩ : ∃ X : Nat, x = X := ⟨x.toNat, by omega⟩
    have d1 : decide ((X : Int) < 0) = false := by simp
    by_cases hX : n ≤ X
    · have d2 : decide (n ≤ X) = true := by simpa using hX
      clear hno hl h
      go_enter Try.func55, Try.ntmps55
      go_wp2
      go_end0
      rw [HP.out]
      exact ⟨rfl, HO.out, Frm.refl _ _⟩
    · have d2 : decide (n ≤ X) = false := by simpa using hX
      have hXn : X < n := by omega
      rcases own_row h with ⟨rfl, rfl, rfl⟩ | ⟨g, T, rfl, hb, hrow, hnc, hs, hm⟩
      · exfalso; omega
      · obtain ⟨u, hu⟩ : ∃ u, m[X]? = some u := ⟨_, List.getElem?_eq_getElem (by omega)⟩
        have hno2 : u.r = 0 ∨ widOf r ≠ 0 := by
          rcases hno with h | h | ⟨v, hv, h⟩
          · omega
          · omega
          · rw [show (X : Int).toNat = X by omega, hu] at hv; injection hv with hv; subst hv; exact h
        have e8 := hrow.eight hu
        simp only [List.length_nil, Nat.zero_add] at e8
        obtain ⟨z0, z1, z2, z3, z4, z5, z6, z7⟩ := e8
        obtain ⟨ur, hur⟩ : ∃ ur, u.r = ur := ⟨_, rfl⟩
        obtain ⟨wd, hwd⟩ : ∃ wd, widOf r = wd := ⟨_, rfl⟩
        have OF := hide (fun W => of_any r W)
        rw [hwd] at OF hno2
        rw [hur] at z0 hno2
        by_cases hur0 : ur = 0
        · have d3 : (ur == 0) = true := by simpa using hur0
          clear hno hno2 hl h hrow hu hwd hur hur0 hs hm hb hnc z1 z2 z3 z4 z5 z6 z7
          go_enter Try.func55, Try.ntmps55
          go_wp2
          go_end0
          rw [HP.out]
          exact ⟨rfl, HO.out, Frm.refl _ _⟩
        · have d3 : (ur == 0) = false := by simpa using hur0
          have hw0 : ¬ wd = 0 := by rcases hno2 with h | h; exact absurd h hur0; exact h
          have d4 : (wd == 0) = false := by simpa using hw0
          have d5 : (wd != 0) = true := by simpa using hw0
          clear hno hno2 hl h hrow hu hwd hur hur0 hs hm hb hnc z1 z2 z3 z4 z5 z6 z7 hw0
          go_enter Try.func55, Try.ntmps55
          go_wp2_with (go_at_call 47; go_must (refine (OF.out _).mono ?_; rintro e w1 ⟨rfl, b1⟩; have B1 := hide b1; clear b1))
          go_end0
          rw [HP.out]
          exact ⟨rfl, own_call HO.out B1.out, frm_of B1.out⟩
end Go.Proofs.Ytoaeadjihpbhgaa
namespace Go.Proofs.Ytoaeadjihpbhgaa
open Go.RowKit Go.Proofs
set_option linter.unusedVariables false
set_option maxRecDepth 100000 in
set_option maxHeartbeats 4000000 in
theorem mark1_yes (base n c bx br : Nat) (A : Option Addr) (m : List Cell) (x r : Int) (w : World) (h : w.ownsRow base 40 8 (.slice A n c) n (m.flatMap cellE)) (hn : n ≤ 100000) (hbase : base ≤ w.heap.size)
    (hx : w.cell? ⟨bx, 0, none⟩ = some (.int .i64 x)) (hr : w.cell? ⟨br, 0, none⟩ = some (.int .i32 r)) (l1 : bx < base) (l2 : br < base)
    (hh : HalfOk m) (u : Cell) (X : Nat) (hxX : x = X) (hXn : X < n) (hu : m[X]? = some u) (hu0 : u.r ≠ 0) (hw0 : widOf r = 0) (hus : u.more.size ≤ 1000000000000000) :
    Calls Try.prog 55 #[.slice A n c, .pointer (some ⟨bx, 0, none⟩), .pointer (some ⟨br, 0, none⟩)] w (DonePost base n c A (markIn x r m) w) := by
  subst hxX
  have hl := own_len (E := cellE) (size := 8) (fun _ => rfl) (by omega) h
  have HO := hide h
  rcases own_row h with ⟨rfl, rfl, rfl⟩ | ⟨g, T, rfl, hb, hrow, hnc, hs, hm⟩
  · exfalso; omega
  · have HROW := hide hrow
    have HU := hide hu
    have hgl := hrow.blk.lt
    have HS := hide (And.intro hb (And.intro hnc (And.intro hs (And.intro hm hl))))
    have OF := hide (fun W => of_any r W)
    have PU := hide (fun W => put_any r W)
    have e8 := hrow.eight hu
    simp only [List.length_nil, Nat.zero_add] at e8
    obtain ⟨z0, _⟩ := e8
    obtain ⟨M, hM⟩ : ∃ M, marked r u = M := ⟨_, rfl⟩
    obtain ⟨ps, hps⟩ : ∃ p, strOfNums (putF r) = p := ⟨_, rfl⟩
    have hpsz : ps.size ≤ 4 := by rw [← hps, strOfNums_size]; exact putF_len r
    have hcs4 : (9223372036854775807 < u.more.size + ps.size) = False := by simp; omega
    have hcs5 : (9223372036854775807 < (u.more.size : Int) + ps.size) = False := by simp; omega
    have hcs : u.more.size + ps.size ≤ 9223372036854775807 := by omega
    have hcat : u.more ++ ps = M := by rw [← hM]; unfold marked; rw [hps]
    have d1 : decide ((X : Int) < 0) = false := by simp
    have d2 : decide (n ≤ X) = false := by simpa using hXn
    have d3 : (u.r == 0) = false := by simpa using hu0
    rw [hw0] at OF
    unfold RetS at PU
    rw [hps] at PU
    have HX1 := hide (fun (W : World) (hW : Below w.heap.size w W) => And.intro ((hW.cell (p := ⟨bx, 0, none⟩) (by show bx < _; omega)).trans hx) (And.intro ((hW.cell (p := ⟨br, 0, none⟩) (by show br < _; omega)).trans hr) ((hrow.below hW hgl).eight hu)))
    have lbx : bx < w.heap.size := by omega
    have lbr : br < w.heap.size := by omega
    have HW := hide hw0
    have HU0 := hide hu0
    have HHH := hide hh
    have HMM := hide hM
    clear hl h hrow hu hs hm hb hnc hM hps hu0 hw0 hh hpsz
    go_enter Try.func55, Try.ntmps55
    go_upto_region 1 with (go_at_call 47; go_must (refine (OF.out _).mono ?_; rintro e w1 ⟨rfl, b1⟩; obtain ⟨hx1, hr1, q1⟩ := HX1.out w1 b1; simp only [List.length_nil, Nat.zero_add] at q1; obtain ⟨q10, q11, q12, q1x⟩ := q1; have HX2 := hide (fun (W : World) (hW : Below w1.drew.heap.size w1.drew W) => (show W.cell? ⟨bx, 0, none⟩ = some (.int .i64 X) ∧ W.cell? ⟨br, 0, none⟩ = some (.int .i32 r) ∧ W.cell? ⟨g, X * 8 + 1, none⟩ = some (.string u.more) by obtain ⟨a1, a2, a3, a4, a5⟩ := HX1.out W (below_in b1.drew hW (Nat.le_refl _)); simp only [List.length_nil, Nat.zero_add] at a4; exact ⟨a1, a2, a4⟩)); have lx1 := Nat.lt_of_lt_of_le lbx b1.size; have lr1 := Nat.lt_of_lt_of_le lbr b1.size; have lg1 := Nat.lt_of_lt_of_le hgl b1.size; have B1 := hide b1; clear b1 hx hr q1x))
    go_region_held3 (fun V => V.cell? ⟨bx, 0, none⟩ = some (.int .i64 X) ∧ V.cell? ⟨br, 0, none⟩ = some (.int .i32 r) ∧ V.cell? ⟨g, X * 8 + 1, none⟩ = some (.string u.more))
      (with_reducible first | (exact ⟨hx1, hr1, q11⟩) | (exact cc) | go_keep)
      ((go_at_call 34; (with_reducible refine (PU.out _).mono ?_); rintro e w2 ⟨rfl, b2⟩; have cc := HX2.out w2 b2))
    obtain ⟨c1, c2, c3⟩ := cc
    have r2 := HROW.out.below (below_in B1.out.drew b2 (Nat.le_refl _)) hgl
    have BB := hide (below_in B1.out.drew b2 (Nat.le_refl _))
    have F2 := hide (frm_of (S := fun k => k = g) (below_in B1.out.drew b2 (Nat.le_refl _)))
    have e2 := r2.eight HU.out
    simp only [List.length_nil, Nat.zero_add] at e2
    obtain ⟨_, _, y2, _⟩ := e2
    have f0 := fun i => r2.frozen i
    have R2 := hide r2
    have lg2 := r2.blk.lt
    have hbg : bx ≠ g := by have := HS.out.1; omega
    have hgb : g ≠ bx := Ne.symm hbg
    have lb2 : bx < w2.heap.size := Nat.lt_of_lt_of_le lx1 b2.size
    clear r2 b2 q10 q11 q12 hx1 hr1
    go_upto_region 2 with (fail)
    have hln := HS.out.2.2.2.2
    have hal := HHH.out X u HU.out
    by_cases hM : 32 < M.size
    · have d6 : decide (32 < M.size) = true := by simpa using hM
      have d7 : decide ((32 : Int) < M.size) = true := by simp; omega
      have HP := hide (show markIn X r m = m from markIn_no (.inr (.inr ⟨u, by rw [show (X : Int).toNat = X by omega]; exact HU.out, .inr (.inr (by rw [HMM.out]; exact hM))⟩)))
      clear hln hal
      go_wp2
      go_end0
      rw [HP.out]
      exact ⟨rfl, own_call HO.out BB.out, frm_of BB.out⟩
    · have d6 : decide (32 < M.size) = false := by simpa using hM
      have d7 : decide ((32 : Int) < M.size) = false := by simp; omega
      by_cases h1 : u.half = 1
      · have d8 : (u.half == 1) = true := by simpa using h1
        have hal := hal.1 h1
        obtain ⟨q, hq⟩ : ∃ q : Nat, X + 1 = q := ⟨_, rfl⟩
        have hqn : q < n := by omega
        have hqi : (X : Int) + 1 = q := by omega
        have hqX : q ≠ X := by omega
        obtain ⟨v, hv⟩ : ∃ v, m[q]? = some v := ⟨_, List.getElem?_eq_getElem (by have := HS.out.2.2.2.2; omega)⟩
        have ev := R2.out.eight hv
        simp only [List.length_nil, Nat.zero_add] at ev
        obtain ⟨_, v1, _⟩ := ev
        have r3 := R2.out.set1 (k := q) (i := 1) (c := v) (d := { v with more := M }) hv (by omega) (u := .string M) rfl
        have hu3 : (m.set q { v with more := M })[X]? = some u := by rw [List.getElem?_set_ne hqX]; exact HU.out
        have r4 := r3.set1 (k := X) (i := 1) (c := u) (d := { u with more := M }) hu3 (by omega) (u := .string M) rfl
        simp only [List.length_nil, Nat.zero_add] at r4
        have HP := hide (show markIn X r m = (m.set q { v with more := M }).set X { u with more := M } by
          rw [markIn_yes (u := u) (by omega) (by rw [show (X : Int).toNat = X by omega]; exact HU.out) HU0.out HW.out (by rw [HMM.out]; omega), show (X : Int).toNat = X by omega, HMM.out, if_pos h1, hq, setMore_at hv, setMore_at hu3])
        have R4 := hide r4
        clear r3 r4 hv hu3 hln hal hq h1
        go_wp2
        go_end0
        obtain ⟨hb, hnc, hs, hm, hl⟩ := HS.out
        rw [HP.out]
        exact done_row hb hnc hs hm hl.symm (by simp; exact hl.symm) R4.out ((F2.out.setCell (p := ⟨g, q * 8 + 1, none⟩) (fun _ => rfl) _).setCell (p := ⟨g, X * 8 + 1, none⟩) (fun _ => rfl) _)
      · have d8 : (u.half == 1) = false := by simpa using h1
        by_cases h2 : u.half = 2
        · have d9 : (u.half == 2) = true := by simpa using h2
          have hal := hal.2 h2
          obtain ⟨q, hq⟩ : ∃ q : Nat, X - 1 = q := ⟨_, rfl⟩
          have hqn : q < n := by omega
          have hqi : (X : Int) - 1 = q := by omega
          have hqX : q ≠ X := by omega
          obtain ⟨v, hv⟩ : ∃ v, m[q]? = some v := ⟨_, List.getElem?_eq_getElem (by have := HS.out.2.2.2.2; omega)⟩
          have ev := R2.out.eight hv
          simp only [List.length_nil, Nat.zero_add] at ev
          obtain ⟨_, v1, _⟩ := ev
          have r3 := R2.out.set1 (k := q) (i := 1) (c := v) (d := { v with more := M }) hv (by omega) (u := .string M) rfl
          have hu3 : (m.set q { v with more := M })[X]? = some u := by rw [List.getElem?_set_ne hqX]; exact HU.out
          have r4 := r3.set1 (k := X) (i := 1) (c := u) (d := { u with more := M }) hu3 (by omega) (u := .string M) rfl
          simp only [List.length_nil, Nat.zero_add] at r4
          have HP := hide (show markIn X r m = (m.set q { v with more := M }).set X { u with more := M } by
            rw [markIn_yes (u := u) (by omega) (by rw [show (X : Int).toNat = X by omega]; exact HU.out) HU0.out HW.out (by rw [HMM.out]; omega), show (X : Int).toNat = X by omega, HMM.out, if_neg h1, if_pos h2, hq, setMore_at hv, setMore_at hu3])
          have R4 := hide r4
          clear r3 r4 hv hu3 hln hal hq h2
          go_wp2
          go_end0
          obtain ⟨hb, hnc, hs, hm, hl⟩ := HS.out
          rw [HP.out]
          exact done_row hb hnc hs hm hl.symm (by simp; exact hl.symm) R4.out ((F2.out.setCell (p := ⟨g, q * 8 + 1, none⟩) (fun _ => rfl) _).setCell (p := ⟨g, X * 8 + 1, none⟩) (fun _ => rfl) _)
        · have d9 : (u.half == 2) = false := by simpa using h2
          have r4 := R2.out.set1 (k := X) (i := 1) (c := u) (d := { u with more := M }) HU.out (by omega) (u := .string M) rfl
          simp only [List.length_nil, Nat.zero_add] at r4
          have HP := hide (show markIn X r m = m.set X { u with more := M } by
            rw [markIn_yes (u := u) (by omega) (by rw [show (X : Int).toNat = X by omega]; exact HU.out) HU0.out HW.out (by rw [HMM.out]; omega), show (X : Int).toNat = X by omega, HMM.out, if_neg h1, if_neg h2, setMore_at HU.out])
          have R4 := hide r4
          clear r4 hal hln
          go_wp2
          go_end0
          obtain ⟨hb, hnc, hs, hm, hl⟩ := HS.out
          rw [HP.out]
          exact done_row hb hnc hs hm hl.symm (by simp; exact hl.symm) R4.out (F2.out.setCell (p := ⟨g, X * 8 + 1, none⟩) (fun _ => rfl) _)
end Go.Proofs.Ytoaeadjihpbhgaa
namespace Go.Proofs.Ytoaeadjihpbhgaa
open Go.RowKit Go.Proofs
set_option linter.unusedVariables false
theorem mendF_all {Q : Cell → Prop} (he : ∀ a, Q (emptyC a)) : ∀ l : List Cell, (∀ c ∈ l, Q c) → ∀ c ∈ mendF l, Q c
  | [], h => by simp [mendF]
  | [c], h => by
    intro x hx
    rw [mendF, List.mem_singleton] at hx
    subst hx
    split
    · exact h c (by simp)
    · exact he _
  | c :: d :: l, h => by
    intro x hx
    have h1 := mendF_all he (d :: l) (fun y hy => h y (by simp [List.mem_cons] at hy ⊢; rcases hy with hy | hy; exact .inr (.inl hy); exact .inr (.inr hy)))
    have h2 := mendF_all he l (fun y hy => h y (by simp [hy]))
    rw [mendF] at hx
    split at hx
    · rcases List.mem_cons.1 hx with rfl | hx
      · exact h _ (by simp)
      · exact h1 x hx
    · split at hx
      · rcases List.mem_cons.1 hx with rfl | hx
        · exact h _ (by simp)
        · rcases List.mem_cons.1 hx with rfl | hx
          · exact h _ (by simp)
          · exact h2 x hx
      · rcases List.mem_cons.1 hx with rfl | hx
        · exact he _
        · exact h1 x hx
theorem half_cons {c : Cell} {m : List Cell} (h0 : c.half ≠ 1 ∧ c.half ≠ 2) (h : HalfOk m) : HalfOk (c :: m) := by
  intro k x hx
  cases k with
  | zero =>
    simp at hx
    subst hx
    exact ⟨fun h => absurd h h0.1, fun h => absurd h h0.2⟩
  | succ k =>
    simp at hx
    have := h k x hx
    simp only [List.length_cons]
    exact ⟨fun e => by have := this.1 e; omega, fun _ => by omega⟩
theorem half_pair {c d : Cell} {m : List Cell} (hc : c.half = 1) (hd : d.half = 2) (h : HalfOk m) : HalfOk (c :: d :: m) := by
  intro k x hx
  match k with
  | 0 =>
    simp at hx
    subst hx
    exact ⟨fun _ => by simp, fun h => by omega⟩
  | 1 =>
    simp at hx
    subst hx
    exact ⟨fun h => by omega, fun _ => by omega⟩
  | k + 2 =>
    simp at hx
    have := h k x hx
    simp only [List.length_cons]
    exact ⟨fun e => by have := this.1 e; omega, fun _ => by omega⟩
theorem half_nil : HalfOk [] := by intro k c h; simp at h
theorem pairB_halves {c d : Cell} (h : pairB c d = true) : c.half = 1 ∧ d.half = 2 := by
  unfold pairB at h
  simp at h
  exact ⟨h.1.1, h.1.2⟩
theorem mendF_half : ∀ l : List Cell, HalfOk (mendF l)
  | [] => half_nil
  | [c] => by
    rw [mendF]
    split
    · rename_i h; exact half_cons (by omega) half_nil
    · exact half_cons ⟨by simp [emptyC], by simp [emptyC]⟩ half_nil
  | c :: d :: l => by
    rw [mendF]
    split
    · exact half_cons (by omega) (mendF_half (d :: l))
    · split
      · rename_i h
        exact half_pair (pairB_halves h).1 (pairB_halves h).2 (mendF_half l)
      · exact half_cons ⟨by simp [emptyC], by simp [emptyC]⟩ (mendF_half (d :: l))
def MoreQ (c : Cell) : Prop := c.more.size ≤ 1000000000000000
theorem mendF_more {l : List Cell} (h : ∀ c ∈ l, MoreQ c) : ∀ c ∈ mendF l, MoreQ c := mendF_all (fun a => by unfold MoreQ emptyC; simp [ByteArray.size]) l h
theorem mark1_any (base n c bx br : Nat) (A : Option Addr) (m : List Cell) (x r : Int) (w : World) (h : w.ownsRow base 40 8 (.slice A n c) n (m.flatMap cellE)) (hn : n ≤ 100000) (hbase : base ≤ w.heap.size)
    (hx : w.cell? ⟨bx, 0, none⟩ = some (.int .i64 x)) (hr : w.cell? ⟨br, 0, none⟩ = some (.int .i32 r)) (l1 : bx < base) (l2 : br < base) (hh : HalfOk m) (hq : ∀ c ∈ m, MoreQ c) :
    Calls Try.prog 55 #[.slice A n c, .pointer (some ⟨bx, 0, none⟩), .pointer (some ⟨br, 0, none⟩)] w (DonePost base n c A (markIn x r m) w) := by
  have hl := own_len (E := cellE) (size := 8) (fun _ => rfl) (by omega) h
  by_cases hno : x < 0 ∨ (n : Int) ≤ x ∨ ∃ u, m[x.toNat]? = some u ∧ (u.r = 0 ∨ widOf r ≠ 0)
  · exact mark1_no base n c bx br A m x r w h hn hbase hx hr l1 l2 hno
  · obtain ⟨u, hu⟩ : ∃ u, m[x.toNat]? = some u := ⟨_, List.getElem?_eq_getElem (by omega)⟩
    refine mark1_yes base n c bx br A m x r w h hn hbase hx hr l1 l2 hh u x.toNat (by omega) (by omega) hu ?_ ?_ (hq u (List.mem_of_getElem? hu))
    · intro h0; exact hno (.inr (.inr ⟨u, hu, .inl h0⟩))
    · by_cases h0 : widOf r = 0
      · exact h0
      · exact absurd (.inr (.inr ⟨u, hu, .inr h0⟩)) hno
set_option maxHeartbeats 2000000 in
theorem markc_any (l : List Cell) (n c B : Nat) (A : Option Addr) (x r : Int) (w : World) (hl : Rd w B 8 A n (l.flatMap cellE)) (hB : B ≤ w.heap.size) (hn : n ≤ 100000) (hq : ∀ c ∈ l, MoreQ c) :
    Calls Try.prog 37 #[.slice A n c, .int .i64 x, .int .i32 r] w (RetRow (mendF (markIn x r (mendF l))) n w) := by
  have HL := hide hl
  have HQ := hide (mendF_more hq)
  clear hl hq
  go_enter Try.func37, Try.ntmps37
  go_upto_region 1 with (fail)
  go_name_world W hW
  have k0 : Blk W w.heap.size 3 #[.int .i64 x] := by rw [← hW]; exact (Blk.new w _ _).alloc _
  have k1 : Blk W (w.heap.size + 1) 21 #[.int .i32 r] := by rw [← hW]; exact Blk.new' (by rw [World.size_alloc]) _ _
  have bW : Below w.heap.size w W := by rw [← hW]; exact ((Below.refl _ _).alloc (Nat.le_refl _) _).alloc (by rw [World.size_alloc]; omega) _
  clear hW
  have W1 := hide (with_any l (markIn x r) n c B A 55 #[.pointer (some ⟨w.heap.size, 0, none⟩), .pointer (some ⟨w.heap.size + 1, 0, none⟩)] W (HL.out.below (bW.mono hB)) (Nat.le_trans hB bW.size) hn (fun _ _ => rfl) (fun A c W' b h =>
    mark1_any W.heap.size n c w.heap.size (w.heap.size + 1) A (mendF l) x r W' h hn b.size ((k0.below b k0.lt).cell 0) ((k1.below b k1.lt).cell 0) k0.lt k1.lt (mendF_half l) HQ.out))
  have BW := hide bW
  clear k0 k1 bW
  go_wp2_with (go_at_call 44; go_must (refine (W1.out).mono ?_; rintro e w1 ⟨A1, c1, rfl, o1, h1, b1⟩))
  go_ret
  exact ⟨A1, c1, rfl, own_le o1 BW.out.size, h1, below_in BW.out b1 (Nat.le_refl _)⟩
end Go.Proofs.Ytoaeadjihpbhgaa
