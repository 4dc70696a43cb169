/-
  A cell, and a row of cells in memory. No condition.
-/
import Derived.Test.YtoaeadjihpbhgaaMore
import Derived.Test.YtoaeadjihpbhgaaProg
import Derived.BigQuiet
namespace Go.Proofs.Ytoaeadjihpbhgaa
open Go.RowKit Go.Proofs
set_option linter.unusedVariables false
structure At8 where
  fk : Int
  fn : Int
  bk : Int
  bn : Int
  fl : Int
deriving Inhabited
structure Cell where
  r : Int
  more : ByteArray
  half : Int
  a : At8
deriving Inhabited
def atE (a : At8) : List Value := [.int .i64 a.fk, .int .i64 a.fn, .int .i64 a.bk, .int .i64 a.bn, .int .i64 a.fl]
def cellE (c : Cell) : List Value := [.int .i32 c.r, .string c.more, .int .i64 c.half, .int .i64 c.a.fk, .int .i64 c.a.fn, .int .i64 c.a.bk, .int .i64 c.a.bn, .int .i64 c.a.fl]
theorem cellE_len (c : Cell) : (cellE c).length = 8 := rfl
theorem one_cellE (c : Cell) : ∀ u ∈ cellE c, u.oneCell' = true := by
  intro u hu
  simp [cellE] at hu
  rcases hu with rfl | rfl | rfl | rfl | rfl | rfl | rfl | rfl <;> rfl
theorem one_cells (l : List Cell) : ∀ u ∈ l.flatMap cellE, u.oneCell' = true := by
  intro u hu
  obtain ⟨c, _, h⟩ := List.mem_flatMap.1 hu
  exact one_cellE c u h
/-- Are two cells the same? -/
def sameA (a b : At8) : Bool := decide (a.fk = b.fk ∧ a.fn = b.fn ∧ a.bk = b.bk ∧ a.bn = b.bn ∧ a.fl = b.fl)
def sameC (c d : Cell) : Bool := decide (c.r = d.r ∧ c.more.toList = d.more.toList ∧ c.half = d.half) && sameA c.a d.a
theorem bytes_eq {s t : ByteArray} (h : s.toList = t.toList) : s = t := by
  rw [ByteArray.toList_eq, ByteArray.toList_eq] at h
  have : s.data = t.data := by rw [← Array.toList_inj]; exact h
  exact congrArg ByteArray.mk this
theorem sameA_iff {a b : At8} : sameA a b = true ↔ a = b := by
  unfold sameA
  rw [decide_eq_true_iff]
  constructor
  · rintro ⟨h1, h2, h3, h4, h5⟩
    cases a; cases b; simp_all
  · rintro rfl; simp
theorem sameC_iff {c d : Cell} : sameC c d = true ↔ c = d := by
  unfold sameC
  rw [Bool.and_eq_true, decide_eq_true_iff, sameA_iff]
  constructor
  · rintro ⟨⟨h1, h2, h3⟩, h4⟩
    have := bytes_eq h2
    cases c; cases d; simp_all
  · rintro rfl; simp
theorem cell_eq (c d : Cell) (w : World) : (binOp .eql 40 (.agg (cellE c).toArray) (.agg (cellE d).toArray)).run Try.prog w = .ok (.bool (sameC c d)) w := by
  unfold cellE
  simp [go_sem]
  unfold sameC sameA
  by_cases h1 : c.r = d.r <;> by_cases h2 : c.more.toList = d.more.toList <;> by_cases h3 : c.half = d.half <;> by_cases h4 : c.a.fk = d.a.fk <;> by_cases h5 : c.a.fn = d.a.fn <;> by_cases h6 : c.a.bk = d.a.bk <;> by_cases h7 : c.a.bn = d.a.bn <;> by_cases h8 : c.a.fl = d.a.fl <;> simp [h1, h2, h3, h4, h5, h6, h7, h8]
theorem cell_neq (c d : Cell) (w : World) : (binOp .neq 40 (.agg (cellE c).toArray) (.agg (cellE d).toArray)).run Try.prog w = .ok (.bool (!sameC c d)) w := by
  unfold cellE
  simp [go_sem]
  unfold sameC sameA
  by_cases h1 : c.r = d.r <;> by_cases h2 : c.more.toList = d.more.toList <;> by_cases h3 : c.half = d.half <;> by_cases h4 : c.a.fk = d.a.fk <;> by_cases h5 : c.a.fn = d.a.fn <;> by_cases h6 : c.a.bk = d.a.bk <;> by_cases h7 : c.a.bn = d.a.bn <;> by_cases h8 : c.a.fl = d.a.fl <;> simp [h1, h2, h3, h4, h5, h6, h7, h8]
theorem at_eq (c d : At8) (w : World) : (binOp .eql 32 (.agg (atE c).toArray) (.agg (atE d).toArray)).run Try.prog w = .ok (.bool (sameA c d)) w := by
  unfold atE
  simp [go_sem]
  unfold sameA
  by_cases h4 : c.fk = d.fk <;> by_cases h5 : c.fn = d.fn <;> by_cases h6 : c.bk = d.bk <;> by_cases h7 : c.bn = d.bn <;> by_cases h8 : c.fl = d.fl <;> simp [h4, h5, h6, h7, h8]
theorem Try.sl26 : SliceOf Try.prog 26 40 8 72 := SliceOf.mk (z := .agg #[.int .i32 0, .string ByteArray.empty, .int .i64 0, .int .i64 0, .int .i64 0, .int .i64 0, .int .i64 0, .int .i64 0]) (by kernel_rfl) (by kernel_rfl) (by kernel_rfl) (by omega)
/-! ### a row in a block of the call's own -/
/-- The eight cells of a cell at an address. -/
def Eight (w : World) (g o : Nat) (c : Cell) : Prop :=
  w.cell? ⟨g, o, none⟩ = some (.int .i32 c.r) ∧ w.cell? ⟨g, o + 1, none⟩ = some (.string c.more) ∧ w.cell? ⟨g, o + 2, none⟩ = some (.int .i64 c.half) ∧ w.cell? ⟨g, o + 3, none⟩ = some (.int .i64 c.a.fk) ∧
  w.cell? ⟨g, o + 4, none⟩ = some (.int .i64 c.a.fn) ∧ w.cell? ⟨g, o + 5, none⟩ = some (.int .i64 c.a.bk) ∧ w.cell? ⟨g, o + 6, none⟩ = some (.int .i64 c.a.bn) ∧ w.cell? ⟨g, o + 7, none⟩ = some (.int .i64 c.a.fl)
theorem Rd.eight {w : World} {B n : Nat} {A : Option Addr} {l : List Cell} (h : Rd w B 8 A n (l.flatMap cellE)) {k : Nat} (hk : k < n) :
    ∃ b off c, A = some ⟨b, off, none⟩ ∧ b < B ∧ l[k]? = some c ∧ Eight w b (off + k * 8) c := by
  obtain ⟨b, off, c, e, hb, hx, hc⟩ := Rd.row (E := cellE) (fun _ => rfl) (by omega) h hk
  refine ⟨b, off, c, e, hb, hx, ?_⟩
  have hh : ∀ i u, (cellE c)[i]? = some u → w.cell? ⟨b, off + k * 8 + i, none⟩ = some u := fun i u hu => by have := hc i u hu; rwa [← Nat.add_assoc] at this
  exact ⟨hh 0 _ rfl, hh 1 _ rfl, hh 2 _ rfl, hh 3 _ rfl, hh 4 _ rfl, hh 5 _ rfl, hh 6 _ rfl, hh 7 _ rfl⟩
/-- Block g: cells of rows l, between what else is there. -/
structure RowAt (w : World) (g : Nat) (P : List Value) (l : List Cell) (T : List Value) : Prop where
  blk : Blk w g 40 (P ++ (l.flatMap cellE ++ T)).toArray
section
variable {w w' : World} {g : Nat} {P T : List Value} {l : List Cell}
theorem RowAt.eight (h : RowAt w g P l T) {k : Nat} {c : Cell} (hk : l[k]? = some c) : Eight w g (P.length + k * 8) c := by
  have hh : ∀ i u, (cellE c)[i]? = some u → w.cell? ⟨g, P.length + k * 8 + i, none⟩ = some u := by
    intro i u hu
    have hi : i < 8 := (List.getElem?_eq_some_iff.1 hu).1
    rw [h.blk.cell, List.getElem?_toArray, List.getElem?_append_right (by omega), show P.length + k * 8 + i - P.length = k * 8 + i by omega]
    have hf := flat_at (E := cellE) (s := 8) (fun _ => rfl) l k c i hk hi
    have hlt : k * 8 + i < (l.flatMap cellE).length := by
      rw [hu] at hf
      exact (List.getElem?_eq_some_iff.1 hf).1
    rw [List.getElem?_append_left hlt, hf, hu]
  exact ⟨hh 0 _ rfl, hh 1 _ rfl, hh 2 _ rfl, hh 3 _ rfl, hh 4 _ rfl, hh 5 _ rfl, hh 6 _ rfl, hh 7 _ rfl⟩
theorem RowAt.frozen (h : RowAt w g P l T) (i : Nat) : w.frozen? ⟨g, i, none⟩ = false := h.blk.frozen i
/-- One field of a cell is set. -/
theorem RowAt.set1 (h : RowAt w g P l T) {k i : Nat} {c d : Cell} (hk : l[k]? = some c) (hi : i < 8) {u : Value} (hd : cellE d = (cellE c).set i u) :
    RowAt (w.setCell ⟨g, P.length + k * 8 + i, none⟩ u) g P (l.set k d) T := by
  have hb := h.blk.set_ (P.length + k * 8 + i) u
  have e : (P ++ (l.flatMap cellE ++ T)).toArray.setIfInBounds (P.length + k * 8 + i) u = (P ++ ((l.set k d).flatMap cellE ++ T)).toArray := by
    rw [List.setIfInBounds_toArray]
    congr 1
    rw [List.set_append_right _ _ (by omega), show P.length + k * 8 + i - P.length = k * 8 + i by omega]
    congr 1
    have key : ∀ (l : List Cell) (k : Nat), l[k]? = some c → (l.flatMap cellE ++ T).set (k * 8 + i) u = (l.set k d).flatMap cellE ++ T := by
      intro l
      induction l with
      | nil => intro k hk; simp at hk
      | cons x l ih =>
        intro k hk
        cases k with
        | zero =>
          simp at hk
          subst hk
          rw [List.flatMap_cons, List.set_cons_zero, List.flatMap_cons, hd, List.append_assoc, List.append_assoc, Nat.zero_mul, Nat.zero_add, List.set_append_left _ _ (by rw [cellE_len]; exact hi)]
        | succ k =>
          simp at hk
          rw [List.flatMap_cons, List.set_cons_succ, List.flatMap_cons, List.append_assoc, List.append_assoc, ← ih k hk]
          rw [List.set_append_right _ _ (by rw [cellE_len]; omega), cellE_len, show (k + 1) * 8 + i - 8 = k * 8 + i by omega]
    exact key l k hk
  rw [e] at hb
  exact ⟨hb⟩
/-- A whole cell is set. -/
theorem RowAt.set8 (h : RowAt w g P l T) {k : Nat} {c : Cell} (hk : l[k]? = some c) (d : Cell) {o : Nat} (ho : o = P.length + k * 8) :
    RowAt ((((((((w.setCell ⟨g, o, none⟩ (.int .i32 d.r)).setCell ⟨g, o + 1, none⟩ (.string d.more)).setCell ⟨g, o + 2, none⟩ (.int .i64 d.half)).setCell ⟨g, o + 3, none⟩ (.int .i64 d.a.fk)).setCell ⟨g, o + 4, none⟩ (.int .i64 d.a.fn)).setCell ⟨g, o + 5, none⟩ (.int .i64 d.a.bk)).setCell ⟨g, o + 6, none⟩ (.int .i64 d.a.bn)).setCell ⟨g, o + 7, none⟩ (.int .i64 d.a.fl)) g P (l.set k d) T := by
  subst ho
  have hlt := (List.getElem?_eq_some_iff.1 hk).1
  have at_ : ∀ (x : Cell), (l.set k x)[k]? = some x := fun x => by rw [List.getElem?_set_self hlt]
  have s0 := h.set1 (i := 0) (d := { c with r := d.r }) hk (by omega) (u := .int .i32 d.r) rfl
  have s1 := s0.set1 (i := 1) (d := { c with r := d.r, more := d.more }) (at_ _) (by omega) (u := .string d.more) rfl
  rw [List.set_set] at s1
  have s2 := s1.set1 (i := 2) (d := { c with r := d.r, more := d.more, half := d.half }) (at_ _) (by omega) (u := .int .i64 d.half) rfl
  rw [List.set_set] at s2
  have s3 := s2.set1 (i := 3) (d := ⟨d.r, d.more, d.half, { c.a with fk := d.a.fk }⟩) (at_ _) (by omega) (u := .int .i64 d.a.fk) rfl
  rw [List.set_set] at s3
  have s4 := s3.set1 (i := 4) (d := ⟨d.r, d.more, d.half, { c.a with fk := d.a.fk, fn := d.a.fn }⟩) (at_ _) (by omega) (u := .int .i64 d.a.fn) rfl
  rw [List.set_set] at s4
  have s5 := s4.set1 (i := 5) (d := ⟨d.r, d.more, d.half, { c.a with fk := d.a.fk, fn := d.a.fn, bk := d.a.bk }⟩) (at_ _) (by omega) (u := .int .i64 d.a.bk) rfl
  rw [List.set_set] at s5
  have s6 := s5.set1 (i := 6) (d := ⟨d.r, d.more, d.half, { c.a with fk := d.a.fk, fn := d.a.fn, bk := d.a.bk, bn := d.a.bn }⟩) (at_ _) (by omega) (u := .int .i64 d.a.bn) rfl
  rw [List.set_set] at s6
  have s7 := s6.set1 (i := 7) (d := d) (at_ _) (by omega) (u := .int .i64 d.a.fl) rfl
  rw [List.set_set] at s7
  exact s7
theorem RowAt.below {B : Nat} (h : RowAt w g P l T) (hb : Below B w w') (hg : g < B) : RowAt w' g P l T := ⟨h.blk.below hb hg⟩
theorem RowAt.frm {S : Nat → Prop} (h : RowAt w g P l T) (hf : Frm S w w') (hg : ¬ S g) : RowAt w' g P l T := ⟨h.blk.frm hf hg⟩
/-- A part of it. -/
theorem RowAt.part (h : RowAt w g P l T) (a b : Nat) : RowAt w g (P ++ (l.take a).flatMap cellE) ((l.drop a).take b) (((l.drop a).drop b).flatMap cellE ++ T) := by
  refine ⟨?_⟩
  have e : P ++ (l.flatMap cellE ++ T) = P ++ (l.take a).flatMap cellE ++ (((l.drop a).take b).flatMap cellE ++ (((l.drop a).drop b).flatMap cellE ++ T)) := by
    rw [List.append_assoc]
    congr 1
    rw [← List.append_assoc (((l.drop a).take b).flatMap cellE), ← List.flatMap_append, List.take_append_drop, ← List.append_assoc, ← List.flatMap_append, List.take_append_drop]
  rw [← e]
  exact h.blk
end
/-- A row of the call's own: none, or a block of its own. -/
theorem own_row {w : World} {base n c : Nat} {A : Option Addr} {l : List Cell} (h : w.ownsRow base 40 8 (.slice A n c) n (l.flatMap cellE)) :
    (A = none ∧ n = 0 ∧ l = []) ∨ ∃ g T, A = some ⟨g, 0, none⟩ ∧ base ≤ g ∧ RowAt w g [] l T ∧ n ≤ c ∧ (l.flatMap cellE ++ T).length = c * 8 ∧ c ≤ maxLen := by
  rcases h.2 with ⟨e, h0⟩ | ⟨g, cap, cur, e, hb, hh, hn, hm, hs, ht⟩
  · injection e with e1 e2 e3
    subst e1 e2
    have hl := h.1
    rw [len_flat (E := cellE) (s := 8) (fun _ => rfl)] at hl
    exact .inl ⟨rfl, rfl, List.eq_nil_of_length_eq_zero (by omega)⟩
  · injection e with e1 e2 e3
    subst e1 e3
    refine .inr ⟨g, cur.toList.drop (n * 8), rfl, hb, ⟨?_⟩, hn, ?_, hm⟩
    · have : [] ++ (l.flatMap cellE ++ cur.toList.drop (n * 8)) = cur.toList := by rw [List.nil_append, ← ht, List.take_append_drop]
      rw [this]
      exact hh
    · rw [← ht, List.take_append_drop, Array.length_toList, hs]
theorem row_own {w : World} {base n c g : Nat} {l : List Cell} {T : List Value} (h : RowAt w g [] l T) (hb : base ≤ g) (hl : l.length = n) (hn : n ≤ c) (hs : (l.flatMap cellE ++ T).length = c * 8) (hm : c ≤ maxLen) :
    w.ownsRow base 40 8 (.slice (some ⟨g, 0, none⟩) n c) n (l.flatMap cellE) := by
  have hf : (l.flatMap cellE).length = n * 8 := by rw [len_flat (E := cellE) (s := 8) (fun _ => rfl), hl]
  refine ⟨hf, .inr ⟨g, c, _, rfl, hb, h.blk, hn, hm, ?_, ?_⟩⟩
  · rw [List.nil_append, List.size_toArray, hs]
  · rw [List.nil_append]
    show List.take (n * 8) (l.flatMap cellE ++ T) = _
    rw [← hf, List.take_left]
end Go.Proofs.Ytoaeadjihpbhgaa
