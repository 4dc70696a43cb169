/-
  Same, Blanks and Used, walked. No condition but bounds.
-/
import Derived.Test.YtoaeadjihpbhgaaBuilds
namespace Go.Proofs.Ytoaeadjihpbhgaa
open Go.RowKit Go.Proofs
set_option linter.unusedVariables false
theorem cell_neq8 (x y : Cell) (w : World) : (binOp .neq 40 (.agg #[.int .i32 x.r, .string x.more, .int .i64 x.half, .int .i64 x.a.fk, .int .i64 x.a.fn, .int .i64 x.a.bk, .int .i64 x.a.bn, .int .i64 x.a.fl]) (.agg #[.int .i32 y.r, .string y.more, .int .i64 y.half, .int .i64 y.a.fk, .int .i64 y.a.fn, .int .i64 y.a.bk, .int .i64 y.a.bn, .int .i64 y.a.fl])).run Try.prog w = .ok (.bool (!sameC x y)) w := cell_neq x y w
/-- Are two rows the same? -/
def sameR : List Cell → List Cell → Bool
  | [], [] => true
  | c :: l, d :: m => sameC c d && sameR l m
  | _, _ => false
theorem sameR_iff : ∀ {l m : List Cell}, sameR l m = true ↔ l = m
  | [], [] => by simp [sameR]
  | [], d :: m => by simp [sameR]
  | c :: l, [] => by simp [sameR]
  | c :: l, d :: m => by rw [sameR, Bool.and_eq_true, sameC_iff, sameR_iff, List.cons.injEq]
theorem sameR_self (l : List Cell) : sameR l l = true := sameR_iff.2 rfl
theorem sameR_false {l m : List Cell} (h : l ≠ m) : sameR l m = false := by rw [← Bool.not_eq_true, sameR_iff]; exact h
set_option maxRecDepth 100000 in
set_option maxHeartbeats 2000000 in
theorem same_any (l m : List Cell) (n n' c c' B : Nat) (A A' : Option Addr) (w : World) (hl : Rd w B 8 A n (l.flatMap cellE)) (hm : Rd w B 8 A' n' (m.flatMap cellE)) (hB : B ≤ w.heap.size) (hn : n ≤ 100000) (hn' : n' ≤ 100000) :
    Calls Try.prog 11 #[.slice A n c, .slice A' n' c'] w fun e w' => e = .returned (.bool (sameR l m)) ∧ Below w.heap.size w w' := by
  have hll := hl.len (E := cellE) (fun _ => rfl) (by omega)
  have hml := hm.len (E := cellE) (fun _ => rfl) (by omega)
  have HL := hide hl
  have HM := hide hm
  by_cases hne : n = n'
  · subst hne
    have HLL := hide (And.intro hll hml)
    have d0 : (n == n) = true := by simp
    have d0' : (n != n) = false := by simp
    have NE := fun x y W => cell_neq8 x y W
    clear hl hm hll hml
    go_enter Try.func11, Try.ntmps11
    go_wp2
    go_loopg [5] n (fun gg s wr => ∃ (k : Nat), k ≤ n ∧ n - k ≤ gg ∧ s = .int .i64 k ∧ Hid (l.take k = m.take k) ∧ Hid (Below w.heap.size w wr))
    case atStart => exact ⟨0, by omega, by omega, rfl, show l.take 0 = m.take 0 by simp, Below.refl _ _⟩
    case round =>
      obtain ⟨k, hkn, hgk, rfl, HT, HB⟩ := hrel
      by_cases hlt : k < n
      · have d1 : decide (k < n) = true := by simpa using hlt
        obtain ⟨b, off, x, rfl, hb, hx, x0, x1, x2, x3, x4, x5, x6, x7⟩ := (HL.out.below (HB.out.mono hB)).eight hlt
        obtain ⟨b', off', y, rfl, hb', hy, y0, y1, y2, y3, y4, y5, y6, y7⟩ := (HM.out.below (HB.out.mono hB)).eight hlt
        have HX := hide hx
        have HY := hide hy
        have i1 : (0 : Int) ≤ k := by omega
        have i2 : (k : Int) ≤ n := by omega
        clear hx hy
        cases hs : sameC x y with
        | true =>
          have ne := NE x y
          rw [hs] at ne
          simp only [Bool.not_true] at ne
          have HE := hide (sameC_iff.1 hs)
          clear hs NE
          go_upto_region 6 with (fail)
          go_quiet (fail)
          go_wp2
          go_roundg (n - (k + 1))
          case measure => omega
          case rel => exact ⟨k + 1, by omega, by omega, by go_num, take_succ_same HT.out HX.out (by rw [HE.out]; exact HY.out), below_drewN' HB.out _⟩
        | false =>
          have ne := NE x y
          rw [hs] at ne
          simp only [Bool.not_false] at ne
          have HR := hide (show sameR l m = false from sameR_false (by
            rintro rfl
            have h1 := HX.out
            rw [HY.out] at h1
            injection h1 with h1
            rw [h1] at hs
            rw [sameC_iff.2 rfl] at hs
            cases hs))
          clear hs NE
          go_upto_region 6 with (fail)
          go_quiet (fail)
          go_wp2
          go_ret
          rw [HR.out]
          exact ⟨rfl, below_drewN' HB.out _⟩
      · obtain rfl : k = n := by omega
        have d1 : decide (k < k) = false := by simp
        have HR := hide (show sameR l m = true by
          have h := HT.out
          rw [List.take_of_length_le (by rw [HLL.out.1]; exact Nat.le_refl _), List.take_of_length_le (by rw [HLL.out.2]; exact Nat.le_refl _)] at h
          exact sameR_iff.2 h)
        go_wp2
        go_ret
        rw [HR.out]
        exact ⟨rfl, HB.out⟩
  · have HR := hide (show sameR l m = false from sameR_false (by rintro rfl; omega))
    have d0 : (n == n') = false := by simpa using hne
    have d0' : (n != n') = true := by simpa using hne
    clear hl hm hll hml hne
    go_enter Try.func11, Try.ntmps11
    go_wp2
    go_ret
    rw [HR.out]
    exact ⟨rfl, Below.refl _ _⟩
end Go.Proofs.Ytoaeadjihpbhgaa
