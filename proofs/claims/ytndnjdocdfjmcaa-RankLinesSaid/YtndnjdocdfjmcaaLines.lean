/-
  Lines, walked. No condition but bounds.
-/
import Derived.Test.YtndnjdocdfjmcaaAwake
namespace Go.Proofs.Ytndnjdocdfjmcaa
open Go.RowKit Go.Proofs
set_option linter.unusedVariables false
/-- A block: what stands ahead of its line, and its line. -/
structure BRow where
  a0 : Int
  a1 : Int
  a2 : Int
  a3 : Int
  a4 : Int
  a5 : Int
  a6 : Int
  a7 : Int
  a8 : Int
  a9 : Int
  a10 : Int
  a11 : Int
  a12 : Int
  a13 : Bool
  a14 : Bool
  a15 : ByteArray
  line : ByteArray
deriving Inhabited
def brE (b : BRow) : List Value := [.int .u64 b.a0, .int .i64 b.a1, .int .i64 b.a2, .int .i64 b.a3, .int .i64 b.a4, .int .i64 b.a5, .int .i64 b.a6, .int .i64 b.a7, .int .i64 b.a8, .int .i64 b.a9, .int .i64 b.a10, .int .i64 b.a11, .int .i64 b.a12, .bool b.a13, .bool b.a14, .string b.a15, .string b.line]
theorem brE_len (b : BRow) : (brE b).length = 17 := rfl
theorem br_at {w : World} {B n : Nat} {A : Option Addr} {l : List BRow} (h : Rd w B 17 A n (l.flatMap brE)) {k : Nat} (hk : k < n) :
    ∃ b off x, A = some ⟨b, off, none⟩ ∧ b < B ∧ l[k]? = some x ∧ w.cell? ⟨b, off + k * 17, none⟩ = some (.int .u64 x.a0) ∧ w.cell? ⟨b, off + k * 17 + 1, none⟩ = some (.int .i64 x.a1) ∧ w.cell? ⟨b, off + k * 17 + 2, none⟩ = some (.int .i64 x.a2) ∧ w.cell? ⟨b, off + k * 17 + 3, none⟩ = some (.int .i64 x.a3) ∧ w.cell? ⟨b, off + k * 17 + 4, none⟩ = some (.int .i64 x.a4) ∧ w.cell? ⟨b, off + k * 17 + 5, none⟩ = some (.int .i64 x.a5) ∧ w.cell? ⟨b, off + k * 17 + 6, none⟩ = some (.int .i64 x.a6) ∧ w.cell? ⟨b, off + k * 17 + 7, none⟩ = some (.int .i64 x.a7) ∧ w.cell? ⟨b, off + k * 17 + 8, none⟩ = some (.int .i64 x.a8) ∧ w.cell? ⟨b, off + k * 17 + 9, none⟩ = some (.int .i64 x.a9) ∧ w.cell? ⟨b, off + k * 17 + 10, none⟩ = some (.int .i64 x.a10) ∧ w.cell? ⟨b, off + k * 17 + 11, none⟩ = some (.int .i64 x.a11) ∧ w.cell? ⟨b, off + k * 17 + 12, none⟩ = some (.int .i64 x.a12) ∧ w.cell? ⟨b, off + k * 17 + 13, none⟩ = some (.bool x.a13) ∧ w.cell? ⟨b, off + k * 17 + 14, none⟩ = some (.bool x.a14) ∧ w.cell? ⟨b, off + k * 17 + 15, none⟩ = some (.string x.a15) ∧ w.cell? ⟨b, off + k * 17 + 16, none⟩ = some (.string x.line) := by
  obtain ⟨b, off, x, e, hb, hx, hc⟩ := h.row brE_len (by omega) hk
  exact ⟨b, off, x, e, hb, hx, hc 0 _ rfl, hc 1 _ rfl, hc 2 _ rfl, hc 3 _ rfl, hc 4 _ rfl, hc 5 _ rfl, hc 6 _ rfl, hc 7 _ rfl, hc 8 _ rfl, hc 9 _ rfl, hc 10 _ rfl, hc 11 _ rfl, hc 12 _ rfl, hc 13 _ rfl, hc 14 _ rfl, hc 15 _ rfl, hc 16 _ rfl⟩
/-- The lines that are not empty. -/
def linesF (L : List BRow) : List ByteArray := (L.map (·.line)).filter (fun s => !decide (s = ⟨#[]⟩))
theorem lines_snoc {L : List BRow} {i : Nat} {x : BRow} (h : L[i]? = some x) : linesF (L.take (i + 1)) = linesF (L.take i) ++ (if x.line = ⟨#[]⟩ then [] else [x.line]) := by
  unfold linesF
  rw [take_snoc h, List.map_append, List.filter_append]
  congr 1
  by_cases hx : x.line = ⟨#[]⟩
  · rw [if_pos hx, List.map_cons, List.filter_cons_of_neg (by simpa using hx)]; rfl
  · rw [if_neg hx, List.map_cons, List.filter_cons_of_pos (by simpa using hx)]; rfl
theorem lines_at {L : List BRow} {i : Nat} {x : BRow} (h : L[i]? = some x) (hx : x.line ≠ ⟨#[]⟩) : (linesF L)[(linesF (L.take i)).length]? = some x.line := by
  have h1 := lines_snoc h
  rw [if_neg hx] at h1
  have h2 : linesF L = linesF (L.take (i + 1)) ++ linesF (L.drop (i + 1)) := by
    unfold linesF
    rw [← List.filter_append, ← List.map_append, List.take_append_drop]
  rw [h2, h1, List.append_assoc, List.getElem?_append_right (Nat.le_refl _), Nat.sub_self]
  rfl
theorem lines_len (L : List BRow) : (linesF L).length ≤ L.length := by
  unfold linesF
  have := List.length_filter_le (fun s : ByteArray => !decide (s = ⟨#[]⟩)) (L.map (·.line))
  rwa [List.length_map] at this
theorem Try.sl22 : SliceOf Try.prog 22 9 1 16 := SliceOf.mk (z := .string ⟨#[]⟩) (by kernel_rfl) (by kernel_rfl) (by kernel_rfl) (by omega)
theorem one_str (s : ByteArray) : ∀ u ∈ #[Value.string s].toList, u.oneCell' = true := by intro u hu; simp at hu; subst hu; rfl
theorem ne_empty {s : ByteArray} (h : s ≠ ⟨#[]⟩) : s.toList.isEmpty = false := by
  cases hl : s.toList with
  | nil => rw [ByteArray.toList_eq] at hl; exact absurd (data_inj (b := ⟨#[]⟩) (by rw [hl])) h
  | cons _ _ => rfl
set_option maxRecDepth 100000 in
set_option maxHeartbeats 4000000 in
theorem lines_any (L : List BRow) (A : Option Addr) (n c : Nat) (w : World) (hr : Rd w w.heap.size 17 A n (L.flatMap brE)) (hn : n ≤ 100) :
    Calls Try.prog 16 #[.slice A n c] w (RetSlice 9 1 ((linesF L).map Value.string) w) := by
  have hln := hr.len brE_len (by omega)
  have HR := hide hr
  have HL := hide hln
  clear hr hln
  go_enter Try.func16, Try.ntmps16
  go_wp2_with fail
  go_loopg [3, 5, 8] n (fun g s3 s5 s8 wr => ∃ (i k : Nat) (A2 : Option Addr) (c2 : Nat), i + g = n ∧ s8 = .int .i64 i ∧ s3 = .slice A2 k c2 ∧ k ≤ i ∧ Hid (wr.ownsRow w.heap.size 9 1 (.slice A2 k c2) k ((linesF (L.take i)).map Value.string)) ∧ Hid (Below w.heap.size w wr))
  case atStart => exact ⟨0, 0, none, 0, by omega, rfl, rfl, Nat.le_refl _, ⟨rfl, .inl ⟨rfl, rfl⟩⟩, Below.refl _ _⟩
  case round =>
    obtain ⟨i, k, A2, c2, hig, rfl, rfl, hk, HO, HB⟩ := hrel
    by_cases hlt : i < n
    · obtain ⟨b, off, x, rfl, hbB, hx, q0, q1, q2, q3, q4, q5, q6, q7, q8, q9, q10, q11, q12, q13, q14, q15, q16⟩ := br_at (HR.out.below HB.out) hlt
      have HD := lines_snoc hx
      have hzr := HB.out.size
      clear hx
      go_upto_region 5 with (fail)
      go_name_world W hW
      have D := hide (show Below wr.heap.size wr W by rw [← hW]; exact (Below.refl _ _).alloc (Nat.le_refl _) _)
      have V := hide (show Blk W wr.heap.size 44 #[.int .u64 x.a0, .int .i64 x.a1, .int .i64 x.a2, .int .i64 x.a3, .int .i64 x.a4, .int .i64 x.a5, .int .i64 x.a6, .int .i64 x.a7, .int .i64 x.a8, .int .i64 x.a9, .int .i64 x.a10, .int .i64 x.a11, .int .i64 x.a12, .bool x.a13, .bool x.a14, .string x.a15, .string x.line] by rw [← hW]; exact Blk.new _ _ _)
      have BW := hide (below_in HB.out D.out (Nat.le_refl _))
      have OW := hide (own_call HO.out D.out)
      have zW := BW.out.size
      have v16 := V.out.cell 16
      simp only [List.getElem?_toArray, List.getElem?_cons_succ, List.getElem?_cons_zero] at v16
      clear hW q0 q1 q2 q3 q4 q5 q6 q7 q8 q9 q10 q11 q12 q13 q14 q15 q16
      by_cases hx0 : x.line = ⟨#[]⟩
      · have st := str_eq hx0
        have st2 : x.line.toList.isEmpty = true := by rw [hx0, ByteArray.toList_eq]; rfl
        rw [if_pos hx0, List.append_nil] at HD
        have HD := hide HD
        clear hx0
        go_wp2_with fail
        go_roundg (n - (i + 1))
        case measure => omega
        case rel => exact ⟨i + 1, k, A2, c2, by omega, by go_num, rfl, by omega, by rw [HD.out]; exact OW.out, BW.out⟩
      · have st := str_ne hx0
        have st2 := ne_empty hx0
        rw [if_neg hx0] at HD
        have HD := hide HD
        clear hx0
        go_wp2_with (at_builtin; go_must (refine wpList_append1 Try.sl22 rfl _ _ rfl w.heap.size (.slice A2 k c2) k _ #[.string x.line] W 1 rfl rfl rfl OW.out rfl (one_str _) (by simp only [maxLen]; omega) (by omega) zW ?_; intro A3 c3 w3 app; have O3 := hide app.own; have B3 := hide (app.below (OW.out.alloc _) (BW.out.alloc zW _) (Nat.le_refl _) (by simp; omega)); clear app))
        go_roundg (n - (i + 1))
        case measure => omega
        case rel => exact ⟨i + 1, k + 1, A3, c3, by omega, by go_num, rfl, by omega, by rw [HD.out, List.map_append]; exact O3.out, B3.out⟩
    · obtain rfl : i = n := by omega
      have HT := hide (show L.take i = L from List.take_of_length_le (by rw [HL.out]; exact Nat.le_refl _))
      go_wp2_with fail
      go_ret
      rw [HT.out] at HO
      exact ⟨A2, k, c2, rfl, HO.out, HB.out⟩
end Go.Proofs.Ytndnjdocdfjmcaa
