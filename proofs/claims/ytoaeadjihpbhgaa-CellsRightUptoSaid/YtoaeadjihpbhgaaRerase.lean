/-
  The document's Erase, walked. No condition but bounds.
-/
import Derived.Test.YtoaeadjihpbhgaaRput2
namespace Go.Proofs.Ytoaeadjihpbhgaa
open Go.RowKit Go.Proofs
set_option linter.unusedVariables false
/-- The first k cells of a row as a function makes them. -/
def mapK (f : Nat → Cell → Cell) (k : Nat) (m : List Cell) : List Cell := m.mapIdx (fun i c => if i < k then f i c else c)
theorem mapK_len (f : Nat → Cell → Cell) (k : Nat) (m : List Cell) : (mapK f k m).length = m.length := by unfold mapK; simp
theorem mapK_zero (f : Nat → Cell → Cell) (m : List Cell) : mapK f 0 m = m := by
  apply List.ext_getElem?
  intro i
  unfold mapK; rw [List.getElem?_mapIdx]; cases m[i]? <;> simp
theorem mapK_at (f : Nat → Cell → Cell) (k i : Nat) (m : List Cell) : (mapK f k m)[i]? = (m[i]?).map (fun c => if i < k then f i c else c) := by
  unfold mapK; rw [List.getElem?_mapIdx]
theorem mapK_step (f : Nat → Cell → Cell) {k : Nat} {m : List Cell} {u : Cell} (hu : m[k]? = some u) : mapK f (k + 1) m = (mapK f k m).set k (f k u) := by
  apply List.ext_getElem?
  intro i
  have hk := (List.getElem?_eq_some_iff.1 hu).1
  rw [List.getElem?_set, mapK_at, mapK_at, mapK_len]
  by_cases hi : k = i
  · subst hi
    rw [if_pos rfl, if_pos hk, hu]; simp
  · rw [if_neg hi]
    cases m[i]? with
    | none => rfl
    | some c =>
      by_cases h1 : i < k
      · simp [h1, show i < k + 1 by omega]
      · simp [h1, show ¬ i < k + 1 by omega]
theorem mapK_same (f : Nat → Cell → Cell) {k : Nat} {m : List Cell} {u : Cell} (hu : m[k]? = some u) (hf : f k u = u) : mapK f (k + 1) m = mapK f k m := by
  rw [mapK_step f hu, hf]
  apply List.ext_getElem?
  intro i
  rw [List.getElem?_set, mapK_at, mapK_len]
  have hk := (List.getElem?_eq_some_iff.1 hu).1
  by_cases hi : k = i
  · subst hi
    rw [if_pos rfl, if_pos hk, hu]; simp
  · rw [if_neg hi]
theorem mapK_cur (f : Nat → Cell → Cell) {k : Nat} {m : List Cell} {u : Cell} (hu : m[k]? = some u) : (mapK f k m)[k]? = some u := by
  rw [mapK_at, hu]; simp
def erF (x y bk bn : Int) (i : Nat) (c : Cell) : Cell := if x ≤ i ∧ i < y then blankC bk bn else c
theorem erase_map (x y bk bn : Int) (m : List Cell) : mapK (erF x y bk bn) m.length m = eraseIn x y bk bn m := by
  apply List.ext_getElem?
  intro i
  rw [mapK_at]
  unfold eraseIn
  by_cases hlt : max 0 x < min y m.length
  · rw [if_pos hlt]
    obtain ⟨p, hp⟩ : ∃ p : Nat, (p : Int) = max 0 x := ⟨(max 0 x).toNat, by omega⟩
    obtain ⟨q, hq⟩ : ∃ q : Nat, (q : Int) = min y m.length := ⟨(min y m.length).toNat, by omega⟩
    rw [← hp, ← hq, show (p : Int).toNat = p by omega, show (q : Int).toNat = q by omega]
    unfold wipeAB
    rcases Nat.lt_or_ge i m.length with hi | hi
    · rw [List.getElem?_eq_getElem hi]
      simp only [Option.map_some, hi, if_true]
      unfold erF
      rcases Nat.lt_or_ge i p with h1 | h1
      · rw [if_neg (by omega), List.getElem?_append_left (by simp; omega), List.getElem?_take_of_lt h1, List.getElem?_eq_getElem hi]
      · have hl : (m.take p).length = p := by simp; omega
        rw [List.getElem?_append_right (by omega), hl]
        rcases Nat.lt_or_ge i q with h2 | h2
        · rw [if_pos (by omega), List.getElem?_append_left (by simp; omega), List.getElem?_replicate, if_pos (by omega)]
        · rw [if_neg (by omega), List.getElem?_append_right (by simp; omega), List.length_replicate, List.getElem?_drop, show q + (i - p - (q - p)) = i by omega, List.getElem?_eq_getElem hi]
    · rw [List.getElem?_eq_none hi, Option.map_none, List.getElem?_eq_none (by simp; omega)]
  · rw [if_neg hlt]
    rcases Nat.lt_or_ge i m.length with hi | hi
    · rw [List.getElem?_eq_getElem hi]
      simp only [Option.map_some, hi, if_true]
      unfold erF
      rw [if_neg (by omega)]
    · rw [List.getElem?_eq_none hi]; rfl
set_option maxRecDepth 100000 in
set_option maxHeartbeats 4000000 in
theorem rerasec_any (l : List Cell) (n c B : Nat) (A : Option Addr) (x y bk bn : Int) (w : World) (hl : Rd w B 8 A n (l.flatMap cellE)) (hB : B ≤ w.heap.size) (hn : n ≤ 100000) :
    Calls Try.prog 28 #[.slice A n c, .int .i64 x, .int .i64 y, .agg #[.int .i64 bk, .int .i64 bn]] w (RetRow (mendF (eraseIn x y bk bn (mendF l))) n w) := by
  have M1 := hide (rmend_any l n c B A (w.alloc (.cells #[.int .i64 bk, .int .i64 bn] 23)) (hl.alloc hB _) (by simp; omega) hn)
  have RM := hide (fun (l : List Cell) (c : Nat) (A : Option Addr) (W : World) (h : W.ownsRow (w.heap.size + 1) 40 8 (.slice A n c) n (l.flatMap cellE)) => rmend_any l n c W.heap.size A W (Rd.of_own h) (Nat.le_refl _) hn)
  have hll := hl.len (E := cellE) (fun _ => rfl) (by omega)
  obtain ⟨m, hm0⟩ : ∃ m, mendF l = m := ⟨_, rfl⟩
  have HM := hide (show m.length = n by rw [← hm0, mendF_len]; exact hll)
  rw [hm0] at M1 ⊢
  have BL := hide (fun (W : World) => rblank_any bk bn W)
  have ST := hide (fun (A1 : Option Addr) (c1 : Nat) (w1 : World) (o1 : w1.ownsRow (w.alloc (.cells #[.int .i64 bk, .int .i64 bn] 23)).heap.size 40 8 (.slice A1 n c1) n (m.flatMap cellE)) (b1 : Below (w.alloc (.cells #[.int .i64 bk, .int .i64 bn] 23)).heap.size (w.alloc (.cells #[.int .i64 bk, .int .i64 bn] 23)) w1) =>
    And.intro (own_le o1 (show w.heap.size + 1 ≤ (w.alloc (.cells #[.int .i64 bk, .int .i64 bn] 23)).heap.size by simp)) (And.intro (((Below.refl w.heap.size w).alloc (Nat.le_refl _) (.cells #[.int .i64 bk, .int .i64 bn] 23)).trans (b1.mono (by simp)))
      (show Blk w1 w.heap.size 23 #[.int .i64 bk, .int .i64 bn] from (Blk.new w 23 #[.int .i64 bk, .int .i64 bn]).below b1 (by simp))))
  clear hl hll hm0
  go_enter Try.func28, Try.ntmps28
  go_upto_region 2 with (go_at_call 21; go_must (refine (M1.out).mono ?_; rintro e w1 ⟨A1, c1, rfl, o1, h1, b1⟩; have S1 := hide (ST.out A1 c1 w1 o1 b1); clear o1 b1))
  go_wp2
  go_loopg [10] n (fun gg s2 wr => ∃ (k : Nat), k ≤ n ∧ n - k ≤ gg ∧ s2 = .int .i64 k ∧ Hid (wr.ownsRow (w.heap.size + 1) 40 8 (.slice A1 n c1) n ((mapK (erF x y bk bn) k m).flatMap cellE)) ∧ Hid (Below w.heap.size w wr) ∧ Hid (Blk wr w.heap.size 23 #[.int .i64 bk, .int .i64 bn]))
  case atStart => exact ⟨0, by omega, by omega, rfl, by rw [mapK_zero]; exact S1.out.1, S1.out.2.1, S1.out.2.2⟩
  case round =>
    obtain ⟨k, hkn, hgk, rfl, HO, HB, HK⟩ := hrel
    by_cases hlt : k < n
    · have d1 : decide (k < n) = true := by simpa using hlt
      obtain ⟨u, hu⟩ : ∃ u, m[k]? = some u := ⟨_, List.getElem?_eq_getElem (by rw [HM.out]; omega)⟩
      by_cases hin : x ≤ k ∧ k < y
      · have d2 : decide (x ≤ (k : Int)) = true := decide_eq_true hin.1
        have d3 : decide ((k : Int) < y) = true := decide_eq_true hin.2
        rcases own_row HO.out with ⟨rfl, rfl, _⟩ | ⟨g, T, rfl, hb, hr, hnc, hs, hm⟩
        · omega
        · have HF := hide (show erF x y bk bn k u = blankC bk bn by unfold erF; rw [if_pos hin])
          have HR := hide hr
          have gz := hr.blk.lt
          have kz := HK.out.lt
          have hbg : w.heap.size ≠ g := by omega
          have HS := hide (And.intro hb (And.intro hnc (And.intro hs hm)))
          have HX := hide (mapK_cur (erF x y bk bn) hu)
          have HT := hide (mapK_step (erF x y bk bn) hu)
          have b0 := HK.out.cell 0
          have b1 := HK.out.cell 1
          simp at b0 b1
          clear hb hr hs hm hin hu
          go_wp2_with (go_at_call 25; go_must (refine (BL.out _).mono ?_; rintro e w1 ⟨rfl, c1'⟩; have r1 := HR.out.below c1' gz; have e8 := r1.eight HX.out; simp only [List.length_nil, Nat.zero_add] at e8; obtain ⟨z0, z1, z2, z3, z4, z5, z6, z7⟩ := e8; have f0 := fun i => r1.frozen i; have gl1 := r1.blk.lt; have R1 := hide r1; have B1 := hide (HK.out.below c1' kz); have C1 := hide c1'; clear c1' r1))
          go_roundg (n - (k + 1))
          case measure => omega
          case rel =>
            refine ⟨k + 1, by omega, by omega, by go_num, ?_, ?_, ?_⟩
            · rw [HT.out, HF.out]
              exact own_of_row HS.out.1 HS.out.2.1 HS.out.2.2.1 HS.out.2.2.2 (by rw [mapK_len]; exact HM.out) (by rw [List.length_set, mapK_len]; exact HM.out) (R1.out.set8 HX.out (blankC bk bn) (o := k * 8) (by simp))
            · exact (below_in HB.out C1.out (Nat.le_refl _)).trans ((eight_frm (Frm.refl (fun k => k = g) w1) _ _ _ _ _ _ _ _).to_below (Nat.le_trans HB.out.size C1.out.size) (fun i e => by have e : i = g := e; rw [e]; exact Nat.le_trans (Nat.le_succ _) HS.out.1))
            · exact B1.out.frm (eight_frm (Frm.refl (fun k => k = g) _) _ _ _ _ _ _ _ _) hbg
      · have HT := hide (mapK_same (erF x y bk bn) hu (by unfold erF; rw [if_neg hin]))
        have alt : (k : Int) < x ∨ (x ≤ k ∧ y ≤ k) := by omega
        clear hin hu
        rcases alt with h1 | ⟨h0, h1⟩
        · have d2 : decide (x ≤ (k : Int)) = false := decide_eq_false (by omega)
          go_wp2
          go_roundg (n - (k + 1))
          case measure => omega
          case rel => exact ⟨k + 1, by omega, by omega, by go_num, by rw [HT.out]; exact HO.out, HB.out, HK.out⟩
        · have d2 : decide (x ≤ (k : Int)) = true := decide_eq_true h0
          have d3 : decide ((k : Int) < y) = false := decide_eq_false (by omega)
          go_wp2
          go_roundg (n - (k + 1))
          case measure => omega
          case rel => exact ⟨k + 1, by omega, by omega, by go_num, by rw [HT.out]; exact HO.out, HB.out, HK.out⟩
    · obtain rfl : k = n := by omega
      have d1 : decide (k < k) = false := by simp
      have HE := hide (show mapK (erF x y bk bn) k m = eraseIn x y bk bn m by rw [← HM.out]; exact erase_map x y bk bn m)
      have M2 := hide (RM.out _ _ _ wr HO.out)
      go_wp2_with (go_at_call 21; go_must (refine (M2.out).mono ?_; rintro e w3 ⟨A3, c3, rfl, o3, h3, b3⟩))
      go_ret
      rw [← HE.out]
      exact ⟨A3, c3, rfl, own_le o3 HB.out.size, h3, below_in HB.out b3 (Nat.le_refl _)⟩
end Go.Proofs.Ytoaeadjihpbhgaa
