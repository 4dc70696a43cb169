/-
  The walks of fold.Clean and fold.Count. Conditions: as many folds as the laws let in.
-/
import Derived.Test.YtdmiaciembcebaaRef
namespace Go.Proofs.Ytdmiaciembcebaa
open Go.RowKit Go.Proofs

/-- The folds that can stay, behind an end. -/
def cleanF (rows : Int) : Int → List Fd → List Fd
  | _, [] => []
  | e, f :: l => if max 0 f.1 < min f.2.1 rows ∧ e ≤ max 0 f.1 then (max 0 f.1, min f.2.1 rows, f.2.2) :: cleanF rows (min f.2.1 rows) l else cleanF rows e l
/-- How many rows folds hide, less one for each. -/
def hidF : List Fd → Int
  | [] => 0
  | f :: l => f.2.1 - f.1 - 1 + hidF l

set_option maxHeartbeats 2000000 in
theorem clean_any (A : Option Addr) (n c : Nat) (rows : Int) (l : List Fd) (w : World) (ha : Rd w w.heap.size 3 A n (l.flatMap fdc)) (hn : n ≤ 1000) :
    Calls Try.prog 18 #[.int .i64 rows, .slice A n c] w (RetSlice 43 3 ((cleanF rows 0 l).flatMap fdc) w) := by
  have hl := hide (ha.len fdc_len (by omega))
  go_enter Try.func18, Try.ntmps18
  go_wp2_with fail
  go_loopw [5, 6, 11] (fun v q i wr => ∃ (k N : Nat) (e : Int) (done : List Fd), k ≤ n ∧ i = .int .i64 k ∧ q = .int .i64 e ∧ wr.ownsRow w.heap.size 43 3 v N (done.flatMap fdc) ∧ N ≤ k ∧ Below w.heap.size w wr ∧ Hid (cleanF rows 0 l = done ++ cleanF rows e (l.drop k))) (fun _ _ i _ => n - (intOf i).toNat)
  case atStart => exact ⟨0, 0, 0, [], by omega, rfl, rfl, World.ownsRow_nil _ _ _ _, by omega, Below.refl _ _, hide rfl⟩
  case round =>
    obtain ⟨k, N, e, done, hk, rfl, rfl, own, hN, hb, H⟩ := hrel
    have hbz := hb.size
    by_cases hlt : k < n
    · obtain ⟨b, off, x0, x1, x2, rfl, hbB, hx, c1, c2, c3⟩ := folds_at (ha.below hb) hlt
      have Hx := hide hx
      clear hx
      obtain ⟨y0, hy0⟩ : ∃ y, y = max 0 x0 := ⟨_, rfl⟩
      obtain ⟨y1, hy1⟩ : ∃ y, y = min x1 rows := ⟨_, rfl⟩
      have e1 := fun W => max2_ Try.prog #[3, 3] 3 (k := .i64) hy0 W
      have e2 := fun W => min2_ Try.prog #[3, 3] 3 (k := .i64) hy1 W
      have HY := hide (And.intro hy0 hy1)
      clear hy0 hy1
      by_cases t : y0 < y1 ∧ e ≤ y0
      · obtain ⟨t1, t2⟩ := t
        have hs : cleanF rows e (l.drop k) = (y0, y1, x2) :: cleanF rows y1 (l.drop (k + 1)) := by
          rw [drop_at Hx.out]; simp only [cleanF, ← HY.out.1, ← HY.out.2, t1, t2]; simp
        have Hs := hide hs
        clear hs
        go_wp2_with (at_builtin; go_must (refine wpList_append1 Try.sl29 rfl _ _ rfl w.heap.size u5 N _ #[.int .i64 y0, .int .i64 y1, .int .u64 x2] (wr.alloc (.cells #[.int .i64 y0, .int .i64 y1, .int .u64 x2] 43)) 1 rfl rfl (by simp) (own.alloc _) rfl (oneCell_fd1 _ _ _) (by simp only [maxLen]; omega) (by omega) (by simp; omega) ?_; intro A1 m1 w3 app; have k1 := (((Blk.new wr 43 #[.int .i64 y0, .int .i64 y1, .int .u64 x2]).alloc _).grown app.grown (own_new own (Nat.le_refl _))).cell 1))
        go_roundw
        case rel =>
          refine ⟨k + 1, N + 1, y1, done ++ [(y0, y1, x2)], by omega, by go_num, rfl, ?_, by omega, app.below ((own.alloc _).alloc _) ((hb.alloc hbz _).alloc (by simp; omega) _) (Nat.le_refl _) (by simp; omega), hide (by rw [H.out, Hs.out]; simp)⟩
          rw [List.flatMap_append]
          exact app.own
        case measure => simp [intOf]; omega
      · have hs : cleanF rows e (l.drop k) = cleanF rows e (l.drop (k + 1)) := by
          rw [drop_at Hx.out]; simp only [cleanF, ← HY.out.1, ← HY.out.2, t]; simp
        have Hs := hide hs
        clear hs
        by_cases t1 : y0 < y1
        · have t2 : ¬ e ≤ y0 := fun h => t ⟨t1, h⟩
          clear t
          go_wp2_with fail
          go_roundw
          case rel => exact ⟨k + 1, N, e, done, by omega, by go_num, rfl, own.alloc _, by omega, hb.alloc hbz _, hide (by rw [H.out, Hs.out])⟩
          case measure => simp [intOf]; omega
        · clear t
          go_wp2_with fail
          go_roundw
          case rel => exact ⟨k + 1, N, e, done, by omega, by go_num, rfl, own.alloc _, by omega, hb.alloc hbz _, hide (by rw [H.out, Hs.out])⟩
          case measure => simp [intOf]; omega
    · go_wp2_with fail
      go_ret
      have hE : l.drop k = [] := List.drop_of_length_le (by rw [hl.out]; omega)
      exact RetSlice.of (by rw [H.out, hE]; simpa [cleanF] using own) hb

theorem hid_bound {rows : Int} : ∀ (l : List Fd) (e : Int) (k : Nat), rightF rows e l = true → 0 ≤ e → rows ≤ 200000 → 0 ≤ hidF (l.take k) ∧ hidF (l.take k) ≤ 200000 * k
  | [], _, k, _, _, _ => by simp [hidF]; omega
  | f :: l, e, 0, _, _, _ => by simp [hidF]
  | f :: l, e, k + 1, h, he, hr => by
    obtain ⟨h1, h2, h3, h4⟩ := rightF_cons h
    have := hid_bound l f.2.1 k h4 (by omega) hr
    simp only [List.take_succ_cons, hidF]
    omega
theorem right_at {rows : Int} : ∀ (l : List Fd) (e : Int) (k : Nat) (x : Fd), rightF rows e l = true → 0 ≤ e → l[k]? = some x → 0 ≤ x.1 ∧ x.1 < x.2.1 ∧ x.2.1 ≤ rows
  | [], _, k, x, _, _, hx => by simp at hx
  | f :: l, e, 0, x, h, he, hx => by
    obtain ⟨h1, h2, h3, h4⟩ := rightF_cons h
    simp only [List.getElem?_cons_zero, Option.some.injEq] at hx
    subst hx
    omega
  | f :: l, e, k + 1, x, h, he, hx => by
    obtain ⟨h1, h2, h3, h4⟩ := rightF_cons h
    exact right_at l f.2.1 k x h4 (by omega) (by simpa using hx)
theorem hidF_snoc : ∀ (l : List Fd) (x : Fd), hidF (l ++ [x]) = hidF l + (x.2.1 - x.1 - 1)
  | [], x => by simp [hidF]
  | f :: l, x => by simp only [List.cons_append, hidF, hidF_snoc l x]; omega

set_option maxHeartbeats 1000000 in
theorem count_wrong (A : Option Addr) (n c : Nat) (rows : Int) (l : List Fd) (w : World) (ha : Rd w w.heap.size 3 A n (l.flatMap fdc)) (hn : n ≤ 1000) (h : rows < 0 ∨ 200000 < rows ∨ rightF rows 0 l = false) :
    Calls Try.prog 14 #[.int .i64 rows, .slice A n c] w fun e w' => e = .returned (.tuple #[.int .i64 0, .int .i64 1]) ∧ Below w.heap.size w w' := by
  by_cases h1 : rows < 0
  · go_enter Try.func14, Try.ntmps14
    go_wp2_with fail
    go_ret2
    exact ⟨rfl, Below.refl _ _⟩
  · by_cases h2 : 200000 < rows
    · go_enter Try.func14, Try.ntmps14
      go_wp2_with fail
      go_ret2
      exact ⟨rfl, Below.refl _ _⟩
    · have hr : rightF rows 0 l = false := by rcases h with h | h | h; exact absurd h h1; exact absurd h h2; exact h
      have R := right_any A n c rows l w ha hn
      rw [hr] at R
      have R' := hide R
      clear hr h R
      go_enter Try.func14, Try.ntmps14
      go_wp2_with (go_at_call 16; refine R'.out.mono ?_; rintro e w' ⟨rfl, hb⟩)
      go_ret2
      exact ⟨rfl, hb⟩

set_option maxHeartbeats 1000000 in
theorem count_right (A : Option Addr) (n c : Nat) (rows : Int) (l : List Fd) (w : World) (ha : Rd w w.heap.size 3 A n (l.flatMap fdc)) (hn : n ≤ 1000) (h1 : 0 ≤ rows) (h2 : rows ≤ 200000) (hr : rightF rows 0 l = true) :
    Calls Try.prog 14 #[.int .i64 rows, .slice A n c] w fun e w' => e = .returned (.tuple #[.int .i64 (rows - hidF l), .int .i64 0]) ∧ Below w.heap.size w w' := by
  have R := right_any A n c rows l w ha hn
  rw [hr] at R
  have R' := hide R
  have Hr := hide hr
  have hl := hide (ha.len fdc_len (by omega))
  clear hr R
  go_enter Try.func14, Try.ntmps14
  go_wp2_with (go_at_call 16; refine R'.out.mono ?_; rintro e w1 ⟨rfl, hb1⟩)
  go_loopw [6, 24] (fun q i wr => ∃ (k : Nat), k ≤ n ∧ i = .int .i64 k ∧ q = .int .i64 (rows - hidF (l.take k)) ∧ Below w.heap.size w wr) (fun _ i _ => n - (intOf i).toNat)
  case atStart => exact ⟨0, Nat.zero_le _, rfl, by simp [hidF], hb1⟩
  case round =>
    obtain ⟨k, hk, rfl, rfl, hb⟩ := hrel
    have hbz := hb.size
    by_cases hlt : k < n
    · obtain ⟨b, off, x0, x1, x2, rfl, hbB, hx, c1, c2, c3⟩ := folds_at (ha.below hb) hlt
      have B := hid_bound l 0 k Hr.out (by omega) h2
      obtain ⟨r1, r2, r3⟩ := right_at l 0 k _ Hr.out (by omega) hx
      simp only at r1 r2 r3
      have Hx := hide hx
      clear hx
      obtain ⟨B1, B2⟩ := B
      go_wp2_with fail
      go_roundw
      case rel => exact ⟨k + 1, by omega, by go_num, by rw [take_snoc Hx.out, hidF_snoc]; go_num, hb.alloc hbz _⟩
      case measure => simp [intOf]; omega
    · go_wp2_with fail
      go_ret2
      exact ⟨ret2_ii (by rw [List.take_of_length_le (by rw [hl.out]; omega)]) rfl, hb⟩
end Go.Proofs.Ytdmiaciembcebaa
