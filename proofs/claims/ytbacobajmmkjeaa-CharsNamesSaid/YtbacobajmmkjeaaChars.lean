/-
  The walks over package chars and its reference, state by state. No condition but what the arguments' kinds bear.
-/
import Derived.Test.YtbacobajmmkjeaaBase
import Derived.Test.YtbacobajmmkjeaaWide
import Derived.Test.YtbacobajmmkjeaaProg
namespace Go.Proofs.Ytbacobajmmkjeaa
open Go.RowKit Go.Proofs
set_option linter.unusedVariables false

/-- The set in use. -/
def usedF (u o : Int) : Int := if o = 2 ∨ o = 3 then o else if 0 ≤ u ∧ u ≤ 3 then u else 0
/-- A new block, then one that held zeros, stored into. -/
theorem below2 (w : World) (o o' : Obj) {B : Nat} (hB : B ≤ w.heap.size) : Below B w ((w.alloc o).alloc o') := ((Below.refl _ _).alloc hB _).alloc (by simp; omega) _

set_option maxHeartbeats 1000000 in
theorem used_any (a b c d u o : Int) (w : World) :
    Calls Try.prog 24 #[.agg #[.int .i64 a, .int .i64 b, .int .i64 c, .int .i64 d, .int .i64 u, .int .i64 o]] w fun e w' => e = .returned (.int .i64 (usedF u o)) ∧ Below w.heap.size w w' := by
  rcases (by omega : o = 2 ∨ o = 3 ∨ (¬ o = 2 ∧ ¬ o = 3 ∧ 0 ≤ u ∧ u ≤ 3) ∨ (¬ o = 2 ∧ ¬ o = 3 ∧ ¬ 0 ≤ u) ∨ (¬ o = 2 ∧ ¬ o = 3 ∧ 0 ≤ u ∧ ¬ u ≤ 3)) with rfl | rfl | ⟨h1, h2, h3, h4⟩ | ⟨h1, h2, h3⟩ | ⟨h1, h2, h3, h4⟩
  · go_enter Try.func24, Try.ntmps24
    go_wp2_with fail
    go_ret
    exact ⟨ret_int (by simp [usedF]), (Below.refl _ _).alloc (Nat.le_refl _) _⟩
  · go_enter Try.func24, Try.ntmps24
    go_wp2_with fail
    go_ret
    exact ⟨ret_int (by simp [usedF]), (Below.refl _ _).alloc (Nat.le_refl _) _⟩
  all_goals
    go_enter Try.func24, Try.ntmps24
    go_wp2_with fail
    go_ret
    exact ⟨ret_int (by simp [usedF, *]; try omega), (Below.refl _ _).alloc (Nat.le_refl _) _⟩

theorem new_any (w : World) : Calls Try.prog 20 #[] w fun e w' => e = .returned (.agg #[.int .i64 66, .int .i64 66, .int .i64 66, .int .i64 66, .int .i64 0, .int .i64 0]) ∧ Below w.heap.size w w' := by
  go_enter Try.func20, Try.ntmps20
  go_wp2_with fail
  exact bodyPost_ret (v := .agg #[.int .i64 66, .int .i64 66, .int .i64 66, .int .i64 66, .int .i64 0, .int .i64 0]) (by simp [results, Try.results20, go_sem]) rfl ⟨rfl, (Below.refl _ _).alloc (Nat.le_refl _) _⟩
theorem first_any (w : World) : Calls Try.prog 21 #[] w fun e w' => e = .returned (.agg #[.int .i64 66, .int .i64 66, .int .i64 66, .int .i64 66, .int .i64 0, .int .i64 0]) ∧ Below w.heap.size w w' := by
  go_enter Try.func21, Try.ntmps21
  go_wp2_with fail
  exact bodyPost_ret (v := .agg #[.int .i64 66, .int .i64 66, .int .i64 66, .int .i64 66, .int .i64 0, .int .i64 0]) (by simp [results, Try.results21, go_sem]) rfl ⟨rfl, (Below.refl _ _).alloc (Nat.le_refl _) _⟩

def takeF (u c : Int) : Int := if c = 14 then 1 else if c = 15 then 0 else u
set_option maxHeartbeats 1000000 in
theorem take_any (a b c d u o x : Int) (w : World) :
    Calls Try.prog 17 #[.agg #[.int .i64 a, .int .i64 b, .int .i64 c, .int .i64 d, .int .i64 u, .int .i64 o], .int .u8 x] w fun e w' =>
      e = .returned (.agg #[.int .i64 a, .int .i64 b, .int .i64 c, .int .i64 d, .int .i64 (takeF u x), .int .i64 o]) ∧ Below w.heap.size w w' := by
  rcases (by omega : x = 14 ∨ x = 15 ∨ (¬ x = 14 ∧ ¬ x = 15)) with rfl | rfl | ⟨h1, h2⟩
  · go_enter Try.func17, Try.ntmps17
    go_wp2_with fail
    exact bodyPost_ret (v := .agg #[.int .i64 a, .int .i64 b, .int .i64 c, .int .i64 d, .int .i64 1, .int .i64 o]) (by simp [results, Try.results17, go_sem]) rfl ⟨rfl, below2 _ _ _ (Nat.le_refl _)⟩
  · go_enter Try.func17, Try.ntmps17
    go_wp2_with fail
    exact bodyPost_ret (v := .agg #[.int .i64 a, .int .i64 b, .int .i64 c, .int .i64 d, .int .i64 0, .int .i64 o]) (by simp [results, Try.results17, go_sem]) rfl ⟨rfl, below2 _ _ _ (Nat.le_refl _)⟩
  · have e : takeF u x = u := by simp [takeF, h1, h2]
    have n1 : ((x : Int) == 14) = false := by simpa using h1
    have n2 : ((x : Int) == 15) = false := by simpa using h2
    have E := hide e
    clear e
    go_enter Try.func17, Try.ntmps17
    go_wp2_with fail
    exact bodyPost_ret (v := .agg #[.int .i64 a, .int .i64 b, .int .i64 c, .int .i64 d, .int .i64 u, .int .i64 o]) (by simp [results, Try.results17, go_sem]) rfl ⟨by rw [E.out], below2 _ _ _ (Nat.le_refl _)⟩

set_option maxHeartbeats 1000000 in
theorem reftake_any (a b c d u o x : Int) (w : World) :
    Calls Try.prog 18 #[.agg #[.int .i64 a, .int .i64 b, .int .i64 c, .int .i64 d, .int .i64 u, .int .i64 o], .int .u8 x] w fun e w' =>
      e = .returned (.agg #[.int .i64 a, .int .i64 b, .int .i64 c, .int .i64 d, .int .i64 (takeF u x), .int .i64 o]) ∧ Below w.heap.size w w' := by
  rcases (by omega : x = 14 ∨ x = 15 ∨ (¬ x = 14 ∧ ¬ x = 15)) with rfl | rfl | ⟨h1, h2⟩
  · go_enter Try.func18, Try.ntmps18
    go_wp2_with fail
    exact bodyPost_ret (v := .agg #[.int .i64 a, .int .i64 b, .int .i64 c, .int .i64 d, .int .i64 1, .int .i64 o]) (by simp [results, Try.results18, go_sem]) rfl ⟨rfl, below2 _ _ _ (Nat.le_refl _)⟩
  · go_enter Try.func18, Try.ntmps18
    go_wp2_with fail
    exact bodyPost_ret (v := .agg #[.int .i64 a, .int .i64 b, .int .i64 c, .int .i64 d, .int .i64 0, .int .i64 o]) (by simp [results, Try.results18, go_sem]) rfl ⟨rfl, below2 _ _ _ (Nat.le_refl _)⟩
  · have e : takeF u x = u := by simp [takeF, h1, h2]
    have n1 : ((x : Int) == 14) = false := by simpa using h1
    have n2 : ((x : Int) == 15) = false := by simpa using h2
    have E := hide e
    clear e
    go_enter Try.func18, Try.ntmps18
    go_wp2_with fail
    exact bodyPost_ret (v := .agg #[.int .i64 a, .int .i64 b, .int .i64 c, .int .i64 d, .int .i64 u, .int .i64 o]) (by simp [results, Try.results18, go_sem]) rfl ⟨by rw [E.out], below2 _ _ _ (Nat.le_refl _)⟩

def lockU (u x : Int) : Int := if x = 110 then 2 else if x = 111 then 3 else u
def lockO (o x : Int) : Int := if x = 78 then 2 else if x = 79 then 3 else o

set_option maxHeartbeats 2000000 in
theorem lock_any (a b c d u o x : Int) (w : World) :
    Calls Try.prog 14 #[.agg #[.int .i64 a, .int .i64 b, .int .i64 c, .int .i64 d, .int .i64 u, .int .i64 o], .int .u8 x] w fun e w' =>
      e = .returned (.agg #[.int .i64 a, .int .i64 b, .int .i64 c, .int .i64 d, .int .i64 (lockU u x), .int .i64 (lockO o x)]) ∧ Below w.heap.size w w' := by
  rcases (by omega : x = 110 ∨ x = 111 ∨ x = 78 ∨ x = 79 ∨ (¬ x = 110 ∧ ¬ x = 111 ∧ ¬ x = 78 ∧ ¬ x = 79)) with rfl | rfl | rfl | rfl | ⟨h1, h2, h3, h4⟩
  · go_enter Try.func14, Try.ntmps14
    go_wp2_with fail
    exact bodyPost_ret (v := .agg #[.int .i64 a, .int .i64 b, .int .i64 c, .int .i64 d, .int .i64 2, .int .i64 o]) (by simp [results, Try.results14, go_sem]) rfl ⟨rfl, below2 _ _ _ (Nat.le_refl _)⟩
  · go_enter Try.func14, Try.ntmps14
    go_wp2_with fail
    exact bodyPost_ret (v := .agg #[.int .i64 a, .int .i64 b, .int .i64 c, .int .i64 d, .int .i64 3, .int .i64 o]) (by simp [results, Try.results14, go_sem]) rfl ⟨rfl, below2 _ _ _ (Nat.le_refl _)⟩
  · go_enter Try.func14, Try.ntmps14
    go_wp2_with fail
    exact bodyPost_ret (v := .agg #[.int .i64 a, .int .i64 b, .int .i64 c, .int .i64 d, .int .i64 u, .int .i64 2]) (by simp [results, Try.results14, go_sem]) rfl ⟨rfl, below2 _ _ _ (Nat.le_refl _)⟩
  · go_enter Try.func14, Try.ntmps14
    go_wp2_with fail
    exact bodyPost_ret (v := .agg #[.int .i64 a, .int .i64 b, .int .i64 c, .int .i64 d, .int .i64 u, .int .i64 3]) (by simp [results, Try.results14, go_sem]) rfl ⟨rfl, below2 _ _ _ (Nat.le_refl _)⟩
  · have E := hide (show lockU u x = u ∧ lockO o x = o by simp [lockU, lockO, h1, h2, h3, h4])
    have n1 : ((x : Int) == 110) = false := by simpa using h1
    have n2 : ((x : Int) == 111) = false := by simpa using h2
    have n3 : ((x : Int) == 78) = false := by simpa using h3
    have n4 : ((x : Int) == 79) = false := by simpa using h4
    go_enter Try.func14, Try.ntmps14
    go_wp2_with fail
    exact bodyPost_ret (v := .agg #[.int .i64 a, .int .i64 b, .int .i64 c, .int .i64 d, .int .i64 u, .int .i64 o]) (by simp [results, Try.results14, go_sem]) rfl ⟨by rw [E.out.1, E.out.2], below2 _ _ _ (Nat.le_refl _)⟩

set_option maxHeartbeats 2000000 in
theorem reflock_any (a b c d u o x : Int) (w : World) :
    Calls Try.prog 19 #[.agg #[.int .i64 a, .int .i64 b, .int .i64 c, .int .i64 d, .int .i64 u, .int .i64 o], .int .u8 x] w fun e w' =>
      e = .returned (.agg #[.int .i64 a, .int .i64 b, .int .i64 c, .int .i64 d, .int .i64 (lockU u x), .int .i64 (lockO o x)]) ∧ Below w.heap.size w w' := by
  rcases (by omega : x = 110 ∨ x = 111 ∨ x = 78 ∨ x = 79 ∨ (¬ x = 110 ∧ ¬ x = 111 ∧ ¬ x = 78 ∧ ¬ x = 79)) with rfl | rfl | rfl | rfl | ⟨h1, h2, h3, h4⟩
  · go_enter Try.func19, Try.ntmps19
    go_wp2_with fail
    exact bodyPost_ret (v := .agg #[.int .i64 a, .int .i64 b, .int .i64 c, .int .i64 d, .int .i64 2, .int .i64 o]) (by simp [results, Try.results19, go_sem]) rfl ⟨rfl, below2 _ _ _ (Nat.le_refl _)⟩
  · go_enter Try.func19, Try.ntmps19
    go_wp2_with fail
    exact bodyPost_ret (v := .agg #[.int .i64 a, .int .i64 b, .int .i64 c, .int .i64 d, .int .i64 3, .int .i64 o]) (by simp [results, Try.results19, go_sem]) rfl ⟨rfl, below2 _ _ _ (Nat.le_refl _)⟩
  · go_enter Try.func19, Try.ntmps19
    go_wp2_with fail
    exact bodyPost_ret (v := .agg #[.int .i64 a, .int .i64 b, .int .i64 c, .int .i64 d, .int .i64 u, .int .i64 2]) (by simp [results, Try.results19, go_sem]) rfl ⟨rfl, below2 _ _ _ (Nat.le_refl _)⟩
  · go_enter Try.func19, Try.ntmps19
    go_wp2_with fail
    exact bodyPost_ret (v := .agg #[.int .i64 a, .int .i64 b, .int .i64 c, .int .i64 d, .int .i64 u, .int .i64 3]) (by simp [results, Try.results19, go_sem]) rfl ⟨rfl, below2 _ _ _ (Nat.le_refl _)⟩
  · have E := hide (show lockU u x = u ∧ lockO o x = o by simp [lockU, lockO, h1, h2, h3, h4])
    have n1 : ((x : Int) == 110) = false := by simpa using h1
    have n2 : ((x : Int) == 111) = false := by simpa using h2
    have n3 : ((x : Int) == 78) = false := by simpa using h3
    have n4 : ((x : Int) == 79) = false := by simpa using h4
    go_enter Try.func19, Try.ntmps19
    go_wp2_with fail
    exact bodyPost_ret (v := .agg #[.int .i64 a, .int .i64 b, .int .i64 c, .int .i64 d, .int .i64 u, .int .i64 o]) (by simp [results, Try.results19, go_sem]) rfl ⟨by rw [E.out.1, E.out.2], below2 _ _ _ (Nat.le_refl _)⟩

theorem of_any (a b c d u o : Int) (w : World) :
    Calls Try.prog 10 #[.agg #[.int .i64 a, .int .i64 b, .int .i64 c, .int .i64 d, .int .i64 u, .int .i64 o]] w fun e w' =>
      e = .returned (.agg #[.int .i64 a, .int .i64 b, .int .i64 c, .int .i64 d, .int .i64 u, .int .i64 o]) ∧ Below w.heap.size w w' := by
  go_enter Try.func10, Try.ntmps10
  go_wp2_with fail
  exact bodyPost_ret (v := .agg #[.int .i64 a, .int .i64 b, .int .i64 c, .int .i64 d, .int .i64 u, .int .i64 o]) (by simp [results, Try.results10, go_sem]) rfl ⟨rfl, below2 _ _ _ (Nat.le_refl _)⟩
end Go.Proofs.Ytbacobajmmkjeaa
