/-
  The walks of Name and of the reference's Name. No condition but what the arguments' kinds bear.
-/
import Derived.Test.YtbacobajmmkjeaaChars2
namespace Go.Proofs.Ytbacobajmmkjeaa
open Go.RowKit Go.Proofs
set_option linter.unusedVariables false

/-- A set's kind behind an escape. -/
def setF (i : Int) (l : List UInt8) (x v : Int) : Int := if placeF l = i ∧ (x = 66 ∨ x = 48 ∨ x = 65) then x else v
theorem byte_cases (x : Int) : x = 66 ∨ (x = 48) ∨ (x = 65) ∨ (((x : Int) == 66) = false ∧ ((x : Int) == 48) = false ∧ ((x : Int) == 65) = false) := by
  simp only [beq_eq_false_iff_ne]
  omega
theorem setF_no {i : Int} {l : List UInt8} {x v : Int} (h : ((x : Int) == 66) = false ∧ ((x : Int) == 48) = false ∧ ((x : Int) == 65) = false) : setF i l x v = v := by
  simp only [beq_eq_false_iff_ne] at h
  unfold setF
  rw [if_neg (by omega)]
theorem setF_hit {i : Int} {l : List UInt8} {x v : Int} (h : placeF l = i) (hx : x = 66 ∨ x = 48 ∨ x = 65) : setF i l x v = x := by unfold setF; rw [if_pos ⟨h, hx⟩]
theorem setF_miss {i : Int} {l : List UInt8} {x v : Int} (h : placeF l ≠ i) : setF i l x v = v := by unfold setF; rw [if_neg (fun h' => h h'.1)]
def NamePost (a b c d u o x : Int) (l : List UInt8) (w : World) (e : Ending) (w' : World) : Prop :=
  e = .returned (.agg #[.int .i64 (setF 0 l x a), .int .i64 (setF 1 l x b), .int .i64 (setF 2 l x c), .int .i64 (setF 3 l x d), .int .i64 u, .int .i64 o]) ∧ Below w.heap.size w w'
theorem NamePost.of {a b c d u o x a' b' c' d' : Int} {l : List UInt8} {w w' : World} (ha : setF 0 l x a = a') (hb : setF 1 l x b = b') (hc : setF 2 l x c = c') (hd : setF 3 l x d = d') (h : Below w.heap.size w w') :
    NamePost a b c d u o x l w (.returned (.agg #[.int .i64 a', .int .i64 b', .int .i64 c', .int .i64 d', .int .i64 u, .int .i64 o])) w' := by
  subst ha hb hc hd
  exact ⟨rfl, h⟩

set_option maxHeartbeats 4000000 in
theorem name_any (a b c d u o x : Int) (s : ByteArray) (w : World) (x0 : 0 ≤ x) (x1 : x ≤ 255) :
    Calls Try.prog 15 #[.agg #[.int .i64 a, .int .i64 b, .int .i64 c, .int .i64 d, .int .i64 u, .int .i64 o], .string s, .int .u8 x] w (NamePost a b c d u o x s.toList w) := by
  obtain ⟨p, hp⟩ : ∃ p, p = placeF s.toList := ⟨_, rfl⟩
  have P0 := fun w => place_any s w
  rw [← hp] at P0
  have P := hide P0
  have hcase : p = -1 ∨ p = 0 ∨ p = 1 ∨ p = 2 ∨ p = 3 := by
    rw [hp]; unfold placeF; (repeat' split) <;> simp
  have HP := hide hp
  clear P0 hp
  rcases hcase with rfl | rfl | rfl | rfl | rfl
  · go_enter Try.func15, Try.ntmps15
    go_wp2_with (go_at_call 25; go_must (refine (P.out _).mono ?_; rintro e w' ⟨rfl, rfl⟩))
    exact bodyPost_ret (v := .agg #[.int .i64 a, .int .i64 b, .int .i64 c, .int .i64 d, .int .i64 u, .int .i64 o]) (by simp [results, Try.results15, go_sem]) rfl (NamePost.of (setF_miss (by rw [← HP.out]; decide)) (setF_miss (by rw [← HP.out]; decide)) (setF_miss (by rw [← HP.out]; decide)) (setF_miss (by rw [← HP.out]; decide)) (below2 _ _ _ (Nat.le_refl _)))
  · rcases byte_cases x with rfl | rfl | rfl | hx
    · go_enter Try.func15, Try.ntmps15
      go_wp2_with (go_at_call 25; go_must (refine (P.out _).mono ?_; rintro e w' ⟨rfl, rfl⟩))
      exact bodyPost_ret (v := .agg #[.int .i64 66, .int .i64 b, .int .i64 c, .int .i64 d, .int .i64 u, .int .i64 o]) (by simp [results, Try.results15, go_sem]) rfl (NamePost.of (setF_hit HP.out.symm (by decide)) (setF_miss (by rw [← HP.out]; decide)) (setF_miss (by rw [← HP.out]; decide)) (setF_miss (by rw [← HP.out]; decide)) (below2 _ _ _ (Nat.le_refl _)))
    · go_enter Try.func15, Try.ntmps15
      go_wp2_with (go_at_call 25; go_must (refine (P.out _).mono ?_; rintro e w' ⟨rfl, rfl⟩))
      exact bodyPost_ret (v := .agg #[.int .i64 48, .int .i64 b, .int .i64 c, .int .i64 d, .int .i64 u, .int .i64 o]) (by simp [results, Try.results15, go_sem]) rfl (NamePost.of (setF_hit HP.out.symm (by decide)) (setF_miss (by rw [← HP.out]; decide)) (setF_miss (by rw [← HP.out]; decide)) (setF_miss (by rw [← HP.out]; decide)) (below2 _ _ _ (Nat.le_refl _)))
    · go_enter Try.func15, Try.ntmps15
      go_wp2_with (go_at_call 25; go_must (refine (P.out _).mono ?_; rintro e w' ⟨rfl, rfl⟩))
      exact bodyPost_ret (v := .agg #[.int .i64 65, .int .i64 b, .int .i64 c, .int .i64 d, .int .i64 u, .int .i64 o]) (by simp [results, Try.results15, go_sem]) rfl (NamePost.of (setF_hit HP.out.symm (by decide)) (setF_miss (by rw [← HP.out]; decide)) (setF_miss (by rw [← HP.out]; decide)) (setF_miss (by rw [← HP.out]; decide)) (below2 _ _ _ (Nat.le_refl _)))
    · have HX := hide hx
      obtain ⟨n1, n2, n3⟩ := hx
      go_enter Try.func15, Try.ntmps15
      go_wp2_with (go_at_call 25; go_must (refine (P.out _).mono ?_; rintro e w' ⟨rfl, rfl⟩))
      exact bodyPost_ret (v := .agg #[.int .i64 a, .int .i64 b, .int .i64 c, .int .i64 d, .int .i64 u, .int .i64 o]) (by simp [results, Try.results15, go_sem]) rfl (NamePost.of (setF_no HX.out) (setF_no HX.out) (setF_no HX.out) (setF_no HX.out) (below2 _ _ _ (Nat.le_refl _)))
  · rcases byte_cases x with rfl | rfl | rfl | hx
    · go_enter Try.func15, Try.ntmps15
      go_wp2_with (go_at_call 25; go_must (refine (P.out _).mono ?_; rintro e w' ⟨rfl, rfl⟩))
      exact bodyPost_ret (v := .agg #[.int .i64 a, .int .i64 66, .int .i64 c, .int .i64 d, .int .i64 u, .int .i64 o]) (by simp [results, Try.results15, go_sem]) rfl (NamePost.of (setF_miss (by rw [← HP.out]; decide)) (setF_hit HP.out.symm (by decide)) (setF_miss (by rw [← HP.out]; decide)) (setF_miss (by rw [← HP.out]; decide)) (below2 _ _ _ (Nat.le_refl _)))
    · go_enter Try.func15, Try.ntmps15
      go_wp2_with (go_at_call 25; go_must (refine (P.out _).mono ?_; rintro e w' ⟨rfl, rfl⟩))
      exact bodyPost_ret (v := .agg #[.int .i64 a, .int .i64 48, .int .i64 c, .int .i64 d, .int .i64 u, .int .i64 o]) (by simp [results, Try.results15, go_sem]) rfl (NamePost.of (setF_miss (by rw [← HP.out]; decide)) (setF_hit HP.out.symm (by decide)) (setF_miss (by rw [← HP.out]; decide)) (setF_miss (by rw [← HP.out]; decide)) (below2 _ _ _ (Nat.le_refl _)))
    · go_enter Try.func15, Try.ntmps15
      go_wp2_with (go_at_call 25; go_must (refine (P.out _).mono ?_; rintro e w' ⟨rfl, rfl⟩))
      exact bodyPost_ret (v := .agg #[.int .i64 a, .int .i64 65, .int .i64 c, .int .i64 d, .int .i64 u, .int .i64 o]) (by simp [results, Try.results15, go_sem]) rfl (NamePost.of (setF_miss (by rw [← HP.out]; decide)) (setF_hit HP.out.symm (by decide)) (setF_miss (by rw [← HP.out]; decide)) (setF_miss (by rw [← HP.out]; decide)) (below2 _ _ _ (Nat.le_refl _)))
    · have HX := hide hx
      obtain ⟨n1, n2, n3⟩ := hx
      go_enter Try.func15, Try.ntmps15
      go_wp2_with (go_at_call 25; go_must (refine (P.out _).mono ?_; rintro e w' ⟨rfl, rfl⟩))
      exact bodyPost_ret (v := .agg #[.int .i64 a, .int .i64 b, .int .i64 c, .int .i64 d, .int .i64 u, .int .i64 o]) (by simp [results, Try.results15, go_sem]) rfl (NamePost.of (setF_no HX.out) (setF_no HX.out) (setF_no HX.out) (setF_no HX.out) (below2 _ _ _ (Nat.le_refl _)))
  · rcases byte_cases x with rfl | rfl | rfl | hx
    · go_enter Try.func15, Try.ntmps15
      go_wp2_with (go_at_call 25; go_must (refine (P.out _).mono ?_; rintro e w' ⟨rfl, rfl⟩))
      exact bodyPost_ret (v := .agg #[.int .i64 a, .int .i64 b, .int .i64 66, .int .i64 d, .int .i64 u, .int .i64 o]) (by simp [results, Try.results15, go_sem]) rfl (NamePost.of (setF_miss (by rw [← HP.out]; decide)) (setF_miss (by rw [← HP.out]; decide)) (setF_hit HP.out.symm (by decide)) (setF_miss (by rw [← HP.out]; decide)) (below2 _ _ _ (Nat.le_refl _)))
    · go_enter Try.func15, Try.ntmps15
      go_wp2_with (go_at_call 25; go_must (refine (P.out _).mono ?_; rintro e w' ⟨rfl, rfl⟩))
      exact bodyPost_ret (v := .agg #[.int .i64 a, .int .i64 b, .int .i64 48, .int .i64 d, .int .i64 u, .int .i64 o]) (by simp [results, Try.results15, go_sem]) rfl (NamePost.of (setF_miss (by rw [← HP.out]; decide)) (setF_miss (by rw [← HP.out]; decide)) (setF_hit HP.out.symm (by decide)) (setF_miss (by rw [← HP.out]; decide)) (below2 _ _ _ (Nat.le_refl _)))
    · go_enter Try.func15, Try.ntmps15
      go_wp2_with (go_at_call 25; go_must (refine (P.out _).mono ?_; rintro e w' ⟨rfl, rfl⟩))
      exact bodyPost_ret (v := .agg #[.int .i64 a, .int .i64 b, .int .i64 65, .int .i64 d, .int .i64 u, .int .i64 o]) (by simp [results, Try.results15, go_sem]) rfl (NamePost.of (setF_miss (by rw [← HP.out]; decide)) (setF_miss (by rw [← HP.out]; decide)) (setF_hit HP.out.symm (by decide)) (setF_miss (by rw [← HP.out]; decide)) (below2 _ _ _ (Nat.le_refl _)))
    · have HX := hide hx
      obtain ⟨n1, n2, n3⟩ := hx
      go_enter Try.func15, Try.ntmps15
      go_wp2_with (go_at_call 25; go_must (refine (P.out _).mono ?_; rintro e w' ⟨rfl, rfl⟩))
      exact bodyPost_ret (v := .agg #[.int .i64 a, .int .i64 b, .int .i64 c, .int .i64 d, .int .i64 u, .int .i64 o]) (by simp [results, Try.results15, go_sem]) rfl (NamePost.of (setF_no HX.out) (setF_no HX.out) (setF_no HX.out) (setF_no HX.out) (below2 _ _ _ (Nat.le_refl _)))
  · rcases byte_cases x with rfl | rfl | rfl | hx
    · go_enter Try.func15, Try.ntmps15
      go_wp2_with (go_at_call 25; go_must (refine (P.out _).mono ?_; rintro e w' ⟨rfl, rfl⟩))
      exact bodyPost_ret (v := .agg #[.int .i64 a, .int .i64 b, .int .i64 c, .int .i64 66, .int .i64 u, .int .i64 o]) (by simp [results, Try.results15, go_sem]) rfl (NamePost.of (setF_miss (by rw [← HP.out]; decide)) (setF_miss (by rw [← HP.out]; decide)) (setF_miss (by rw [← HP.out]; decide)) (setF_hit HP.out.symm (by decide)) (below2 _ _ _ (Nat.le_refl _)))
    · go_enter Try.func15, Try.ntmps15
      go_wp2_with (go_at_call 25; go_must (refine (P.out _).mono ?_; rintro e w' ⟨rfl, rfl⟩))
      exact bodyPost_ret (v := .agg #[.int .i64 a, .int .i64 b, .int .i64 c, .int .i64 48, .int .i64 u, .int .i64 o]) (by simp [results, Try.results15, go_sem]) rfl (NamePost.of (setF_miss (by rw [← HP.out]; decide)) (setF_miss (by rw [← HP.out]; decide)) (setF_miss (by rw [← HP.out]; decide)) (setF_hit HP.out.symm (by decide)) (below2 _ _ _ (Nat.le_refl _)))
    · go_enter Try.func15, Try.ntmps15
      go_wp2_with (go_at_call 25; go_must (refine (P.out _).mono ?_; rintro e w' ⟨rfl, rfl⟩))
      exact bodyPost_ret (v := .agg #[.int .i64 a, .int .i64 b, .int .i64 c, .int .i64 65, .int .i64 u, .int .i64 o]) (by simp [results, Try.results15, go_sem]) rfl (NamePost.of (setF_miss (by rw [← HP.out]; decide)) (setF_miss (by rw [← HP.out]; decide)) (setF_miss (by rw [← HP.out]; decide)) (setF_hit HP.out.symm (by decide)) (below2 _ _ _ (Nat.le_refl _)))
    · have HX := hide hx
      obtain ⟨n1, n2, n3⟩ := hx
      go_enter Try.func15, Try.ntmps15
      go_wp2_with (go_at_call 25; go_must (refine (P.out _).mono ?_; rintro e w' ⟨rfl, rfl⟩))
      exact bodyPost_ret (v := .agg #[.int .i64 a, .int .i64 b, .int .i64 c, .int .i64 d, .int .i64 u, .int .i64 o]) (by simp [results, Try.results15, go_sem]) rfl (NamePost.of (setF_no HX.out) (setF_no HX.out) (setF_no HX.out) (setF_no HX.out) (below2 _ _ _ (Nat.le_refl _)))

theorem below_set' {B : Nat} {a w : World} {b i : Nat} {v : Value} (h : Below B a w) (hp : B ≤ b) : Below B a (w.setCell ⟨b, i, none⟩ v) := h.setCell (p := ⟨b, i, none⟩) hp v
/-- The four sets behind k rounds. -/
def SetsAt (k : Nat) (l : List UInt8) (x a b c d A B C D : Int) : Prop :=
  A = (if 0 < k then setF 0 l x a else a) ∧ B = (if 1 < k then setF 1 l x b else b) ∧ C = (if 2 < k then setF 2 l x c else c) ∧ D = (if 3 < k then setF 3 l x d else d)
theorem cut0 : ((⟨#[40, 41, 42, 43]⟩ : ByteArray).extract 0 1).toList = [40] := by rw [ByteArray.toList_eq]; rfl
theorem cut1 : ((⟨#[40, 41, 42, 43]⟩ : ByteArray).extract 1 2).toList = [41] := by rw [ByteArray.toList_eq]; rfl
theorem cut2 : ((⟨#[40, 41, 42, 43]⟩ : ByteArray).extract 2 3).toList = [42] := by rw [ByteArray.toList_eq]; rfl
theorem cut3 : ((⟨#[40, 41, 42, 43]⟩ : ByteArray).extract 3 4).toList = [43] := by rw [ByteArray.toList_eq]; rfl
theorem place0 (l : List UInt8) : placeF l = 0 ↔ l = [40] := by
  unfold placeF; constructor
  · intro h; (repeat' split at h) <;> first | assumption | (exfalso; omega)
  · rintro rfl; rfl
theorem place1 (l : List UInt8) : placeF l = 1 ↔ l = [41] := by
  unfold placeF; constructor
  · intro h; (repeat' split at h) <;> first | assumption | (exfalso; omega)
  · rintro rfl; rfl
theorem place2 (l : List UInt8) : placeF l = 2 ↔ l = [42] := by
  unfold placeF; constructor
  · intro h; (repeat' split at h) <;> first | assumption | (exfalso; omega)
  · rintro rfl; rfl
theorem place3 (l : List UInt8) : placeF l = 3 ↔ l = [43] := by
  unfold placeF; constructor
  · intro h; (repeat' split at h) <;> first | assumption | (exfalso; omega)
  · rintro rfl; rfl

set_option maxHeartbeats 8000000 in
theorem refname_any (a b c d u o x : Int) (s : ByteArray) (w : World) (x0 : 0 ≤ x) (x1 : x ≤ 255) :
    Calls Try.prog 16 #[.agg #[.int .i64 a, .int .i64 b, .int .i64 c, .int .i64 d, .int .i64 u, .int .i64 o], .string s, .int .u8 x] w (NamePost a b c d u o x s.toList w) := by
  obtain ⟨bx, hbx⟩ : ∃ bx : Bool, (bx = true ∧ (x = 66 ∨ x = 48 ∨ x = 65)) ∨ (bx = false ∧ ((x : Int) == 66) = false ∧ ((x : Int) == 48) = false ∧ ((x : Int) == 65) = false) := by
    rcases byte_cases x with h | h | h | h
    · exact ⟨true, .inl ⟨rfl, by omega⟩⟩
    · exact ⟨true, .inl ⟨rfl, by omega⟩⟩
    · exact ⟨true, .inl ⟨rfl, by omega⟩⟩
    · exact ⟨false, .inr ⟨rfl, h⟩⟩
  go_enter Try.func16, Try.ntmps16
  go_wp2_with fail
  go_loopw [7] (fun i wr => ∃ (k : Nat) (A B C D : Int), k ≤ 4 ∧ i = .int .i64 k ∧ Blk wr w.heap.size 28 #[.int .i64 A, .int .i64 B, .int .i64 C, .int .i64 D, .int .i64 u, .int .i64 o] ∧
     Blk wr (w.heap.size + 1) 28 #[.int .i64 0, .int .i64 0, .int .i64 0, .int .i64 0, .int .i64 0, .int .i64 0] ∧ Below w.heap.size w wr ∧ Hid (SetsAt k s.toList x a b c d A B C D)) (fun i _ => 4 - (intOf i).toNat)
  case atStart => exact ⟨0, a, b, c, d, by omega, rfl, (Blk.new _ _ _).alloc _, Blk.new' (by simp) _ _, below2 _ _ _ (Nat.le_refl _), hide ⟨rfl, rfl, rfl, rfl⟩⟩
  case round =>
    obtain ⟨k, A, B, C, D, hk, rfl, g1, g2, hb, H⟩ := hrel
    have c0 := g1.cell 0
    have c1 := g1.cell 1
    have c2 := g1.cell 2
    have c3 := g1.cell 3
    have c4 := g1.cell 4
    have c5 := g1.cell 5
    have f0 := g1.frozen 0
    have f1 := g1.frozen 1
    have f2 := g1.frozen 2
    have f3 := g1.frozen 3
    have hbx' := hide hbx
    clear hbx
    rcases (by omega : k = 0 ∨ k = 1 ∨ k = 2 ∨ k = 3 ∨ k = 4) with rfl | rfl | rfl | rfl | rfl
    · by_cases hit : placeF s.toList = 0
      · have t : (s.toList == ((⟨#[40, 41, 42, 43]⟩ : ByteArray).extract 0 1).toList) = true := by rw [cut0, (place0 _).1 hit]; rfl
        have Hit := hide hit
        clear hit
        rcases hbx'.out with ⟨_, hx⟩ | ⟨_, n1, n2, n3⟩
        · have E : Hid (SetsAt 1 s.toList x a b c d x B C D) := hide (by
            obtain ⟨_, h2, h3, h4⟩ := H.out
            simp only [SetsAt, h2, h3, h4, setF_hit Hit.out hx]; simp)
          rcases hx with rfl | rfl | rfl
          all_goals
            go_wp2_with fail
            go_roundw
            case rel => exact ⟨1, _, _, _, _, by omega, rfl, g1.set_ 0 _, g2.far (by simp) _, hb.setCell (p := ⟨w.heap.size, 0, none⟩) (Nat.le_refl _) _, E⟩
            case measure => simp [intOf]
        · have E : Hid (SetsAt 1 s.toList x a b c d A B C D) := hide (by
            obtain ⟨h1, h2, h3, h4⟩ := H.out
            simp only [SetsAt, h1, h2, h3, h4, setF_no ⟨n1, n2, n3⟩]; simp)
          go_wp2_with fail
          go_roundw
          case rel => exact ⟨1, _, _, _, _, by omega, rfl, g1, g2, hb, E⟩
          case measure => simp [intOf]
      · have t : (s.toList == ((⟨#[40, 41, 42, 43]⟩ : ByteArray).extract 0 1).toList) = false := by rw [cut0, beq_eq_false_iff_ne]; intro h; exact hit ((place0 _).2 h)
        have E : Hid (SetsAt 1 s.toList x a b c d A B C D) := hide (by
          obtain ⟨h1, h2, h3, h4⟩ := H.out
          simp only [SetsAt, h1, h2, h3, h4, setF_miss hit]; simp)
        clear hit
        go_wp2_with fail
        go_roundw
        case rel => exact ⟨1, _, _, _, _, by omega, rfl, g1, g2, hb, E⟩
        case measure => simp [intOf]
    · by_cases hit : placeF s.toList = 1
      · have t : (s.toList == ((⟨#[40, 41, 42, 43]⟩ : ByteArray).extract 1 2).toList) = true := by rw [cut1, (place1 _).1 hit]; rfl
        have Hit := hide hit
        clear hit
        rcases hbx'.out with ⟨_, hx⟩ | ⟨_, n1, n2, n3⟩
        · have E : Hid (SetsAt 2 s.toList x a b c d A x C D) := hide (by
            obtain ⟨h1, _, h3, h4⟩ := H.out
            simp only [SetsAt, h1, h3, h4, setF_hit Hit.out hx]; simp)
          rcases hx with rfl | rfl | rfl
          all_goals
            go_wp2_with fail
            go_roundw
            case rel => exact ⟨2, _, _, _, _, by omega, rfl, g1.set_ 1 _, g2.far (by simp) _, hb.setCell (p := ⟨w.heap.size, 1, none⟩) (Nat.le_refl _) _, E⟩
            case measure => simp [intOf]
        · have E : Hid (SetsAt 2 s.toList x a b c d A B C D) := hide (by
            obtain ⟨h1, h2, h3, h4⟩ := H.out
            simp only [SetsAt, h1, h2, h3, h4, setF_no ⟨n1, n2, n3⟩]; simp)
          go_wp2_with fail
          go_roundw
          case rel => exact ⟨2, _, _, _, _, by omega, rfl, g1, g2, hb, E⟩
          case measure => simp [intOf]
      · have t : (s.toList == ((⟨#[40, 41, 42, 43]⟩ : ByteArray).extract 1 2).toList) = false := by rw [cut1, beq_eq_false_iff_ne]; intro h; exact hit ((place1 _).2 h)
        have E : Hid (SetsAt 2 s.toList x a b c d A B C D) := hide (by
          obtain ⟨h1, h2, h3, h4⟩ := H.out
          simp only [SetsAt, h1, h2, h3, h4, setF_miss hit]; simp)
        clear hit
        go_wp2_with fail
        go_roundw
        case rel => exact ⟨2, _, _, _, _, by omega, rfl, g1, g2, hb, E⟩
        case measure => simp [intOf]
    · by_cases hit : placeF s.toList = 2
      · have t : (s.toList == ((⟨#[40, 41, 42, 43]⟩ : ByteArray).extract 2 3).toList) = true := by rw [cut2, (place2 _).1 hit]; rfl
        have Hit := hide hit
        clear hit
        rcases hbx'.out with ⟨_, hx⟩ | ⟨_, n1, n2, n3⟩
        · have E : Hid (SetsAt 3 s.toList x a b c d A B x D) := hide (by
            obtain ⟨h1, h2, _, h4⟩ := H.out
            simp only [SetsAt, h1, h2, h4, setF_hit Hit.out hx]; simp)
          rcases hx with rfl | rfl | rfl
          all_goals
            go_wp2_with fail
            go_roundw
            case rel => exact ⟨3, _, _, _, _, by omega, rfl, g1.set_ 2 _, g2.far (by simp) _, hb.setCell (p := ⟨w.heap.size, 2, none⟩) (Nat.le_refl _) _, E⟩
            case measure => simp [intOf]
        · have E : Hid (SetsAt 3 s.toList x a b c d A B C D) := hide (by
            obtain ⟨h1, h2, h3, h4⟩ := H.out
            simp only [SetsAt, h1, h2, h3, h4, setF_no ⟨n1, n2, n3⟩]; simp)
          go_wp2_with fail
          go_roundw
          case rel => exact ⟨3, _, _, _, _, by omega, rfl, g1, g2, hb, E⟩
          case measure => simp [intOf]
      · have t : (s.toList == ((⟨#[40, 41, 42, 43]⟩ : ByteArray).extract 2 3).toList) = false := by rw [cut2, beq_eq_false_iff_ne]; intro h; exact hit ((place2 _).2 h)
        have E : Hid (SetsAt 3 s.toList x a b c d A B C D) := hide (by
          obtain ⟨h1, h2, h3, h4⟩ := H.out
          simp only [SetsAt, h1, h2, h3, h4, setF_miss hit]; simp)
        clear hit
        go_wp2_with fail
        go_roundw
        case rel => exact ⟨3, _, _, _, _, by omega, rfl, g1, g2, hb, E⟩
        case measure => simp [intOf]
    · by_cases hit : placeF s.toList = 3
      · have t : (s.toList == ((⟨#[40, 41, 42, 43]⟩ : ByteArray).extract 3 4).toList) = true := by rw [cut3, (place3 _).1 hit]; rfl
        have Hit := hide hit
        clear hit
        rcases hbx'.out with ⟨_, hx⟩ | ⟨_, n1, n2, n3⟩
        · have E : Hid (SetsAt 4 s.toList x a b c d A B C x) := hide (by
            obtain ⟨h1, h2, h3, _⟩ := H.out
            simp only [SetsAt, h1, h2, h3, setF_hit Hit.out hx]; simp)
          rcases hx with rfl | rfl | rfl
          all_goals
            go_wp2_with fail
            go_roundw
            case rel => exact ⟨4, _, _, _, _, by omega, rfl, g1.set_ 3 _, g2.far (by simp) _, hb.setCell (p := ⟨w.heap.size, 3, none⟩) (Nat.le_refl _) _, E⟩
            case measure => simp [intOf]
        · have E : Hid (SetsAt 4 s.toList x a b c d A B C D) := hide (by
            obtain ⟨h1, h2, h3, h4⟩ := H.out
            simp only [SetsAt, h1, h2, h3, h4, setF_no ⟨n1, n2, n3⟩]; simp)
          go_wp2_with fail
          go_roundw
          case rel => exact ⟨4, _, _, _, _, by omega, rfl, g1, g2, hb, E⟩
          case measure => simp [intOf]
      · have t : (s.toList == ((⟨#[40, 41, 42, 43]⟩ : ByteArray).extract 3 4).toList) = false := by rw [cut3, beq_eq_false_iff_ne]; intro h; exact hit ((place3 _).2 h)
        have E : Hid (SetsAt 4 s.toList x a b c d A B C D) := hide (by
          obtain ⟨h1, h2, h3, h4⟩ := H.out
          simp only [SetsAt, h1, h2, h3, h4, setF_miss hit]; simp)
        clear hit
        go_wp2_with fail
        go_roundw
        case rel => exact ⟨4, _, _, _, _, by omega, rfl, g1, g2, hb, E⟩
        case measure => simp [intOf]
    · go_wp2_with (refine wpList_store_whole rfl 28 _ _ rfl #[.int .i64 A, .int .i64 B, .int .i64 C, .int .i64 D, .int .i64 u, .int .i64 o] rfl rfl g2 rfl (by kernel_rfl) (ones rfl) ?_)
      exact bodyPost_ret (v := .agg #[.int .i64 A, .int .i64 B, .int .i64 C, .int .i64 D, .int .i64 u, .int .i64 o]) (results_cell_row rfl _ _ (w.heap.size + 1) 28 _ (0, 0) _ rfl (setRow_blk g2) Try.underlying28 rfl (by kernel_rfl)) rfl
        (NamePost.of H.out.1.symm H.out.2.1.symm H.out.2.2.1.symm H.out.2.2.2.symm (hb.trans (setRow_frm.to_below hb.size (by intro i hi; omega))))
end Go.Proofs.Ytbacobajmmkjeaa
