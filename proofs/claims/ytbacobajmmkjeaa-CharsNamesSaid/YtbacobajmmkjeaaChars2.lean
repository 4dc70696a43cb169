/-
  The walks of shown and Prints, of place and Name. No condition but what the arguments' kinds bear.
-/
import Derived.Test.YtbacobajmmkjeaaChars
import Derived.Test.YtbacobajmmkjeaaDrawn
namespace Go.Proofs.Ytbacobajmmkjeaa
open Go.RowKit Go.Proofs
set_option linter.unusedVariables false

/-- What a scalar prints as in a set. -/
def shownF (kind r : Int) : Int := if kind = 65 ∧ r = 35 then 163 else if kind = 48 ∧ r = 95 then 32 else if kind = 48 ∧ 96 ≤ r ∧ r ≤ 126 then drawnL.getD (r - 96).toNat 0 else r

theorem kind_cases (kind r : Int) : (kind = 65 ∧ r = 35) ∨ (kind = 65 ∧ ((r : Int) == 35) = false ∧ ¬ r = 35) ∨ (kind = 48 ∧ r = 95) ∨ (kind = 48 ∧ ((r : Int) == 95) = false ∧ 96 ≤ r ∧ r ≤ 126) ∨
    (kind = 48 ∧ ((r : Int) == 95) = false ∧ ¬ 96 ≤ r) ∨ (kind = 48 ∧ ((r : Int) == 95) = false ∧ 96 ≤ r ∧ ¬ r ≤ 126) ∨ (((kind : Int) == 65) = false ∧ ((kind : Int) == 48) = false) := by
  simp only [beq_eq_false_iff_ne]
  omega

set_option maxHeartbeats 2000000 in
theorem shown_any (kind r : Int) (w : World) (h0 : -2147483648 ≤ r) (h1 : r ≤ 2147483647) :
    Calls Try.prog 23 #[.int .i64 kind, .int .i32 r] w fun e w' => e = .returned (.int .i32 (shownF kind r)) ∧ Below w.heap.size w w' := by
  obtain ⟨v, hv⟩ : ∃ v, v = shownF kind r := ⟨_, rfl⟩
  rw [← hv]
  rcases kind_cases kind r with ⟨rfl, rfl⟩ | ⟨rfl, q1, q2⟩ | ⟨rfl, rfl⟩ | ⟨rfl, q1, q2, q3⟩ | ⟨rfl, q1, q2⟩ | ⟨rfl, q1, q2, q3⟩ | ⟨q1, q2⟩
  · obtain rfl : v = 163 := by rw [hv]; simp [shownF]
    clear hv
    go_enter Try.func23, Try.ntmps23
    go_wp2_with fail
    go_ret
    exact ⟨rfl, Below.refl _ _⟩
  · obtain rfl : v = r := by rw [hv]; simp [shownF, q2]
    clear hv
    go_enter Try.func23, Try.ntmps23
    go_wp2_with fail
    go_ret
    exact ⟨rfl, Below.refl _ _⟩
  · obtain rfl : v = 32 := by rw [hv]; simp [shownF]
    clear hv
    go_enter Try.func23, Try.ntmps23
    go_wp2_with fail
    go_ret
    exact ⟨rfl, Below.refl _ _⟩
  · have e : v = drawnL.getD (r - 96).toNat 0 := by rw [hv]; simp [shownF, q2, q3]; intro h; simp [h] at q1
    have E := hide e
    have hat := fun w => drawn_at (r - 96) (by omega) (by omega) w
    rw [← e] at hat
    clear hv e
    go_enter Try.func23, Try.ntmps23
    go_wp2_with (go_at_call 27; go_must (refine (drawn_any _).mono ?_; rintro e w' ⟨rfl, hb⟩))
    go_ret
    exact ⟨rfl, hb⟩
  · obtain rfl : v = r := by rw [hv]; unfold shownF; rw [if_neg (by omega), if_neg (by simp at q1; omega), if_neg (by omega)]
    clear hv
    go_enter Try.func23, Try.ntmps23
    go_wp2_with fail
    go_ret
    exact ⟨rfl, Below.refl _ _⟩
  · obtain rfl : v = r := by rw [hv]; unfold shownF; rw [if_neg (by omega), if_neg (by simp at q1; omega), if_neg (by omega)]
    clear hv
    go_enter Try.func23, Try.ntmps23
    go_wp2_with fail
    go_ret
    exact ⟨rfl, Below.refl _ _⟩
  · obtain rfl : v = r := by rw [hv]; simp at q1 q2; simp [shownF, q1, q2]
    clear hv
    go_enter Try.func23, Try.ntmps23
    go_wp2_with fail
    go_ret
    exact ⟨rfl, Below.refl _ _⟩

set_option maxHeartbeats 2000000 in
theorem prints_any (kind r : Int) (w : World) (h0 : -2147483648 ≤ r) (h1 : r ≤ 2147483647) :
    Calls Try.prog 22 #[.int .i64 kind, .int .i32 r] w fun e w' => e = .returned (.int .i32 (shownF kind r)) ∧ Below w.heap.size w w' := by
  obtain ⟨v, hv⟩ : ∃ v, v = shownF kind r := ⟨_, rfl⟩
  rw [← hv]
  rcases kind_cases kind r with ⟨rfl, rfl⟩ | ⟨rfl, q1, q2⟩ | ⟨rfl, rfl⟩ | ⟨rfl, q1, q2, q3⟩ | ⟨rfl, q1, q2⟩ | ⟨rfl, q1, q2, q3⟩ | ⟨q1, q2⟩
  · obtain rfl : v = 163 := by rw [hv]; simp [shownF]
    clear hv
    go_enter Try.func22, Try.ntmps22
    go_wp2_with fail
    go_ret
    exact ⟨rfl, Below.refl _ _⟩
  · obtain rfl : v = r := by rw [hv]; simp [shownF, q2]
    clear hv
    go_enter Try.func22, Try.ntmps22
    go_wp2_with fail
    go_ret
    exact ⟨rfl, Below.refl _ _⟩
  · obtain rfl : v = 32 := by rw [hv]; simp [shownF]
    clear hv
    go_enter Try.func22, Try.ntmps22
    go_wp2_with fail
    go_ret
    exact ⟨rfl, Below.refl _ _⟩
  · have e : v = drawnL.getD (r - 96).toNat 0 := by rw [hv]; unfold shownF; rw [if_neg (by omega), if_neg (by simp at q1; omega), if_pos (by omega)]
    have E := hide e
    obtain ⟨k, hk⟩ : ∃ k : Nat, r = 96 + k := ⟨(r - 96).toNat, by omega⟩
    subst hk
    have ek : (96 + (k : Int) - 96).toNat = k := by omega
    rw [ek] at e
    have hs : drawnV[k]? = some (.int .i32 v) := by
      rw [e]
      exact drawnV_get k (by omega)
    have Hs := hide hs
    have hk1 : k < 31 := by omega
    have p1 : decide ((96 : Int) ≤ 96 + (k : Int)) = true := decide_eq_true (by omega)
    have p2 : decide (96 + (k : Int) ≤ 126) = true := decide_eq_true (by omega)
    clear hv e hs ek q2 q3
    go_enter Try.func22, Try.ntmps22
    go_wp2_with (go_at_call 26; go_must (refine (lines_any _).mono ?_; rintro e w' ⟨rfl, hg, hb⟩; have hc := (hg.cell k).trans Hs.out))
    go_ret
    exact ⟨rfl, hb⟩
  · obtain rfl : v = r := by rw [hv]; unfold shownF; rw [if_neg (by omega), if_neg (by simp at q1; omega), if_neg (by omega)]
    clear hv
    go_enter Try.func22, Try.ntmps22
    go_wp2_with fail
    go_ret
    exact ⟨rfl, Below.refl _ _⟩
  · obtain rfl : v = r := by rw [hv]; unfold shownF; rw [if_neg (by omega), if_neg (by simp at q1; omega), if_neg (by omega)]
    clear hv
    go_enter Try.func22, Try.ntmps22
    go_wp2_with fail
    go_ret
    exact ⟨rfl, Below.refl _ _⟩
  · obtain rfl : v = r := by rw [hv]; simp at q1 q2; simp [shownF, q1, q2]
    clear hv
    go_enter Try.func22, Try.ntmps22
    go_wp2_with fail
    go_ret
    exact ⟨rfl, Below.refl _ _⟩

/-- The place of the set that a text names. -/
def placeF (l : List UInt8) : Int := if l = [40] then 0 else if l = [41] then 1 else if l = [42] then 2 else if l = [43] then 3 else -1
theorem text_cases (l : List UInt8) : l = [40] ∨ l = [41] ∨ l = [42] ∨ l = [43] ∨ ((l == [40]) = false ∧ (l == [41]) = false ∧ (l == [42]) = false ∧ (l == [43]) = false) := by
  by_cases h0 : l = [40]
  · exact .inl h0
  · by_cases h1 : l = [41]
    · exact .inr (.inl h1)
    · by_cases h2 : l = [42]
      · exact .inr (.inr (.inl h2))
      · by_cases h3 : l = [43]
        · exact .inr (.inr (.inr (.inl h3)))
        · exact .inr (.inr (.inr (.inr (by simp [h0, h1, h2, h3]))))
set_option maxHeartbeats 2000000 in
theorem place_any (s : ByteArray) (w : World) : Calls Try.prog 25 #[.string s] w fun e w' => e = .returned (.int .i64 (placeF s.toList)) ∧ w' = w := by
  obtain ⟨v, hv⟩ : ∃ v, v = placeF s.toList := ⟨_, rfl⟩
  rw [← hv]
  rcases text_cases s.toList with h | h | h | h | ⟨h0, h1, h2, h3⟩
  · obtain rfl : v = 0 := by rw [hv, h]; rfl
    clear hv
    go_enter Try.func25, Try.ntmps25
    go_wp2_with fail
    go_ret
    exact ⟨rfl, rfl⟩
  · obtain rfl : v = 1 := by rw [hv, h]; rfl
    clear hv
    go_enter Try.func25, Try.ntmps25
    go_wp2_with fail
    go_ret
    exact ⟨rfl, rfl⟩
  · obtain rfl : v = 2 := by rw [hv, h]; rfl
    clear hv
    go_enter Try.func25, Try.ntmps25
    go_wp2_with fail
    go_ret
    exact ⟨rfl, rfl⟩
  · obtain rfl : v = 3 := by rw [hv, h]; rfl
    clear hv
    go_enter Try.func25, Try.ntmps25
    go_wp2_with fail
    go_ret
    exact ⟨rfl, rfl⟩
  · obtain rfl : v = -1 := by rw [hv]; simp at h0 h1 h2 h3; simp [placeF, h0, h1, h2, h3]
    clear hv
    go_enter Try.func25, Try.ntmps25
    go_wp2_with fail
    go_ret
    exact ⟨rfl, rfl⟩
end Go.Proofs.Ytbacobajmmkjeaa
