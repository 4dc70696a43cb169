/-
  The document's Mark, walked. No condition but bounds.
-/
import Derived.Test.YtoaeadjihpbhgaaRerase
import Derived.Test.YtoaeadjihpbhgaaPutR
import Derived.Test.YtoaeadjihpbhgaaIs
namespace Go.Proofs.Ytoaeadjihpbhgaa
open Go.RowKit Go.Proofs
set_option linter.unusedVariables false
/-- What is mended stays as it is. -/
theorem mend_mend : ∀ l : List Cell, mendF (mendF l) = mendF l
  | [] => rfl
  | [c] => by
    rw [mendF]
    split
    · rename_i h; rw [mendF, if_pos h]
    · rw [mendF, if_pos (.inl rfl)]
  | c :: d :: l => by
    rw [mendF]
    split
    · rename_i h; rw [mend_plain h, mend_mend (d :: l)]
    · split
      · rename_i h; rw [mend_pair h, mend_mend l]
      · rw [mend_plain (c := emptyC c.a) rfl, mend_mend (d :: l)]
def mkF (X : Nat) (h : Int) (M : ByteArray) (i : Nat) (c : Cell) : Cell := if i = X ∨ (i = X + 1 ∧ h = 1) ∨ (i + 1 = X ∧ h = 2) then { c with more := M } else c
theorem mkF_half (X : Nat) (h : Int) (M : ByteArray) (i : Nat) (c : Cell) : (mkF X h M i c).half = c.half := by unfold mkF; split <;> rfl
theorem setMore_get (k i : Nat) (M : ByteArray) (m : List Cell) : (setMore k M m)[i]? = (m[i]?).map (fun c => if k = i then { c with more := M } else c) := by
  unfold setMore; rw [List.getElem?_modify]; cases m[i]? <;> rfl
theorem mark_map (X : Nat) (u : Cell) (M : ByteArray) (m : List Cell) (hh : u.half = 2 → 1 ≤ X) :
    mapK (mkF X u.half M) m.length m = setMore X M (if u.half = 1 then setMore (X + 1) M m else if u.half = 2 then setMore (X - 1) M m else m) := by
  apply List.ext_getElem?
  intro i
  rw [mapK_at, setMore_get]
  rcases Nat.lt_or_ge i m.length with hi | hi
  · by_cases h1 : u.half = 1
    · rw [if_pos h1, setMore_get, List.getElem?_eq_getElem hi]
      simp only [Option.map_some, hi, if_true]
      unfold mkF
      by_cases hx : X = i
      · simp [hx]
      · by_cases hx1 : X + 1 = i
        · subst hx1; simp [h1]
        · simp [hx1, hx, h1, show ¬ i = X by omega, show ¬ i = X + 1 by omega]
    · rw [if_neg h1]
      by_cases h2 : u.half = 2
      · have := hh h2
        rw [if_pos h2, setMore_get, List.getElem?_eq_getElem hi]
        simp only [Option.map_some, hi, if_true]
        unfold mkF
        by_cases hx : X = i
        · simp [hx, show ¬ i - 1 = i by omega]
        · by_cases hx1 : X - 1 = i
          · simp [hx1, hx, h2, show i + 1 = X by omega]
          · simp [hx1, hx, h2, show ¬ i = X by omega, show ¬ i + 1 = X by omega]
      · rw [if_neg h2, List.getElem?_eq_getElem hi]
        simp only [Option.map_some, hi, if_true]
        unfold mkF
        by_cases hx : X = i
        · simp [hx]
        · simp [hx, h1, h2, show ¬ i = X by omega]
  · by_cases h1 : u.half = 1
    · rw [if_pos h1, setMore_get, List.getElem?_eq_none hi]; rfl
    · by_cases h2 : u.half = 2
      · rw [if_neg h1, if_pos h2, setMore_get, List.getElem?_eq_none hi]; rfl
      · rw [if_neg h1, if_neg h2, List.getElem?_eq_none hi]; rfl
theorem marked_no {l : List Cell} {x r : Int} (h : markIn x r (mendF l) = mendF l) : mendF (markIn x r (mendF l)) = mendF l := by rw [h, mend_mend]
set_option maxRecDepth 100000 in
set_option maxHeartbeats 4000000 in
theorem rmark_no (l : List Cell) (n c B : Nat) (A : Option Addr) (x r : Int) (w : World) (hl : Rd w B 8 A n (l.flatMap cellE)) (hB : B ≤ w.heap.size) (hn : n ≤ 100000)
    (hno : x < 0 ∨ (n : Int) ≤ x ∨ ∃ u, (mendF l)[x.toNat]? = some u ∧ (u.r = 0 ∨ widOf r ≠ 0)) :
    Calls Try.prog 27 #[.slice A n c, .int .i64 x, .int .i32 r] w (RetRow (mendF (markIn x r (mendF l))) n w) := by
  have M1 := hide (rmend_any l n c B A w hl hB hn)
  have hll := hl.len (E := cellE) (fun _ => rfl) (by omega)
  have hml : (mendF l).length = n := by rw [mendF_len]; exact hll
  rw [marked_no (markIn_no (by
    rcases hno with h | h | ⟨u, hu, h⟩
    · exact .inl h
    · exact .inr (.inl (by omega))
    · exact .inr (.inr ⟨u, hu, h.elim .inl (fun h => .inr (.inl h))⟩)))]
  obtain ⟨m, hm0⟩ : ∃ m, mendF l = m := ⟨_, rfl⟩
  have HM := hide (show m.length = n by rw [← hm0]; exact hml)
  rw [hm0] at M1 hno ⊢
  clear hl hll hm0 hml
  by_cases h0 : x < 0
  · have d1 : decide (x < 0) = true := by simpa using h0
    clear hno
    go_enter Try.func27, Try.ntmps27
    go_wp2_with (go_at_call 21; go_must (refine (M1.out).mono ?_; rintro e w1 ⟨A1, c1, rfl, o1, h1, b1⟩))
    go_ret
    exact ⟨A1, c1, rfl, o1, h1, b1⟩
  · obtain ⟨X, rfl⟩ : ∃ X : Nat, x = X := ⟨x.toNat, by omega⟩
    have d1 : decide ((X : Int) < 0) = false := by simp
    by_cases hX : n ≤ X
    · have d2 : decide (n ≤ X) = true := by simpa using hX
      clear hno
      go_enter Try.func27, Try.ntmps27
      go_wp2_with (go_at_call 21; go_must (refine (M1.out).mono ?_; rintro e w1 ⟨A1, c1, rfl, o1, h1, b1⟩))
      go_ret
      exact ⟨A1, c1, rfl, o1, h1, b1⟩
    · have d2 : decide (n ≤ X) = false := by simpa using hX
      have hXn : X < n := by omega
      obtain ⟨u, hu⟩ : ∃ u, m[X]? = some u := ⟨_, List.getElem?_eq_getElem (by rw [HM.out]; omega)⟩
      have hno2 : u.r = 0 ∨ widOf r ≠ 0 := by
        rcases hno with h | h | ⟨v, hv, h⟩
        · omega
        · omega
        · rw [show (X : Int).toNat = X by omega, hu] at hv; injection hv with hv; subst hv; exact h
      obtain ⟨ur, hur⟩ : ∃ ur, u.r = ur := ⟨_, rfl⟩
      obtain ⟨wd, hwd⟩ : ∃ wd, widOf r = wd := ⟨_, rfl⟩
      have OF := hide (fun W => rof_any r W)
      rw [hwd] at OF hno2
      rw [hur] at hno2
      have HU := hide hu
      have HUR := hide hur
      clear hno hwd hu hur
      by_cases hur0 : ur = 0
      · have d3 : (ur == 0) = true := by simpa using hur0
        clear hno2 hur0
        go_enter Try.func27, Try.ntmps27
        go_upto_region 2 with (go_at_call 21; go_must (refine (M1.out).mono ?_; rintro e w1 ⟨A1, c1, rfl, o1, h1, b1⟩))
        rcases own_row o1 with ⟨rfl, rfl, rfl⟩ | ⟨g, T, rfl, hb, hr, hnc, hs, hm⟩
        · omega
        · have e8 := hr.eight HU.out
          simp only [List.length_nil, Nat.zero_add] at e8
          obtain ⟨z0, _⟩ := e8
          rw [HUR.out] at z0
          have O1 := hide o1
          clear hb hr hnc hs hm o1
          go_wp2
          go_ret
          exact ⟨some ⟨g, 0, none⟩, c1, rfl, O1.out, h1, b1⟩
      · have d3 : (ur == 0) = false := by simpa using hur0
        have hw0 : ¬ wd = 0 := by rcases hno2 with h | h; exact absurd h hur0; exact h
        have d4 : (wd == 0) = false := by simpa using hw0
        have d5 : (wd != 0) = true := by simpa using hw0
        clear hno2 hur0 hw0
        go_enter Try.func27, Try.ntmps27
        go_upto_region 2 with (go_at_call 21; go_must (refine (M1.out).mono ?_; rintro e w1 ⟨A1, c1, rfl, o1, h1, b1⟩))
        rcases own_row o1 with ⟨rfl, rfl, rfl⟩ | ⟨g, T, rfl, hb, hr, hnc, hs, hm⟩
        · omega
        · have e8 := hr.eight HU.out
          simp only [List.length_nil, Nat.zero_add] at e8
          obtain ⟨z0, _⟩ := e8
          rw [HUR.out] at z0
          have O1 := hide o1
          have B1 := hide b1
          clear hb hr hnc hs hm o1 b1
          go_wp2_with (go_at_call 42; go_must (refine (OF.out _).mono ?_; rintro e w2 ⟨rfl, b2⟩; have B2 := hide b2; clear b2))
          go_ret
          exact ⟨some ⟨g, 0, none⟩, c1, rfl, own_call O1.out B2.out, h1, below_in B1.out B2.out (Nat.le_refl _)⟩
end Go.Proofs.Ytoaeadjihpbhgaa
