/-
  ParseNone walked: which payloads may be; of a parser that isn't there nothing comes. No condition.
-/
import Derived.Test.YthbjjhoajecpcaaLawA
import Derived.Test.YthbjjhoajecpcaaCopy
namespace Go.Proofs.Ythbjjhoajecpcaa
open Go.RowKit Go.Proofs
set_option linter.unusedVariables false
/-- All, of a parser that isn't there. -/
def NoneS (w0 : World) (v : Value) (w : World) : Prop := w.ownsRow w0.heap.size 41 8 v 0 [] ∧ Below w0.heap.size w0 w
theorem none_form {w0 w : World} {v : Value} (h : NoneS w0 v w) : ∃ A c, v = .slice A 0 c := own_slice h.1
set_option maxHeartbeats 2000000 in
theorem each_none (n c : Nat) (A : Option Addr) (l : List Int) (w : World) (hr : Rd w w.heap.size 1 A n (l.map b8)) (hn : n ≤ 1000) :
    Calls Try.prog 31 #[.slice A n c, .func (.func 12) #[.pointer none] #[]] w fun e w' => ∃ A' c', e = .returned (.slice A' 0 c') ∧ Below w.heap.size w w' := by
  have HR := hide hr
  have ST := hide (fun (c : Int) (W : World) => pstep_none c W)
  clear hr
  go_enter Try.func31, Try.ntmps31
  go_wp2
  go_loopg [5, 10] n (fun g s5 s10 wr => ∃ (k : Nat), k + g = n ∧ s10 = .int .i64 k ∧ Hid (NoneS w s5 wr))
  case atStart => exact ⟨0, by omega, rfl, World.ownsRow_nil _ _ _ _, Below.refl _ _⟩
  case round =>
    obtain ⟨k, hk, rfl, HE⟩ := hrel
    obtain ⟨Ae, ce, rfl⟩ := none_form HE.out
    by_cases hlt : k < n
    · obtain ⟨b1, off, x, rfl, hb1, hx, cx⟩ := (HR.out).at1 hlt
      have cx1 := (HE.out.2.cell (p := ⟨b1, off + k, none⟩) hb1).trans cx
      clear hx cx
      go_wp2_with (first
        | (go_at_call 12; go_must (refine (ST.out _ _).mono ?_; rintro e w1 ⟨rfl, hw1⟩; obtain rfl := hw1.symm))
        | (at_builtin; go_must (refine wpList_appends Try.sl27 rfl _ _ rfl w.heap.size (.slice Ae 0 ce) 0 [] wr 0 none 0 0 [] rfl rfl HE.out.1 ⟨rfl, fun h => absurd h (Nat.lt_irrefl 0)⟩ (fun u hu => by cases hu) (by simp only [maxLen]; omega) (by omega) HE.out.2.size ?_; intro A3 c3 w3 app; have E3 := hide (show NoneS w (.slice A3 0 c3) w3 from ⟨app.own, app.below HE.out.1 HE.out.2 (Nat.le_refl _) HE.out.2.size⟩); clear app)))
      go_roundg (n - (k + 1))
      case measure => omega
      case rel => exact ⟨k + 1, by omega, by go_num, E3.out⟩
    · go_wp2
      go_ret
      exact ⟨Ae, ce, rfl, HE.out.2⟩
set_option maxHeartbeats 1000000 in
theorem all_none (n c : Nat) (A : Option Addr) (l : List Int) (w : World) (hr : Rd w w.heap.size 1 A n (l.map b8)) (hn : n ≤ 1000) :
    Calls Try.prog 16 #[.pointer none, .slice A n c] w fun e w' => ∃ A' c', e = .returned (.slice A' 0 c') ∧ Below w.heap.size w w' := by
  have EA := hide (each_none n c A l w hr hn)
  have mf := hmf
  clear hr
  go_enter Try.func16, Try.ntmps16
  go_wp2_with (go_at_call 31; go_must (refine EA.out.mono ?_; rintro e w1 ⟨A, cc, rfl, hb⟩; have hb := hide hb))
  go_ret
  exact ⟨A, cc, rfl, hb.out⟩
set_option maxRecDepth 100000 in
set_option maxHeartbeats 8000000 in
theorem parseNone_walk (w : World) (p : Int) (wp_ : (Lit.int .i64 p).wf = true) (a : Int) (wa : (Lit.int .u8 a).wf = true) :
    Calls Try.prog 9 #[.int .i64 p, .int .u8 a] w fun e w' => e = .returned (.bool true) ∧ Below w.heap.size w w' := by
  have AW := hide awake_any
  have SN := hide (fun (c : Int) (W : World) => pstep_none c W)
  have AN := hide (fun (n c : Nat) (A : Option Addr) (l : List Int) (W : World) (hr : Rd W W.heap.size 1 A n (l.map b8)) (hn : n ≤ 1000) => all_none n c A l W hr hn)
  have ST := hide state_none
  have HD := hide held_none
  have CP := hide copy_none
  have RD := hide (fun (W : World) => (show Rd (W.alloc (.cells #[.int .u8 a] 5)) (W.alloc (.cells #[.int .u8 a] 5)).heap.size 1 (some ⟨W.heap.size, 0, none⟩) 1 ([a].map b8) from by have := rd_built b8 [a] W 5; simpa [b8] using this))
  have cs : (p < 1 ∨ 65536 < p) ∨ (1 ≤ p ∧ p ≤ 65536) := by omega
  rcases cs with hp | ⟨hp1, hp2⟩
  · have NB := hide (new_bad p w hp)
    have cs2 : (p < 1 ∧ decide (p < 1) = true) ∨ (decide (p < 1) = false ∧ decide (65536 < p) = true) := by
      by_cases h : p < 1
      · exact .inl ⟨h, by simpa using h⟩
      · exact .inr ⟨by simpa using h, by simp; omega⟩
    clear hp
    rcases cs2 with ⟨h0, h1⟩ | ⟨h1, h2⟩
    all_goals
      go_enter Try.func9, Try.ntmps9
      go_wp2_with (first
        | (go_at_call 19; go_must (refine NB.out.mono ?_; rintro e w1 ⟨rfl, hw1⟩; obtain rfl := hw1.symm))
        | (go_at_call 12; go_must (refine (SN.out _ _).mono ?_; rintro e w2 ⟨rfl, hw2⟩; obtain rfl := hw2.symm))
        | (go_at_call 16; go_must (refine (AN.out 1 1 _ [a] _ (RD.out _) (by omega)).mono ?_; rintro e w3 ⟨A3, c3, rfl, b3⟩; have B3 := hide b3; clear b3))
        | (go_at_call 17; go_must (refine (ST.out _).mono ?_; rintro e w4 ⟨rfl, hw4⟩; obtain rfl := hw4.symm))
        | (go_at_call 13; go_must (refine (HD.out _).mono ?_; rintro e w4 ⟨rfl, hw4⟩; obtain rfl := hw4.symm))
        | (go_at_call 18; go_must (refine (CP.out _).mono ?_; rintro e w4 ⟨rfl, hw4⟩; obtain rfl := hw4.symm))
        | (go_at_call 10; go_must (refine (AW.out _).mono ?_; rintro e w5 ⟨rfl, b5⟩; have B5 := hide b5; clear b5)))
      go_ret
      exact ⟨rfl, below_in (below_in (Below.refl _ w) (((Below.refl _ w).alloc (Nat.le_refl _) _).trans (B3.out.mono (by simp))) (Nat.le_refl _)) B5.out (Nat.le_refl _)⟩
  · obtain ⟨q, rfl⟩ : ∃ q : Nat, p = q := ⟨p.toNat, by omega⟩
    have NW := hide (new_any q w (by omega) (by omega))
    have h1 : decide ((q : Int) < 1) = false := decide_eq_false (by omega)
    have h2 : decide ((65536 : Int) < q) = false := decide_eq_false (by omega)
    have h3 : decide (65536 < q) = false := decide_eq_false (by omega)
    have h4 : ¬ q = 0 := by omega
    have h5 : decide (q < 1) = false := decide_eq_false (by omega)
    have ST1 := hide (fun (W : World) (P : Nat) (hW : PIn W P (newM q) R0) => (show Calls Try.prog 17 #[.pointer (some ⟨P, 0, none⟩)] W fun e w' => e = .returned (.int .i64 0) ∧ w' = W from state_any P (newM q) R0 W hW))
    have HD1 := hide (fun (W : World) (P : Nat) (hW : PIn W P (newM q) R0) => (show Calls Try.prog 13 #[.pointer (some ⟨P, 0, none⟩)] W fun e w' => e = .returned (.int .i64 0) ∧ ∃ k, w' = W.drewN k from held_any P (newM q) R0 W hW (by simp [newM]) (by simp [newM]) (by simp [newM])))
    go_enter Try.func9, Try.ntmps9
    go_wp2_with (first
      | (go_at_call 19; go_must (refine NW.out.mono ?_; rintro e w1 ⟨P, _, rfl, hP, hb⟩; have HP := hide hP; have B1 := hide hb; clear hP hb))
      | (go_at_call_of 17 P; go_must (refine (ST1.out _ _ HP.out).mono ?_; rintro e w2 ⟨rfl, hw2⟩; obtain rfl := hw2.symm))
      | (go_at_call_of 13 P; go_must (refine (HD1.out _ _ HP.out).mono ?_; rintro e w3 ⟨rfl, k3, hw3⟩; have B3 := hide (below_drewN' B1.out k3); rw [← hw3] at B3; clear hw3))
      | (go_at_call 12; go_must (refine (SN.out _ _).mono ?_; rintro e w4 ⟨rfl, hw4⟩; obtain rfl := hw4.symm))
      | (go_at_call 16; go_must (refine (AN.out 1 1 _ [a] _ (RD.out _) (by omega)).mono ?_; rintro e w5 ⟨A5, c5, rfl, b5⟩; have B5 := hide b5; clear b5))
      | (go_at_call 17; go_must (refine (ST.out _).mono ?_; rintro e w6 ⟨rfl, hw6⟩; obtain rfl := hw6.symm))
      | (go_at_call 13; go_must (refine (HD.out _).mono ?_; rintro e w6 ⟨rfl, hw6⟩; obtain rfl := hw6.symm))
      | (go_at_call 18; go_must (refine (CP.out _).mono ?_; rintro e w6 ⟨rfl, hw6⟩; obtain rfl := hw6.symm))
      | (go_at_call 10; go_must (refine (AW.out _).mono ?_; rintro e w7 ⟨rfl, b7⟩; have B7 := hide b7; clear b7)))
    go_ret
    exact ⟨rfl, below_in (below_in B3.out (((Below.refl _ _).alloc (Nat.le_refl _) _).trans (B5.out.mono (by simp))) (Nat.le_refl _)) B7.out (Nat.le_refl _)⟩
end Go.Proofs.Ythbjjhoajecpcaa
