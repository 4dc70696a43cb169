/-
  Entries; a heap of entries in memory; better, Less, walked. No condition but bounds.
-/
import Derived.Test.YtndnjdocdfjmcaaMeth
namespace Go.Proofs.Ytndnjdocdfjmcaa
open Go.RowKit Go.Proofs
set_option linter.unusedVariables false
/-- A text, how often it was used, and when last. -/
structure Ent where
  text : ByteArray
  cnt : Nat
  last : Nat
deriving Inhabited, DecidableEq
def entE (e : Ent) : List Value := [.string e.text, .int .i64 e.cnt, .int .i64 e.last]
theorem entE_len (e : Ent) : (entE e).length = 3 := rfl
abbrev entA (e : Ent) : Value := .agg #[.string e.text, .int .i64 e.cnt, .int .i64 e.last]
/-- Is one better? -/
def betB (a b : Ent) : Bool := if a.cnt = b.cnt then decide (b.last < a.last) else decide (b.cnt < a.cnt)
/-- Is one worse? The heap has the worst one on top. -/
def ltE (a b : Ent) : Bool := betB b a
theorem ordE : Ord ltE := by
  refine ⟨fun a => by unfold ltE betB; simp, fun a b h => ?_, fun a b c h1 h2 => ?_⟩
  · unfold ltE betB at *
    by_cases e : b.cnt = a.cnt
    · rw [if_pos e] at h; rw [if_pos e.symm]; simp at h ⊢; omega
    · rw [if_neg e] at h; rw [if_neg (Ne.symm e)]; simp at h ⊢; omega
  · unfold ltE betB at *
    split at h1 <;> split at h2 <;> split <;> simp_all <;> omega
set_option maxHeartbeats 2000000 in
theorem better_any (a b : Ent) (w : World) : Calls Try.prog 29 #[entA a, entA b] w fun e w' => e = .returned (.bool (betB a b)) ∧ Below w.heap.size w w' := by
  obtain ⟨ta, ca, la⟩ := a
  obtain ⟨tb, cb, lb⟩ := b
  have HL := hide (show betB ⟨ta, ca, la⟩ ⟨tb, cb, lb⟩ = if ca = cb then decide (lb < la) else decide (cb < ca) from rfl)
  unfold entA
  simp only
  by_cases hc : ca = cb
  · subst hc
    have HR := hide (show betB ⟨ta, ca, la⟩ ⟨tb, ca, lb⟩ = decide (lb < la) by rw [HL.out, if_pos rfl])
    go_enter Try.func29, Try.ntmps29
    go_wp2
    go_ret
    rw [HR.out]
    exact ⟨by simp, ((Below.refl _ _).alloc (Nat.le_refl _) _).alloc (by simp) _⟩
  · have e1 : (ca == cb) = false := by simpa using hc
    have e2 : (ca != cb) = true := by simpa using hc
    have HR := hide (show betB ⟨ta, ca, la⟩ ⟨tb, cb, lb⟩ = decide (cb < ca) by rw [HL.out, if_neg hc])
    go_enter Try.func29, Try.ntmps29
    go_wp2
    go_ret
    rw [HR.out]
    exact ⟨by simp, ((Below.refl _ _).alloc (Nat.le_refl _) _).alloc (by simp) _⟩
set_option maxHeartbeats 2000000 in
theorem less_any (base : Nat) (A : Option Addr) (n c : Nat) (l : List Ent) (i j : Nat) (a b : Ent) (w : World) (ho : w.ownsRow base 31 3 (.slice A n c) n (l.flatMap entE)) (hn : n ≤ 100000) (hi : l[i]? = some a) (hj : l[j]? = some b) :
    Calls Try.prog 53 #[.slice A n c, .int .i64 i, .int .i64 j] w fun e w' => e = .returned (.bool (ltE a b)) ∧ Below w.heap.size w w' := by
  have hil := (List.getElem?_eq_some_iff.1 hi).1
  have hjl := (List.getElem?_eq_some_iff.1 hj).1
  rcases own_rowE entE_len (by omega) ho with ⟨_, _, rfl⟩ | ⟨g, T, rfl, hbg, hr, hnc, hs, hm, hln⟩
  · simp at hi
  · have a0 : w.cell? ⟨g, i * 3 + 0, none⟩ = some (.string a.text) := hr.at_ entE_len hi (i := 0) rfl
    have a1 : w.cell? ⟨g, i * 3 + 1, none⟩ = some (.int .i64 a.cnt) := hr.at_ entE_len hi (i := 1) rfl
    have a2 : w.cell? ⟨g, i * 3 + 2, none⟩ = some (.int .i64 a.last) := hr.at_ entE_len hi (i := 2) rfl
    have b0 : w.cell? ⟨g, j * 3 + 0, none⟩ = some (.string b.text) := hr.at_ entE_len hj (i := 0) rfl
    have b1 : w.cell? ⟨g, j * 3 + 1, none⟩ = some (.int .i64 b.cnt) := hr.at_ entE_len hj (i := 1) rfl
    have b2 : w.cell? ⟨g, j * 3 + 2, none⟩ = some (.int .i64 b.last) := hr.at_ entE_len hj (i := 2) rfl
    simp only [Nat.add_zero] at a0 b0
    have hin : i < n := by omega
    have hjn : j < n := by omega
    have i1 : (0 : Int) ≤ i := by omega
    have i2 : (i : Int) ≤ n := by omega
    have i3 : (0 : Int) ≤ j := by omega
    have i4 : (j : Int) ≤ n := by omega
    have BT := hide (fun (W : World) => better_any b a W)
    clear hi hj ho hil hjl hr hs hm hln
    go_enter Try.func53, Try.ntmps53
    go_wp2_with fail
    go_still_tail 8, (by kernel_rfl)
    obtain ⟨W2, hW2⟩ : ∃ W2, W2 = w.drew := ⟨_, rfl⟩
    have B2 := hide (show Below w.heap.size w W2 by rw [hW2]; exact (Below.refl _ _).drew)
    change wpList _ _ _ _ _ w.drew
    rw [← hW2]
    clear hW2
    go_wp2_with (go_at_call 29; go_must (refine (BT.out _).mono ?_; rintro e w1 ⟨rfl, b1⟩; have B1 := hide (below_in B2.out b1 (Nat.le_refl _)); clear b1))
    go_ret
    exact ⟨rfl, B1.out⟩
end Go.Proofs.Ytndnjdocdfjmcaa
