/-
  does of any call. No condition but bounds.
-/
import Derived.Test.YtailflbhcmgnpaaDoes4
import Derived.Test.YtailflbhcmgnpaaFrame
namespace Go.Proofs.Ytailflbhcmgnpaa
open Go.RowKit Go.Proofs
set_option linter.unusedVariables false
theorem does_any (base g m : Nat) (S : Option Nat) (v : Value) (L : List Row) (gone room : Nat) (K N : Int) (w : World) (h : Two base w g m S v L gone L gone room) (hb : base ≤ w.heap.size) (hr : room ≤ 255) (hg : gone ≤ 10000000) (hN : -9223372036854775808 ≤ N ∧ N ≤ 9223372036854775807) :
    Calls Try.prog 18 #[.pointer (some ⟨g, 0, none⟩), .pointer (some ⟨m, 0, none⟩), .agg #[.int .i64 K, .int .i64 N]] w (DoesPost base g m room gone w) := by
  by_cases k0 : K = 0
  · subst k0; exact does_pop base g m S v L gone room N w h hb hr (by omega)
  by_cases k1 : K = 1
  · subst k1; exact does_fill base g m S v L gone room N w h hb hr hg hN
  by_cases k2 : K = 2
  · subst k2
    by_cases hj : 0 ≤ N ∧ N < L.length
    · obtain ⟨j, rfl⟩ : ∃ j : Nat, N = j := ⟨N.toNat, by omega⟩
      exact does_set_in base g m S v L gone room j w h hb hr hg (by omega)
    · exact does_set_out base g m S v L gone room N w h hb hr hg (by omega)
  by_cases k3 : K = 3
  · subst k3
    by_cases hj : 0 ≤ N ∧ N < L.length
    · obtain ⟨j, rfl⟩ : ∃ j : Nat, N = j := ⟨N.toNat, by omega⟩
      exact does_at_in base g m S v L gone room j w h hb hr hg (by omega)
    · exact does_at_out base g m S v L gone room N w h hb hr hg (by omega)
  by_cases k4 : K = 4
  · subst k4; exact does_clear base g m S v L gone room N w h hb hr (by omega)
  exact does_push base g m S v L gone room K N w h hb hr (by omega) (by omega) hN
/-- The two as they begin. -/
theorem two_new (room : Nat) (w : World) (h : room ≤ 100000) : Two w.heap.size ((w.alloc (.cells (ringC none 0 room 0 0 0) 62)).alloc (.cells (refC room (.slice none 0 0) 0) 53)) w.heap.size (w.heap.size + 1) none (.slice none 0 0) [] 0 [] 0 room := by
  have hh := (held_new any room w h).at_
  refine ⟨hh.below ((Below.refl _ _).alloc (Nat.le_refl _) _), ⟨Blk.new' (by simp) _ _, [], World.ownsRow_nil _ _ _ _, rfl, fun i R hR => by simp at hR⟩, (fun s e => by cases e), Nat.le_refl _, Nat.le_succ _, (fun s e => by cases e)⟩
def opE (p : Int × Int) : List Value := [.int .i64 p.1, .int .i64 p.2]
def OpQ (p : Int × Int) : Prop := (Lit.int .i64 p.1).wf = true ∧ (Lit.int .i64 p.2).wf = true
theorem opAt {w : World} {B n : Nat} {A : Option Addr} {l : List (Int × Int)} (h : Rd w B 2 A n (l.flatMap opE)) (hq : ∀ p ∈ l, OpQ p) {k : Nat} (hk : k < n) :
    ∃ b off K N, A = some ⟨b, off, none⟩ ∧ b < B ∧ w.cell? ⟨b, off + k * 2, none⟩ = some (.int .i64 K) ∧ w.cell? ⟨b, off + k * 2 + 1, none⟩ = some (.int .i64 N) ∧ -9223372036854775808 ≤ N ∧ N ≤ 9223372036854775807 := by
  obtain ⟨b, off, p, e, hb, hx, hc⟩ := Rd.row (E := opE) (fun _ => rfl) (by omega) h hk
  have h2 := bounds_i64 (hq p (List.mem_of_getElem? hx)).2
  exact ⟨b, off, p.1, p.2, e, hb, hc 0 _ rfl, hc 1 _ rfl, by omega, by omega⟩
end Go.Proofs.Ytailflbhcmgnpaa
