/-
  The plain law of a needle's own hits; Ints of two equal rows, walked. No condition but bounds.
-/
import Derived.Test.YtkcmpddefohkeaaLawsC
namespace Go.Proofs.Ytkcmpddefohkeaa
open Go.RowKit Go.Proofs
set_option linter.unusedVariables false
theorem asc_eq : ∀ {a b : List Nat}, a.Pairwise (· < ·) → b.Pairwise (· < ·) → (∀ x, x ∈ a ↔ x ∈ b) → a = b
  | [], [], _, _, _ => rfl
  | [], y :: b, _, _, h => by have := (h y).2 (by simp); cases this
  | x :: a, [], _, _, h => by have := (h x).1 (by simp); cases this
  | x :: a, y :: b, ha, hb, h => by
    have ha' := List.pairwise_cons.1 ha
    have hb' := List.pairwise_cons.1 hb
    have hx : x = y := by
      rcases List.mem_cons.1 ((h x).1 (by simp)) with e | e
      · exact e
      · rcases List.mem_cons.1 ((h y).2 (by simp)) with e2 | e2
        · exact e2.symm
        · have h1 := hb'.1 x e
          have h2 := ha'.1 y e2
          omega
    subst hx
    congr 1
    refine asc_eq ha'.2 hb'.2 fun z => ?_
    constructor
    · intro hz
      rcases List.mem_cons.1 ((h z).1 (List.mem_cons_of_mem _ hz)) with e | e
      · have := ha'.1 z hz; omega
      · exact e
    · intro hz
      rcases List.mem_cons.1 ((h z).2 (List.mem_cons_of_mem _ hz)) with e | e
      · have := hb'.1 z hz; omega
      · exact e
/-- The places of one needle's hits. -/
def ownOf (hits : List (Nat × Nat)) (i : Nat) : List Nat := (hits.filter (fun h => h.2 == i)).map (·.1)
theorem ownOf_places (T : List Int) (L : List (List Int)) {i : Nat} (hi : i < L.length) : ownOf (hitsF T L) i = placesF T (nth L i) := by
  refine asc_eq ?_ (places_sorted _ _) fun p => ?_
  · unfold ownOf
    rw [List.pairwise_map]
    have h1 := (hitsF_sorted T L).filter (fun h => h.2 == i)
    refine h1.imp_of_mem ?_
    intro a b ha hb hab
    have h2 := (List.mem_filter.1 ha).2
    have h3 := (List.mem_filter.1 hb).2
    simp at h2 h3
    unfold hitLt at hab
    omega
  · unfold ownOf
    rw [List.mem_map, mem_places]
    constructor
    · rintro ⟨h, hh, rfl⟩
      obtain ⟨h1, h2⟩ := List.mem_filter.1 hh
      simp at h2
      subst h2
      exact (mem_hitsF.1 h1).2
    · intro hs
      exact ⟨(p, i), List.mem_filter.2 ⟨mem_hitsF.2 ⟨hi, hs⟩, by simp⟩, rfl⟩
theorem ownOf_sum (T : List Int) (L : List (List Int)) (k : Nat) : (byNeedle T L (k + 1)).length = (byNeedle T L k).length + (placesF T (nth L k)).length := by
  rw [byNeedle_succ, List.length_append, List.length_map]
theorem ownOf_all (T : List Int) (L : List (List Int)) : (byNeedle T L L.length).length = (hitsF T L).length := (byNeedle_perm T L).length_eq
set_option maxHeartbeats 1000000 in
theorem ints_same {B B' : Nat} (l : List Nat) (A A' : Option Addr) (n c d : Nat) (w : World) (ha : Rd w B 1 A n (l.map nI)) (hb : Rd w B' 1 A' n (l.map nI)) (hl : n ≤ 100000) :
    Calls Try.prog 20 #[.slice A n c, .slice A' n d] w fun e w' => e = .returned (.bool true) ∧ Below w.heap.size w w' := by
  go_enter Try.func20, Try.ntmps20
  go_wp2_with fail
  go_loopg [5] n (fun g s5 wr => ∃ k : Nat, k + g = n ∧ s5 = .int .i64 k ∧ Rd wr B 1 A n (l.map nI) ∧ Rd wr B' 1 A' n (l.map nI) ∧ Below w.heap.size w wr)
  case atStart => exact ⟨0, by omega, rfl, ha, hb, Below.refl _ _⟩
  case round =>
    clear ha hb
    obtain ⟨k, hkg, rfl, ha, hb, hw⟩ := hrel
    by_cases hlt : k < n
    · obtain ⟨b, off, x, rfl, hbB, hx, c1⟩ := ha.at1 hlt
      obtain ⟨b', off', y, rfl, hbB', hy, c1'⟩ := hb.at1 hlt
      obtain rfl : x = y := by rw [hx] at hy; injection hy
      unfold nI at c1 c1'
      clear hx hy
      go_wp2_with fail
      go_quiet (fail)
      go_wp2_with fail
      go_roundg (n - (k + 1))
      case measure => omega
      case rel => exact ⟨k + 1, by omega, by go_num, ha.drewN nq, hb.drewN nq, below_drewN' hw nq⟩
    · go_wp2_with fail
      go_ret
      exact ⟨rfl, hw⟩
end Go.Proofs.Ytkcmpddefohkeaa
