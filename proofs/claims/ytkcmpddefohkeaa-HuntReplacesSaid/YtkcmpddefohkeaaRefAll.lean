/-
  The document's All, walked. No condition but bounds.
-/
import Derived.Test.YtkcmpddefohkeaaSame
namespace Go.Proofs.Ytkcmpddefohkeaa
open Go.RowKit Go.Proofs
set_option linter.unusedVariables false
set_option maxRecDepth 100000 in
set_option maxHeartbeats 4000000 in
theorem refAll_any (t : ByteArray) (ns : List ByteArray) (A : Option Addr) (n c : Nat) (w : World) (hr : Rd w w.heap.size 1 A n (ns.map Value.string)) (h1 : t.size ≤ 400) (h2 : ∀ x ∈ ns, x.size ≤ 400) (hn : n ≤ 100) (hnc : n ≤ c) :
    Calls Try.prog 13 #[.string t, .slice A n c] w (RetSlice 33 2 ((hitsF (bytesOf plainF t) (needs ns)).flatMap hitE) w) := by
  have hln := hr.len1
  have hLn : (needs ns).length = n := by simp [needs, hln]
  obtain ⟨m, hm⟩ : ∃ m, t.size = m := ⟨_, rfl⟩
  have hTm : (bytesOf plainF t).length = m := by rw [bytesOf_len, hm]
  have HR := hide hr
  have HT := hide hTm
  have HL := hide hLn
  have ST := hide (fun (x : ByteArray) (p : Nat) (W : World) (hx : x.size ≤ 400) (hp : p ≤ 400) => stands_any t x p W h1 hx hp)
  rw [hm] at h1
  clear hr hTm hLn
  go_enter Try.func13, Try.ntmps13
  go_wp2
  go_loopg [5, 6] m (fun g s5 s6 wr => ∃ (p k : Nat) (A2 : Option Addr) (c2 : Nat), p + g = m ∧ s6 = .int .i64 p ∧ s5 = .slice A2 k c2 ∧ k ≤ p * 100 ∧ Hid (wr.ownsRow w.heap.size 33 2 (.slice A2 k c2) k ((hitsTo (bytesOf plainF t) (needs ns) p).flatMap hitE)) ∧ Hid (Below w.heap.size w wr))
  case atStart => exact ⟨0, 0, none, 0, by omega, rfl, rfl, by omega, ⟨rfl, .inl ⟨rfl, rfl⟩⟩, Below.refl _ _⟩
  case round =>
    obtain ⟨p, k, A2, c2, hpg, rfl, rfl, hk, HO, HB⟩ := hrel
    by_cases hlt : p < m
    · have hm1 : m - (p + 1) + (p + 1) = m := by omega
      go_wp2
      go_loopg [5, 7] n (fun g s5 s7 wr => ∃ (i k : Nat) (A2 : Option Addr) (c2 : Nat), i + g = n ∧ s7 = .int .i64 i ∧ s5 = .slice A2 k c2 ∧ k ≤ p * 100 + i ∧ Hid (wr.ownsRow w.heap.size 33 2 (.slice A2 k c2) k ((hitsTo (bytesOf plainF t) (needs ns) p ++ hitsAt (bytesOf plainF t) (needs ns) p i).flatMap hitE)) ∧ Hid (Below w.heap.size w wr))
      case atStart => exact ⟨0, k, A2, c2, by omega, rfl, rfl, by omega, by simpa [hitsAt] using HO, HB⟩
      case round =>
        clear HO HB hk
        obtain ⟨i, k, A2, c2, hig, rfl, rfl, hk, HO, HB⟩ := hrel
        by_cases hi : i < n
        · obtain ⟨b, off, x, rfl, hbl, hx, cx⟩ := (HR.out.below HB.out).at1 hi
          have S1 := hide (ST.out x p wr (h2 x (List.mem_of_getElem? hx)) (by omega))
          have hs := hitsAt_succ (bytesOf plainF t) (needs ns) p i
          rw [nth_needs hx] at hs
          obtain ⟨B, hB⟩ : ∃ B, standsF (bytesOf plainF t) (bytesOf plainF x) p = B := ⟨_, rfl⟩
          rw [hB] at S1 hs
          have hwr := HB.out.size
          have hk4 : k ≤ 50000 := by omega
          have z2 := hide (fun (W : World) (h : Below wr.heap.size wr W) => Nat.le_trans hwr h.size)
          clear hB hx
          cases B with
          | true =>
            rw [if_pos rfl] at hs
            have HS := hide hs
            clear hs
            go_wp2_with (first
              | (go_at_call 24; go_must (refine (S1.out).mono ?_; rintro e w1 ⟨rfl, b1⟩; have B1 := hide b1; have O1 := hide (own_call HO.out b1); have hz1 := z2.out w1 b1; clear b1))
              | (at_builtin; go_must (refine wpList_append1 Try.sl26 rfl _ _ rfl w.heap.size (.slice A2 k c2) k _ #[.int .i64 p, .int .i64 i] w1 1 rfl rfl rfl O1.out rfl (two_cell rfl rfl) (by simp only [maxLen]; omega) (by omega) hz1 ?_; intro A3 c3 w3 app)))
            go_roundg (n - (i + 1))
            case measure => omega
            case rel =>
              refine ⟨i + 1, k + 1, A3, c3, by omega, by go_num, rfl, by omega, ?_, ?_⟩
              · rw [HS.out, ← List.append_assoc]
                exact own_snocE (E := hitE) (p, i) app.own rfl
              · exact app.below (O1.out.alloc _) ((below_in HB.out B1.out (Nat.le_refl _)).alloc hz1 _) (Nat.le_refl _) (by simp; omega)
          | false =>
            rw [if_neg (by simp), List.append_nil] at hs
            have HS := hide hs
            clear hs
            go_wp2_with (go_at_call 24; go_must (refine (S1.out).mono ?_; rintro e w1 ⟨rfl, b1⟩; have B1 := hide b1; clear b1))
            go_roundg (n - (i + 1))
            case measure => omega
            case rel => exact ⟨i + 1, k, A2, c2, by omega, by go_num, rfl, by omega, by rw [HS.out]; exact own_call HO.out B1.out, below_in HB.out B1.out (Nat.le_refl _)⟩
        · obtain rfl : i = n := by omega
          have HS := hide (hitsTo_succ (bytesOf plainF t) (needs ns) p)
          rw [HL.out] at HS
          go_wp2
          go_roundg (m - (p + 1))
          case measure => omega
          case rel => exact ⟨p + 1, k, A2, c2, by omega, by go_num, rfl, by omega, by rw [HS.out]; exact HO.out, HB.out⟩
    · obtain rfl : p = m := by omega
      go_wp2
      go_ret
      have : hitsTo (bytesOf plainF t) (needs ns) p = hitsF (bytesOf plainF t) (needs ns) := by unfold hitsF; rw [HT.out]
      rw [← this]
      exact ⟨A2, k, c2, rfl, HO.out, HB.out⟩
end Go.Proofs.Ytkcmpddefohkeaa
