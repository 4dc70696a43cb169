/-
  The document's Same of numbers, of groups, of events walked. No condition but bounds.
-/
import Derived.Test.YthbjjhoajecpcaaEv
import Derived.Deep.QuietTactic
namespace Go.Proofs.Ythbjjhoajecpcaa
open Go.RowKit Go.Proofs
set_option linter.unusedVariables false
theorem ints_cell {w : World} {A : Option Addr} {n c : Nat} {l : List Int} (h : IntsAt w (.slice A n c) l) : n = l.length ∧ ∀ k, k < n → ∃ g x, A = some ⟨g, 0, none⟩ ∧ l[k]? = some x ∧ w.cell? ⟨g, k, none⟩ = some (.int .i64 x) := by
  obtain ⟨A', c', e, h⟩ := h
  injection e with e1 e2 e3
  subst e1 e2 e3
  refine ⟨rfl, fun k hk => ?_⟩
  obtain ⟨g, cs, rfl, hb, hc⟩ := h (by rintro rfl; simp at hk)
  have hx : l[k]? = some l[k] := List.getElem?_eq_getElem hk
  exact ⟨g, l[k], rfl, hx, by rw [hb.cell k]; exact hc k _ hx⟩
set_option maxHeartbeats 2000000 in
theorem rints_any (A A' : Option Addr) (n n' c c' : Nat) (l l' : List Int) (w : World) (h : IntsAt w (.slice A n c) l) (h' : IntsAt w (.slice A' n' c') l') (hn : n ≤ 100000) (hn' : n' ≤ 100000) :
    Calls Try.prog 43 #[.slice A n c, .slice A' n' c'] w fun e w' => e = .returned (.bool (l == l')) ∧ ∃ q, w' = w.drewN q := by
  obtain ⟨e1, g1⟩ := ints_cell h
  obtain ⟨e2, g2⟩ := ints_cell h'
  by_cases hnn : n = n'
  · subst hnn
    have G1 := hide g1
    have G2 := hide g2
    have E1 := hide e1
    have E2 := hide e2
    clear h h' g1 g2 e1 e2
    go_enter Try.func43, Try.ntmps43
    go_wp2
    go_loopg [5] n (fun g s5 wr => ∃ k : Nat, k + g = n ∧ s5 = .int .i64 k ∧ Hid (l.take k = l'.take k) ∧ Hid (∃ q, wr = w.drewN q))
    case atStart => exact ⟨0, by omega, rfl, rfl, ⟨0, rfl⟩⟩
    case round =>
      obtain ⟨k, hk, rfl, HT, HQ⟩ := hrel
      obtain ⟨q, hq⟩ := HQ.out
      by_cases hlt : k < n
      · obtain ⟨a, x, rfl, hx, c1⟩ := G1.out k hlt
        obtain ⟨b, y, rfl, hy, c2⟩ := G2.out k hlt
        have d1 : wr.cell? ⟨a, k, none⟩ = some (.int .i64 x) := by rw [hq]; exact c1
        have d2 : wr.cell? ⟨b, k, none⟩ = some (.int .i64 y) := by rw [hq]; exact c2
        have HX := hide hx
        have HY := hide hy
        have HQ2 := hide hq
        clear hx hy hq c1 c2
        by_cases hxy : x = y
        · subst hxy
          have b0 : (x != x) = false := by simp
          go_wp2_with fail
          go_quiet (fail)
          go_wp2_with fail
          go_roundg (n - (k + 1))
          case measure => omega
          case rel => exact ⟨k + 1, by omega, by first | rfl | simp, take_succ_same HT.out HX.out HY.out, ⟨q + nq, by rw [HQ2.out, World.drewN_drewN]⟩⟩
        · have b0 : (x != y) = true := by simpa using hxy
          have b1 : (x == y) = false := by simpa using hxy
          have HF := hide (ne_of_at HX.out HY.out b1)
          go_wp2_with fail
          go_quiet (fail)
          go_wp2_with fail
          go_ret
          rw [HF.out]
          exact ⟨rfl, q + nq, by rw [HQ2.out, World.drewN_drewN]⟩
      · have HF := hide (eq_of_takes HT.out (by rw [← E1.out]; omega) (by rw [← E2.out]; omega))
        have HQ2 := hide hq
        clear hq
        go_wp2_with fail
        go_ret
        rw [HF.out]
        exact ⟨rfl, q, HQ2.out⟩
  · have HF := hide (ne_of_len (xs := l) (ys := l') (by omega))
    have b0 : ((n : Int) != (n' : Int)) = true := by rw [bne_iff_ne]; omega
    clear h h' g1 g2 e1 e2
    go_enter Try.func43, Try.ntmps43
    go_wp2
    go_ret
    rw [HF.out]
    exact ⟨rfl, 0, rfl⟩
theorem nums_cell {w : World} {A : Option Addr} {n c : Nat} {l : List (List Int)} (h : NumsAt w (.slice A n c) l) : n = l.length ∧ ∀ k, k < n → ∃ g B m d x, A = some ⟨g, 0, none⟩ ∧ l[k]? = some x ∧ w.cell? ⟨g, k, none⟩ = some (.slice B m d) ∧ IntsAt w (.slice B m d) x ∧ m = x.length := by
  obtain ⟨A', c', e, h⟩ := h
  injection e with e1 e2 e3
  subst e1 e2 e3
  refine ⟨rfl, fun k hk => ?_⟩
  obtain ⟨g, cs, rfl, hb, hc⟩ := h (by rintro rfl; simp at hk)
  have hx : l[k]? = some l[k] := List.getElem?_eq_getElem hk
  obtain ⟨u, h1, h2⟩ := hc k _ hx
  obtain ⟨B, d, rfl, h3⟩ := id h2
  exact ⟨g, B, _, d, l[k], rfl, hx, by rw [hb.cell k]; exact h1, h2, rfl⟩
/-- Few groups, short ones. -/
def Few (l : List (List Int)) : Prop := l.length ≤ 1000 ∧ ∀ x ∈ l, x.length ≤ 1000
set_option maxHeartbeats 2000000 in
theorem rnums_any (A A' : Option Addr) (n n' c c' : Nat) (l l' : List (List Int)) (w : World) (h : NumsAt w (.slice A n c) l) (h' : NumsAt w (.slice A' n' c') l') (hn : Few l) (hn' : Few l') :
    Calls Try.prog 30 #[.slice A n c, .slice A' n' c'] w fun e w' => e = .returned (.bool (l == l')) ∧ ∃ q, w' = w.drewN q := by
  obtain ⟨e1, g1⟩ := nums_cell h
  obtain ⟨e2, g2⟩ := nums_cell h'
  have hl1 := hn.1
  have hl2 := hn'.1
  by_cases hnn : n = n'
  · subst hnn
    have G1 := hide g1
    have G2 := hide g2
    have E1 := hide e1
    have E2 := hide e2
    have F1 := hide hn
    have F2 := hide hn'
    have hn9 : n ≤ 1000 := by omega
    clear h h' g1 g2 e1 e2 hn hn' hl1 hl2
    go_enter Try.func30, Try.ntmps30
    go_wp2
    go_loopg [5] n (fun g s5 wr => ∃ k : Nat, k + g = n ∧ s5 = .int .i64 k ∧ Hid (l.take k = l'.take k) ∧ Hid (∃ q, wr = w.drewN q))
    case atStart => exact ⟨0, by omega, rfl, rfl, ⟨0, rfl⟩⟩
    case round =>
      obtain ⟨k, hk, rfl, HT, HQ⟩ := hrel
      obtain ⟨q, hq⟩ := HQ.out
      by_cases hlt : k < n
      · obtain ⟨a, B1, m1, s1, x, rfl, hx, c1, i1, j1⟩ := G1.out k hlt
        obtain ⟨b, B2, m2, s2, y, rfl, hy, c2, i2, j2⟩ := G2.out k hlt
        have d1 : wr.cell? ⟨a, k, none⟩ = some (.slice B1 m1 s1) := by rw [hq]; exact c1
        have d2 : wr.cell? ⟨b, k, none⟩ = some (.slice B2 m2 s2) := by rw [hq]; exact c2
        have hx9 := F1.out.2 x (List.mem_of_getElem? hx)
        have hy9 := F2.out.2 y (List.mem_of_getElem? hy)
        have IA := hide (fun qq => rints_any B1 B2 m1 m2 s1 s2 x y (wr.drewN qq) (i1.keep (fun g t cs _ hb => by rw [hq]; exact (hb.drewN q).drewN qq)) (i2.keep (fun g t cs _ hb => by rw [hq]; exact (hb.drewN q).drewN qq)) (by omega) (by omega))
        have HX := hide hx
        have HY := hide hy
        have HQ2 := hide hq
        clear hx hy hq c1 c2 i1 i2 j1 j2 hx9 hy9
        cases hxy : (x == y) with
        | true =>
          rw [hxy] at IA
          have hxy2 : x = y := by simpa using hxy
          have HT2 := hide (show l.take (k + 1) = l'.take (k + 1) from take_succ_same HT.out HX.out (by rw [hxy2]; exact HY.out))
          clear hxy hxy2
          go_wp2_with fail
          go_quiet ((go_at_call 43; exact Calls.quiet_of (IA.out _)))
          go_wp2_with fail
          go_roundg (n - (k + 1))
          case measure => omega
          case rel => exact ⟨k + 1, by omega, by first | rfl | simp, HT2.out, ⟨q + nq, by rw [HQ2.out, World.drewN_drewN]⟩⟩
        | false =>
          rw [hxy] at IA
          have HF := hide (ne_of_at HX.out HY.out hxy)
          clear hxy
          go_wp2_with fail
          go_quiet ((go_at_call 43; exact Calls.quiet_of (IA.out _)))
          go_wp2_with fail
          go_ret
          rw [HF.out]
          exact ⟨rfl, q + nq, by rw [HQ2.out, World.drewN_drewN]⟩
      · have HF := hide (eq_of_takes HT.out (by rw [← E1.out]; omega) (by rw [← E2.out]; omega))
        have HQ2 := hide hq
        clear hq
        go_wp2_with fail
        go_ret
        rw [HF.out]
        exact ⟨rfl, q, HQ2.out⟩
  · have HF := hide (ne_of_len (xs := l) (ys := l') (by omega))
    have b0 : ((n : Int) != (n' : Int)) = true := by rw [bne_iff_ne]; omega
    clear h h' g1 g2 e1 e2
    go_enter Try.func30, Try.ntmps30
    go_wp2
    go_ret
    rw [HF.out]
    exact ⟨rfl, 0, rfl⟩
end Go.Proofs.Ythbjjhoajecpcaa
