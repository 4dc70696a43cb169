/-
  container/heap's down, walked. No condition but bounds.
-/
import Derived.Test.YtndnjdocdfjmcaaUp
namespace Go.Proofs.Ytndnjdocdfjmcaa
open Go.RowKit Go.Proofs
set_option linter.unusedVariables false
/-- A heap in its place, changed; a bool handed back. -/
def DownPost (base H : Nat) (A : Option Addr) (n c : Nat) (l : List Ent) (w : World) (e : Ending) (w' : World) : Prop :=
  ∃ b : Bool, e = .returned (.bool b) ∧ HeapAt w' base H A n c l ∧ Frm (RB A) w w'
theorem kid_no {α : Type} {lt : α → α → Bool} {l : List α} {i n : Nat} (h : ¬ (2 * i + 2 < n ∧ ltAt lt l (2 * i + 2) (2 * i + 1) = true)) : kidF lt l i n = 2 * i + 1 := by unfold kidF; rw [if_neg h]
theorem kid_yes {α : Type} {lt : α → α → Bool} {l : List α} {i n : Nat} (h : 2 * i + 2 < n ∧ ltAt lt l (2 * i + 2) (2 * i + 1) = true) : kidF lt l i n = 2 * i + 2 := by unfold kidF; rw [if_pos h]
set_option maxRecDepth 100000 in
set_option maxHeartbeats 4000000 in
theorem down_any (base H : Nat) (A : Option Addr) (n c : Nat) (l : List Ent) (i N : Nat) (w : World) (h : HeapAt w base H A n c l) (hn : n ≤ 100000) (hi : i < n) (hN : N ≤ n) :
    Calls Try.prog 35 #[.iface 69 (.pointer (some ⟨H, 0, none⟩)), .int .i64 i, .int .i64 N] w (DownPost base H A n c (downF ltE l i N) w) := by
  have HH := hide h
  clear h
  go_enter Try.func35, Try.ntmps35
  go_wp2
  go_loopg [7] (n - i) (fun gg s wr => ∃ (k : Nat) (m : List Ent), k < n ∧ n - k ≤ gg ∧ s = .int .i64 k ∧ Hid (HeapAt wr base H A n c m) ∧ Hid (downF ltE l i N = downF ltE m k N) ∧ Hid (Frm (RB A) w wr))
  case atStart => exact ⟨i, l, hi, Nat.le_refl _, rfl, HH.out, rfl, Frm.refl _ _⟩
  case round =>
    obtain ⟨k, m, hkn, hgk, rfl, HM, HE, HK⟩ := hrel
    have hml := HM.out.len
    obtain ⟨q1, hq1⟩ : ∃ q : Nat, 2 * k + 1 = q := ⟨_, rfl⟩
    obtain ⟨q2, hq2⟩ : ∃ q : Nat, 2 * k + 2 = q := ⟨_, rfl⟩
    have hi1 : 2 * (k : Int) + 1 = q1 := by omega
    have hi2 : (q1 : Int) + 1 = q2 := by omega
    by_cases hend : N ≤ q1
    · have d1 : decide (N ≤ q1) = true := by simpa using hend
      have HS := hide (downF_stop ltE (l := m) (i := k) (n := N) (.inl (by omega)))
      clear hml hq1 hq2
      go_wp2
      go_ret
      rw [HE.out, HS.out]
      exact ⟨_, rfl, HM.out, HK.out⟩
    · have d1 : decide (N ≤ q1) = false := by simpa using hend
      have d2 : decide ((q1 : Int) < 0) = false := by simp
      obtain ⟨a, ha⟩ : ∃ a, m[k]? = some a := ⟨_, List.getElem?_eq_getElem (by omega)⟩
      obtain ⟨b1, hb1⟩ : ∃ b, m[q1]? = some b := ⟨_, List.getElem?_eq_getElem (by omega)⟩
      have LE := hide (fun (j j' : Nat) (x y : Ent) (hx : m[j]? = some x) (hy : m[j']? = some y) (W : World) (hW : HeapAt W base H A n c m) => less_any base A n c m j j' x y W hW.own hn hx hy)
      have SW := hide (fun (j : Nat) (hj : j < n) (W : World) (hW : HeapAt W base H A n c m) => swap_any base A n c m k j W hW.own hn hkn hj)
      have hmL := meth_val mLess H A n c wr HM.out.cell
      by_cases htwo : q2 < N
      · have d3 : decide (q2 < N) = true := by simpa using htwo
        obtain ⟨b2, hb2⟩ : ∃ b, m[q2]? = some b := ⟨_, List.getElem?_eq_getElem (by omega)⟩
        have lt21 := ltAt_eq ltE hb2 hb1
        have L0 := hide (LE.out q2 q1 b2 b1 hb2 hb1 wr HM.out)
        cases hc0 : ltE b2 b1 with
        | true =>
          rw [hc0] at L0 lt21
          have HKID := hide (show kidF ltE m k N = q2 by rw [← hq2]; exact kid_yes ⟨by omega, by rw [hq2, hq1]; exact lt21⟩)
          have lt1 := ltAt_eq ltE hb2 ha
          have L1 := hide (fun (W : World) (hW : HeapAt W base H A n c m) => LE.out q2 k b2 a hb2 ha W hW)
          have hqN : q2 < n := by omega
          have hkq : k < q2 := by omega
          have hkend : 2 * k + 1 < N := by omega
          cases hc : ltE b2 a with
          | false =>
            rw [hc] at L1 lt1
            have HS := hide (downF_stop ltE (l := m) (i := k) (n := N) (.inr (by rw [HKID.out]; exact lt1)))
            clear hc lt1 ha hb1 hq1 hq2 hml hb2 hc0 lt21
            go_wp2_with (first
              | (go_at_call 53; (with_reducible refine (L0.out).mono ?_); rintro e w1 ⟨rfl, c1⟩; have H1 := hide (HM.out.call c1); have hmL1 := meth_val mLess H A n c w1 H1.out.cell; have L2 := hide (L1.out w1 H1.out); have C1 := hide c1; clear c1)
              | (go_at_call 53; (with_reducible refine (L2.out).mono ?_); rintro e w2 ⟨rfl, c2⟩; have C2 := hide c2; clear c2))
            go_ret
            rw [HE.out, HS.out]
            exact ⟨_, rfl, H1.out.call C2.out, frm_call (frm_call HK.out C1.out) C2.out⟩
          | true =>
            rw [hc] at L1 lt1
            have HS := hide (downF_go ltE (l := m) (i := k) (n := N) hkend (by rw [HKID.out]; exact lt1))
            rw [HKID.out] at HS
            clear hc lt1 ha hb1 hq1 hq2 hml hb2 hc0 lt21
            go_wp2_with (first
              | (go_at_call 53; (with_reducible refine (L0.out).mono ?_); rintro e w1 ⟨rfl, c1⟩; have H1 := hide (HM.out.call c1); have hmL1 := meth_val mLess H A n c w1 H1.out.cell; have L2 := hide (L1.out w1 H1.out); have C1 := hide c1; clear c1)
              | (go_at_call 53; (with_reducible refine (L2.out).mono ?_); rintro e w2 ⟨rfl, c2⟩; have H2 := hide (H1.out.call c2); have hmS := meth_val mSwap H A n c w2 H2.out.cell; have S1 := hide (SW.out q2 hqN w2 H2.out); have C2 := hide c2; clear c2)
              | (go_at_call 54; go_must (refine (S1.out).mono ?_; rintro e w3 ⟨rfl, o3, f3⟩; have H3 := hide (H2.out.row o3 (frm_rb f3)); have F3 := hide (rb_trans (frm_call (frm_call HK.out C1.out) C2.out) (frm_rb f3)); clear o3 f3)))
            go_roundg (n - q2)
            case measure => omega
            case rel => exact ⟨q2, sw m k q2, hqN, Nat.le_refl _, rfl, H3.out, by rw [HE.out, HS.out]; exact rfl, F3.out⟩
        | false =>
          rw [hc0] at L0 lt21
          have HKID := hide (show kidF ltE m k N = q1 by rw [← hq1]; exact kid_no (by rw [hq2, hq1, lt21]; simp))
          have lt1 := ltAt_eq ltE hb1 ha
          have L1 := hide (fun (W : World) (hW : HeapAt W base H A n c m) => LE.out q1 k b1 a hb1 ha W hW)
          have hqN : q1 < n := by omega
          have hkq : k < q1 := by omega
          have hkend : 2 * k + 1 < N := by omega
          cases hc : ltE b1 a with
          | false =>
            rw [hc] at L1 lt1
            have HS := hide (downF_stop ltE (l := m) (i := k) (n := N) (.inr (by rw [HKID.out]; exact lt1)))
            clear hc lt1 ha hb1 hq1 hq2 hml hb2 hc0 lt21
            go_wp2_with (first
              | (go_at_call 53; (with_reducible refine (L0.out).mono ?_); rintro e w1 ⟨rfl, c1⟩; have H1 := hide (HM.out.call c1); have hmL1 := meth_val mLess H A n c w1 H1.out.cell; have L2 := hide (L1.out w1 H1.out); have C1 := hide c1; clear c1)
              | (go_at_call 53; (with_reducible refine (L2.out).mono ?_); rintro e w2 ⟨rfl, c2⟩; have C2 := hide c2; clear c2))
            go_ret
            rw [HE.out, HS.out]
            exact ⟨_, rfl, H1.out.call C2.out, frm_call (frm_call HK.out C1.out) C2.out⟩
          | true =>
            rw [hc] at L1 lt1
            have HS := hide (downF_go ltE (l := m) (i := k) (n := N) hkend (by rw [HKID.out]; exact lt1))
            rw [HKID.out] at HS
            clear hc lt1 ha hb1 hq1 hq2 hml hb2 hc0 lt21
            go_wp2_with (first
              | (go_at_call 53; (with_reducible refine (L0.out).mono ?_); rintro e w1 ⟨rfl, c1⟩; have H1 := hide (HM.out.call c1); have hmL1 := meth_val mLess H A n c w1 H1.out.cell; have L2 := hide (L1.out w1 H1.out); have C1 := hide c1; clear c1)
              | (go_at_call 53; (with_reducible refine (L2.out).mono ?_); rintro e w2 ⟨rfl, c2⟩; have H2 := hide (H1.out.call c2); have hmS := meth_val mSwap H A n c w2 H2.out.cell; have S1 := hide (SW.out q1 hqN w2 H2.out); have C2 := hide c2; clear c2)
              | (go_at_call 54; go_must (refine (S1.out).mono ?_; rintro e w3 ⟨rfl, o3, f3⟩; have H3 := hide (H2.out.row o3 (frm_rb f3)); have F3 := hide (rb_trans (frm_call (frm_call HK.out C1.out) C2.out) (frm_rb f3)); clear o3 f3)))
            go_roundg (n - q1)
            case measure => omega
            case rel => exact ⟨q1, sw m k q1, hqN, Nat.le_refl _, rfl, H3.out, by rw [HE.out, HS.out]; exact rfl, F3.out⟩
      · have d3 : decide (q2 < N) = false := by simpa using htwo
        have HKID := hide (show kidF ltE m k N = q1 by rw [← hq1]; exact kid_no (by omega))
        have lt1 := ltAt_eq ltE hb1 ha
        have L1 := hide (fun (W : World) (hW : HeapAt W base H A n c m) => LE.out q1 k b1 a hb1 ha W hW)
        have hqN : q1 < n := by omega
        have hkq : k < q1 := by omega
        have hkend : 2 * k + 1 < N := by omega
        have H1 := hide HM.out
        have L2 := hide (L1.out wr HM.out)
        have C1 := hide (Below.refl wr.heap.size wr)
        cases hc : ltE b1 a with
        | false =>
          rw [hc] at L1 lt1 L2
          have HS := hide (downF_stop ltE (l := m) (i := k) (n := N) (.inr (by rw [HKID.out]; exact lt1)))
          clear hc lt1 ha hb1 hq1 hq2 hml
          go_wp2_with (first
            | (go_at_call 53; (with_reducible refine (L2.out).mono ?_); rintro e w2 ⟨rfl, c2⟩; have C2 := hide c2; clear c2))
          go_ret
          rw [HE.out, HS.out]
          exact ⟨_, rfl, H1.out.call C2.out, frm_call (frm_call HK.out C1.out) C2.out⟩
        | true =>
          rw [hc] at L1 lt1 L2
          have HS := hide (downF_go ltE (l := m) (i := k) (n := N) hkend (by rw [HKID.out]; exact lt1))
          rw [HKID.out] at HS
          clear hc lt1 ha hb1 hq1 hq2 hml
          go_wp2_with (first
            | (go_at_call 53; (with_reducible refine (L2.out).mono ?_); rintro e w2 ⟨rfl, c2⟩; have H2 := hide (H1.out.call c2); have hmS := meth_val mSwap H A n c w2 H2.out.cell; have S1 := hide (SW.out q1 hqN w2 H2.out); have C2 := hide c2; clear c2)
            | (go_at_call 54; go_must (refine (S1.out).mono ?_; rintro e w3 ⟨rfl, o3, f3⟩; have H3 := hide (H2.out.row o3 (frm_rb f3)); have F3 := hide (rb_trans (frm_call (frm_call HK.out C1.out) C2.out) (frm_rb f3)); clear o3 f3)))
          go_roundg (n - q1)
          case measure => omega
          case rel => exact ⟨q1, sw m k q1, hqN, Nat.le_refl _, rfl, H3.out, by rw [HE.out, HS.out]; exact rfl, F3.out⟩
end Go.Proofs.Ytndnjdocdfjmcaa
