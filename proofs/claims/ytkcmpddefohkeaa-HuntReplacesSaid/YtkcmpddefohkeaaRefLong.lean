/-
  The document's Longest, walked. No condition but bounds.
-/
import Derived.Test.YtkcmpddefohkeaaBest
import Derived.Test.YtkcmpddefohkeaaLawsE
import Derived.Test.YtkcmpddefohkeaaStandQ
namespace Go.Proofs.Ytkcmpddefohkeaa
open Go.RowKit Go.Proofs
set_option linter.unusedVariables false
/-- The best needle so far as a number. -/
def bI : Option Nat → Int
  | none => -1
  | some b => b
set_option maxRecDepth 100000 in
set_option maxHeartbeats 4000000 in
theorem refLong_any (t : ByteArray) (ns : List ByteArray) (A : Option Addr) (n c : Nat) (w : World) (hr : Rd w w.heap.size 1 A n (ns.map Value.string)) (h1 : t.size ≤ 400) (h2 : ∀ x ∈ ns, x.size ≤ 400) (hn : n ≤ 100) (hnc : n ≤ c) :
    Calls Try.prog 19 #[.string t, .slice A n c] w (RetSlice 33 2 ((longF (needs ns) (hitsF (bytesOf plainF t) (needs ns))).flatMap hitE) w) := by
  have hln := hr.len1
  have hLn : (needs ns).length = n := by simp [needs, hln]
  obtain ⟨m, hm⟩ : ∃ m, t.size = m := ⟨_, rfl⟩
  have hTm : (bytesOf plainF t).length = m := by rw [bytesOf_len, hm]
  have HR := hide hr
  have HT := hide hTm
  have HL := hide hLn
  have ST := hide (fun (x : ByteArray) (p : Nat) (W : World) (hx : x.size ≤ 400) (hp : p ≤ 400) => stands_q t x p W h1 hx hp)
  rw [hm] at h1
  clear hr hTm hLn
  go_enter Try.func19, Try.ntmps19
  go_wp2
  go_loopg [5, 6] m (fun g s5 s6 wr => ∃ (p k e : Nat) (out : List (Nat × Nat)) (A2 : Option Addr) (c2 : Nat), p + g = m ∧ s6 = .int .i64 p ∧ s5 = .slice A2 k c2 ∧ k ≤ p ∧ e ≤ p ∧ Hid (stTo (bytesOf plainF t) (needs ns) p = (out, e)) ∧ Hid (∀ y ∈ out, y.1 < p) ∧ Hid (wr.ownsRow w.heap.size 33 2 (.slice A2 k c2) k (out.flatMap hitE)) ∧ Hid (Below w.heap.size w wr))
  case atStart => exact ⟨0, 0, 0, [], none, 0, by omega, rfl, rfl, by omega, by omega, rfl, (fun y hy => by cases hy), ⟨rfl, .inl ⟨rfl, rfl⟩⟩, Below.refl _ _⟩
  case round =>
    obtain ⟨p, k, e, out, A2, c2, hpg, rfl, rfl, hk, he, HS, HY, HO, HB⟩ := hrel
    by_cases hlt : p < m
    · have hm1 : m - (p + 1) + (p + 1) = m := by omega
      go_wp2
      go_loopg [7, 8] n (fun g s7 s8 wq => ∃ i : Nat, i + g = n ∧ s8 = .int .i64 i ∧ s7 = .int .i64 (bI (bestTo (bytesOf plainF t) (needs ns) p i)) ∧ Hid (wq.ownsRow w.heap.size 33 2 (.slice A2 k c2) k (out.flatMap hitE)) ∧ Hid (Below w.heap.size w wq))
      case atStart => exact ⟨0, by omega, rfl, rfl, HO.out, HB.out⟩
      case round =>
        clear HO HB
        obtain ⟨i, hig, rfl, rfl, HO, HC⟩ := hrel
        by_cases hi : i < n
        · obtain ⟨b, off, x, rfl, hbl, hx, cx⟩ := (HR.out.below HC.out).at1 hi
          have S1 := hide (fun (W : World) => ST.out x p W (h2 x (List.mem_of_getElem? hx)) (by omega))
          have hs := best_succ (bytesOf plainF t) (needs ns) p i
          rw [nth_needs hx] at hs
          obtain ⟨B, hB⟩ : ∃ B, standsF (bytesOf plainF t) (bytesOf plainF x) p = B := ⟨_, rfl⟩
          rw [hB] at S1 hs
          have hwr := HC.out.size
          have hbw : b < wr.heap.size := by omega
          obtain ⟨o, ho⟩ : ∃ o, bestTo (bytesOf plainF t) (needs ns) p i = o := ⟨_, rfl⟩
          obtain ⟨lx, hlx⟩ : ∃ lx, x.size = lx := ⟨_, rfl⟩
          have hxs : lx ≤ 400 := by rw [← hlx]; exact h2 x (List.mem_of_getElem? hx)
          clear hB
          cases B with
          | false =>
            rw [if_neg (by simp)] at hs
            have HS := hide hs
            obtain ⟨v, hv⟩ : ∃ v, bI o = v := ⟨_, rfl⟩
            rw [ho, hv]
            have HV := hide hv
            have HO2 := hide ho
            clear hs hv ho hx
            go_wp2_with fail
            go_quiet ((go_at_call 24; exact Calls.quiet_of (S1.out _)))
            go_wp2_with fail
            go_roundg (n - (i + 1))
            case measure => omega
            case rel => exact ⟨i + 1, by omega, by go_num, by rw [HS.out, HO2.out, HV.out], own_drewN HO.out _, below_drewN' HC.out _⟩
          | true =>
            rw [if_pos rfl, ho] at hs
            have HO2 := hide ho
            rw [ho]
            have hi1 : IntKind.i64.wrap (i : Int) = i := IntWalk.i64_in _ ⟨by omega, by omega⟩
            cases o with
            | none =>
              have HS := hide hs
              clear hs ho hx
              have e1 : bI none = -1 := rfl
              rw [e1]
              go_wp2_with fail
              go_quiet ((go_at_call 24; exact Calls.quiet_of (S1.out _)))
              go_wp2_with fail
              go_roundg (n - (i + 1))
              case measure => omega
              case rel => exact ⟨i + 1, by omega, by go_num, by rw [HS.out]; rfl, own_drewN HO.out _, below_drewN' HC.out _⟩
            | some bq =>
              have hbq := (best_stands ho).1
              obtain ⟨b', off', y, hA', hb', hy, cy⟩ := (HR.out.below HC.out).at1 (k := bq) (by omega)
              obtain ⟨rfl, rfl⟩ : b = b' ∧ off = off' := by injection hA' with e9; injection e9 with e8 e7; exact ⟨e8, e7⟩
              obtain ⟨ly, hly⟩ : ∃ ly, y.size = ly := ⟨_, rfl⟩
              have hys : ly ≤ 400 := by rw [← hly]; exact h2 y (List.mem_of_getElem? hy)
              simp only [nth_needs hy, bytesOf_len, hlx, hly] at hs
              have e1 : bI (some bq) = (bq : Int) := rfl
              rw [e1]
              have e2 : ((bq : Int)).toNat = bq := Int.toNat_natCast bq
              have q1 : (0 : Int) ≤ (bq : Int) := by omega
              have q2 : (bq : Int) < n := by omega
              clear ho hx hy hA' hb'
              by_cases hlt2 : ly < lx
              · rw [if_pos hlt2] at hs
                have HS := hide hs
                have d1 : decide ((ly : Int) < (lx : Int)) = true := by simp [hlt2]
                have d2 : decide (ly < lx) = true := by simp [hlt2]
                clear hs hlt2
                go_wp2_with fail
                go_quiet ((go_at_call 24; exact Calls.quiet_of (S1.out _)))
                go_wp2_with fail
                go_roundg (n - (i + 1))
                case measure => omega
                case rel => exact ⟨i + 1, by omega, by go_num, by rw [HS.out]; rfl, own_drewN HO.out _, below_drewN' HC.out _⟩
              · rw [if_neg hlt2] at hs
                have HS := hide hs
                have d1 : decide ((ly : Int) < (lx : Int)) = false := by simp; omega
                have d2 : decide (ly < lx) = false := by simp; omega
                clear hs hlt2
                go_wp2_with fail
                go_quiet ((go_at_call 24; exact Calls.quiet_of (S1.out _)))
                go_wp2_with fail
                go_roundg (n - (i + 1))
                case measure => omega
                case rel => exact ⟨i + 1, by omega, by go_num, by rw [HS.out]; rfl, own_drewN HO.out _, below_drewN' HC.out _⟩
        · obtain rfl : i = n := by omega
          have HO2 := HO
          have hzq := HC.out.size
          obtain ⟨o, ho⟩ : ∃ o, bestTo (bytesOf plainF t) (needs ns) p i = o := ⟨_, rfl⟩
          rw [ho]
          rw [← HL.out] at ho
          cases o with
          | none =>
            have HS := hide (st_none HS.out HY.out he ho)
            clear ho
            have e1 : bI none = -1 := rfl
            rw [e1]
            go_wp2_with fail
            go_roundg (m - (p + 1))
            case measure => omega
            case rel => exact ⟨p + 1, k, e, out, A2, c2, by omega, by go_num, rfl, by omega, by omega, HS.out, (fun y hy => Nat.lt_succ_of_lt (HY.out y hy)), HO2.out, HC.out⟩
          | some bq =>
            have hbq := best_stands ho
            rw [HL.out] at hbq
            obtain ⟨b, off, y, rfl, hbl, hy, cy⟩ := HR.out.at1 (k := bq) hbq.1
            obtain ⟨ly, hly⟩ : ∃ ly, y.size = ly := ⟨_, rfl⟩
            have hst := st_some HS.out HY.out he ho
            have hfit := hbq.2
            simp only [nth_needs hy, bytesOf_len, hly] at hst hfit
            obtain ⟨f1, f2⟩ : 0 < ly ∧ p + ly ≤ m := by
              unfold standsF at hfit
              rw [bytesOf_len, bytesOf_len, hly, hm] at hfit
              simp at hfit
              exact ⟨hfit.1, hfit.2.1⟩
            obtain ⟨p2, hp2⟩ : ∃ p2, p + ly = p2 := ⟨_, rfl⟩
            have hp3 : (p : Int) + ly = p2 := by omega
            have hbq1 := hbq.1
            rw [hp2] at hst
            have HY1 : ∀ y ∈ out ++ [(p, bq)], y.1 < p + 1 := by
              intro y hy
              rcases List.mem_append.1 hy with hy | hy
              · exact Nat.lt_succ_of_lt (HY.out y hy)
              · rw [List.mem_singleton] at hy; subst hy; exact Nat.lt_succ_self p
            have HS2 := hide (show stTo (bytesOf plainF t) (needs ns) p2 = (out ++ [(p, bq)], p2) by have := st_skip hst HY1 (p2 - (p + 1)) (by omega); rwa [show p + 1 + (p2 - (p + 1)) = p2 by omega] at this)
            have HY2 := hide (show ∀ y ∈ out ++ [(p, bq)], y.1 < p2 from fun y hy => Nat.lt_of_lt_of_le (HY1 y hy) (by omega))
            have e1 : bI (some bq) = (bq : Int) := rfl
            rw [e1]
            have e2 : ((bq : Int)).toNat = bq := Int.toNat_natCast bq
            have HP := hide (And.intro hp2 (And.intro f1 f2))
            have hp4 : IntKind.i64.wrap (p2 : Int) = p2 := IntWalk.i64_in _ ⟨by omega, by omega⟩
            clear hst hfit ho hy hbq HY1 hp2 f1 f2
            go_wp2_with (at_builtin; go_must (refine wpList_append1 Try.sl26 rfl _ _ rfl w.heap.size (.slice A2 k c2) k _ #[.int .i64 p, .int .i64 bq] wr 1 rfl rfl rfl HO2.out rfl (two_cell rfl rfl) (by simp only [maxLen]; omega) (by omega) hzq ?_; intro A3 c3 w3 app; have B3 := hide (app.below (HO2.out.alloc _) (HC.out.alloc hzq _) (Nat.le_refl _) (by simp; omega)); have O3 := hide (own_snocE (E := hitE) (p, bq) app.own rfl); have cy3 := (B3.out.cell (p := ⟨b, off + bq, none⟩) hbl).trans cy; clear app))
            go_roundg (m - p2)
            case measure => have := HP.out; omega
            case rel => exact ⟨p2, k + 1, p2, out ++ [(p, bq)], A3, c3, by have := HP.out; omega, (by first | rfl | go_num), rfl, by have := HP.out; omega, by omega, HS2.out, HY2.out, O3.out, B3.out⟩
    · obtain rfl : p = m := by omega
      go_wp2
      go_ret
      have : longF (needs ns) (hitsF (bytesOf plainF t) (needs ns)) = out := by
        have h3 := HS.out
        rw [← HT.out] at h3
        unfold longF longTo
        rw [List.take_length]
        exact congrArg Prod.fst h3
      rw [this]
      exact ⟨A2, k, c2, rfl, HO.out, HB.out⟩
end Go.Proofs.Ytkcmpddefohkeaa
