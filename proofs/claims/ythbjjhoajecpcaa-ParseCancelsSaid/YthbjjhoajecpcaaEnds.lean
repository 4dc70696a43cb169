/-
  The parser's ends, final, inEscape, inSequence, inString walked. No condition but bounds.
-/
import Derived.Test.YthbjjhoajecpcaaEv
namespace Go.Proofs.Ythbjjhoajecpcaa
open Go.RowKit Go.Proofs
set_option linter.unusedVariables false
section
variable {w w1 w2 : World} {P base n : Nat} {s s1 s' s'' : Ps} {r : Rows3} {v : Value} {l : List Ev}
theorem ps_type {k : Nat} (h : PIn w P s r) (hk : PS P r k) : ∃ t cs, Blk w k t cs ∧ (t = 5 ∨ t = 56) := by
  have row : ∀ {A : Option Addr} {m c : Nat} {xs : List Value}, w.ownsRow 0 5 1 (.slice A m c) m xs → RB A k → ∃ t cs, Blk w k t cs ∧ (t = 5 ∨ t = 56) := by
    intro A m c xs ho hb
    have hb := own_rb (n := m) (c := c) hb
    rcases ho.2 with ⟨e, h0⟩ | ⟨g, cap, cur, e, _, hh, _⟩
    · rw [e] at hb; cases hb
    · rw [e] at hb
      injection hb with hb
      subst hb
      exact ⟨5, cur, hh, .inl rfl⟩
  rcases hk with rfl | hk | hk | hk
  · obtain ⟨cs, hc⟩ := h.dec.blk
    exact ⟨56, cs, hc, .inr rfl⟩
  · exact row h.head hk
  · exact row h.inter hk
  · exact row h.text hk
theorem ps_lt {k : Nat} (h : PIn w P s r) (hk : PS P r k) : k < w.heap.size := by
  obtain ⟨t, cs, hb, _⟩ := ps_type h hk
  exact hb.lt
theorem PPost.kn (h : PIn w P s r) (hp : PPost P r s' w w1) : KN w w1 := by
  obtain ⟨r', h1, h2, h3⟩ := hp
  exact fun g t cs ht hb => h.keep h2 (by rcases ht with rfl | rfl <;> decide) (by rcases ht with rfl | rfl <;> decide) hb
/-- A row of another kind is not the parser's. -/
theorem own_ps {k e sz m : Nat} {xs : List Value} (h : PIn w P s r) (ho : w.ownsRow base e sz v m xs) (h1 : e ≠ 5) (h2 : e ≠ 56) (hk : v.ownBlock = some k) : ¬ PS P r k := by
  intro hp
  obtain ⟨t, cs, hb, ht⟩ := ps_type h hp
  exact own_ne ho hb (by rcases ht with rfl | rfl <;> assumption) hk.symm
theorem own_over {e sz m : Nat} {xs : List Value} (ho : w.ownsRow base e sz v m xs) (h : PIn w P s r) (hp : PPost P r s' w w1) (h1 : e ≠ 5) (h2 : e ≠ 56) : w1.ownsRow base e sz v m xs := by
  obtain ⟨r', k1, k2, k3⟩ := hp
  exact own_frm ho k2 fun k hk => own_ps h ho h1 h2 hk
theorem EvRow.over (he : EvRow w base v n l) (h : PIn w P s r) (hp : PPost P r s' w w1) : EvRow w1 base v n l := by
  have hk := hp.kn h
  obtain ⟨xs, h1, h2, h3⟩ := he
  exact ⟨xs, h1, own_over h2 h hp (by decide) (by decide), fun x hx => (h3 x hx).keep hk⟩
/-- One change, then another. -/
theorem PPost.then (h : PPost P r s' w w1) (k : ∀ r', PIn w1 P s' r' → PPost P r' s'' w1 w2) : PPost P r s'' w w2 := by
  obtain ⟨r', h1, h2, h3⟩ := h
  exact PPost.trans h2 h3 (k r' h1)
end
/-- Events handed back; the parser is as it was. -/
def EvRet (l : List Ev) (w : World) (e : Ending) (w' : World) : Prop := ∃ A c, e = .returned (.slice A l.length c) ∧ EvRow w' w.heap.size (.slice A l.length c) l.length l ∧ Below w.heap.size w w'
/-- Events handed back; the parser changed. -/
def EvPost (P : Nat) (r : Rows3) (s' : Ps) (l : List Ev) (w : World) (e : Ending) (w' : World) : Prop := ∃ A c, e = .returned (.slice A l.length c) ∧ EvRow w' w.heap.size (.slice A l.length c) l.length l ∧ PPost P r s' w w'
theorem evpost_nil {w w' : World} {P : Nat} {r : Rows3} {s' : Ps} (h : PPost P r s' w w') : EvPost P r s' [] w (.returned (.slice none 0 0)) w' := ⟨none, 0, rfl, EvRow.nil _ _ 0, h⟩
/-- One event, just built, behind it the parser's change. -/
theorem evpost_one {w w' : World} {P : Nat} {r : Rows3} {s s' : Ps} {e : Ev} {u : Value} (h : PIn w P s r) (hu : NumsAt w u e.nums) (hp : PPost P r s' (w.alloc (.cells (evC (e, u)).toArray 41)) w') :
    EvPost P r s' [e] w (.returned (.slice (some ⟨w.heap.size, 0, none⟩) 1 1)) w' := by
  have ha : Below w.heap.size w (w.alloc (.cells (evC (e, u)).toArray 41)) := (Below.refl _ w).alloc (Nat.le_refl _) _
  exact ⟨_, _, rfl, (ev_new hu).over (h.call ha) hp, PPost.after ha hp⟩
def endsM (s : Ps) : List Ev := if s.state = 4 then [⟨4, 0, 0, 0, [], [], s.text, s.cut⟩] else if s.state = 3 ∧ ¬ s.last = 0 ∧ s.wrong = false then [wholeM s 5 s.last] else []
set_option maxRecDepth 100000 in
set_option maxHeartbeats 2000000 in
theorem ends_any (P : Nat) (s : Ps) (r : Rows3) (w : World) (h : PIn w P s r) (ho : POk s) : Calls Try.prog 23 #[.pointer (some ⟨P, 0, none⟩)] w (EvRet (endsM s) w) := by
  obtain ⟨c0, c1, c2, c3, c4, c5, c6, c7, c8, fz, hlt⟩ := h.cells
  obtain ⟨st, hst⟩ : ∃ st, s.state = st := ⟨_, rfl⟩
  rw [hst] at c8
  by_cases k4 : st = 4
  · have HM := hide (show endsM s = [⟨4, 0, 0, 0, [], [], s.text, s.cut⟩] by unfold endsM; rw [if_pos (by rw [hst]; exact k4)])
    have cv := conv_str (c := r.c3) (Rd.of_own (h.call (Below.refl _ w).drew).text)
    subst k4
    clear h ho hst
    go_enter Try.func23, Try.ntmps23
    go_upto_region 2 with (fail)
    go_still_tail 11, (by kernel_rfl)
    change wpList _ _ _ _ _ w.drew
    go_wp2
    go_ret
    rw [HM.out]
    refine ⟨_, _, rfl, ev_new (w := w.drew) (e := ⟨4, 0, 0, 0, [], [], s.text, s.cut⟩) (nums_none _ 0), ?_⟩
    exact (Below.refl _ w).drew.alloc (Nat.le_refl _) _
  · have b4 : ((st : Int) == 4) = false := by rw [beq_eq_false_iff_ne]; omega
    by_cases k3 : st = 3
    · by_cases kl : s.last = 0
      · have HM := hide (show endsM s = [] by unfold endsM; rw [if_neg (by rw [hst]; exact k4), if_neg (fun h => h.2.1 kl)])
        rw [kl] at c4
        subst k3
        clear h ho hst kl
        go_enter Try.func23, Try.ntmps23
        go_wp2
        go_ret
        rw [HM.out]
        exact ⟨none, 0, rfl, EvRow.nil _ _ 0, Below.refl _ _⟩
      · have bl : (s.last != 0) = true := by simpa using kl
        have bl2 : (s.last == 0) = false := by simpa using kl
        cases hw : s.wrong with
        | true =>
          have HM := hide (show endsM s = [] by unfold endsM; rw [if_neg (by rw [hst]; exact k4), if_neg (fun h => by have := h.2.2; rw [hw] at this; cases this)])
          rw [hw] at c5
          subst k3
          clear h ho hst hw
          go_enter Try.func23, Try.ntmps23
          go_wp2
          go_ret
          rw [HM.out]
          exact ⟨none, 0, rfl, EvRow.nil _ _ 0, Below.refl _ _⟩
        | false =>
          have HM := hide (show endsM s = [wholeM s 5 s.last] by unfold endsM; rw [if_neg (by rw [hst]; exact k4), if_pos ⟨by rw [hst]; exact k3, kl, hw⟩])
          have WH := hide (whole_any P s r 5 s.last w h ho)
          rw [hw] at c5
          subst k3
          clear h ho hst hw kl
          go_enter Try.func23, Try.ntmps23
          go_wp2_with (go_at_call 33; go_must (refine WH.out.mono ?_; rintro e w1 ⟨v, rfl, hN, hb⟩; obtain ⟨AN, cN, hv, hN2⟩ := hN; have hN := hide (show NumsAt w1 v (wholeM s 5 s.last).nums from ⟨AN, cN, hv, hN2⟩); clear hN2; subst hv; have hb := hide hb; unfold evC wholeM))
          go_ret
          rw [HM.out]
          refine ⟨_, _, rfl, (ev_new (e := wholeM s 5 s.last) hN.out).more hb.out.size, hb.out.alloc hb.out.size _⟩
    · have HM := hide (show endsM s = [] by unfold endsM; rw [if_neg (by rw [hst]; exact k4), if_neg (fun h => k3 (by rw [← hst]; exact h.1))])
      have b3 : ((st : Int) == 3) = false := by rw [beq_eq_false_iff_ne]; omega
      clear h ho hst
      go_enter Try.func23, Try.ntmps23
      go_wp2
      go_ret
      rw [HM.out]
      exact ⟨none, 0, rfl, EvRow.nil _ _ 0, Below.refl _ _⟩
end Go.Proofs.Ythbjjhoajecpcaa
