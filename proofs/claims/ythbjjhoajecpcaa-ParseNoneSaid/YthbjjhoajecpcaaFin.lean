/-
  The parser's final, inEscape, inSequence, inString walked. No condition but bounds.
-/
import Derived.Test.YthbjjhoajecpcaaEnds
namespace Go.Proofs.Ythbjjhoajecpcaa
open Go.RowKit Go.Proofs
set_option linter.unusedVariables false
def escM (s : Ps) (c : Int) : List Ev := if s.wrong = false then [⟨2, 0, c, 0, [], s.inter, [], false⟩] else []
def finalM (s : Ps) (c : Int) : List Ev × Ps :=
  if s.inter.length = 0 ∧ s.wrong = false ∧ c = 91 then ([], enterM s 2)
  else if s.inter.length = 0 ∧ s.wrong = false ∧ c = 93 then ([], enterM s 4)
  else if s.inter.length = 0 ∧ s.wrong = false ∧ c = 80 then ([], enterM s 3)
  else if s.inter.length = 0 ∧ s.wrong = false ∧ (c = 88 ∨ c = 94 ∨ c = 95) then ([], enterM s 5)
  else (escM s c, enterM s 0)
section
variable (P : Nat) (s : Ps) (r : Rows3) (c : Int) (w : World)
set_option maxHeartbeats 4000000 in
theorem final_any (h : PIn w P s r) : Calls Try.prog 32 #[.pointer (some ⟨P, 0, none⟩), .int .u8 c] w (EvPost P r (finalM s c).2 (finalM s c).1 w) := by
  obtain ⟨c0, c1, c2, c3, c4, c5, c6, c7, c8, fz, hlt⟩ := h.cells
  have EN := hide (fun (st : Nat) (W : World) (hW : PIn W P s r) => enter_any P s r st W hW)
  have HH := hide h
  obtain ⟨n, hn⟩ : ∃ n, s.inter.length = n := ⟨_, rfl⟩
  rw [hn] at c2
  cases hw : s.wrong with
  | true =>
    rw [hw] at c5
    have hE : finalM s c = ([], enterM s 0) := by
      unfold finalM escM
      rw [hw]
      simp
    rw [hE]
    have E0 := hide (EN.out 0 w h)
    clear hE hw EN
    by_cases n0 : n = 0
    · have b0 : ((n : Int) == 0) = true := by rw [beq_iff_eq]; omega
      clear h hn
      go_enter Try.func32, Try.ntmps32
      go_wp2_with (go_at_call 22; go_must (refine E0.out.mono ?_; rintro e w1 ⟨rfl, hp⟩; have hp := hide hp))
      go_ret
      exact evpost_nil hp.out
    · have b0 : ((n : Int) == 0) = false := by rw [beq_eq_false_iff_ne]; omega
      clear h hn
      go_enter Try.func32, Try.ntmps32
      go_wp2_with (go_at_call 22; go_must (refine E0.out.mono ?_; rintro e w1 ⟨rfl, hp⟩; have hp := hide hp))
      go_ret
      exact evpost_nil hp.out
  | false =>
    rw [hw] at c5
    have cv : ∀ W, Below w.heap.size w W → (convert 22 9 (.slice r.A2 n r.c2)).run Try.prog W = .ok (.string (strOfNums s.inter)) W := fun W hb => by
      have := conv_str (c := r.c2) (Rd.of_own (h.call hb).inter)
      rw [hn] at this
      exact this
    have cv0 := cv w (Below.refl _ w)
    have E9 := hide (EN.out 0 (w.alloc (.cells (evC (⟨2, 0, c, 0, [], s.inter, [], false⟩, .slice none 0 0)).toArray 41)) (h.call ((Below.refl _ w).alloc (Nat.le_refl _) _)))
    unfold evC at E9
    by_cases n0 : n = 0
    · subst n0
      by_cases k1 : c = 91
      · subst k1
        have hE : finalM s 91 = ([], enterM s 2) := by unfold finalM; rw [if_pos ⟨hn, hw, rfl⟩]
        rw [hE]
        have E0 := hide (EN.out 2 w h)
        clear hE hw EN h hn cv
        go_enter Try.func32, Try.ntmps32
        go_wp2_with (go_at_call 22; go_must (refine E0.out.mono ?_; rintro e w1 ⟨rfl, hp⟩; have hp := hide hp))
        go_ret
        exact evpost_nil hp.out
      · by_cases k2 : c = 93
        · subst k2
          have hE : finalM s 93 = ([], enterM s 4) := by unfold finalM; rw [if_neg (by omega), if_pos ⟨hn, hw, rfl⟩]
          rw [hE]
          have E0 := hide (EN.out 4 w h)
          clear hE hw EN h hn cv
          go_enter Try.func32, Try.ntmps32
          go_wp2_with (go_at_call 22; go_must (refine E0.out.mono ?_; rintro e w1 ⟨rfl, hp⟩; have hp := hide hp))
          go_ret
          exact evpost_nil hp.out
        · by_cases k3 : c = 80
          · subst k3
            have hE : finalM s 80 = ([], enterM s 3) := by unfold finalM; rw [if_neg (by omega), if_neg (by omega), if_pos ⟨hn, hw, rfl⟩]
            rw [hE]
            have E0 := hide (EN.out 3 w h)
            clear hE hw EN h hn cv
            go_enter Try.func32, Try.ntmps32
            go_wp2_with (go_at_call 22; go_must (refine E0.out.mono ?_; rintro e w1 ⟨rfl, hp⟩; have hp := hide hp))
            go_ret
            exact evpost_nil hp.out
          · by_cases k4 : c = 88 ∨ c = 94 ∨ c = 95
            · have hE : finalM s c = ([], enterM s 5) := by unfold finalM; rw [if_neg (by omega), if_neg (by omega), if_neg (by omega), if_pos ⟨hn, hw, k4⟩]
              rw [hE]
              have E0 := hide (EN.out 5 w h)
              clear hE hw EN h hn cv k1 k2 k3
              rcases k4 with rfl | rfl | rfl
              all_goals
                go_enter Try.func32, Try.ntmps32
                go_wp2_with (go_at_call 22; go_must (refine E0.out.mono ?_; rintro e w1 ⟨rfl, hp⟩; have hp := hide hp))
                go_ret
                exact evpost_nil hp.out
            · have hE : finalM s c = ([⟨2, 0, c, 0, [], s.inter, [], false⟩], enterM s 0) := by unfold finalM escM; rw [if_neg (by omega), if_neg (by omega), if_neg (by omega), if_neg (by omega), if_pos hw]
              rw [hE]
              have b1 : (c == 91) = false := by simpa using k1
              have b2 : (c == 93) = false := by simpa using k2
              have b3 : (c == 80) = false := by simpa using k3
              have b4 : (c == 88) = false := by rw [beq_eq_false_iff_ne]; omega
              have b5 : (c == 94) = false := by rw [beq_eq_false_iff_ne]; omega
              have b6 : (c == 95) = false := by rw [beq_eq_false_iff_ne]; omega
              clear hE hw EN h hn cv k1 k2 k3 k4
              go_enter Try.func32, Try.ntmps32
              go_wp2_with (go_at_call 22; go_must (refine E9.out.mono ?_; rintro e w1 ⟨rfl, hp⟩; have hp := hide hp))
              go_ret
              exact evpost_one (e := ⟨2, 0, c, 0, [], s.inter, [], false⟩) HH.out (nums_none _ 0) hp.out
    · have b0 : ((n : Int) == 0) = false := by rw [beq_eq_false_iff_ne]; omega
      have hE : finalM s c = ([⟨2, 0, c, 0, [], s.inter, [], false⟩], enterM s 0) := by unfold finalM escM; rw [if_neg (by omega), if_neg (by omega), if_neg (by omega), if_neg (by omega), if_pos hw]
      rw [hE]
      clear hE hw EN h hn cv
      go_enter Try.func32, Try.ntmps32
      go_wp2_with (go_at_call 22; go_must (refine E9.out.mono ?_; rintro e w1 ⟨rfl, hp⟩; have hp := hide hp))
      go_ret
      exact evpost_one (e := ⟨2, 0, c, 0, [], s.inter, [], false⟩) HH.out (nums_none _ 0) hp.out
def inEscapeM (s : Ps) (c : Int) : List Ev × Ps := if c < 48 then ([], betweenM s c) else finalM s c
set_option maxHeartbeats 2000000 in
theorem inEscape_any (h : PIn w P s r) (hl : s.inter.length ≤ 2) : Calls Try.prog 36 #[.pointer (some ⟨P, 0, none⟩), .int .u8 c] w (EvPost P r (inEscapeM s c).2 (inEscapeM s c).1 w) := by
  have hlt : P < w.heap.size := by obtain ⟨cs, hc⟩ := h.dec.blk; exact hc.lt
  by_cases k : c < 48
  · have hE : inEscapeM s c = ([], betweenM s c) := by unfold inEscapeM; rw [if_pos k]
    rw [hE]
    have B := hide (between_any P s r c w h hl)
    clear hE h
    go_enter Try.func36, Try.ntmps36
    go_wp2_with (go_at_call 47; go_must (refine B.out.mono ?_; rintro e w1 ⟨rfl, hp⟩; have hp := hide hp))
    go_ret
    exact evpost_nil hp.out
  · have hE : inEscapeM s c = finalM s c := by unfold inEscapeM; rw [if_neg k]
    rw [hE]
    have B := hide (final_any P s r c w h)
    have b0 : decide (c < 48) = false := by simpa using k
    clear hE h
    obtain ⟨x, hx⟩ : ∃ x, finalM s c = x := ⟨_, rfl⟩
    rw [hx] at B ⊢
    clear hx
    go_enter Try.func36, Try.ntmps36
    go_wp2_with (go_at_call 32; go_must (refine B.out.mono ?_; rintro e w1 ⟨A, cc, rfl, he, hp⟩; have hp := hide hp; have he := hide he))
    go_ret
    exact ⟨A, cc, rfl, he.out, hp.out⟩
def inSequenceM (s : Ps) (c : Int) : List Ev × Ps :=
  if c < 48 then ([], betweenM s c) else if c < 64 then ([], numberM s c) else if s.state = 3 then ([], { s with last := c })
  else (if s.wrong = false then [wholeM s 3 c] else [], enterM s 0)
set_option maxHeartbeats 2000000 in
theorem inSequence_any (h : PIn w P s r) (ho : POk s) (hc0 : 0 ≤ c) (hc1 : c ≤ 255) : Calls Try.prog 37 #[.pointer (some ⟨P, 0, none⟩), .int .u8 c] w (EvPost P r (inSequenceM s c).2 (inSequenceM s c).1 w) := by
  obtain ⟨c0, c1, c2, c3, c4, c5, c6, c7, c8, fz, hlt⟩ := h.cells
  have HH := hide h
  by_cases k : c < 48
  · have hE : inSequenceM s c = ([], betweenM s c) := by unfold inSequenceM; rw [if_pos k]
    rw [hE]
    have B := hide (between_any P s r c w h ho.inter)
    clear hE h ho
    go_enter Try.func37, Try.ntmps37
    go_wp2_with (go_at_call 47; go_must (refine B.out.mono ?_; rintro e w1 ⟨rfl, hp⟩; have hp := hide hp))
    go_ret
    exact evpost_nil hp.out
  · have b0 : decide (c < 48) = false := by simpa using k
    by_cases k2 : c < 64
    · have hE : inSequenceM s c = ([], numberM s c) := by unfold inSequenceM; rw [if_neg k, if_pos k2]
      rw [hE]
      have B := hide (number_any P s r c w h ho.inter ho.head hc0 hc1)
      clear hE h ho
      go_enter Try.func37, Try.ntmps37
      go_wp2_with (go_at_call 48; go_must (refine B.out.mono ?_; rintro e w1 ⟨rfl, hp⟩; have hp := hide hp))
      go_ret
      exact evpost_nil hp.out
    · have b1 : decide (c < 64) = false := by simpa using k2
      obtain ⟨st, hst⟩ : ∃ st, s.state = st := ⟨_, rfl⟩
      rw [hst] at c8
      by_cases k3 : st = 3
      · have hE : inSequenceM s c = ([], { s with last := c }) := by unfold inSequenceM; rw [if_neg k, if_neg k2, if_pos (by rw [hst]; exact k3)]
        rw [hE]
        subst k3
        clear hE h ho hst
        go_enter Try.func37, Try.ntmps37
        go_wp2
        go_ret
        exact evpost_nil (set_last HH.out c)
      · have b3 : ((st : Int) == 3) = false := by rw [beq_eq_false_iff_ne]; omega
        cases hw : s.wrong with
        | true =>
          have hE : inSequenceM s c = ([], enterM s 0) := by unfold inSequenceM; rw [if_neg k, if_neg k2, if_neg (by rw [hst]; exact k3), if_neg (by rw [hw]; simp)]
          rw [hE]
          rw [hw] at c5
          have E0 := hide (enter_any P s r 0 w h)
          clear hE h ho hst hw
          go_enter Try.func37, Try.ntmps37
          go_wp2_with (go_at_call 22; go_must (refine E0.out.mono ?_; rintro e w1 ⟨rfl, hp⟩; have hp := hide hp))
          go_ret
          exact evpost_nil hp.out
        | false =>
          have hE : inSequenceM s c = ([wholeM s 3 c], enterM s 0) := by unfold inSequenceM; rw [if_neg k, if_neg k2, if_neg (by rw [hst]; exact k3), if_pos hw]
          rw [hE]
          rw [hw] at c5
          have E0 := hide (fun W (hW : PIn W P s r) => enter_any P s r 0 W hW)
          have WH := hide (whole_any P s r 3 c w h ho)
          clear hE h ho hst hw
          go_enter Try.func37, Try.ntmps37
          go_wp2_with (first
            | (go_at_call 33; go_must (refine WH.out.mono ?_; rintro e w1 ⟨v, rfl, hN, hb⟩; obtain ⟨AN, cN, hv, hN2⟩ := hN; have hN := hide (show NumsAt w1 v (wholeM s 3 c).nums from ⟨AN, cN, hv, hN2⟩); clear hN2; subst hv; have hb := hide hb; have E1 := hide (E0.out (w1.alloc (.cells (evC (wholeM s 3 c, .slice AN (wholeM s 3 c).nums.length cN)).toArray 41)) (HH.out.call (hb.out.alloc hb.out.size _))); unfold evC wholeM at *))
            | (go_at_call 22; go_must (refine E1.out.mono ?_; rintro e w2 ⟨rfl, hp⟩; have hp := hide hp)))
          go_ret
          have := evpost_one (e := wholeM s 3 c) (HH.out.call hb.out) hN.out hp.out
          obtain ⟨A, cc, e1, e2, e3⟩ := this
          exact ⟨A, cc, e1, e2.more hb.out.size, PPost.after hb.out e3⟩
def inStringM (s : Ps) (c : Int) : List Ev × Ps :=
  if s.state = 3 ∧ s.wrong = false then ([], putM s c) else if ¬ s.state = 4 then ([], s) else if c = 7 then (endsM s, enterM s 0) else if 32 ≤ c ∧ ¬ c = 127 then ([], putM s c) else ([], s)
set_option maxHeartbeats 2000000 in
theorem inString_any (h : PIn w P s r) (ho : POk s) (hc0 : 0 ≤ c) (hc1 : c ≤ 255) : Calls Try.prog 25 #[.pointer (some ⟨P, 0, none⟩), .int .u8 c] w (EvPost P r (inStringM s c).2 (inStringM s c).1 w) := by
  obtain ⟨c0, c1, c2, c3, c4, c5, c6, c7, c8, fz, hlt⟩ := h.cells
  have HH := hide h
  have PU := hide (putP_any P s r c w h ho.text ho.most)
  obtain ⟨st, hst⟩ : ∃ st, s.state = st := ⟨_, rfl⟩
  rw [hst] at c8
  by_cases k3 : st = 3
  · subst k3
    cases hw : s.wrong with
    | false =>
      have hE : inStringM s c = ([], putM s c) := by unfold inStringM; rw [if_pos ⟨hst, hw⟩]
      rw [hE]
      rw [hw] at c5
      clear hE h ho hst hw
      go_enter Try.func25, Try.ntmps25
      go_wp2_with (go_at_call 35; go_must (refine PU.out.mono ?_; rintro e w1 ⟨rfl, hp⟩; have hp := hide hp))
      go_ret
      exact evpost_nil hp.out
    | true =>
      have hE : inStringM s c = ([], s) := by unfold inStringM; rw [if_neg (fun h => by have := h.2; rw [hw] at this; cases this), if_pos (by omega)]
      rw [hE]
      rw [hw] at c5
      clear hE h ho hst hw
      go_enter Try.func25, Try.ntmps25
      go_wp2_with fail
      go_ret
      exact evpost_nil (PPost.refl HH.out)
  · have b3 : ((st : Int) == 3) = false := by rw [beq_eq_false_iff_ne]; omega
    by_cases k4 : st = 4
    · subst k4
      have hn3 : ¬ (s.state = 3 ∧ s.wrong = false) := fun h => k3 (by rw [← hst]; exact h.1)
      have hn4 : ¬ ¬ s.state = 4 := fun h => h hst
      by_cases k7 : c = 7
      · subst k7
        have hE : inStringM s 7 = (endsM s, enterM s 0) := by unfold inStringM; rw [if_neg hn3, if_neg hn4, if_pos rfl]
        rw [hE]
        have EE := hide (ends_any P s r w h ho)
        have E0 := hide (fun W (hW : PIn W P s r) => enter_any P s r 0 W hW)
        obtain ⟨x, hx⟩ : ∃ x, endsM s = x := ⟨_, rfl⟩
        rw [hx] at EE ⊢
        clear hE h ho hst hx hn3 hn4
        go_enter Try.func25, Try.ntmps25
        go_wp2_with (first
          | (go_at_call 23; go_must (refine EE.out.mono ?_; rintro e w1 ⟨A, cc, rfl, he, hb⟩; have he := hide he; have hb := hide hb; have E1 := hide (E0.out w1 (HH.out.call hb.out))))
          | (go_at_call 22; go_must (refine E1.out.mono ?_; rintro e w2 ⟨rfl, hp⟩; have hp := hide hp)))
        go_ret
        exact ⟨A, cc, rfl, he.out.over (HH.out.call hb.out) hp.out, PPost.after hb.out hp.out⟩
      · have b7 : (c == 7) = false := by simpa using k7
        by_cases k9 : 32 ≤ c ∧ ¬ c = 127
        · have hE : inStringM s c = ([], putM s c) := by unfold inStringM; rw [if_neg hn3, if_neg hn4, if_neg k7, if_pos k9]
          rw [hE]
          obtain ⟨k9, k10⟩ := k9
          have b9 : (c != 127) = true := by simpa using k10
          clear hE h ho hst hn3 hn4
          go_enter Try.func25, Try.ntmps25
          go_wp2_with (go_at_call 35; go_must (refine PU.out.mono ?_; rintro e w1 ⟨rfl, hp⟩; have hp := hide hp))
          go_ret
          exact evpost_nil hp.out
        · have hE : inStringM s c = ([], s) := by unfold inStringM; rw [if_neg hn3, if_neg hn4, if_neg k7, if_neg k9]
          rw [hE]
          clear hE h ho hst hn3 hn4
          by_cases k11 : c = 127
          · subst k11
            go_enter Try.func25, Try.ntmps25
            go_wp2_with fail
            go_ret
            exact evpost_nil (PPost.refl HH.out)
          · have b9 : decide (32 ≤ c) = false := by simp; omega
            go_enter Try.func25, Try.ntmps25
            go_wp2_with fail
            go_ret
            exact evpost_nil (PPost.refl HH.out)
    · have hE : inStringM s c = ([], s) := by unfold inStringM; rw [if_neg (fun h => k3 (by rw [← hst]; exact h.1)), if_pos (by rw [hst]; exact k4)]
      rw [hE]
      have b4 : ((st : Int) == 4) = false := by rw [beq_eq_false_iff_ne]; omega
      have b5 : ((st : Int) != 4) = true := by rw [bne_iff_ne]; omega
      clear hE h ho hst
      go_enter Try.func25, Try.ntmps25
      go_wp2_with fail
      go_ret
      exact evpost_nil (PPost.refl HH.out)
end
end Go.Proofs.Ythbjjhoajecpcaa
