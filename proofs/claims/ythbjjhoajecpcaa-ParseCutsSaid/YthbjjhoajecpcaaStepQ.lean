/-
  The parser's Step walked. No condition but bounds.
-/
import Derived.Test.YthbjjhoajecpcaaStepP
namespace Go.Proofs.Ythbjjhoajecpcaa
open Go.RowKit Go.Proofs
set_option linter.unusedVariables false
set_option maxHeartbeats 8000000 in
theorem pstep_any (P : Nat) (s : Ps) (r : Rows3) (c : Int) (w : World) (h : PIn w P s r) (ho : POk s) (hc0 : 0 ≤ c) (hc1 : c ≤ 255) :
    Calls Try.prog 12 #[.pointer (some ⟨P, 0, none⟩), .int .u8 c] w (EvPost P r (stepM s c).2 (stepM s c).1 w) := by
  obtain ⟨c0, c1, c2, c3, c4, c5, c6, c7, c8, fz, hlt⟩ := h.cells
  have HH := hide h
  have OK := hide ho
  have ED := hide (end_any P (pcOf s r) s.dec w h.dec)
  have EB := end_bytes s.dec
  obtain ⟨el, hel⟩ : ∃ el, endF s.dec = el := ⟨_, rfl⟩
  rw [hel] at ED EB
  have PR := hide (fun (W : World) (r' : Rows3) (b n cc : Nat) (A : Option Addr) (hW : PIn W P { s with dec := [] } r') (hoW : W.ownsRow b 21 1 (.slice A n cc) n (el.map r32)) (hn : n ≤ 1000) => prints_any P { s with dec := [] } r' b n cc A el W hW hoW hn EB.1)
  have hpl := prints_len el { s with dec := [] }
  have hn2 : el.length ≤ 1000 := by omega
  have hok1 := hide (POk.prints el (ho.setDec [] (by simp)))
  by_cases k1 : c = 24 ∨ c = 26
  · have hE : stepM s c = ((printsM { s with dec := [] } el).1 ++ [execE c], enterM (printsM { s with dec := [] } el).2 0) := by unfold stepM; rw [if_pos k1, hel]
    rw [hE]
    obtain ⟨pe, hpe⟩ : ∃ pe, (printsM { s with dec := [] } el).1 = pe := ⟨_, rfl⟩
    obtain ⟨s1, hs1⟩ : ∃ s1, (printsM { s with dec := [] } el).2 = s1 := ⟨_, rfl⟩
    rw [hpe, hs1] at PR ⊢
    rw [hpe] at hpl
    have E0 := hide (fun W r' (hW : PIn W P s1 r') => enter_any P s1 r' 0 W hW)
    have hple : pe.length ≤ 10 := by omega
    obtain ⟨m, hm⟩ : ∃ m, pe.length = m := ⟨_, rfl⟩
    have HM := hide hm
    rw [hm] at hple
    clear hE h ho hel hpe hs1 hpl EB hm hok1
    have cs : c = 24 ∨ (c = 26 ∧ (c == 24) = false) := by
      rcases k1 with k | k
      · exact .inl k
      · exact .inr ⟨k, by subst k; rfl⟩
    clear k1
    rcases cs with rfl | ⟨rfl, b1⟩
    all_goals
      go_enter Try.func12, Try.ntmps12
      go_wp2_with (first
        | (go_at_call 21; go_must (refine ED.out.mono ?_; rintro e w1 ⟨A1, cc1, rfl, hown, hd, hf⟩; have D := HH.out.redec hd hf; obtain ⟨r1, p1, p2, p3⟩ := D; have P1 := hide p1; have P2 := hide p2; have P3 := hide p3; have PR1 := hide (PR.out w1 r1 w.heap.size el.length cc1 A1 p1 hown hn2); clear hown hd hf p1 p2 p3))
        | (go_at_call 20; go_must (refine PR1.out.mono ?_; rintro e w2 ⟨A2, cc2, rfl, he, hp⟩; have D := PPost.trans P2.out P3.out hp; obtain ⟨r2, q1, q2, q3⟩ := D; have Q2 := hide q2; have Q3 := hide q3; have hQ1 := hide q1; have E1 := hide (E0.out w2 r2 q1); have he := hide (he.more P2.out.size); clear hp q1 q2 q3))
        | (go_at_call 22; go_must (refine E1.out.mono ?_; rintro e w3 ⟨rfl, hp⟩; have he3 := he.out.over hQ1.out hp; have D0 := PPost.trans Q2.out Q3.out hp; rw [HM.out] at he3; have z3 := D0.size; obtain ⟨xs, x1, x2, x3⟩ := he3; have X1 := hide x1; have X2 := hide x2; have X3 := hide x3; have D := hide D0; clear hp x1 x2 x3 D0))
        | (at_builtin; go_must (refine wpList_append1 Try.sl27 rfl _ _ rfl w.heap.size (.slice A2 m cc2) m _ (evC (execE _, .slice none 0 0)).toArray w3 1 (by rw [← HM.out]; rfl) rfl rfl X2.out rfl (ev_cells _ _ _ _) (by simp only [maxLen]; omega) (by omega) z3 ?_; intro A4 c4 w4 app)))
      go_ret
      refine ⟨A4, c4, by rw [List.length_append, HM.out]; rfl, ?_, (D.out.alloc _).grown (X2.out.alloc _) app⟩
      rw [List.length_append, HM.out]
      exact EvRow.snoc X1.out X2.out X3.out (nums_none w3 0) app
  · have b24 : (c == 24) = false := by rw [beq_eq_false_iff_ne]; omega
    have b26 : (c == 26) = false := by rw [beq_eq_false_iff_ne]; omega
    by_cases k2 : c = 27
    · have hE : stepM s c = ((printsM { s with dec := [] } el).1 ++ endsM (printsM { s with dec := [] } el).2, enterM (printsM { s with dec := [] } el).2 1) := by unfold stepM; rw [if_neg k1, if_pos k2, hel]
      rw [hE]
      obtain ⟨pe, hpe⟩ : ∃ pe, (printsM { s with dec := [] } el).1 = pe := ⟨_, rfl⟩
      obtain ⟨s1, hs1⟩ : ∃ s1, (printsM { s with dec := [] } el).2 = s1 := ⟨_, rfl⟩
      rw [hpe, hs1] at PR ⊢
      rw [hpe] at hpl
      rw [hs1] at hok1
      have E0 := hide (fun W r' (hW : PIn W P s1 r') => enter_any P s1 r' 1 W hW)
      have EN := hide (fun W r' (hW : PIn W P s1 r') => ends_any P s1 r' W hW hok1.out)
      have hel2 := ends_len s1
      obtain ⟨ee, hee⟩ : ∃ ee, endsM s1 = ee := ⟨_, rfl⟩
      rw [hee] at EN hel2 ⊢
      have hple : pe.length ≤ 10 := by omega
      obtain ⟨m, hm⟩ : ∃ m, pe.length = m := ⟨_, rfl⟩
      obtain ⟨m2, hm2⟩ : ∃ m2, ee.length = m2 := ⟨_, rfl⟩
      have HM := hide hm
      have HM2 := hide hm2
      rw [hm] at hple
      rw [hm2] at hel2
      subst k2
      clear hE h ho hel hpe hs1 hpl EB hm hok1 hm2 hee k1
      go_enter Try.func12, Try.ntmps12
      go_wp2_with (first
        | (go_at_call 21; go_must (refine ED.out.mono ?_; rintro e w1 ⟨A1, cc1, rfl, hown, hd, hf⟩; have D := HH.out.redec hd hf; obtain ⟨r1, p1, p2, p3⟩ := D; have P1 := hide p1; have P2 := hide p2; have P3 := hide p3; have PR1 := hide (PR.out w1 r1 w.heap.size el.length cc1 A1 p1 hown hn2); clear hown hd hf p1 p2 p3))
        | (go_at_call 20; go_must (refine PR1.out.mono ?_; rintro e w2 ⟨A2, cc2, rfl, he, hp⟩; have D := PPost.trans P2.out P3.out hp; obtain ⟨r2, q1, q2, q3⟩ := D; have Q2 := hide q2; have Q3 := hide q3; have hQ1 := hide q1; have E1 := hide (EN.out w2 r2 q1); have he := hide (he.more P2.out.size); clear hp q1 q2 q3))
        | (go_at_call 23; go_must (refine E1.out.mono ?_; rintro e w3 ⟨A3, cc3, rfl, hee, hb⟩; have z2 := Q2.out.size; have hQ3 := hide (hQ1.out.call hb); have he3 := he.out.call hb; have Q23 := hide (frm_call Q2.out hb); rw [HM.out] at he3; rw [HM2.out] at hee; have z3 : w.heap.size ≤ w3.heap.size := Q23.out.size; obtain ⟨xs, x1, x2, x3⟩ := he3; obtain ⟨ys, y1, y2, y3⟩ := hee; have X1 := hide x1; have X2 := hide x2; have X3 := hide x3; have Y1 := hide y1; have Y3 := hide y3; have hrd := Rd.of_own y2; clear hb x1 x2 x3 y1 y2 y3))
        | (at_builtin; go_must (refine wpList_appends Try.sl27 rfl _ _ rfl w.heap.size (.slice A2 m cc2) m _ w3 w3.heap.size A3 m2 cc3 _ (by rw [← HM.out]; rfl) (by rw [← HM2.out]; rfl) X2.out hrd (one_evC ys (fun x hx => nums_one (Y3.out x hx))) (by simp only [maxLen]; omega) (by omega) z3 ?_; intro A4 c4 w4 app; have F4 := PPost.grown (w := w) ⟨r2, hQ3.out, Q23.out, Q3.out⟩ X2.out app; have V4 := hide (EvRow.app X1.out X2.out X3.out Y1.out Y3.out app); obtain ⟨r4, t1, t2, t3⟩ := F4; have T1 := hide t1; have T2 := hide t2; have T3 := hide t3; have E5 := hide (E0.out w4 r4 t1); clear t1 t2 t3 app hrd))
        | (go_at_call 22; go_must (refine E5.out.mono ?_; rintro e w5 ⟨rfl, hp⟩; have V5 := hide (V4.out.over T1.out hp); have D := hide (PPost.trans T2.out T3.out hp); clear hp)))
      go_ret
      refine ⟨A4, c4, by rw [List.length_append, HM.out, HM2.out]; rfl, ?_, D.out⟩
      rw [List.length_append, HM.out, HM2.out]
      exact V5.out
    · have b27 : (c == 27) = false := by simpa using k2
      obtain ⟨st, hst⟩ : ∃ st, s.state = st := ⟨_, rfl⟩
      rw [hst] at c8
      clear ED EB PR hpl hn2 hok1 hel
      by_cases k3 : st = 0
      · have hE : stepM s c = printsM { s with dec := (stepF s.dec c).2 } (stepF s.dec c).1 := by unfold stepM; rw [if_neg k1, if_neg k2, if_pos (by rw [hst]; exact k3)]
        rw [hE]
        have SB := step_bytes s.dec c ho.dbytes hc0 hc1
        have ST1 := hide (step_any P (pcOf s r) s.dec c w hc0 hc1 ho.dbytes h.dec)
        obtain ⟨sl, hsl⟩ : ∃ sl, (stepF s.dec c).1 = sl := ⟨_, rfl⟩
        obtain ⟨stt, hstt⟩ : ∃ stt, (stepF s.dec c).2 = stt := ⟨_, rfl⟩
        rw [hsl, hstt] at ST1 SB ⊢
        have PR := hide (fun (W : World) (r' : Rows3) (b n cc : Nat) (A : Option Addr) (hW : PIn W P { s with dec := stt } r') (hoW : W.ownsRow b 21 1 (.slice A n cc) n (sl.map r32)) (hn : n ≤ 1000) => prints_any P { s with dec := stt } r' b n cc A sl W hW hoW hn SB.2.1)
        have hn2 : sl.length ≤ 1000 := by omega
        subst k3
        clear hE h ho hst hsl hstt SB k1
        go_enter Try.func12, Try.ntmps12
        go_wp2_with (first
          | (go_at_call 24; go_must (refine ST1.out.mono ?_; rintro e w2 ⟨A2, cc2, rfl, hown, hd, hf⟩; have D := HH.out.redec hd hf; obtain ⟨r2, q1, q2, q3⟩ := D; have Q2 := hide q2; have Q3 := hide q3; have PR1 := hide (PR.out w2 r2 w.heap.size sl.length cc2 A2 q1 hown hn2); clear hown hd hf q1 q2 q3))
          | (go_at_call 20; go_must (refine PR1.out.mono ?_; rintro e w3 ⟨A3, cc3, rfl, he, hp⟩; have he := hide he; have hp := hide hp)))
        go_ret
        exact ⟨A3, cc3, rfl, he.out.more Q2.out.size, PPost.trans Q2.out Q3.out hp.out⟩
      · have b0 : ((st : Int) == 0) = false := by rw [beq_eq_false_iff_ne]; omega
        by_cases k4 : st = 4 ∨ st = 5 ∨ st = 3 ∧ ¬ s.last = 0
        · have hE : stepM s c = inStringM s c := by unfold stepM; rw [if_neg k1, if_neg k2, if_neg (by rw [hst]; exact k3), if_pos (by rw [hst]; exact k4)]
          rw [hE]
          have B := hide (inString_any P s r c w h ho hc0 hc1)
          obtain ⟨x, hx⟩ : ∃ x, inStringM s c = x := ⟨_, rfl⟩
          rw [hx] at B ⊢
          clear hE h ho hst hx k1
          have cs : (st = 4) ∨ (st = 5) ∨ (st = 3 ∧ (s.last != 0) = true) := by
            rcases k4 with k | k | ⟨k, k'⟩
            · exact .inl k
            · exact .inr (.inl k)
            · exact .inr (.inr ⟨k, by simpa using k'⟩)
          clear k4
          rcases cs with rfl | rfl | ⟨rfl, bl⟩
          all_goals
            go_enter Try.func12, Try.ntmps12
            go_wp2_with (go_at_call 25; go_must (refine B.out.mono ?_; rintro e w1 ⟨A, cc, rfl, he, hp⟩; have hp := hide hp; have he := hide he))
            go_ret
            exact ⟨A, cc, rfl, he.out, hp.out⟩
        · have hE : stepM s c = inHeadM s c := by unfold stepM; rw [if_neg k1, if_neg k2, if_neg (by rw [hst]; exact k3), if_neg (by rw [hst]; exact k4)]
          rw [hE]
          have B := hide (inHead_any P s r c w h ho hc0 hc1)
          obtain ⟨x, hx⟩ : ∃ x, inHeadM s c = x := ⟨_, rfl⟩
          rw [hx] at B ⊢
          have b4 : ((st : Int) == 4) = false := by rw [beq_eq_false_iff_ne]; omega
          have b5 : ((st : Int) == 5) = false := by rw [beq_eq_false_iff_ne]; omega
          by_cases k5 : st = 3
          · have kl : s.last = 0 := by
              by_cases k : s.last = 0
              · exact k
              · exact absurd (.inr (.inr ⟨k5, k⟩)) k4
            rw [kl] at c4
            subst k5
            clear hE h ho hst hx k1 k4 kl
            go_enter Try.func12, Try.ntmps12
            go_wp2_with (go_at_call 26; go_must (refine B.out.mono ?_; rintro e w1 ⟨A, cc, rfl, he, hp⟩; have hp := hide hp; have he := hide he))
            go_ret
            exact ⟨A, cc, rfl, he.out, hp.out⟩
          · have b3 : ((st : Int) == 3) = false := by rw [beq_eq_false_iff_ne]; omega
            clear hE h ho hst hx k1 k4
            go_enter Try.func12, Try.ntmps12
            go_wp2_with (go_at_call 26; go_must (refine B.out.mono ?_; rintro e w1 ⟨A, cc, rfl, he, hp⟩; have hp := hide hp; have he := hide he))
            go_ret
            exact ⟨A, cc, rfl, he.out, hp.out⟩
theorem pstep_none (c : Int) (w : World) : Calls Try.prog 12 #[.pointer none, .int .u8 c] w fun e w' => e = .returned (.slice none 0 0) ∧ w' = w := by
  go_enter Try.func12, Try.ntmps12
  go_wp2
  go_ret
  exact ⟨rfl, rfl⟩
end Go.Proofs.Ythbjjhoajecpcaa
