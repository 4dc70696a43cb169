/-
  The parser's inHead, Step walked. No condition but bounds.
-/
import Derived.Test.YthbjjhoajecpcaaPrints
namespace Go.Proofs.Ythbjjhoajecpcaa
open Go.RowKit Go.Proofs
set_option linter.unusedVariables false
/-! ### the parts stay what they may be -/
theorem first_bytes (c : Int) (h0 : 0 ≤ c) (h1 : c ≤ 255) : (∀ x ∈ (firstF c).2, 0 ≤ x ∧ x ≤ 255) ∧ (∀ x ∈ (firstF c).1, 0 ≤ x ∧ x ≤ 3000000) ∧ (firstF c).1.length ≤ 1 := by
  unfold firstF
  (repeat' split)
  · simp; omega
  · simp; omega
  · simp
theorem numF_le {t : List Int} (h : isB t = true) (hb : ∀ x ∈ t, 0 ≤ x ∧ x ≤ 255) : 0 ≤ numF t ∧ numF t ≤ 3000000 := by
  have hh : ∀ a, 2 ≤ sizeF a → 0 ≤ a → 0 ≤ headF a ∧ headF a < 32 ∧ (3 ≤ sizeF a → headF a < 16) ∧ (4 ≤ sizeF a → headF a < 8) := by
    intro a h2 h0
    have := size_cases (c := a) h0 (by omega) (by omega)
    unfold headF
    rcases this with ⟨e, l1, l2⟩ | ⟨e, l1, l2⟩ | ⟨e, l1, l2⟩
    · rw [if_pos e]; omega
    · rw [if_neg (by omega), if_pos e]; omega
    · rw [if_neg (by omega), if_neg (by omega), if_pos e]; omega
  have hi : ∀ a b, inB a b = true → 128 ≤ b ∧ b ≤ 191 := by
    intro a b h
    unfold inB loF hiF at h
    rw [Bool.and_eq_true, decide_eq_true_eq, decide_eq_true_eq] at h
    obtain ⟨h1, h2⟩ := h
    refine ⟨?_, ?_⟩
    · split at h1 <;> first | omega | (split at h1 <;> omega)
    · split at h2 <;> first | omega | (split at h2 <;> omega)
  match t, h, hb with
  | [], h, _ => simp [isB] at h
  | [a], h, hb =>
    have h1 : sizeF a = 1 := by simpa [isB] using h
    have ha := hb a (by simp)
    have : headF a = a := by unfold headF; rw [if_neg (by omega), if_neg (by omega), if_neg (by omega)]
    simp [numF, this]; omega
  | [a, b], h, hb =>
    have h2 : sizeF a = 2 ∧ inB a b = true := by simpa [isB] using h
    have := hh a (by omega) (hb a (by simp)).1
    have k := hi a b h2.2
    simp [numF]; omega
  | [a, b, c], h, hb =>
    have h2 : (sizeF a = 3 ∧ inB a b = true) ∧ tailB c = true := by simpa [isB] using h
    have := hh a (by omega) (hb a (by simp)).1
    have k := hi a b h2.1.2
    have hc : 128 ≤ c ∧ c ≤ 191 := by simpa [tailB] using h2.2
    simp [numF]; omega
  | [a, b, c, d], h, hb =>
    have h2 : ((sizeF a = 4 ∧ inB a b = true) ∧ tailB c = true) ∧ tailB d = true := by simpa [isB] using h
    have := hh a (by omega) (hb a (by simp)).1
    have k := hi a b h2.1.1.2
    have hc : 128 ≤ c ∧ c ≤ 191 := by simpa [tailB] using h2.1.2
    have hd : 128 ≤ d ∧ d ≤ 191 := by simpa [tailB] using h2.2
    simp [numF]; omega
  | _ :: _ :: _ :: _ :: _ :: _, h, _ => simp [isB] at h
theorem step_bytes (t : List Int) (c : Int) (ht : ∀ x ∈ t, 0 ≤ x ∧ x ≤ 255) (h0 : 0 ≤ c) (h1 : c ≤ 255) : (∀ x ∈ (stepF t c).2, 0 ≤ x ∧ x ≤ 255) ∧ (∀ x ∈ (stepF t c).1, 0 ≤ x ∧ x ≤ 3000000) ∧ (stepF t c).1.length ≤ 2 := by
  have hf := first_bytes c h0 h1
  have htc : ∀ x ∈ t ++ [c], 0 ≤ x ∧ x ≤ 255 := by
    intro x hx
    rw [List.mem_append, List.mem_singleton] at hx
    rcases hx with hx | rfl
    · exact ht x hx
    · exact ⟨h0, h1⟩
  unfold stepF
  split
  · exact ⟨hf.1, hf.2.1, by omega⟩
  · split
    · rename_i h
      have := numF_le h htc
      refine ⟨by simp, fun x hx => ?_, by simp⟩
      rw [List.mem_singleton] at hx
      subst hx
      exact this
    · split
      · exact ⟨htc, by simp, by simp⟩
      · refine ⟨hf.1, fun x hx => ?_, by simp; omega⟩
        rw [List.mem_cons] at hx
        rcases hx with rfl | hx
        · omega
        · exact hf.2.1 x hx
theorem end_bytes (t : List Int) : (∀ x ∈ endF t, 0 ≤ x ∧ x ≤ 3000000) ∧ (endF t).length ≤ 1 := by
  unfold endF
  split
  · simp
  · simp
section
variable {s : Ps}
theorem POk.enter (h : POk s) (st : Nat) : POk (enterM s st) := ⟨by simp [enterM], by simp [enterM], by simp [enterM], h.most, by simp [enterM], by simp [enterM], by simp [enterM], h.dbytes, by simp [enterM], by simp [enterM]⟩
theorem POk.spoil (h : POk s) : POk (spoilM s) := ⟨by simp [spoilM], by simp [spoilM], by simp [spoilM], h.most, by simp [spoilM], by simp [spoilM], by simp [spoilM], h.dbytes, by simp [spoilM], by simp [spoilM]⟩
theorem snoc_bd {l : List Int} {c a b : Int} (h : ∀ x ∈ l, a ≤ x ∧ x ≤ b) (h0 : a ≤ c) (h1 : c ≤ b) : ∀ x ∈ l ++ [c], a ≤ x ∧ x ≤ b := by
  intro x hx
  rw [List.mem_append, List.mem_singleton] at hx
  rcases hx with hx | rfl
  · exact h x hx
  · exact ⟨h0, h1⟩
theorem POk.between (h : POk s) (c : Int) (h0 : 0 ≤ c) (h1 : c ≤ 255) : POk (betweenM s c) := by
  unfold betweenM
  split
  · exact h.spoil
  · split
    · exact h
    · have := h.inter
      exact ⟨by simp; omega, h.head, h.text, h.most, h.digits, snoc_bd h.ibytes h0 h1, h.tbytes, h.dbytes, h.last0, h.last1⟩
theorem POk.number (h : POk s) (c : Int) (h0 : 48 ≤ c) : POk (numberM s c) := by
  unfold numberM
  split
  · exact h
  · split
    · exact ⟨h.inter, h.head, h.text, h.most, h.digits, h.ibytes, h.tbytes, h.dbytes, h.last0, h.last1⟩
    · split
      · exact h.spoil
      · have := h.head
        exact ⟨h.inter, by simp; omega, h.text, h.most, snoc_bd h.digits h0 (by omega), h.ibytes, h.tbytes, h.dbytes, h.last0, h.last1⟩
theorem POk.put (h : POk s) (c : Int) (h0 : 0 ≤ c) (h1 : c ≤ 255) : POk (putM s c) := by
  unfold putM
  split
  · exact ⟨h.inter, h.head, h.text, h.most, h.digits, h.ibytes, h.tbytes, h.dbytes, h.last0, h.last1⟩
  · exact ⟨h.inter, h.head, by simp; omega, h.most, h.digits, h.ibytes, snoc_bd h.tbytes h0 h1, h.dbytes, h.last0, h.last1⟩
theorem POk.setDec (h : POk s) (t : List Int) (ht : ∀ x ∈ t, 0 ≤ x ∧ x ≤ 255) : POk { s with dec := t } := ⟨h.inter, h.head, h.text, h.most, h.digits, h.ibytes, h.tbytes, ht, h.last0, h.last1⟩
theorem POk.final (h : POk s) (c : Int) : POk (finalM s c).2 := by
  unfold finalM
  (repeat' split) <;> exact h.enter _
theorem POk.print1 (h : POk s) (r : Int) : POk (print1 s r).2 := by
  unfold Go.Proofs.Ythbjjhoajecpcaa.print1
  split
  · exact h
  · split
    · exact h
    · split
      · exact h.final _
      · exact h
theorem POk.prints : ∀ (l : List Int) {s : Ps}, POk s → POk (printsM s l).2
  | [], s, h => h
  | r :: l, s, h => POk.prints l (h.print1 r)
end
def inHeadM (s : Ps) (c : Int) : List Ev × Ps :=
  if 128 ≤ c then printsM { enterM s 0 with dec := (stepF s.dec c).2 } (stepF s.dec c).1
  else if c = 127 ∨ c < 32 ∧ s.state = 3 then ([], s) else if c < 32 then ([execE c], s) else if s.state = 1 then inEscapeM s c else inSequenceM s c
def stepM (s : Ps) (c : Int) : List Ev × Ps :=
  if c = 24 ∨ c = 26 then ((printsM { s with dec := [] } (endF s.dec)).1 ++ [execE c], enterM (printsM { s with dec := [] } (endF s.dec)).2 0)
  else if c = 27 then ((printsM { s with dec := [] } (endF s.dec)).1 ++ endsM (printsM { s with dec := [] } (endF s.dec)).2, enterM (printsM { s with dec := [] } (endF s.dec)).2 1)
  else if s.state = 0 then printsM { s with dec := (stepF s.dec c).2 } (stepF s.dec c).1
  else if s.state = 4 ∨ s.state = 5 ∨ s.state = 3 ∧ ¬ s.last = 0 then inStringM s c
  else inHeadM s c
theorem POk.inSequence {s : Ps} (h : POk s) (c : Int) (h0 : 0 ≤ c) (h1 : c ≤ 255) : POk (inSequenceM s c).2 := by
  unfold inSequenceM
  split
  · exact h.between c h0 h1
  · split
    · exact h.number c (by omega)
    · split
      · exact ⟨h.inter, h.head, h.text, h.most, h.digits, h.ibytes, h.tbytes, h.dbytes, h0, h1⟩
      · exact h.enter _
theorem POk.inString {s : Ps} (h : POk s) (c : Int) (h0 : 0 ≤ c) (h1 : c ≤ 255) : POk (inStringM s c).2 := by
  unfold inStringM
  split
  · exact h.put c h0 h1
  · split
    · exact h
    · split
      · exact h.enter _
      · split
        · exact h.put c h0 h1
        · exact h
theorem POk.inHead {s : Ps} (h : POk s) (c : Int) (h0 : 0 ≤ c) (h1 : c ≤ 255) : POk (inHeadM s c).2 := by
  unfold inHeadM
  split
  · exact POk.prints _ ((h.enter 0).setDec _ (step_bytes s.dec c h.dbytes h0 h1).1)
  · split
    · exact h
    · split
      · exact h
      · split
        · unfold inEscapeM
          split
          · exact h.between c h0 h1
          · exact h.final c
        · exact h.inSequence c h0 h1
theorem POk.step {s : Ps} (h : POk s) (c : Int) (h0 : 0 ≤ c) (h1 : c ≤ 255) : POk (stepM s c).2 := by
  have hn : ∀ x ∈ ([] : List Int), 0 ≤ x ∧ x ≤ 255 := by simp
  unfold stepM
  split
  · exact (POk.prints _ (h.setDec [] hn)).enter _
  · split
    · exact (POk.prints _ (h.setDec [] hn)).enter _
    · split
      · exact POk.prints _ (h.setDec _ (step_bytes s.dec c h.dbytes h0 h1).1)
      · split
        · exact h.inString c h0 h1
        · exact h.inHead c h0 h1
theorem ends_len (s : Ps) : (endsM s).length ≤ 1 := by
  unfold endsM
  (repeat' split) <;> simp
theorem step_len {s : Ps} (h : POk s) (c : Int) (h0 : 0 ≤ c) (h1 : c ≤ 255) : (stepM s c).1.length ≤ 2 := by
  have e1 := prints_len (endF s.dec) { s with dec := [] }
  have e2 := (end_bytes s.dec).2
  have e3 := (step_bytes s.dec c h.dbytes h0 h1).2.2
  have e4 : ∀ s' : Ps, (endsM s').length ≤ 1 := ends_len
  have e5 : ∀ s', (printsM s' (stepF s.dec c).1).1.length ≤ 2 := fun s' => Nat.le_trans (prints_len _ _) e3
  unfold stepM
  split
  · simp; omega
  · split
    · rw [List.length_append]
      have := e4 (printsM { s with dec := [] } (endF s.dec)).2
      omega
    · split
      · exact e5 _
      · split
        · unfold inStringM
          (repeat' split)
          · simp
          · simp
          · exact Nat.le_trans (e4 _) (by omega)
          · simp
          · simp
        · unfold inHeadM
          split
          · exact e5 _
          · split
            · simp
            · split
              · simp
              · split
                · unfold inEscapeM
                  split
                  · simp
                  · exact Nat.le_trans (final_len _ _) (by omega)
                · unfold inSequenceM
                  (repeat' split) <;> simp
/-! ### walks -/
section
variable {w w1 : World} {P : Nat} {s : Ps} {r : Rows3} {t : List Int}
theorem PIn.redec (h : PIn w P s r) (hd : DecAt w1 P (pcOf s r) t) (hf : Frm (fun k => k = P) w w1) : PPost P r { s with dec := t } w w1 := by
  obtain ⟨cs, hc⟩ := h.dec.blk
  have far : ∀ {A : Option Addr} {m c : Nat} {xs : List Value}, w.ownsRow 0 5 1 (.slice A m c) m xs → w1.ownsRow 0 5 1 (.slice A m c) m xs := fun ho => own_frm ho hf (fun k hk e => own_ne ho hc (by decide) (by rw [← e]; exact hk.symm))
  exact ⟨r, ⟨hd, far h.head, far h.inter, far h.text, h.a12, h.a13, h.a23⟩, hf.mono (fun k _ e => .inl e), fun k hk => .inl hk⟩
end
set_option maxHeartbeats 4000000 in
theorem inHead_any (P : Nat) (s : Ps) (r : Rows3) (c : Int) (w : World) (h : PIn w P s r) (ho : POk s) (hc0 : 0 ≤ c) (hc1 : c ≤ 255) :
    Calls Try.prog 26 #[.pointer (some ⟨P, 0, none⟩), .int .u8 c] w (EvPost P r (inHeadM s c).2 (inHeadM s c).1 w) := by
  obtain ⟨c0, c1, c2, c3, c4, c5, c6, c7, c8, fz, hlt⟩ := h.cells
  have HH := hide h
  obtain ⟨st, hst⟩ : ∃ st, s.state = st := ⟨_, rfl⟩
  rw [hst] at c8
  by_cases k1 : 128 ≤ c
  · have hE : inHeadM s c = printsM { enterM s 0 with dec := (stepF s.dec c).2 } (stepF s.dec c).1 := by unfold inHeadM; rw [if_pos k1]
    rw [hE]
    have E0 := hide (enter_any P s r 0 w h)
    have SB := step_bytes s.dec c ho.dbytes hc0 hc1
    have ST := hide (fun (W : World) (r' : Rows3) (hW : PIn W P (enterM s 0) r') => step_any P (pcOf (enterM s 0) r') s.dec c W hc0 hc1 ho.dbytes hW.dec)
    obtain ⟨sl, hsl⟩ : ∃ sl, (stepF s.dec c).1 = sl := ⟨_, rfl⟩
    obtain ⟨stt, hstt⟩ : ∃ stt, (stepF s.dec c).2 = stt := ⟨_, rfl⟩
    rw [hsl, hstt] at ST SB ⊢
    have PR := hide (fun (W : World) (r' : Rows3) (b n cc : Nat) (A : Option Addr) (hW : PIn W P { enterM s 0 with dec := stt } r') (hoW : W.ownsRow b 21 1 (.slice A n cc) n (sl.map r32)) (hn : n ≤ 1000) => prints_any P { enterM s 0 with dec := stt } r' b n cc A sl W hW hoW hn SB.2.1)
    have hn2 : sl.length ≤ 1000 := by omega
    clear hE h ho hst hsl hstt SB
    go_enter Try.func26, Try.ntmps26
    go_wp2_with (first
      | (go_at_call 22; go_must (refine E0.out.mono ?_; rintro e w1 ⟨rfl, hp⟩; obtain ⟨r1, p1, p2, p3⟩ := hp; have P1 := hide p1; have P2 := hide p2; have P3 := hide p3; have hP1 := (p1.cells).2.2.2.2.2.2.2.2.2.2; have ST1 := hide (ST.out w1 r1 p1); clear p1 p2 p3))
      | (go_at_call 24; go_must (refine ST1.out.mono ?_; rintro e w2 ⟨A2, cc2, rfl, hown, hd, hf⟩; have D := PPost.trans P2.out P3.out (P1.out.redec hd hf); obtain ⟨r2, q1, q2, q3⟩ := D; have Q2 := hide q2; have Q3 := hide q3; have PR1 := hide (PR.out w2 r2 w1.heap.size sl.length cc2 A2 q1 hown hn2); clear hown hd hf q1 q2 q3))
      | (go_at_call 20; go_must (refine PR1.out.mono ?_; rintro e w3 ⟨A3, cc3, rfl, he, hp⟩; have he := hide he; have hp := hide hp)))
    go_ret
    exact ⟨A3, cc3, rfl, he.out.more Q2.out.size, PPost.trans Q2.out Q3.out hp.out⟩
  · have b1 : decide (128 ≤ c) = false := by simpa using k1
    by_cases k2 : c = 127
    · have hE : inHeadM s c = ([], s) := by unfold inHeadM; rw [if_neg k1, if_pos (.inl k2)]
      rw [hE]
      subst k2
      clear hE h ho hst
      go_enter Try.func26, Try.ntmps26
      go_wp2_with fail
      go_ret
      exact evpost_nil (PPost.refl HH.out)
    · have b2 : (c == 127) = false := by simpa using k2
      by_cases k3 : c < 32
      · by_cases k4 : st = 3
        · have hE : inHeadM s c = ([], s) := by unfold inHeadM; rw [if_neg k1, if_pos (.inr ⟨k3, by rw [hst]; exact k4⟩)]
          rw [hE]
          subst k4
          clear hE h ho hst
          go_enter Try.func26, Try.ntmps26
          go_wp2_with fail
          go_ret
          exact evpost_nil (PPost.refl HH.out)
        · have hE : inHeadM s c = ([execE c], s) := by unfold inHeadM; rw [if_neg k1, if_neg (by rw [hst]; omega), if_pos k3]
          rw [hE]
          have b4 : ((st : Int) == 3) = false := by rw [beq_eq_false_iff_ne]; omega
          clear hE h ho hst
          go_enter Try.func26, Try.ntmps26
          go_wp2_with fail
          go_ret
          exact evpost_one (e := execE c) HH.out (nums_none _ 0) (PPost.refl (HH.out.call ((Below.refl _ w).alloc (Nat.le_refl _) _)))
      · have b3 : decide (c < 32) = false := by simpa using k3
        by_cases k5 : st = 1
        · have hE : inHeadM s c = inEscapeM s c := by unfold inHeadM; rw [if_neg k1, if_neg (by omega), if_neg k3, if_pos (by rw [hst]; exact k5)]
          rw [hE]
          have B := hide (inEscape_any P s r c w h ho.inter)
          subst k5
          obtain ⟨x, hx⟩ : ∃ x, inEscapeM s c = x := ⟨_, rfl⟩
          rw [hx] at B ⊢
          clear hE h ho hst hx
          go_enter Try.func26, Try.ntmps26
          go_wp2_with (go_at_call 36; go_must (refine B.out.mono ?_; rintro e w1 ⟨A, cc, rfl, he, hp⟩; have hp := hide hp; have he := hide he))
          go_ret
          exact ⟨A, cc, rfl, he.out, hp.out⟩
        · have hE : inHeadM s c = inSequenceM s c := by unfold inHeadM; rw [if_neg k1, if_neg (by omega), if_neg k3, if_neg (by rw [hst]; exact k5)]
          rw [hE]
          have B := hide (inSequence_any P s r c w h ho hc0 hc1)
          have b5 : ((st : Int) == 1) = false := by rw [beq_eq_false_iff_ne]; omega
          obtain ⟨x, hx⟩ : ∃ x, inSequenceM s c = x := ⟨_, rfl⟩
          rw [hx] at B ⊢
          clear hE h ho hst hx
          go_enter Try.func26, Try.ntmps26
          go_wp2_with (go_at_call 37; go_must (refine B.out.mono ?_; rintro e w1 ⟨A, cc, rfl, he, hp⟩; have hp := hide hp; have he := hide he))
          go_ret
          exact ⟨A, cc, rfl, he.out, hp.out⟩
end Go.Proofs.Ythbjjhoajecpcaa
