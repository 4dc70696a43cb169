/-
  number, put, size, State, Held, walked. No condition but bounds.
-/
import Derived.Test.YthbjjhoajecpcaaHeld
namespace Go.Proofs.Ythbjjhoajecpcaa
open Go.RowKit Go.Proofs
set_option linter.unusedVariables false
/-- One cell of a parser turned. -/
theorem set_any {w : World} {P : Nat} {s s' : Ps} {r : Rows3} (h : PIn w P s r) (i : Nat) (u : Value) (e1 : s'.head = s.head) (e2 : s'.inter = s.inter) (e3 : s'.text = s.text) (e4 : s'.dec = s.dec)
    (hc : ∀ n need have_ lo hi, (decC (pcOf s r) n need have_ lo hi).setIfInBounds i u = decC (pcOf s' r) n need have_ lo hi) : PPost P r s' w (w.setCell ⟨P, i, none⟩ u) := by
  obtain ⟨n, need, have_, lo, hi, hB, hR⟩ := h.dec
  have b := hB.set_ i u
  rw [hc] at b
  refine ⟨r, ⟨⟨n, need, have_, lo, hi, b, by rw [e4]; exact hR⟩, ?_, ?_, ?_, h.a12, h.a13, h.a23⟩, (Frm.refl _ w).setCell (p := ⟨P, i, none⟩) (fun _ => .inl rfl) _, fun k hk => .inl hk⟩
  · rw [e1]; exact own_far (p := ⟨P, i, none⟩) h.head (own_ne h.head hB (by decide)) u
  · rw [e2]; exact own_far (p := ⟨P, i, none⟩) h.inter (own_ne h.inter hB (by decide)) u
  · rw [e3]; exact own_far (p := ⟨P, i, none⟩) h.text (own_ne h.text hB (by decide)) u
theorem set_pre {w : World} {P : Nat} {s : Ps} {r : Rows3} (h : PIn w P s r) (c : Int) : PPost P r { s with pre := c } w (w.setCell ⟨P, 0, none⟩ (.int .u8 c)) :=
  set_any h 0 _ rfl rfl rfl rfl fun _ _ _ _ _ => by simp only [decC, pcOf, List.setIfInBounds_toArray, List.set_cons_zero]
theorem set_last {w : World} {P : Nat} {s : Ps} {r : Rows3} (h : PIn w P s r) (c : Int) : PPost P r { s with last := c } w (w.setCell ⟨P, 4, none⟩ (.int .u8 c)) :=
  set_any h 4 _ rfl rfl rfl rfl fun _ _ _ _ _ => by simp only [decC, pcOf, List.setIfInBounds_toArray, List.set_cons_zero, List.set_cons_succ]
theorem set_cut {w : World} {P : Nat} {s : Ps} {r : Rows3} (h : PIn w P s r) : PPost P r { s with cut := true } w (w.setCell ⟨P, 6, none⟩ (.bool true)) :=
  set_any h 6 _ rfl rfl rfl rfl fun _ _ _ _ _ => by simp only [decC, pcOf, List.setIfInBounds_toArray, List.set_cons_zero, List.set_cons_succ]
theorem PPost.after {w w1 w2 : World} {P : Nat} {s' : Ps} {r : Rows3} (hb : Below w.heap.size w w1) (h : PPost P r s' w1 w2) : PPost P r s' w w2 := PPost.trans (call_frm hb) (fun k hk => .inl hk) h
def numberM (s : Ps) (c : Int) : Ps :=
  if s.wrong = true then s else if 60 ≤ c ∧ s.pre = 0 ∧ s.head.length = 0 ∧ s.inter.length = 0 then { s with pre := c }
  else if 60 ≤ c ∨ 0 < s.inter.length ∨ s.head.length = 256 then spoilM s else { s with head := s.head ++ [c] }
set_option maxHeartbeats 4000000 in
theorem number_any (P : Nat) (s : Ps) (r : Rows3) (c : Int) (w : World) (h : PIn w P s r) (hl : s.inter.length ≤ 2) (hl2 : s.head.length ≤ 256) (hc0 : 0 ≤ c) (hc1 : c ≤ 255) :
    Calls Try.prog 48 #[.pointer (some ⟨P, 0, none⟩), .int .u8 c] w fun e w' => e = .returned (.tuple #[]) ∧ PPost P r (numberM s c) w w' := by
  obtain ⟨c0, c1, c2, c3, c4, c5, c6, c7, c8, fz, hlt⟩ := h.cells
  have HH := hide h
  obtain ⟨n, hn⟩ : ∃ n, s.head.length = n := ⟨_, rfl⟩
  obtain ⟨m, hm⟩ : ∃ m, s.inter.length = m := ⟨_, rfl⟩
  obtain ⟨p, hp⟩ : ∃ p, s.pre = p := ⟨_, rfl⟩
  rw [hn] at c1 hl2
  rw [hm] at c2 hl
  rw [hp] at c0
  cases hw : s.wrong with
  | true =>
    rw [hw] at c5
    have HM := hide (show numberM s c = s by unfold numberM; rw [if_pos hw])
    clear h hn hm hp hw
    go_enter Try.func48, Try.ntmps48
    go_wp2
    go_end0
    rw [HM.out]
    exact ⟨rfl, PPost.refl HH.out⟩
  | false =>
    rw [hw] at c5
    have hw' : ¬ s.wrong = true := by rw [hw]; simp
    by_cases k1 : 60 ≤ c ∧ p = 0 ∧ n = 0 ∧ m = 0
    · have HM := hide (show numberM s c = { s with pre := c } by unfold numberM; rw [if_neg hw', if_pos (by rw [hp, hn, hm]; exact k1)])
      obtain ⟨k1, rfl, rfl, rfl⟩ := k1
      clear h hn hm hp hw hw'
      go_enter Try.func48, Try.ntmps48
      go_wp2
      go_end0
      rw [HM.out]
      exact ⟨rfl, set_pre HH.out c⟩
    · by_cases k2 : 60 ≤ c ∨ 0 < m ∨ n = 256
      · have HM := hide (show numberM s c = spoilM s by unfold numberM; rw [if_neg hw', if_neg (by rw [hp, hn, hm]; exact k1), if_pos (by rw [hn, hm]; exact k2)])
        have SP := hide (spoil_any P s r w h)
        clear h hn hm hp hw hw'
        have cs : (60 ≤ c ∧ ¬ p = 0) ∨ (60 ≤ c ∧ p = 0 ∧ 0 < n) ∨ (60 ≤ c ∧ p = 0 ∧ n = 0 ∧ 0 < m) ∨ (¬ 60 ≤ c ∧ 0 < m) ∨ (¬ 60 ≤ c ∧ m = 0 ∧ n = 256) := by omega
        clear k1 k2
        rcases cs with ⟨a1, a2⟩ | ⟨a1, rfl, a3⟩ | ⟨a1, rfl, rfl, a4⟩ | ⟨a1, a2⟩ | ⟨a1, rfl, rfl⟩
        · have b2 : (p == 0) = false := by simpa using a2
          go_enter Try.func48, Try.ntmps48
          go_wp2_with (go_at_call 59; go_must (refine (SP.out).mono ?_; rintro e w1 ⟨rfl, hp⟩; have hp := hide hp))
          go_end0
          rw [HM.out]
          exact ⟨rfl, hp.out⟩
        · have b2 : ((n : Int) == 0) = false := by rw [beq_eq_false_iff_ne]; omega
          have b3 : ¬ n = 0 := by omega
          go_enter Try.func48, Try.ntmps48
          go_wp2_with (go_at_call 59; go_must (refine (SP.out).mono ?_; rintro e w1 ⟨rfl, hp⟩; have hp := hide hp))
          go_end0
          rw [HM.out]
          exact ⟨rfl, hp.out⟩
        · have b2 : ((m : Int) == 0) = false := by rw [beq_eq_false_iff_ne]; omega
          have b3 : ¬ m = 0 := by omega
          go_enter Try.func48, Try.ntmps48
          go_wp2_with (go_at_call 59; go_must (refine (SP.out).mono ?_; rintro e w1 ⟨rfl, hp⟩; have hp := hide hp))
          go_end0
          rw [HM.out]
          exact ⟨rfl, hp.out⟩
        · have b2 : decide (60 ≤ c) = false := by simpa using a1
          have b3 : decide (0 < m) = true := by simpa using a2
          go_enter Try.func48, Try.ntmps48
          go_wp2_with (go_at_call 59; go_must (refine (SP.out).mono ?_; rintro e w1 ⟨rfl, hp⟩; have hp := hide hp))
          go_end0
          rw [HM.out]
          exact ⟨rfl, hp.out⟩
        · have b2 : decide (60 ≤ c) = false := by simpa using a1
          go_enter Try.func48, Try.ntmps48
          go_wp2_with (go_at_call 59; go_must (refine (SP.out).mono ?_; rintro e w1 ⟨rfl, hp⟩; have hp := hide hp))
          go_end0
          rw [HM.out]
          exact ⟨rfl, hp.out⟩
      · have HM := hide (show numberM s c = { s with head := s.head ++ [c] } by unfold numberM; rw [if_neg hw', if_neg (by rw [hp, hn, hm]; exact k1), if_neg (by rw [hn, hm]; exact k2)])
        have HN := hide hn
        have b1 : ¬ 60 ≤ c := by omega
        have b2 : decide (60 ≤ c) = false := by simpa using b1
        obtain rfl : m = 0 := by omega
        have b4 : ¬ n = 256 := by omega
        have b5 : ((n : Int) == 256) = false := by rw [beq_eq_false_iff_ne]; omega
        clear h hn hm hp hw hw' k1 k2
        go_enter Try.func48, Try.ntmps48
        go_wp2_with (at_builtin; go_must (refine wpList_append1 Try.sl22 rfl _ _ rfl 0 (.slice r.A1 n r.c1) n _ #[.int .u8 c] w 1 rfl rfl rfl (by have := HH.out.head; rw [HN.out] at this; exact this) rfl (by intro u hu; simp at hu; subst hu; rfl) (by simp only [maxLen]; omega) (by omega) (Nat.zero_le _) ?_; intro A3 c3' w3 app; have AP := hide (app_head HH.out (by rw [HN.out]; exact app)); obtain ⟨n9, need, have_, lo, hi, hB, hR⟩ := HH.out.dec; have b3 := app.blk (hB.alloc (.cells #[.int .u8 c] 5)) ((show w.ownsRow 0 5 1 (.slice r.A1 n r.c1) n _ by have := HH.out.head; rw [HN.out] at this; exact this).alloc _) (by decide); have e2 : w3.cell? ⟨P, 1, none⟩ = some (.slice r.A1 s.head.length r.c1) := b3.cell 1; have fz3 := fun i => b3.frozen i; clear app hB hR b3))
        go_end0
        rw [HM.out]
        have := AP.out
        rw [HN.out] at this
        exact ⟨rfl, this⟩
def putM (s : Ps) (c : Int) : Ps := if s.most ≤ s.text.length then { s with cut := true } else { s with text := s.text ++ [c] }
set_option maxHeartbeats 4000000 in
theorem putP_any (P : Nat) (s : Ps) (r : Rows3) (c : Int) (w : World) (h : PIn w P s r) (hl : s.text.length ≤ s.most) (hm : s.most ≤ 65536) :
    Calls Try.prog 35 #[.pointer (some ⟨P, 0, none⟩), .int .u8 c] w fun e w' => e = .returned (.tuple #[]) ∧ PPost P r (putM s c) w w' := by
  obtain ⟨c0, c1, c2, c3, c4, c5, c6, c7, c8, fz, hlt⟩ := h.cells
  have HH := hide h
  obtain ⟨n, hn⟩ : ∃ n, s.text.length = n := ⟨_, rfl⟩
  obtain ⟨m, hm'⟩ : ∃ m, s.most = m := ⟨_, rfl⟩
  rw [hn] at c3 hl
  rw [hm'] at c7 hl hm
  by_cases k : m ≤ n
  · have HM := hide (show putM s c = { s with cut := true } by unfold putM; rw [if_pos (by rw [hn, hm']; exact k)])
    clear h hn hm'
    go_enter Try.func35, Try.ntmps35
    go_wp2_with fail
    go_quiet (fail)
    go_wp2_with fail
    rw [HM.out]
    exact bodyPost_ret (results_none rfl _ _ _) rfl ⟨rfl, PPost.after (drewN_below w nq) (set_cut (HH.out.call (drewN_below w nq)))⟩
  · have HM := hide (show putM s c = { s with text := s.text ++ [c] } by unfold putM; rw [if_neg (by rw [hn, hm']; exact k)])
    have HN := hide hn
    have k2 : decide (m ≤ n) = false := by simpa using k
    clear h hn hm'
    go_enter Try.func35, Try.ntmps35
    go_wp2_with fail
    go_quiet (fail)
    have HQ := hide (HH.out.call (drewN_below w nq))
    go_wp2_with (at_builtin; go_must (refine wpList_append1 Try.sl22 rfl _ _ rfl 0 (.slice r.A3 n r.c3) n _ #[.int .u8 c] (w.drewN nq) 1 rfl rfl rfl (by have := HQ.out.text; rw [HN.out] at this; exact this) rfl (by intro u hu; simp at hu; subst hu; rfl) (by simp only [maxLen]; omega) (by omega) (Nat.zero_le _) ?_; intro A3 c3' w3 app; have AP := hide (app_text HQ.out (by rw [HN.out]; exact app)); obtain ⟨n9, need, have_, lo, hi, hB, hR⟩ := HQ.out.dec; have b3 := app.blk (hB.alloc (.cells #[.int .u8 c] 5)) ((show (w.drewN nq).ownsRow 0 5 1 (.slice r.A3 n r.c3) n _ by have := HQ.out.text; rw [HN.out] at this; exact this).alloc _) (by decide); have e2 : w3.cell? ⟨P, 3, none⟩ = some (.slice r.A3 s.text.length r.c3) := b3.cell 3; have fz3 := fun i => b3.frozen i; clear app hB hR b3))
    go_end0
    rw [HM.out]
    have := AP.out
    rw [HN.out] at this
    exact ⟨rfl, PPost.after (drewN_below w nq) this⟩
/-- How many bytes are kept. -/
def sizeM (s : Ps) : Nat := s.head.length + s.inter.length + s.text.length
set_option maxHeartbeats 4000000 in
theorem hsize_any (P : Nat) (s : Ps) (r : Rows3) (w : World) (h : PIn w P s r) (hl : s.inter.length ≤ 2) (hl2 : s.head.length ≤ 256) (hl3 : s.text.length ≤ 65536) :
    Calls Try.prog 27 #[.pointer (some ⟨P, 0, none⟩)] w fun e w' => e = .returned (.int .i64 (sizeM s)) ∧ ∃ q, w' = w.drewN q := by
  obtain ⟨c0, c1, c2, c3, c4, c5, c6, c7, c8, fz, hlt⟩ := h.cells
  have HM := hide (show sizeM s = s.head.length + s.inter.length + s.text.length from rfl)
  obtain ⟨n, hn⟩ : ∃ n, s.head.length = n := ⟨_, rfl⟩
  obtain ⟨m, hm⟩ : ∃ m, s.inter.length = m := ⟨_, rfl⟩
  obtain ⟨k, hk⟩ : ∃ k, s.text.length = k := ⟨_, rfl⟩
  obtain ⟨x, hx⟩ : ∃ x, sizeM s = x := ⟨_, rfl⟩
  rw [hn, hm, hk, hx] at HM
  rw [hn] at c1 hl2
  rw [hm] at c2 hl
  rw [hk] at c3 hl3
  have hxx := HM.out
  rw [hx]
  obtain ⟨y, hy⟩ : ∃ y, n + m = y := ⟨_, rfl⟩
  have e1 : (n : Int) + m = y := by omega
  have e2 : (y : Int) + k = x := by omega
  have w1 : IntKind.i64.wrap (y : Int) = y := IntWalk.i64_in _ (by omega)
  have w2 : IntKind.i64.wrap (x : Int) = x := IntWalk.i64_in _ (by omega)
  clear h hn hm hk hx hxx hy HM
  go_enter Try.func27, Try.ntmps27
  go_wp2_with fail
  go_quiet (fail)
  go_wp2_with fail
  go_ret
  exact ⟨rfl, nq, rfl⟩
/-- How many bytes are held. -/
def heldM (s : Ps) : Nat := sizeM s + s.dec.length
set_option maxHeartbeats 4000000 in
theorem held_any (P : Nat) (s : Ps) (r : Rows3) (w : World) (h : PIn w P s r) (hl : s.inter.length ≤ 2) (hl2 : s.head.length ≤ 256) (hl3 : s.text.length ≤ 65536) :
    Calls Try.prog 13 #[.pointer (some ⟨P, 0, none⟩)] w fun e w' => e = .returned (.int .i64 (heldM s)) ∧ ∃ q, w' = w.drewN q := by
  have S := hide (fun (W : World) (h : PIn W P s r) => hsize_any P s r W h hl hl2 hl3)
  have L := hide (fun (W : World) (h : PIn W P s r) => left_any P (pcOf s r) s.dec W h.dec)
  have HH := hide h
  have hd : s.dec.length ≤ 3 := by
    obtain ⟨n, need, have_, lo, hi, hB, hR⟩ := h.dec
    exact (dec_have hR).2.1
  obtain ⟨y, hy⟩ : ∃ y, sizeM s = y := ⟨_, rfl⟩
  obtain ⟨k, hk⟩ : ∃ k, s.dec.length = k := ⟨_, rfl⟩
  obtain ⟨x, hx⟩ : ∃ x, heldM s = x := ⟨_, rfl⟩
  have hb : y ≤ 65794 := by rw [← hy]; unfold sizeM; omega
  have hxx : x = y + k := by rw [← hx, ← hy, ← hk]; rfl
  rw [hy] at S
  rw [hk] at L hd
  rw [hx]
  have e1 : (y : Int) + k = x := by omega
  have w1 : IntKind.i64.wrap (x : Int) = x := IntWalk.i64_in _ (by omega)
  clear h hy hk hx hxx
  go_enter Try.func13, Try.ntmps13
  go_wp2_with fail
  go_quiet (first | (go_at_call 27; exact Calls.quiet_of (S.out _ (HH.out.call (drewN_below w _)))) | (go_at_call 28; exact Calls.quiet_of_same ((L.out _ (HH.out.call (drewN_below w _))).mono fun _ _ h => ⟨h.1, h.2.symm⟩)))
  go_wp2_with fail
  go_ret
  exact ⟨rfl, nq, rfl⟩
theorem state_any (P : Nat) (s : Ps) (r : Rows3) (w : World) (h : PIn w P s r) :
    Calls Try.prog 17 #[.pointer (some ⟨P, 0, none⟩)] w fun e w' => e = .returned (.int .i64 s.state) ∧ w' = w := by
  obtain ⟨c0, c1, c2, c3, c4, c5, c6, c7, c8, fz, hlt⟩ := h.cells
  clear h
  go_enter Try.func17, Try.ntmps17
  go_wp2
  go_ret
  exact ⟨rfl, rfl⟩
theorem state_none (w : World) : Calls Try.prog 17 #[.pointer none] w fun e w' => e = .returned (.int .i64 0) ∧ w' = w := by
  go_enter Try.func17, Try.ntmps17
  go_wp2
  go_ret
  exact ⟨rfl, rfl⟩
theorem held_none (w : World) : Calls Try.prog 13 #[.pointer none] w fun e w' => e = .returned (.int .i64 0) ∧ w' = w := by
  go_enter Try.func13, Try.ntmps13
  go_wp2
  go_ret
  exact ⟨rfl, rfl⟩
end Go.Proofs.Ythbjjhoajecpcaa
