/-
  ParseHolds walked: no more is held than may be. No condition but bounds.
-/
import Derived.Test.YthbjjhoajecpcaaLawA
namespace Go.Proofs.Ythbjjhoajecpcaa
open Go.RowKit Go.Proofs
set_option linter.unusedVariables false
/-- What holds of a parser between bytes. -/
structure J (s : Ps) : Prop where
  rest : s.state = 0 → s.head = [] ∧ s.inter = [] ∧ s.text = []
  other : s.state ≠ 0 → s.dec = []
  dec : s.dec.length ≤ 3
theorem stepF_parts (t : List Int) (c : Int) : (stepF t c).2 = [] ∨ (stepF t c).2.length ≤ 3 ∧ ((stepF t c).1 = [] ∨ (stepF t c).1 = [65533]) := by
  have hf : (firstF c).2 = [] ∨ (firstF c).2 = [c] ∧ (firstF c).1 = [] := by
    unfold firstF
    split
    · exact .inl rfl
    · split
      · exact .inr ⟨rfl, rfl⟩
      · exact .inl rfl
  unfold stepF
  split
  · rcases hf with h | ⟨h1, h2⟩
    · exact .inl h
    · exact .inr ⟨by rw [h1]; simp, .inl h2⟩
  · split
    · exact .inl rfl
    · split
      · rename_i h; exact .inr ⟨(beg_len h).2, .inl rfl⟩
      · rcases hf with h | ⟨h1, h2⟩
        · exact .inl h
        · exact .inr ⟨by simp only; rw [h1]; simp, .inr (by simp only; rw [h2])⟩
theorem J.enter {s : Ps} (st : Nat) (h : st ≠ 0 → s.dec = []) (h3 : s.dec.length ≤ 3) : J (enterM s st) := ⟨fun _ => ⟨rfl, rfl, rfl⟩, h, h3⟩
theorem J.final {s : Ps} (h : s.dec = []) (c : Int) : J (finalM s c).2 := by
  have h3 : s.dec.length ≤ 3 := by rw [h]; simp
  unfold finalM
  (repeat' split) <;> exact J.enter _ (fun _ => h) h3
theorem J.print1 {s : Ps} (h : J s) (hd : s.dec = []) (r : Int) : J (print1 s r).2 ∧ (print1 s r).2.dec = [] := by
  unfold Go.Proofs.Ythbjjhoajecpcaa.print1
  split
  · exact ⟨h, hd⟩
  · split
    · exact ⟨h, hd⟩
    · split
      · refine ⟨J.final hd _, ?_⟩
        unfold finalM enterM
        (repeat' split) <;> exact hd
      · exact ⟨h, hd⟩
theorem J.prints : ∀ (l : List Int) {s : Ps}, J s → s.dec = [] → J (printsM s l).2 ∧ (printsM s l).2.dec = []
  | [], s, h, hd => ⟨h, hd⟩
  | r :: l, s, h, hd => J.prints l (h.print1 hd r).1 (h.print1 hd r).2
theorem J.read {s : Ps} (h0 : s.state = 0) (h : s.head = [] ∧ s.inter = [] ∧ s.text = []) (t : List Int) (c : Int) : J (printsM { s with dec := (stepF t c).2 } (stepF t c).1).2 := by
  rcases stepF_parts t c with e | ⟨e, e2 | e2⟩
  · rw [e]
    exact (J.prints _ (s := { s with dec := [] }) ⟨fun _ => h, fun _ => rfl, by simp⟩ rfl).1
  · rw [e2]
    exact ⟨fun _ => h, fun k => absurd h0 k, e⟩
  · rw [e2]
    have hp : printsM { s with dec := (stepF t c).2 } [65533] = ([printE 65533], { s with dec := (stepF t c).2 }) := by
      simp [printsM, Go.Proofs.Ythbjjhoajecpcaa.print1]
    rw [hp]
    exact ⟨fun _ => h, fun k => absurd h0 k, e⟩
theorem J.between {s : Ps} (h0 : s.state ≠ 0) (hd : s.dec = []) (c : Int) : J (betweenM s c) := by
  unfold betweenM
  (repeat' split) <;> exact ⟨fun k => absurd k h0, fun _ => hd, by show s.dec.length ≤ 3; rw [hd]; simp⟩
theorem J.number {s : Ps} (h0 : s.state ≠ 0) (hd : s.dec = []) (c : Int) : J (numberM s c) := by
  unfold numberM
  (repeat' split) <;> exact ⟨fun k => absurd k h0, fun _ => hd, by show s.dec.length ≤ 3; rw [hd]; simp⟩
theorem J.put {s : Ps} (h0 : s.state ≠ 0) (hd : s.dec = []) (c : Int) : J (putM s c) := by
  unfold putM
  (repeat' split) <;> exact ⟨fun k => absurd k h0, fun _ => hd, by show s.dec.length ≤ 3; rw [hd]; simp⟩
theorem J.step {s : Ps} (h : J s) (c : Int) : J (stepM s c).2 := by
  have hend : ∀ (l : List Int), (printsM { s with dec := [] } l).2.dec = [] := by
    intro l
    have key : ∀ (l : List Int) (s : Ps), s.dec = [] → (printsM s l).2.dec = [] := by
      intro l
      induction l with
      | nil => exact fun s h => h
      | cons r l ih =>
        intro s hs
        refine ih _ ?_
        unfold Go.Proofs.Ythbjjhoajecpcaa.print1 finalM enterM
        (repeat' split) <;> exact hs
    exact key l _ rfl
  unfold stepM
  split
  · exact J.enter 0 (fun k => absurd rfl k) (by rw [hend]; simp)
  · split
    · exact J.enter 1 (fun _ => hend _) (by rw [hend]; simp)
    · split
      · rename_i h0
        exact J.read h0 (h.rest h0) s.dec c
      · rename_i h0
        have hd := h.other h0
        split
        · unfold inStringM
          split
          · exact J.put h0 hd c
          · split
            · exact h
            · split
              · exact J.enter 0 (fun k => absurd rfl k) h.dec
              · split
                · exact J.put h0 hd c
                · exact h
        · unfold inHeadM
          split
          · exact J.read (s := enterM s 0) rfl ⟨rfl, rfl, rfl⟩ s.dec c
          · split
            · exact h
            · split
              · exact h
              · split
                · unfold inEscapeM
                  split
                  · exact J.between h0 hd c
                  · exact J.final hd c
                · unfold inSequenceM
                  split
                  · exact J.between h0 hd c
                  · split
                    · exact J.number h0 hd c
                    · split
                      · exact ⟨fun k => absurd k h0, fun _ => hd, h.dec⟩
                      · exact J.enter 0 (fun k => absurd rfl k) h.dec
theorem J.held {s : Ps} (h : J s) (ho : POk s) : heldM s ≤ s.most + 258 := by
  have h1 := ho.inter
  have h2 := ho.head
  have h3 := ho.text
  have h4 := h.dec
  unfold heldM sizeM
  by_cases k : s.state = 0
  · obtain ⟨e1, e2, e3⟩ := h.rest k
    rw [e1, e2, e3]
    simp
    omega
  · rw [h.other k]
    simp
    omega
theorem J.new (most : Nat) : J (newM most) := ⟨fun _ => ⟨rfl, rfl, rfl⟩, fun _ => rfl, by simp [newM]⟩
theorem step_most (s : Ps) (c : Int) : (stepM s c).2.most = s.most := by
  have hp1 : ∀ (s : Ps) (r : Int), (Go.Proofs.Ythbjjhoajecpcaa.print1 s r).2.most = s.most := by
    intro s r
    unfold Go.Proofs.Ythbjjhoajecpcaa.print1 finalM enterM
    (repeat' split) <;> rfl
  have hp : ∀ (l : List Int) (s : Ps), (printsM s l).2.most = s.most := by
    intro l
    induction l with
    | nil => exact fun s => rfl
    | cons r l ih => intro s; exact (ih _).trans (hp1 s r)
  unfold stepM
  split
  · exact hp _ _
  · split
    · exact hp _ _
    · split
      · exact hp _ _
      · split
        · unfold inStringM putM enterM
          (repeat' split) <;> rfl
        · unfold inHeadM
          split
          · exact hp _ _
          · unfold inEscapeM inSequenceM finalM betweenM numberM enterM spoilM
            (repeat' split) <;> rfl
theorem u16_wf {a : Int} (h : (Lit.int .u16 a).wf = true) : 0 ≤ a ∧ a ≤ 65535 := by
  exact bounds_u16 h
/-- A parser between bytes, with all that is asked of it. -/
def HW (B : Nat) (w0 w : World) (P q : Nat) : Prop := ∃ s r, PW B w P s r ∧ J s ∧ s.most = q ∧ Below B w0 w
set_option maxRecDepth 100000 in
set_option maxHeartbeats 8000000 in
theorem parseHolds_walk (w : World) (A : Option Addr) (n c : Nat) (l : List Int) (hl : l.length = n) (hnc : n ≤ c) (hcm : c ≤ maxLen) (hrd : Rd w w.heap.size 1 A n (l.map b8)) (hq : ∀ x ∈ l, IsByte x) (b : Int) (wb : (Lit.int .u16 b).wf = true) (a : Int) (wa : (Lit.int .u8 a).wf = true) :
    Calls Try.prog 3 #[.slice A n c, .int .u16 b, .int .u8 a] w fun e w' => e = .returned (.bool true) ∧ Below w.heap.size w w' := by
  have AW := hide awake_any
  by_cases hbig : 60 < n
  · have d1 : decide (60 < n) = true := by simpa using hbig
    have d2 : decide (60 < (n : Int)) = true := by simp; omega
    clear hrd hq hl hcm
    go_enter Try.func3, Try.ntmps3
    go_wp2_with (go_at_call 10; go_must (refine (AW.out _).mono ?_; rintro e w1 ⟨rfl, b1⟩))
    go_ret
    exact ⟨rfl, b1⟩
  · have d1 : decide (60 < n) = false := by simpa using hbig
    have d2 : decide (60 < (n : Int)) = false := by simp; omega
    obtain ⟨h0, h1⟩ := byte_wf wa
    obtain ⟨m, rfl⟩ : ∃ m : Nat, a = m := ⟨a.toNat, by omega⟩
    obtain ⟨h2, h3⟩ := u16_wf wb
    obtain ⟨y, rfl⟩ : ∃ y : Nat, b = y := ⟨b.toNat, by omega⟩
    obtain ⟨q, hqq⟩ : ∃ q, m + 1 = q := ⟨_, rfl⟩
    have MD := hide (fun (W : World) (hb : Below w.heap.size w W) => made_hand w.heap.size (m : Int) W hb.size (by omega) (by omega))
    have e0 : ((m : Int).toNat + 1 : Nat) = q := by simp; omega
    rw [e0] at MD
    have e2 : IntKind.i64.wrap (m : Int) = m := IntWalk.i64_in _ (by omega)
    have e3 : (m : Int) + 1 = q := by omega
    obtain ⟨z, hz⟩ : ∃ z, q + 258 = z := ⟨_, rfl⟩
    have e4 : (q : Int) + 258 = z := by omega
    obtain ⟨r0, hr0⟩ : ∃ r0, y % 40 = r0 := ⟨_, rfl⟩
    have e5 : (y : Int).tmod 40 = r0 := by rw [Int.tmod_eq_emod_of_nonneg (by omega)]; omega
    have e6 : IntKind.i64.wrap (r0 : Int) = r0 := IntWalk.i64_in _ (by omega)
    obtain ⟨k0, hk0⟩ : ∃ k0, 1 + r0 = k0 := ⟨_, rfl⟩
    have e7 : (1 : Int) + r0 = k0 := by omega
    have e8 : IntKind.i64.wrap (k0 : Int) = k0 := IntWalk.i64_in _ (by omega)
    have hk1 : k0 ≤ 41 := by omega
    have hz2 := hide hz
    have HR := hide hrd
    have HQ := hide hq
    have hm : q ≤ 1000 := by omega
    clear hrd hq hl hcm hqq hz hr0 hk0
    go_enter Try.func3, Try.ntmps3
    go_wp2_with (first
      | (go_at_call 10; go_must (refine (AW.out _).mono ?_; rintro e w1 ⟨rfl, b1⟩; have B1 := hide b1; clear b1))
      | (go_at_call 11; go_must (refine (MD.out _ B1.out).mono ?_; rintro e w2 ⟨P, rfl, hP, b2, _⟩; have HP := hide hP; have B2 := hide (below_in B1.out b2 (Nat.le_refl _)); clear b2 hP)))
    go_loopg [9, 10] k0 (fun g s9 s10 wr => ∃ k : Nat, k + g = k0 ∧ s9 = .int .i64 k ∧ Hid (HW w.heap.size w wr P q))
    case atStart => exact ⟨0, by omega, rfl, _, R0, HP.out, J.new q, rfl, B2.out⟩
    case round =>
      clear HP B2
      obtain ⟨k, hk, rfl, HH⟩ := hrel
      by_cases hlt : k < k0
      · go_wp2_with fail
        go_loopg [10] n (fun g s10 wq => ∃ i : Nat, i + g = n ∧ s10 = .int .i64 i ∧ Hid (HW w.heap.size w wq P q))
        case atStart => exact ⟨0, by omega, rfl, HH.out⟩
        case round =>
          clear HH
          obtain ⟨i, hi, rfl, HH⟩ := hrel
          by_cases hlt2 : i < n
          · obtain ⟨s, r, hP, hJ, hs, hB⟩ := HH.out
            obtain ⟨b1, off, x, rfl, hb1, hx, cx⟩ := (HR.out).at1 hlt2
            obtain ⟨x0, x1⟩ := HQ.out x (List.mem_of_getElem? hx)
            have cx1 := (hB.cell (p := ⟨b1, off + i, none⟩) hb1).trans cx
            have ST := hide (step_hand hP hB.size x0 x1)
            have hJ2 := hide (hJ.step x)
            have hs2 := hide ((step_most s x).trans hs)
            obtain ⟨l2, hl2⟩ : ∃ l2, (stepM s x).1 = l2 := ⟨_, rfl⟩
            obtain ⟨s2, hs3⟩ : ∃ s2, (stepM s x).2 = s2 := ⟨_, rfl⟩
            unfold EvW at ST
            rw [hl2, hs3] at ST
            rw [hs3] at hJ2 hs2
            have HB := hide hB
            clear hP hJ hs hx cx hl2 hs3 hB
            go_wp2_with (first
              | (go_at_call 12; go_must (refine (ST.out).mono ?_; rintro e u1 ⟨A1, c1, r1, rfl, hE, hP1, hk1⟩; have P1 := hide hP1; have K1 := hide (HB.out.trans hk1.below); have hd := hJ2.out.held hP1.ok; rw [hs2.out, hz2.out] at hd; obtain ⟨h, hh⟩ : ∃ h, heldM s2 = h := ⟨_, rfl⟩; have HD := hide (fun (W : World) (hW : PW w.heap.size W P s2 r1) => held_hand hW); rw [hh] at HD hd; have g1 : decide ((z : Int) < h) = false := decide_eq_false (by omega); have g2 : decide (z < h) = false := decide_eq_false (by omega); clear hE hP1 hk1 hh))
              | (go_at_call 13; go_must (refine (HD.out _ P1.out).mono ?_; rintro e u2 ⟨rfl, q2, rfl⟩; have P1 := hide (P1.out.call (below_drewN' (Below.refl _ _) q2)); have K1 := hide (below_drewN' K1.out q2))))
            go_roundg (n - (i + 1))
            case measure => omega
            case rel => exact ⟨i + 1, by omega, by go_num, s2, r1, by have := P1.out; rwa [World.drewN_drewN] at this, hJ2.out, hs2.out, by have := K1.out; rwa [World.drewN_drewN] at this⟩
          · go_wp2_with fail
            go_roundg (k0 - (k + 1))
            case measure => omega
            case rel => exact ⟨k + 1, by omega, by go_num, HH.out⟩
      · go_wp2_with fail
        go_ret
        obtain ⟨s, r, hP, hJ, hs, hB⟩ := HH.out
        exact ⟨rfl, hB⟩
end Go.Proofs.Ythbjjhoajecpcaa
