/-
  A parser in the laws: what its calls leave of it and of all else. No condition but bounds.
-/
import Derived.Test.YthbjjhoajecpcaaAwake
import Derived.Test.YthbjjhoajecpcaaCopy
namespace Go.Proofs.Ythbjjhoajecpcaa
open Go.RowKit Go.Proofs
set_option linter.unusedVariables false
/-- A parser of the law's own. -/
structure PW (B : Nat) (w : World) (P : Nat) (s : Ps) (r : Rows3) : Prop where
  at_ : PIn w P s r
  ok : POk s
  own : ∀ k, PS P r k → B ≤ k
/-- What a change of a parser keeps. -/
structure Kp (B P : Nat) (r r' : Rows3) (w w' : World) : Prop where
  below : Below B w w'
  evs : ∀ base v n l, EvRow w base v n l → EvRow w' base v n l
  run : ∀ g t cs, t ≠ 5 → t ≠ 56 → Blk w g t cs → Blk w' g t cs
  own : ∀ {base e sz : Nat} {v : Value} {n : Nat} {xs : List Value}, e ≠ 5 → e ≠ 56 → w.ownsRow base e sz v n xs → w'.ownsRow base e sz v n xs
  other : ∀ Q t rq, PW B w Q t rq → (∀ k, PS Q rq k → ¬ PS P r k) → PW B w' Q t rq ∧ ∀ k, PS Q rq k → ¬ PS P r' k
theorem PW.call {B : Nat} {w w' : World} {P : Nat} {s : Ps} {r : Rows3} (h : PW B w P s r) (hb : Below w.heap.size w w') : PW B w' P s r := ⟨h.at_.call hb, h.ok, h.own⟩
theorem PW.lt {B : Nat} {w : World} {P : Nat} {s : Ps} {r : Rows3} (h : PW B w P s r) : P < w.heap.size := by
  obtain ⟨cs, hc⟩ := h.at_.dec.blk
  exact hc.lt
theorem PPost.kp {B : Nat} {w w' : World} {P : Nat} {s s' : Ps} {r : Rows3} (h : PW B w P s r) (hB : B ≤ w.heap.size) (hok : POk s') (hp : PPost P r s' w w') : ∃ r', PW B w' P s' r' ∧ Kp B P r r' w w' := by
  have hp' := hp
  obtain ⟨r', h1, h2, h3⟩ := hp
  refine ⟨r', ⟨h1, hok, fun k hk => ?_⟩, ⟨Frm.below h2 h.own hB, fun base v n l he => he.over h.at_ hp', fun g t cs t1 t2 hb => h.at_.keep h2 t1 t2 hb, fun t1 t2 ho => own_over ho h.at_ hp' t1 t2, fun Q t rq hQ ha => ⟨⟨hQ.at_.frm h2 ha, hQ.ok, hQ.own⟩, fun k hk hk' => ?_⟩⟩⟩
  · rcases h3 k hk with e | e
    · exact h.own k e
    · exact Nat.le_trans hB e
  · rcases h3 k hk' with e | e
    · exact ha k hk e
    · exact absurd (ps_lt hQ.at_ hk) (Nat.not_lt.2 e)
/-- Events handed back by a parser. -/
def EvW (B P : Nat) (r : Rows3) (s' : Ps) (l : List Ev) (w : World) (e : Ending) (w' : World) : Prop :=
  ∃ A c r', e = .returned (.slice A l.length c) ∧ EvRow w' w.heap.size (.slice A l.length c) l.length l ∧ PW B w' P s' r' ∧ Kp B P r r' w w'
theorem all_hand {B : Nat} {w : World} {P : Nat} {s : Ps} {r : Rows3} (h : PW B w P s r) (hB : B ≤ w.heap.size) {n c : Nat} {A : Option Addr} {l : List Int} (hr : Rd w B 1 A n (l.map b8)) (hn : n ≤ 1000) (hb : ∀ x ∈ l, 0 ≤ x ∧ x ≤ 255) :
    Calls Try.prog 16 #[.pointer (some ⟨P, 0, none⟩), .slice A n c] w (EvW B P r (allM s l).2 (allM s l).1 w) := by
  refine (all_any P s r n c A l w h.at_ h.ok (RdN.of_rd hr hB h.own) hn hb).mono fun e w' hh => ?_
  obtain ⟨A', c', he, hE, hp⟩ := hh
  obtain ⟨r', h1, h2⟩ := PPost.kp h hB (all_ok l h.ok hb) hp
  exact ⟨A', c', r', he, hE, h1, h2⟩
theorem step_hand {B : Nat} {w : World} {P : Nat} {s : Ps} {r : Rows3} (h : PW B w P s r) (hB : B ≤ w.heap.size) {c : Int} (h0 : 0 ≤ c) (h1 : c ≤ 255) :
    Calls Try.prog 12 #[.pointer (some ⟨P, 0, none⟩), .int .u8 c] w (EvW B P r (stepM s c).2 (stepM s c).1 w) := by
  refine (pstep_any P s r c w h.at_ h.ok h0 h1).mono fun e w' hh => ?_
  obtain ⟨A', c', he, hE, hp⟩ := hh
  obtain ⟨r', k1, k2⟩ := PPost.kp h hB (h.ok.step c h0 h1) hp
  exact ⟨A', c', r', he, hE, k1, k2⟩
theorem held_hand {B : Nat} {w : World} {P : Nat} {s : Ps} {r : Rows3} (h : PW B w P s r) : Calls Try.prog 13 #[.pointer (some ⟨P, 0, none⟩)] w fun e w' => e = .returned (.int .i64 (heldM s)) ∧ ∃ q, w' = w.drewN q :=
  held_any P s r w h.at_ h.ok.inter h.ok.head (Nat.le_trans h.ok.text h.ok.most)
theorem state_hand {B : Nat} {w : World} {P : Nat} {s : Ps} {r : Rows3} (h : PW B w P s r) : Calls Try.prog 17 #[.pointer (some ⟨P, 0, none⟩)] w fun e w' => e = .returned (.int .i64 s.state) ∧ w' = w :=
  state_any P s r w h.at_
theorem made_hand (B : Nat) (c : Int) (w : World) (hB : B ≤ w.heap.size) (h0 : 0 ≤ c) (h1 : c ≤ 255) : Calls Try.prog 11 #[.int .u8 c] w fun e w' => ∃ P, e = .returned (.pointer (some ⟨P, 0, none⟩)) ∧ PW B w' P (newM (c.toNat + 1)) R0 ∧ Below w.heap.size w w' ∧ ∀ k, PS P R0 k → w.heap.size ≤ k :=
  (made_any c w h0 h1).mono fun e w' ⟨P, hP, he, hI, hb⟩ => ⟨P, he, ⟨hI, new_ok (by omega), ps0 (Nat.le_trans hB hP)⟩, hb, ps0 hP⟩
/-- Few groups in all events. -/
def FewPs (s : Ps) : Prop := True
theorem one_few (e : Ev) (h : e.nums = []) : Few e.nums := by rw [h]; exact few_nil
theorem print1_few (s : Ps) (r : Int) : ∀ e ∈ (print1 s r).1, Few e.nums := by
  unfold print1 finalM escM execE printE
  intro e he
  (repeat' split at he) <;> simp at he <;> (try (subst he; exact few_nil))
theorem prints_few : ∀ (l : List Int) (s : Ps), ∀ e ∈ (printsM s l).1, Few e.nums
  | [], s, e, he => by simp [printsM] at he
  | r :: l, s, e, he => by
    simp only [printsM, List.mem_append] at he
    rcases he with he | he
    · exact print1_few s r e he
    · exact prints_few l _ e he
theorem ends_few (s : Ps) : ∀ e ∈ endsM s, Few e.nums := by
  unfold endsM
  intro e he
  split at he
  · simp at he; subst he; exact few_nil
  · split at he
    · simp at he; subst he; exact few_nums _
    · simp at he
theorem step_few (s : Ps) (c : Int) : ∀ e ∈ (stepM s c).1, Few e.nums := by
  intro e he
  unfold stepM at he
  split at he
  · simp only [List.mem_append, List.mem_singleton] at he
    rcases he with he | he
    · exact prints_few _ _ e he
    · subst he; exact few_nil
  · split at he
    · simp only [List.mem_append] at he
      rcases he with he | he
      · exact prints_few _ _ e he
      · exact ends_few _ e he
    · split at he
      · exact prints_few _ _ e he
      · split at he
        · unfold inStringM at he
          split at he
          · simp at he
          · split at he
            · simp at he
            · split at he
              · exact ends_few _ e he
              · split at he <;> simp at he
        · unfold inHeadM at he
          split at he
          · exact prints_few _ _ e he
          · split at he
            · simp at he
            · split at he
              · simp only [List.mem_singleton] at he; subst he; exact few_nil
              · split at he
                · unfold inEscapeM finalM escM at he
                  (repeat' split at he) <;> simp at he <;> (try (subst he; exact few_nil))
                · unfold inSequenceM at he
                  split at he
                  · simp at he
                  · split at he
                    · simp at he
                    · split at he
                      · simp at he
                      · split at he
                        · simp only [List.mem_singleton] at he; subst he; exact few_nums _
                        · simp at he
theorem all_few : ∀ (l : List Int) (s : Ps), ∀ e ∈ (allM s l).1, Few e.nums
  | [], s, e, he => by simp [allM] at he
  | c :: l, s, e, he => by
    simp only [allM, List.mem_append] at he
    rcases he with he | he
    · exact step_few s c e he
    · exact all_few l _ e he
end Go.Proofs.Ythbjjhoajecpcaa
