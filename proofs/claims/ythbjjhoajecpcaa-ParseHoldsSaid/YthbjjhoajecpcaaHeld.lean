/-
  A byte more in one of a parser's rows; between, number, put, size, State, Held, walked. No condition but bounds.
-/
import Derived.Test.YthbjjhoajecpcaaPar
namespace Go.Proofs.Ythbjjhoajecpcaa
open Go.RowKit Go.Proofs
set_option linter.unusedVariables false
section
variable {w w3 : World} {P : Nat} {s : Ps} {r : Rows3} {A' : Option Addr} {c' : Nat} {c : Int}
theorem app_head (h : PIn w P s r) (app : App (w.alloc (.cells #[.int .u8 c] 5)) 0 5 1 (.slice r.A1 s.head.length r.c1) (.slice A' (s.head.length + 1) c') (s.head.length + 1) (s.head.map b8 ++ #[Value.int .u8 c].toList) w3) :
    PPost P r { s with head := s.head ++ [c] } w (w3.setCell ⟨P, 1, none⟩ (.slice A' (s.head.length + 1) c')) := by
  obtain ⟨n, need, have_, lo, hi, hB, hR⟩ := h.dec
  have hB3 := app.blk (hB.alloc (.cells #[.int .u8 c] 5)) (h.head.alloc _) (by decide)
  have hlt : ∀ {A : Option Addr} {m cc : Nat} {xs : List Value}, w.ownsRow 0 5 1 (.slice A m cc) m xs → ∀ k, RB A k → k < w.heap.size := fun ho k hk => (ho.lt k (own_rb hk)).2
  have hsz : (w.alloc (.cells #[.int .u8 c] 5)).heap.size = w.heap.size + 1 := World.size_alloc ..
  have fr : Frm (fun k => RB r.A1 k) w w3 := app.frm ((Frm.refl _ w).alloc _) (fun k hk _ => rb_own hk)
  have o2 := own_far (p := ⟨P, 1, none⟩) (own_frm h.inter fr (fun k hk e => h.a12 k e (rb_own hk))) (own_ne (own_frm h.inter fr (fun k hk e => h.a12 k e (rb_own hk))) hB3 (by decide)) (.slice A' (s.head.length + 1) c')
  have o3 := own_far (p := ⟨P, 1, none⟩) (own_frm h.text fr (fun k hk e => h.a13 k e (rb_own hk))) (own_ne (own_frm h.text fr (fun k hk e => h.a13 k e (rb_own hk))) hB3 (by decide)) (.slice A' (s.head.length + 1) c')
  have o1 := own_far (p := ⟨P, 1, none⟩) app.own (own_ne app.own hB3 (by decide)) (.slice A' (s.head.length + 1) c')
  have e : s.head.length + 1 = (s.head ++ [c]).length := by simp
  have e2 : s.head.map b8 ++ #[Value.int .u8 c].toList = (s.head ++ [c]).map b8 := by simp [b8]
  rw [e2, e] at o1
  rw [e] at o2 o3
  rw [e]
  refine ⟨{ r with A1 := A', c1 := c' }, ⟨⟨n, need, have_, lo, hi, ?_, hR⟩, by exact o1, by exact o2, by exact o3, ?_, ?_, h.a23⟩, ?_, ?_⟩
  · have := hB3.set_ 1 (.slice A' (s.head.length + 1) c')
    simp only [decC, List.setIfInBounds_toArray, List.set_cons_zero, List.set_cons_succ] at this
    rw [e] at this
    exact this
  · intro k h2 h3
    rcases app_rb app h2 with e | e
    · exact h.a12 k e h3
    · have := hlt h.inter k h3; omega
  · intro k h2 h3
    rcases app_rb app h2 with e | e
    · exact h.a13 k e h3
    · have := hlt h.text k h3; omega
  · exact (fr.mono (fun k _ e => .inr (.inl e))).setCell (p := ⟨P, 1, none⟩) (fun _ => .inl rfl) _
  · rintro k (e | e | e | e)
    · exact .inl (.inl e)
    · rcases app_rb app e with e | e
      · exact .inl (.inr (.inl e))
      · exact .inr (by omega)
    · exact .inl (.inr (.inr (.inl e)))
    · exact .inl (.inr (.inr (.inr e)))
theorem app_text (h : PIn w P s r) (app : App (w.alloc (.cells #[.int .u8 c] 5)) 0 5 1 (.slice r.A3 s.text.length r.c3) (.slice A' (s.text.length + 1) c') (s.text.length + 1) (s.text.map b8 ++ #[Value.int .u8 c].toList) w3) :
    PPost P r { s with text := s.text ++ [c] } w (w3.setCell ⟨P, 3, none⟩ (.slice A' (s.text.length + 1) c')) := by
  obtain ⟨n, need, have_, lo, hi, hB, hR⟩ := h.dec
  have hB3 := app.blk (hB.alloc (.cells #[.int .u8 c] 5)) (h.text.alloc _) (by decide)
  have hlt : ∀ {A : Option Addr} {m cc : Nat} {xs : List Value}, w.ownsRow 0 5 1 (.slice A m cc) m xs → ∀ k, RB A k → k < w.heap.size := fun ho k hk => (ho.lt k (own_rb hk)).2
  have hsz : (w.alloc (.cells #[.int .u8 c] 5)).heap.size = w.heap.size + 1 := World.size_alloc ..
  have fr : Frm (fun k => RB r.A3 k) w w3 := app.frm ((Frm.refl _ w).alloc _) (fun k hk _ => rb_own hk)
  have o1 := own_far (p := ⟨P, 3, none⟩) (own_frm h.head fr (fun k hk e => h.a13 k (rb_own hk) e)) (own_ne (own_frm h.head fr (fun k hk e => h.a13 k (rb_own hk) e)) hB3 (by decide)) (.slice A' (s.text.length + 1) c')
  have o2 := own_far (p := ⟨P, 3, none⟩) (own_frm h.inter fr (fun k hk e => h.a23 k (rb_own hk) e)) (own_ne (own_frm h.inter fr (fun k hk e => h.a23 k (rb_own hk) e)) hB3 (by decide)) (.slice A' (s.text.length + 1) c')
  have o3 := own_far (p := ⟨P, 3, none⟩) app.own (own_ne app.own hB3 (by decide)) (.slice A' (s.text.length + 1) c')
  have e : s.text.length + 1 = (s.text ++ [c]).length := by simp
  have e2 : s.text.map b8 ++ #[Value.int .u8 c].toList = (s.text ++ [c]).map b8 := by simp [b8]
  rw [e2, e] at o3
  rw [e] at o1 o2
  rw [e]
  refine ⟨{ r with A3 := A', c3 := c' }, ⟨⟨n, need, have_, lo, hi, ?_, hR⟩, by exact o1, by exact o2, by exact o3, h.a12, ?_, ?_⟩, ?_, ?_⟩
  · have := hB3.set_ 3 (.slice A' (s.text.length + 1) c')
    simp only [decC, List.setIfInBounds_toArray, List.set_cons_zero, List.set_cons_succ] at this
    rw [e] at this
    exact this
  · intro k h1 h2
    rcases app_rb app h2 with e | e
    · exact h.a13 k h1 e
    · have := hlt h.head k h1; omega
  · intro k h1 h2
    rcases app_rb app h2 with e | e
    · exact h.a23 k h1 e
    · have := hlt h.inter k h1; omega
  · exact (fr.mono (fun k _ e => .inr (.inr (.inr e)))).setCell (p := ⟨P, 3, none⟩) (fun _ => .inl rfl) _
  · rintro k (e | e | e | e)
    · exact .inl (.inl e)
    · exact .inl (.inr (.inl e))
    · exact .inl (.inr (.inr (.inl e)))
    · rcases app_rb app e with e | e
      · exact .inl (.inr (.inr (.inr e)))
      · exact .inr (by omega)
end
/-- The cells of a parser. -/
theorem PIn.cells {w : World} {P : Nat} {s : Ps} {r : Rows3} (h : PIn w P s r) :
    w.cell? ⟨P, 0, none⟩ = some (.int .u8 s.pre) ∧ w.cell? ⟨P, 1, none⟩ = some (.slice r.A1 s.head.length r.c1) ∧ w.cell? ⟨P, 2, none⟩ = some (.slice r.A2 s.inter.length r.c2) ∧ w.cell? ⟨P, 3, none⟩ = some (.slice r.A3 s.text.length r.c3) ∧ w.cell? ⟨P, 4, none⟩ = some (.int .u8 s.last) ∧ w.cell? ⟨P, 5, none⟩ = some (.bool s.wrong) ∧ w.cell? ⟨P, 6, none⟩ = some (.bool s.cut) ∧ w.cell? ⟨P, 7, none⟩ = some (.int .i64 s.most) ∧ w.cell? ⟨P, 8, none⟩ = some (.int .i64 s.state) ∧ (∀ i, w.frozen? ⟨P, i, none⟩ = false) ∧ P < w.heap.size := by
  obtain ⟨n, need, have_, lo, hi, hB, hR⟩ := h.dec
  exact ⟨hB.cell 0, hB.cell 1, hB.cell 2, hB.cell 3, hB.cell 4, hB.cell 5, hB.cell 6, hB.cell 7, hB.cell 8, fun i => hB.frozen i, hB.lt⟩
def betweenM (s : Ps) (c : Int) : Ps := if s.inter.length = 2 then spoilM s else if s.wrong = true then s else { s with inter := s.inter ++ [c] }
set_option maxHeartbeats 2000000 in
theorem between_any (P : Nat) (s : Ps) (r : Rows3) (c : Int) (w : World) (h : PIn w P s r) (hl : s.inter.length ≤ 2) : Calls Try.prog 47 #[.pointer (some ⟨P, 0, none⟩), .int .u8 c] w fun e w' => e = .returned (.tuple #[]) ∧ PPost P r (betweenM s c) w w' := by
  obtain ⟨c0, c1, c2, c3, c4, c5, c6, c7, c8, fz, hlt⟩ := h.cells
  have HH := hide h
  obtain ⟨n, hn⟩ : ∃ n, s.inter.length = n := ⟨_, rfl⟩
  rw [hn] at c2 hl
  by_cases h2 : n = 2
  · have HM := hide (show betweenM s c = spoilM s by unfold betweenM; rw [if_pos (by omega)])
    have SP := hide (spoil_any P s r w h)
    subst h2
    clear h hn
    go_enter Try.func47, Try.ntmps47
    go_wp2_with (go_at_call 59; go_must (refine (SP.out).mono ?_; rintro e w1 ⟨rfl, hp⟩; obtain ⟨r', k1, k2, k3⟩ := hp; have K := hide (show PPost P r (spoilM s) w w1 from ⟨r', k1, k2, k3⟩); have d5 := k1.cells.2.2.2.2.2.1; have d5 : w1.cell? ⟨P, 5, none⟩ = some (.bool true) := d5; clear k1 k2 k3))
    go_end0
    rw [HM.out]
    exact ⟨rfl, K.out⟩
  · have q1 : (n == 2) = false := by simpa using h2
    have q2 : ((n : Int) == 2) = false := by rw [beq_eq_false_iff_ne]; omega
    cases hw : s.wrong with
    | true =>
      rw [hw] at c5
      have HM := hide (show betweenM s c = s by unfold betweenM; rw [if_neg (by omega), if_pos hw])
      clear h hn hw h2
      go_enter Try.func47, Try.ntmps47
      go_wp2
      go_end0
      rw [HM.out]
      exact ⟨rfl, PPost.refl HH.out⟩
    | false =>
      rw [hw] at c5
      have HM := hide (show betweenM s c = { s with inter := s.inter ++ [c] } by unfold betweenM; rw [if_neg (by omega), if_neg (by rw [hw]; simp)])
      have HN := hide hn
      clear h hn hw h2
      go_enter Try.func47, Try.ntmps47
      go_wp2_with (at_builtin; go_must (refine wpList_append1 Try.sl22 rfl _ _ rfl 0 (.slice r.A2 n r.c2) n _ #[.int .u8 c] w 1 rfl rfl rfl (by have := HH.out.inter; rw [HN.out] at this; exact this) rfl (by intro u hu; simp at hu; subst hu; rfl) (by simp only [maxLen]; omega) (by omega) (Nat.zero_le _) ?_; intro A3 c3' w3 app; have AP := hide (app_inter HH.out (by rw [HN.out]; exact app)); obtain ⟨n9, need, have_, lo, hi, hB, hR⟩ := HH.out.dec; have b3 := app.blk (hB.alloc (.cells #[.int .u8 c] 5)) ((show w.ownsRow 0 5 1 (.slice r.A2 n r.c2) n _ by have := HH.out.inter; rw [HN.out] at this; exact this).alloc _) (by decide); have e2 : w3.cell? ⟨P, 2, none⟩ = some (.slice r.A2 s.inter.length r.c2) := b3.cell 2; have fz3 := fun i => b3.frozen i; clear app hB hR b3))
      go_end0
      rw [HM.out]
      have := AP.out
      rw [HN.out] at this
      exact ⟨rfl, this⟩
end Go.Proofs.Ythbjjhoajecpcaa
