/-
  The walks of the rows' Same and of one. No condition but bounds.
-/
import Derived.Test.YtailflbhcmgnpaaSame
namespace Go.Proofs.Ytailflbhcmgnpaa
open Go.RowKit Go.Proofs
set_option linter.unusedVariables false
theorem flatRd {w : World} {B n : Nat} {A : Option Addr} {rows : List (Value × Value)} (h : Rd w B 2 A n (flatP rows)) {i : Nat} (hi : i < n) :
    ∃ b off p, A = some ⟨b, off, none⟩ ∧ b < B ∧ rows[i]? = some p ∧ w.cell? ⟨b, off + i * 2, none⟩ = some p.1 ∧ w.cell? ⟨b, off + i * 2 + 1, none⟩ = some p.2 := by
  obtain ⟨b, off, p, e, hb, hx, hc⟩ := Rd.row (E := fun p : Value × Value => [p.1, p.2]) (fun _ => rfl) (by omega) h hi
  exact ⟨b, off, p, e, hb, hx, hc 0 _ rfl, hc 1 _ rfl⟩
/-- Rows that are read, one by one. -/
def RowsIn (ok : Nat → Prop) (w : World) (rows : List (Value × Value)) (L : List Row) : Prop := rows.length = L.length ∧ ∀ (i : Nat) (R : Row), L[i]? = some R → ∃ p, rows[i]? = some p ∧ RowV ok w p R
theorem RowsIn.keep {ok : Nat → Prop} {w w' : World} {rows : List (Value × Value)} {L : List Row} (h : RowsIn ok w rows L) (hk : Keep45 ok w w') : RowsIn ok w' rows L :=
  ⟨h.1, fun i R hR => by obtain ⟨p, h1, h2⟩ := h.2 i R hR; exact ⟨p, h1, h2.keep hk⟩⟩
set_option maxHeartbeats 2000000 in
theorem same_any (ok ok' : Nat → Prop) {B B' : Nat} (L : List Row) (rows rows' : List (Value × Value)) (n : Nat) (A A' : Option Addr) (c c' : Nat) (w : World) (h : Rd w B 2 A n (flatP rows)) (h' : Rd w B' 2 A' n (flatP rows')) (r : RowsIn ok w rows L) (r' : RowsIn ok' w rows' L) (hn : n ≤ 1000000) :
    Calls Try.prog 20 #[.slice A n c, .slice A' n c'] w fun e w' => e = .returned (.bool true) ∧ Below w.heap.size w w' := by
  have HL := hide (show L.length = n by
    have := h.1
    rw [flatP_len, r.1] at this
    omega)
  have HR := hide r
  have HR' := hide r'
  clear r r'
  go_enter Try.func20, Try.ntmps20
  go_wp2
  go_loopg [5] n (fun g s5 wr => ∃ k : Nat, k + g = n ∧ s5 = .int .i64 k ∧ Rd wr B 2 A n (flatP rows) ∧ Rd wr B' 2 A' n (flatP rows') ∧ Below w.heap.size w wr)
  case atStart => exact ⟨0, by omega, rfl, h, h', Below.refl _ _⟩
  case round =>
    clear h h'
    obtain ⟨k, hkg, rfl, h, h', hb⟩ := hrel
    by_cases hlt : k < n
    · obtain ⟨R, hR⟩ : ∃ R, L[k]? = some R := ⟨_, List.getElem?_eq_getElem (by rw [HL.out]; exact hlt)⟩
      obtain ⟨b, off, p, rfl, hbB, hp, c1, c2⟩ := flatRd h hlt
      obtain ⟨b', off', p', rfl, hbB', hp', c1', c2'⟩ := flatRd h' hlt
      have rv := HR.out.2 k R hR
      have rv' := HR'.out.2 k R hR
      rw [hp] at rv
      rw [hp'] at rv'
      obtain ⟨_, e1, rv⟩ := rv
      obtain ⟨_, e2, rv'⟩ := rv'
      injection e1 with e1
      injection e2 with e2
      subst e1 e2
      have rv := rv.keep (Keep45.below hb)
      have rv' := rv'.keep (Keep45.below hb)
      clear hp hp' hR
      cases R with
      | none =>
        unfold RowV at rv rv'
        subst rv rv'
        have S := hide same7_none
        go_wp2_with fail
        go_quiet ((go_at_call 32; exact Calls.quiet_of (S.out _)))
        go_wp2_with fail
        go_roundg (n - (k + 1))
        case measure => omega
        case rel => exact ⟨k + 1, by omega, by go_num, h.drewN nq, h'.drewN nq, below_drewN' hb nq⟩
      | some x =>
        obtain ⟨d, e, cs, rfl, _, hB, ht, _⟩ := rv
        obtain ⟨d', e', cs', rfl, _, hB', ht', _⟩ := rv'
        have S := hide (fun q => same7_some d d' e e' cs cs' x (wr.drewN q) (hB.drewN q) ht (hB'.drewN q) ht')
        clear hB hB' ht ht'
        go_wp2_with fail
        go_quiet ((go_at_call 32; exact Calls.quiet_of (S.out _)))
        go_wp2_with fail
        go_roundg (n - (k + 1))
        case measure => omega
        case rel => exact ⟨k + 1, by omega, by go_num, h.drewN nq, h'.drewN nq, below_drewN' hb nq⟩
    · go_wp2_with fail
      go_ret
      exact ⟨rfl, hb⟩
theorem rd_pair (w : World) (p : Value × Value) : Rd (w.alloc (.cells #[p.1, p.2] 30)) (w.heap.size + 1) 2 (some ⟨w.heap.size, 0, none⟩) 1 (flatP [p]) := rd_news (cs := #[p.1, p.2]) rfl
/-- A row's cells: a slice and a Boolean. -/
theorem row_form {ok : Nat → Prop} {w : World} {v1 v2 : Value} {R : Row} (h : RowV ok w (v1, v2) R) : ∃ A n c b, v1 = .slice A n c ∧ v2 = .bool b := by
  cases R with
  | none => unfold RowV at h; injection h with h1 h2; exact ⟨_, _, _, _, h1, h2⟩
  | some k => obtain ⟨b, c, cs, h1, _⟩ := h; injection h1 with h1 h2; exact ⟨_, _, _, _, h1, h2⟩
theorem rowsIn_one {ok : Nat → Prop} {w : World} {p : Value × Value} {R : Row} (h : RowV ok w p R) : RowsIn ok w [p] [R] :=
  ⟨rfl, fun i S hS => by
    cases i with
    | zero => simp at hS; subst hS; exact ⟨p, rfl, h⟩
    | succ i => simp at hS⟩
set_option maxHeartbeats 2000000 in
theorem one_any (ok ok' : Nat → Prop) (v1 v2 u1 u2 : Value) (R : Row) (w : World) (h : RowV ok w (v1, v2) R) (h' : RowV ok' w (u1, u2) R) :
    Calls Try.prog 12 #[.agg #[v1, v2], .agg #[u1, u2]] w fun e w' => e = .returned (.bool true) ∧ Below w.heap.size w w' := by
  obtain ⟨A, n, c, b, rfl, rfl⟩ := row_form h
  obtain ⟨A', n', c', b', rfl, rfl⟩ := row_form h'
  have Hh := hide (And.intro h h')
  clear h h'
  obtain ⟨W, hW⟩ : ∃ W, W = (w.alloc (.cells #[.slice A n c, .bool b] 30)).alloc (.cells #[.slice A' n' c', .bool b'] 30) := ⟨_, rfl⟩
  have e2 : W.heap.size = w.heap.size + 2 := by rw [hW]; simp
  have hb : Below w.heap.size w W := by rw [hW]; exact ((Below.refl _ _).alloc (Nat.le_refl _) _).alloc (by simp) _
  have q1 := (rd_pair W (.slice A n c, .bool b)).alloc (by simp) (.cells #[.slice A' n' c', .bool b'] 30)
  have q2 := rd_pair (W.alloc (.cells #[.slice A n c, .bool b] 30)) (.slice A' n' c', .bool b')
  have hb4 : Below w.heap.size w ((W.alloc (.cells #[.slice A n c, .bool b] 30)).alloc (.cells #[.slice A' n' c', .bool b'] 30)) := (hb.alloc (by omega) _).alloc (by simp; omega) _
  rw [World.size_alloc] at q2
  rw [e2] at q1 q2
  have SS := hide (fun (c1 c2 : Nat) => same_any ok ok' [R] [(.slice A n c, .bool b)] [(.slice A' n' c', .bool b')] 1 _ _ c1 c2 _ q1 q2 (rowsIn_one (Hh.out.1.keep (Keep45.below hb4))) (rowsIn_one (Hh.out.2.keep (Keep45.below hb4))) (by omega))
  have HB := hide hb4
  have HW := hide hW
  clear q1 q2 hb4 hb e2 hW
  go_enter Try.func12, Try.ntmps12
  go_wp2_with (go_at_call 20; rw [← HW.out]; go_must (refine (SS.out _ _).mono ?_; rintro e w1 ⟨rfl, b1⟩))
  go_ret
  exact ⟨rfl, below_in HB.out b1 (Nat.le_refl _)⟩
end Go.Proofs.Ytailflbhcmgnpaa
