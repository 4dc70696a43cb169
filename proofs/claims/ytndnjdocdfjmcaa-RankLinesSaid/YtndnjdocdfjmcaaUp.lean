/-
  container/heap's up, walked. No condition but bounds.
-/
import Derived.Test.YtndnjdocdfjmcaaSwap
namespace Go.Proofs.Ytndnjdocdfjmcaa
open Go.RowKit Go.Proofs
set_option linter.unusedVariables false
/-- A heap of entries: its variable, its row, its entries. -/
structure HeapAt (w : World) (base H : Nat) (A : Option Addr) (n c : Nat) (l : List Ent) : Prop where
  blk : Blk w H 67 #[.slice A n c]
  own : w.ownsRow base 31 3 (.slice A n c) n (l.flatMap entE)
/-- The row's block. -/
def RB (A : Option Addr) (k : Nat) : Prop := (Value.slice A 0 0).ownBlock = some k
section
variable {w w' w'' : World} {base H : Nat} {A : Option Addr} {n c k : Nat} {l m : List Ent} {S : Nat → Prop}
theorem rb_own (h : (Value.slice A n c).ownBlock = some k) : RB A k := by cases A <;> exact h
theorem own_rb (h : RB A k) : (Value.slice A n c).ownBlock = some k := by cases A <;> exact h
theorem frm_call (h : Frm S w w') (hb : Below w'.heap.size w' w'') : Frm S w w'' :=
  h.trans (Frm.of_below (S := fun k => w'.heap.size ≤ k) hb fun _ _ h => h) (fun i hi hle => absurd (Nat.lt_of_lt_of_le hi h.size) (Nat.not_lt.2 hle))
theorem call_frm (hb : Below w.heap.size w w') : Frm S w w' := frm_call (Frm.refl S w) hb
theorem HeapAt.call (h : HeapAt w base H A n c l) (hb : Below w.heap.size w w') : HeapAt w' base H A n c l :=
  ⟨h.blk.below hb h.blk.lt, own_call h.own hb⟩
theorem HeapAt.len (h : HeapAt w base H A n c l) : l.length = n := (own_len entE_len (by omega) h.own).symm
theorem HeapAt.cell (h : HeapAt w base H A n c l) : w.cell? ⟨H, 0, none⟩ = some (.slice A n c) := h.blk.cell 0
/-- The row in its place changed. -/
theorem HeapAt.row (h : HeapAt w base H A n c l) (ho : w'.ownsRow base 31 3 (.slice A n c) n (m.flatMap entE)) (hf : Frm (RB A) w w') : HeapAt w' base H A n c m :=
  ⟨h.blk.frm hf (fun e => own_ne h.own h.blk (by decide) (own_rb e).symm), ho⟩
end
/-- A heap in its place, changed. -/
def HeapPost (base H : Nat) (A : Option Addr) (n c : Nat) (l : List Ent) (w : World) (e : Ending) (w' : World) : Prop :=
  e = .returned (.tuple #[]) ∧ HeapAt w' base H A n c l ∧ Frm (RB A) w w'
theorem frm_rb {w w' : World} {A : Option Addr} {n c : Nat} (h : Frm (fun k => (Value.slice A n c).ownBlock = some k) w w') : Frm (RB A) w w' := h.mono fun _ _ e => rb_own e
theorem rb_trans {w w1 w2 : World} {A : Option Addr} (h : Frm (RB A) w w1) (k : Frm (RB A) w1 w2) : Frm (RB A) w w2 := h.trans k fun _ _ e => e
set_option maxRecDepth 100000 in
set_option maxHeartbeats 4000000 in
theorem up_any (base H : Nat) (A : Option Addr) (n c : Nat) (l : List Ent) (j : Nat) (w : World) (h : HeapAt w base H A n c l) (hn : n ≤ 100000) (hj : j < n) :
    Calls Try.prog 34 #[.iface 69 (.pointer (some ⟨H, 0, none⟩)), .int .i64 j] w (HeapPost base H A n c (upF ltE l j) w) := by
  have HH := hide h
  clear h
  go_enter Try.func34, Try.ntmps34
  go_wp2
  go_loopg [1] j (fun gg s wr => ∃ (k : Nat) (m : List Ent), k < n ∧ k ≤ gg ∧ s = .int .i64 k ∧ Hid (HeapAt wr base H A n c m) ∧ Hid (upF ltE l j = upF ltE m k) ∧ Hid (Frm (RB A) w wr))
  case atStart => exact ⟨j, l, hj, Nat.le_refl _, rfl, HH.out, rfl, Frm.refl _ _⟩
  case round =>
    obtain ⟨k, m, hkn, hgk, rfl, HM, HE, HK⟩ := hrel
    have hml := HM.out.len
    by_cases h0 : k = 0
    · subst h0
      have e0 : ((0 : Nat) : Int) = 0 := rfl
      rw [e0]
      have HS := hide (upF_stop ltE (l := m) (j := 0) (.inl rfl))
      clear hml
      go_wp2
      go_end0
      rw [HE.out, HS.out]
      exact ⟨rfl, HM.out, HK.out⟩
    · obtain ⟨p, hp⟩ : ∃ p : Nat, (k - 1) / 2 = p := ⟨_, rfl⟩
      have k1 : (1 : Int) ≤ k := by omega
      have hpi : ((k : Int) - 1) / 2 = p := by omega
      have hpt : ((k : Int) - 1).tdiv 2 = p := by rw [Int.tdiv_eq_ediv_of_nonneg (by omega)]; exact hpi
      have hpk : p < k := by omega
      have d1 : ((p : Int) == (k : Int)) = false := by rw [beq_eq_false_iff_ne]; omega
      have d2 : (p == k) = false := by rw [beq_eq_false_iff_ne]; omega
      obtain ⟨a, ha⟩ : ∃ a, m[k]? = some a := ⟨_, List.getElem?_eq_getElem (by omega)⟩
      obtain ⟨b, hb⟩ : ∃ b, m[p]? = some b := ⟨_, List.getElem?_eq_getElem (by omega)⟩
      have L1 := hide (less_any base A n c m k p a b wr HM.out.own hn ha hb)
      have SW := hide (fun (W : World) (hW : HeapAt W base H A n c m) => swap_any base A n c m p k W hW.own hn (by omega) hkn)
      have hmL := meth_val mLess H A n c wr HM.out.cell
      have hlt := ltAt_eq ltE ha hb
      cases hc : ltE a b with
      | false =>
        rw [hc] at L1 hlt
        have HS := hide (upF_stop ltE (l := m) (j := k) (.inr (by rw [hp]; exact hlt)))
        clear hc hlt ha hb hp hml
        go_wp2_with (go_at_call 53; go_must (refine (L1.out).mono ?_; rintro e w1 ⟨rfl, b1⟩; have B1 := hide b1; clear b1))
        go_end0
        rw [HE.out, HS.out]
        exact ⟨rfl, HM.out.call B1.out, frm_call HK.out B1.out⟩
      | true =>
        rw [hc] at L1 hlt
        have HS := hide (upF_go ltE (l := m) (j := k) (by omega) (by rw [hp]; exact hlt))
        rw [hp] at HS
        clear hc hlt ha hb hp hml
        go_wp2_with (first
          | (go_at_call 53; go_must (refine (L1.out).mono ?_; rintro e w1 ⟨rfl, b1⟩; have H1 := hide (HM.out.call b1); have hmS := meth_val mSwap H A n c w1 H1.out.cell; have S1 := hide (SW.out w1 H1.out); have B1 := hide b1; clear b1))
          | (go_at_call 54; go_must (refine (S1.out).mono ?_; rintro e w2 ⟨rfl, o2, f2⟩; have H2 := hide (H1.out.row o2 (frm_rb f2)); have F2 := hide (rb_trans (frm_call HK.out B1.out) (frm_rb f2)); clear o2 f2)))
        go_roundg p
        case measure => omega
        case rel => exact ⟨p, sw m p k, by omega, Nat.le_refl _, rfl, H2.out, by rw [HE.out, HS.out]; exact rfl, F2.out⟩
end Go.Proofs.Ytndnjdocdfjmcaa
