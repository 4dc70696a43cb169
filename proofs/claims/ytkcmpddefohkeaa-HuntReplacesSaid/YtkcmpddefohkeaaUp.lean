/-
  container/heap's up, walked. No condition but bounds.
-/
import Derived.Test.YtkcmpddefohkeaaSwap
namespace Go.Proofs.Ytkcmpddefohkeaa
open Go.RowKit Go.Proofs
set_option linter.unusedVariables false
/-- A heap of streams: its variable, its row, its streams. -/
structure HeapAt (w : World) (base H : Nat) (left : Int) (A : Option Addr) (n c : Nat) (l : List Strm) : Prop where
  blk : Blk w H 49 #[.slice A n c, .int .i64 left]
  own : w.ownsRow base 53 2 (.slice A n c) n (l.flatMap stE)
  ok : ∀ s ∈ l, SOk w s
  hb : base ≤ H
section
variable {w w' : World} {base H : Nat} {left : Int} {A : Option Addr} {n c : Nat} {l m : List Strm}
theorem HeapAt.call (h : HeapAt w base H left A n c l) (hb : Below w.heap.size w w') : HeapAt w' base H left A n c l :=
  ⟨h.blk.below hb h.blk.lt, own_call h.own hb, fun s hs => (h.ok s hs).keep ((KeepT.refl w).call hb), h.hb⟩
theorem HeapAt.len (h : HeapAt w base H left A n c l) : l.length = n := (own_len stE_len (by omega) h.own).symm
theorem HeapAt.cell (h : HeapAt w base H left A n c l) : w.cell? ⟨H, 0, none⟩ = some (.slice A n c) := h.blk.cell 0
/-- The row in its place changed. -/
theorem HeapAt.row (h : HeapAt w base H left A n c l) (ho : w'.ownsRow base 53 2 (.slice A n c) n (m.flatMap stE)) (hk : KeepT w w') (hf : Frm (fun k => (Value.slice A n c).ownBlock = some k) w w') (hp : ∀ s ∈ m, s ∈ l) : HeapAt w' base H left A n c m :=
  ⟨h.blk.frm hf (fun e => own_ne h.own h.blk (by decide) e.symm), ho, fun s hs => (h.ok s (hp s hs)).keep hk, h.hb⟩
theorem row_below {e : TypeId} {xs : List Value} (h : w.ownsRow base e 2 (.slice A n c) n xs) (hf : Frm (fun k => (Value.slice A n c).ownBlock = some k) w w') (hb : base ≤ w.heap.size) : Below base w w' := hf.to_below hb (fun i e => (h.lt i e).1)
end
/-- A heap in its place, changed. -/
def HeapPost (base H : Nat) (left : Int) (A : Option Addr) (n c : Nat) (l : List Strm) (w : World) (e : Ending) (w' : World) : Prop :=
  e = .returned (.tuple #[]) ∧ HeapAt w' base H left A n c l ∧ KeepT w w' ∧ Below base w w'
theorem sw_mem {α : Type} {l : List α} {i j : Nat} (hi : i < l.length) (hj : j < l.length) {s : α} (h : s ∈ sw l i j) : s ∈ l := (sw_perm hi hj).mem_iff.1 h
set_option maxRecDepth 100000 in
set_option maxHeartbeats 4000000 in
theorem up_any (base H : Nat) (left : Int) (A : Option Addr) (n c : Nat) (l : List Strm) (j : Nat) (w : World) (h : HeapAt w base H left A n c l) (hn : n ≤ 100000) (hj : j < n) (hbw : base ≤ w.heap.size) :
    Calls Try.prog 32 #[.iface 51 (.pointer (some ⟨H, 0, none⟩)), .int .i64 j] w (HeapPost base H left A n c (upF ltS l j) w) := by
  have HH := hide h
  clear h
  go_enter Try.func32, Try.ntmps32
  go_wp2
  go_loopg [1] j (fun gg s wr => ∃ (k : Nat) (m : List Strm), k < n ∧ k ≤ gg ∧ s = .int .i64 k ∧ Hid (HeapAt wr base H left A n c m) ∧ Hid (upF ltS l j = upF ltS m k) ∧ Hid (KeepT w wr) ∧ Hid (Below base w wr))
  case atStart => exact ⟨j, l, hj, Nat.le_refl _, rfl, HH.out, rfl, KeepT.refl _, Below.refl _ _⟩
  case round =>
    obtain ⟨k, m, hkn, hgk, rfl, HM, HE, HK, HB⟩ := hrel
    have hml := HM.out.len
    have hbr := Nat.le_trans hbw HB.out.size
    by_cases h0 : k = 0
    · subst h0
      have e0 : ((0 : Nat) : Int) = 0 := rfl
      rw [e0]
      have HS := hide (upF_stop ltS (l := m) (j := 0) (.inl rfl))
      clear hml
      go_wp2
      go_end0
      rw [HE.out, HS.out]
      exact ⟨rfl, HM.out, HK.out, HB.out⟩
    · obtain ⟨p, hp⟩ : ∃ p : Nat, (k - 1) / 2 = p := ⟨_, rfl⟩
      have k1 : (1 : Int) ≤ k := by omega
      have hpi : ((k : Int) - 1) / 2 = p := by omega
      have hpt : ((k : Int) - 1).tdiv 2 = p := by rw [Int.tdiv_eq_ediv_of_nonneg (by omega)]; exact hpi
      have hpk : p < k := by omega
      have d1 : ((p : Int) == (k : Int)) = false := by rw [beq_eq_false_iff_ne]; omega
      have d2 : (p == k) = false := by rw [beq_eq_false_iff_ne]; omega
      obtain ⟨a, ha⟩ : ∃ a, m[k]? = some a := ⟨_, List.getElem?_eq_getElem (by omega)⟩
      obtain ⟨b, hb⟩ : ∃ b, m[p]? = some b := ⟨_, List.getElem?_eq_getElem (by omega)⟩
      have L1 := hide (less_any base A n c m k p a b wr HM.out.own hn ha hb (HM.out.ok a (List.mem_of_getElem? ha)) (HM.out.ok b (List.mem_of_getElem? hb)))
      have SW := hide (fun (W : World) (hW : HeapAt W base H left A n c m) => swap_any base A n c m p k W hW.own hn (by omega) hkn)
      have hmL := meth_val mLess H A n c wr HM.out.cell
      have hlt := ltAt_eq ltS ha hb
      have hmem := hide (fun (s : Strm) (hs : s ∈ sw m p k) => sw_mem (l := m) (by omega) (by omega) hs)
      cases hc : ltS a b with
      | false =>
        rw [hc] at L1 hlt
        have HS := hide (upF_stop ltS (l := m) (j := k) (.inr (by rw [hp]; exact hlt)))
        clear hc hlt ha hb hp hml
        go_wp2_with (go_at_call 56; go_must (refine (L1.out).mono ?_; rintro e w1 ⟨rfl, b1⟩; have B1 := hide b1; clear b1))
        go_end0
        rw [HE.out, HS.out]
        exact ⟨rfl, HM.out.call B1.out, HK.out.call B1.out, below_in HB.out B1.out hbw⟩
      | true =>
        rw [hc] at L1 hlt
        have HS := hide (upF_go ltS (l := m) (j := k) (by omega) (by rw [hp]; exact hlt))
        rw [hp] at HS
        clear hc hlt ha hb hp hml
        go_wp2_with (first
          | (go_at_call 56; go_must (refine (L1.out).mono ?_; rintro e w1 ⟨rfl, b1⟩; have H1 := hide (HM.out.call b1); have hmS := meth_val mSwap H A n c w1 H1.out.cell; have S1 := hide (SW.out w1 H1.out); have B1 := hide b1; clear b1))
          | (go_at_call 57; go_must (refine (S1.out).mono ?_; rintro e w2 ⟨rfl, o2, k2, f2⟩; have H2 := hide (H1.out.row o2 k2 f2 hmem.out); have K2 := hide k2; have B2 := hide (row_below H1.out.own f2 (Nat.le_trans hbr B1.out.size)); clear o2 k2 f2)))
        go_roundg p
        case measure => omega
        case rel => exact ⟨p, sw m p k, by omega, Nat.le_refl _, rfl, H2.out, by rw [HE.out, HS.out]; exact rfl, (HK.out.call B1.out).trans K2.out, (below_in HB.out B1.out hbw).trans B2.out⟩
end Go.Proofs.Ytkcmpddefohkeaa
