/-
  Pop of a heap of entries, walked; container/heap's Push. No condition but bounds.
-/
import Derived.Test.YtndnjdocdfjmcaaPushM
namespace Go.Proofs.Ytndnjdocdfjmcaa
open Go.RowKit Go.Proofs
set_option linter.unusedVariables false
theorem own_front {w : World} {base s n c k : Nat} {e : TypeId} {A : Option Addr} {xs : List Value} (h : w.ownsRow base e s (.slice A n c) n xs) (hk : k ≤ n) : w.ownsRow base e s (.slice A k c) k (xs.take (k * s)) := by
  have hl : (xs.take (k * s)).length = k * s := by rw [List.length_take, h.1]; exact Nat.min_eq_left (Nat.mul_le_mul_right _ hk)
  refine ⟨hl, ?_⟩
  rcases h.2 with ⟨ev, h0⟩ | ⟨g, cap, cur, ev, hb, hg, hn, hm, hs, ht⟩
  · injection ev with e1 e2 e3
    subst e1 e3
    exact .inl ⟨by congr 1; omega, by omega⟩
  · injection ev with e1 e2 e3
    subst e1 e3
    refine .inr ⟨g, c, cur, rfl, hb, hg, by omega, hm, hs, ?_⟩
    rw [← ht, List.take_take, Nat.min_eq_left (Nat.mul_le_mul_right _ hk)]
/-- A heap, one entry less: that is handed back. -/
def PopPost (base H : Nat) (A : Option Addr) (s : Ent) (l : List Ent) (w : World) (e : Ending) (w' : World) : Prop :=
  ∃ c, e = .returned (.iface 31 (entA s)) ∧ HeapAt w' base H A l.length c l ∧ Frm (HS H A) w w'
set_option maxRecDepth 100000 in
set_option maxHeartbeats 4000000 in
theorem popM_any (base H : Nat) (A : Option Addr) (n c : Nat) (l : List Ent) (s : Ent) (w : World) (h : HeapAt w base H A n c (l ++ [s])) (hn : n ≤ 100000) :
    Calls Try.prog 55 #[.pointer (some ⟨H, 0, none⟩)] w (PopPost base H A s l w) := by
  have hln := h.len
  obtain ⟨k, hk⟩ : ∃ k, l.length = k := ⟨_, rfl⟩
  have hnk : n = k + 1 := by rw [← hln, List.length_append, hk]; rfl
  subst hnk
  have c0 := h.cell
  have hHl := h.blk.lt
  have f0 := h.blk.frozen 0
  rcases own_rowE entE_len (by omega) h.own with ⟨_, h0, _⟩ | ⟨g, T, rfl, hbg, hr, hnc, hs, hm, _⟩
  · omega
  · have hat : (l ++ [s])[k]? = some s := by rw [List.getElem?_append_right (by omega), hk, Nat.sub_self]; rfl
    have a0 : w.cell? ⟨g, k * 3 + 0, none⟩ = some (.string s.text) := hr.at_ entE_len hat (i := 0) rfl
    have a1 : w.cell? ⟨g, k * 3 + 1, none⟩ = some (.int .i64 s.cnt) := hr.at_ entE_len hat (i := 1) rfl
    have a2 : w.cell? ⟨g, k * 3 + 2, none⟩ = some (.int .i64 s.last) := hr.at_ entE_len hat (i := 2) rfl
    simp only [Nat.add_zero] at a0
    have hgl := hr.blk.lt
    have hki : ((k : Int) + 1) - 1 = k := by omega
    have HN := hide hk
    have sl := fun W => cut_h (P := Try.prog) (t := 67) (a := some ⟨g, 0, none⟩) (len := k + 1) (cap := c) (s := 3) (e := 31) (by kernel_rfl) (by kernel_rfl) k (H := (k : Int)) rfl (by omega) W
    rw [cutA_zero] at sl
    have i1 : (0 : Int) ≤ k := by omega
    have i2 : (k : Int) ≤ (k + 1 : Nat) := by omega
    have hHg : H ≠ g := h.blk.ne_ hr.blk (by decide)
    have hHn : ¬ w.heap.size = H := by omega
    have HH := hide h
    have FR := hide (fun (W : World) (hW : W.ownsRow base 31 3 (.slice (some ⟨g, 0, none⟩) (k + 1) c) (k + 1) ((l ++ [s]).flatMap entE)) => show W.ownsRow base 31 3 (.slice (some ⟨g, 0, none⟩) k c) k (l.flatMap entE) by
      have := own_front hW (k := k) (Nat.le_succ _)
      rw [flat_take entE_len, List.take_append_of_le_length (by omega), List.take_of_length_le (by omega)] at this
      exact this)
    clear h hr hs hm hat hln hk hnc
    go_enter Try.func55, Try.ntmps55
    go_wp2
    go_ret
    refine ⟨c, rfl, ?_, ?_⟩
    · rw [HN.out]
      refine ⟨?_, ?_⟩
      · have := (HH.out.blk.set_ 0 (.slice (some ⟨g, 0, none⟩) k c)).alloc (.cells #[.string s.text, .int .i64 s.cnt, .int .i64 s.last] 31)
        simpa using this
      · exact (own_far (p := ⟨H, 0, none⟩) (FR.out w HH.out.own) (fun e => hHg (by injection e)) _).alloc _
    · exact ((Frm.refl _ w).setCell (p := ⟨H, 0, none⟩) (fun _ => .inl rfl) _).alloc _
theorem len_any (A : Option Addr) (n c : Nat) (w : World) : Calls Try.prog 52 #[.slice A n c] w fun e w' => e = .returned (.int .i64 n) ∧ w = w' := by
  go_enter Try.func52, Try.ntmps52
  go_wp2
  go_ret
  exact ⟨rfl, rfl⟩
/-- An entry put into a heap. -/
def HPushPost (base H : Nat) (A0 : Option Addr) (n : Nat) (l : List Ent) (w : World) (e : Ending) (w' : World) : Prop :=
  ∃ A c, e = .returned (.tuple #[]) ∧ HeapAt w' base H A n c l ∧ Frm (HS H A0) w w' ∧ ∀ k, RB A k → RB A0 k ∨ w.heap.size ≤ k
set_option maxRecDepth 100000 in
set_option maxHeartbeats 4000000 in
theorem hpush_any (base H : Nat) (A : Option Addr) (n c : Nat) (l : List Ent) (s : Ent) (w : World) (h : HeapAt w base H A n c l) (hn : n ≤ 90000) (hbw : base ≤ w.heap.size) :
    Calls Try.prog 30 #[.iface 69 (.pointer (some ⟨H, 0, none⟩)), .iface 31 (entA s)] w (HPushPost base H A (n + 1) (upF ltE (l ++ [s]) n) w) := by
  have P1 := hide (pushM_any base H A n c l s w h (by omega) hbw)
  have mp := mPush H w
  have UP := hide (fun (A' : Option Addr) (c' : Nat) (W : World) (hW : HeapAt W base H A' (n + 1) c' (l ++ [s])) => up_any base H A' (n + 1) c' (l ++ [s]) n W hW (by omega) (by omega))
  have hi : ((n : Int) + 1) - 1 = n := by omega
  clear h
  unfold entA
  go_enter Try.func30, Try.ntmps30
  go_wp2_with (first
    | (go_at_call 56; go_must (refine (P1.out).mono ?_; rintro e w1 ⟨A1, c1, rfl, h1, f1, r1⟩; have hmL := meth_val mLen H A1 (n + 1) c1 w1 h1.cell; have H1 := hide h1; have U1 := hide (UP.out A1 c1 w1 h1); have F1 := hide f1; have R1 := hide r1; clear h1 f1 r1))
    | (go_at_call 52; go_must (refine (len_any A1 (n + 1) c1 _).mono ?_; rintro e w2 ⟨rfl, rfl⟩))
    | (go_at_call 34; go_must (refine (U1.out).mono ?_; rintro e w3 ⟨rfl, h3, f3⟩; have H3 := hide h3; have F3 := hide (F1.out.trans f3 (fun k hk e => (R1.out k e).elim .inr (fun h => absurd hk (Nat.not_lt.2 h)))); clear h3 f3)))
  go_end0
  exact ⟨A1, c1, rfl, H3.out, F3.out, R1.out⟩
end Go.Proofs.Ytndnjdocdfjmcaa
