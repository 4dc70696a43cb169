/-
  Pop of a heap of streams, walked; container/heap's Push and Pop. No condition but bounds.
-/
import Derived.Test.YtkcmpddefohkeaaPushM
namespace Go.Proofs.Ytkcmpddefohkeaa
open Go.RowKit Go.Proofs
set_option linter.unusedVariables false
theorem own_front {w : World} {base s n c k : Nat} {e : TypeId} {A : Option Addr} {xs : List Value} (h : w.ownsRow base e s (.slice A n c) n xs) (hk : k ≤ n) : w.ownsRow base e s (.slice A k c) k (xs.take (k * s)) := by
  have hl : (xs.take (k * s)).length = k * s := by rw [List.length_take, h.1]; exact Nat.min_eq_left (Nat.mul_le_mul_right _ hk)
  refine ⟨hl, ?_⟩
  rcases h.2 with ⟨ev, h0⟩ | ⟨g, cap, cur, ev, hb, hg, hn, hm, hs, ht⟩
  · injection ev with e1 e2 e3
    subst e1 e3
    exact .inl ⟨by congr 1; omega, by omega⟩
  · injection ev with e1 e2 e3
    subst e1 e3
    refine .inr ⟨g, c, cur, rfl, hb, hg, by omega, hm, hs, ?_⟩
    rw [← ht, List.take_take, Nat.min_eq_left (Nat.mul_le_mul_right _ hk)]
/-- A heap, one stream less: that is handed back. -/
def PopPost (base H : Nat) (left : Int) (s : Strm) (l : List Strm) (w : World) (e : Ending) (w' : World) : Prop :=
  ∃ A c, e = .returned (.iface 53 (.agg #[.slice s.A s.n s.c, .int .i64 s.which])) ∧ HeapAt w' base H left A l.length c l ∧ KeepT w w' ∧ Below base w w'
set_option maxRecDepth 100000 in
set_option maxHeartbeats 4000000 in
theorem popM_any (base H : Nat) (left : Int) (A : Option Addr) (n c : Nat) (l : List Strm) (s : Strm) (w : World) (h : HeapAt w base H left A n c (l ++ [s])) (hn : n ≤ 100000) (hbw : base ≤ w.heap.size) :
    Calls Try.prog 58 #[.pointer (some ⟨H, 0, none⟩)] w (PopPost base H left s l w) := by
  have hln := h.len
  obtain ⟨k, hk⟩ : ∃ k, l.length = k := ⟨_, rfl⟩
  have hnk : n = k + 1 := by rw [← hln, List.length_append, hk]; rfl
  subst hnk
  have c0 := h.cell
  have hHl := h.blk.lt
  have f0 := h.blk.frozen 0
  rcases own_rowE stE_len (by omega) h.own with ⟨_, h0, _⟩ | ⟨g, T, rfl, hbg, hr, hnc, hs, hm, _⟩
  · omega
  · have hat : (l ++ [s])[k]? = some s := by rw [List.getElem?_append_right (by omega), hk, Nat.sub_self]; rfl
    have a0 : w.cell? ⟨g, k * 2 + 0, none⟩ = some (.slice s.A s.n s.c) := hr.at_ stE_len hat (i := 0) rfl
    have a1 : w.cell? ⟨g, k * 2 + 1, none⟩ = some (.int .i64 s.which) := hr.at_ stE_len hat (i := 1) rfl
    simp only [Nat.add_zero] at a0
    have hgl := hr.blk.lt
    have hki : ((k : Int) + 1) - 1 = k := by omega
    have HN := hide hk
    have sl := fun W => cut_h (P := Try.prog) (t := 47) (a := some ⟨g, 0, none⟩) (len := k + 1) (cap := c) (s := 2) (e := 53) (by kernel_rfl) (by kernel_rfl) k (H := (k : Int)) rfl (by omega) W
    rw [cutA_zero] at sl
    have i1 : (0 : Int) ≤ k := by omega
    have i2 : (k : Int) ≤ (k + 1 : Nat) := by omega
    have hHg : H ≠ g := h.blk.ne_ hr.blk (by decide)
    have hHn : ¬ w.heap.size = H := by omega
    have HH := hide h
    have FR := hide (fun (W : World) (hW : W.ownsRow base 53 2 (.slice (some ⟨g, 0, none⟩) (k + 1) c) (k + 1) ((l ++ [s]).flatMap stE)) => show W.ownsRow base 53 2 (.slice (some ⟨g, 0, none⟩) k c) k (l.flatMap stE) by
      have := own_front hW (k := k) (Nat.le_succ _)
      rw [flat_take stE_len, List.take_append_of_le_length (by omega), List.take_of_length_le (by omega)] at this
      exact this)
    clear h hr hs hm hat hln hk hnc
    go_enter Try.func58, Try.ntmps58
    go_wp2
    go_ret
    refine ⟨some ⟨g, 0, none⟩, c, rfl, ?_, ?_, ?_⟩
    · rw [HN.out]
      have kk : KeepT w ((w.setCell ⟨H, 0, none⟩ (.slice (some ⟨g, 0, none⟩) k c)).alloc (.cells #[.slice s.A s.n s.c, .int .i64 s.which] 53)) := fun x t cs h1 h2 hx => ((KeepT.refl w).set HH.out.blk (.inl rfl) 0 _ x t cs h1 h2 hx).alloc _
      refine ⟨?_, ?_, fun x hx => (HH.out.ok x (List.mem_append.2 (.inl hx))).keep kk, HH.out.hb⟩
      · have := (HH.out.blk.set_ 0 (.slice (some ⟨g, 0, none⟩) k c)).alloc (.cells #[.slice s.A s.n s.c, .int .i64 s.which] 53)
        simpa using this
      · exact (own_far (p := ⟨H, 0, none⟩) (FR.out w HH.out.own) (fun e => hHg (by injection e)) _).alloc _
    · exact fun x t cs h1 h2 hx => ((KeepT.refl w).set HH.out.blk (.inl rfl) 0 _ x t cs h1 h2 hx).alloc _
    · exact ((Below.refl base w).setCell (p := ⟨H, 0, none⟩) HH.out.hb _).alloc (by simpa [World.setCell] using hbw) _
theorem len_any (A : Option Addr) (n c : Nat) (w : World) : Calls Try.prog 55 #[.slice A n c] w fun e w' => e = .returned (.int .i64 n) ∧ w = w' := by
  go_enter Try.func55, Try.ntmps55
  go_wp2
  go_ret
  exact ⟨rfl, rfl⟩
/-- A stream put into a heap. -/
def HPushPost (base H : Nat) (left : Int) (n : Nat) (l : List Strm) (w : World) (e : Ending) (w' : World) : Prop :=
  ∃ A c, e = .returned (.tuple #[]) ∧ HeapAt w' base H left A n c l ∧ KeepT w w' ∧ Below base w w'
set_option maxRecDepth 100000 in
set_option maxHeartbeats 4000000 in
theorem hpush_any (base H : Nat) (left : Int) (A : Option Addr) (n c : Nat) (l : List Strm) (s : Strm) (w : World) (h : HeapAt w base H left A n c l) (hs : SOk w s) (hn : n ≤ 90000) (hbw : base ≤ w.heap.size) :
    Calls Try.prog 25 #[.iface 51 (.pointer (some ⟨H, 0, none⟩)), .iface 53 (.agg #[.slice s.A s.n s.c, .int .i64 s.which])] w (HPushPost base H left (n + 1) (upF ltS (l ++ [s]) n) w) := by
  have P1 := hide (pushM_any base H left A n c l s w h hs (by omega) hbw)
  have mp := mPush H w
  have UP := hide (fun (A' : Option Addr) (c' : Nat) (W : World) (hW : HeapAt W base H left A' (n + 1) c' (l ++ [s])) (hbW : base ≤ W.heap.size) => up_any base H left A' (n + 1) c' (l ++ [s]) n W hW (by omega) (by omega) hbW)
  have hi : ((n : Int) + 1) - 1 = n := by omega
  clear h hs
  go_enter Try.func25, Try.ntmps25
  go_wp2_with (first
    | (go_at_call 59; go_must (refine (P1.out).mono ?_; rintro e w1 ⟨A1, c1, rfl, h1, k1, b1⟩; have hmL := meth_val mLen H A1 (n + 1) c1 w1 h1.cell; have H1 := hide h1; have U1 := hide (UP.out A1 c1 w1 h1 (Nat.le_trans hbw b1.size)); have K1 := hide k1; have B1 := hide b1; clear h1 k1 b1))
    | (go_at_call 55; go_must (refine (len_any A1 (n + 1) c1 _).mono ?_; rintro e w2 ⟨rfl, rfl⟩))
    | (go_at_call 32; go_must (refine (U1.out).mono ?_; rintro e w3 ⟨rfl, h3, k3, b3⟩; have H3 := hide h3; have K3 := hide k3; have B3 := hide b3; clear h3 k3 b3)))
  go_end0
  exact ⟨A1, c1, rfl, H3.out, K1.out.trans K3.out, B1.out.trans B3.out⟩
end Go.Proofs.Ytkcmpddefohkeaa
