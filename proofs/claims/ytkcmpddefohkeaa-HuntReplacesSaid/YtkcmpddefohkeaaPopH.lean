/-
  container/heap's Pop, walked. No condition but bounds.
-/
import Derived.Test.YtkcmpddefohkeaaPopM
namespace Go.Proofs.Ytkcmpddefohkeaa
open Go.RowKit Go.Proofs
set_option linter.unusedVariables false
set_option maxRecDepth 100000 in
set_option maxHeartbeats 4000000 in
theorem hpop_any (base H : Nat) (left : Int) (A : Option Addr) (n c : Nat) (l : List Strm) (r : Strm) (w : World) (h : HeapAt w base H left A n c l) (ho : HeapOK ltS l l.length) (hr : l[0]? = some r) (hn : n ≤ 90000) (hbw : base ≤ w.heap.size) :
    Calls Try.prog 26 #[.iface 51 (.pointer (some ⟨H, 0, none⟩))] w (PopPost base H left r (popF ltS l) w) := by
  have hln := h.len
  have h0 : 0 < l.length := (List.getElem?_eq_some_iff.1 hr).1
  obtain ⟨k, hk⟩ : ∃ k : Nat, n - 1 = k := ⟨_, rfl⟩
  have hki : (n : Int) - 1 = k := by omega
  have hkn : k < n := by omega
  have hsplit := (pop_heap ordS ho hr).2.2.1
  rw [hln, hk] at hsplit
  have HSP := hide hsplit
  have S1 := hide (swap_any base A n c l 0 k w h.own (by omega) (by omega) hkn)
  have hmem := hide (fun (s : Strm) (hs : s ∈ sw l 0 k) => sw_mem (l := l) (by omega) (by omega) hs)
  have mL := meth_val mLen H A n c w h.cell
  have mS := meth_val mSwap H A n c w h.cell
  have H0 := hide h
  have DN := hide (fun (W : World) (hW : HeapAt W base H left A n c (sw l 0 k)) (hbW : base ≤ W.heap.size) => show Calls Try.prog 33 #[.iface 51 (.pointer (some ⟨H, 0, none⟩)), .int .i64 0, .int .i64 k] W (DownPost base H left A n c (popF ltS l ++ [r]) W) by
    have := down_any base H left A n c (sw l 0 k) 0 k W hW (by omega) (by omega) (by omega) hbW
    rwa [hsplit] at this)
  have PO := hide (fun (W : World) (hW : HeapAt W base H left A n c (popF ltS l ++ [r])) (hbW : base ≤ W.heap.size) => popM_any base H left A n c (popF ltS l) r W hW (by omega) hbW)
  have e0 : ((0 : Nat) : Int) = 0 := rfl
  rw [e0] at S1
  clear h ho hr hln hk hsplit h0 e0
  go_enter Try.func26, Try.ntmps26
  go_wp2_with (first
    | (go_at_call 55; go_must (refine (len_any A n c _).mono ?_; rintro e w2 ⟨rfl, rfl⟩))
    | (go_at_call 57; go_must (refine (S1.out).mono ?_; rintro e w1 ⟨rfl, o1, k1, f1⟩; have H1 := hide (H0.out.row o1 k1 f1 hmem.out); have B1 := hide (row_below H0.out.own f1 hbw); have K1 := hide k1; have D1 := hide (DN.out w1 H1.out (Nat.le_trans hbw B1.out.size)); clear o1 k1 f1))
    | (go_at_call 33; go_must (refine (D1.out).mono ?_; rintro e w3 ⟨b3, rfl, h3, k3, c3⟩; have B3 := hide (B1.out.trans c3); have K3 := hide (K1.out.trans k3); have P3 := hide (PO.out w3 h3 (Nat.le_trans hbw B3.out.size)); have mP := mPop H w3; clear h3 k3 c3))
    | (go_at_call 58; go_must (refine (P3.out).mono ?_; rintro e w4 ⟨A4, c4, rfl, h4, k4, c5⟩; have H4 := hide h4; have K4 := hide (K3.out.trans k4); have B4 := hide (B3.out.trans c5); clear h4 k4 c5)))
  go_ret
  exact ⟨A4, c4, rfl, H4.out, K4.out, B4.out⟩
end Go.Proofs.Ytkcmpddefohkeaa
