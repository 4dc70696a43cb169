/-
  container/heap's Pop, walked. No condition but bounds.
-/
import Derived.Test.YtndnjdocdfjmcaaPopM
namespace Go.Proofs.Ytndnjdocdfjmcaa
open Go.RowKit Go.Proofs
set_option linter.unusedVariables false
set_option maxRecDepth 100000 in
set_option maxHeartbeats 4000000 in
theorem hpop_any (base H : Nat) (A : Option Addr) (n c : Nat) (l : List Ent) (r : Ent) (w : World) (h : HeapAt w base H A n c l) (ho : HeapOK ltE l l.length) (hr : l[0]? = some r) (hn : n ≤ 90000) :
    Calls Try.prog 31 #[.iface 69 (.pointer (some ⟨H, 0, none⟩))] w (PopPost base H A r (popF ltE l) w) := by
  have hln := h.len
  have h0 : 0 < l.length := (List.getElem?_eq_some_iff.1 hr).1
  obtain ⟨k, hk⟩ : ∃ k : Nat, n - 1 = k := ⟨_, rfl⟩
  have hki : (n : Int) - 1 = k := by omega
  have hkn : k < n := by omega
  have hsplit := (pop_heap ordE ho hr).2.2.1
  rw [hln, hk] at hsplit
  have S1 := hide (swap_any base A n c l 0 k w h.own (by omega) (by omega) hkn)
  have mL := meth_val mLen H A n c w h.cell
  have mS := meth_val mSwap H A n c w h.cell
  have H0 := hide h
  have DN := hide (fun (W : World) (hW : HeapAt W base H A n c (sw l 0 k)) => show Calls Try.prog 35 #[.iface 69 (.pointer (some ⟨H, 0, none⟩)), .int .i64 0, .int .i64 k] W (DownPost base H A n c (popF ltE l ++ [r]) W) by
    have := down_any base H A n c (sw l 0 k) 0 k W hW (by omega) (by omega) (by omega)
    rwa [hsplit] at this)
  have PO := hide (fun (W : World) (hW : HeapAt W base H A n c (popF ltE l ++ [r])) => popM_any base H A n c (popF ltE l) r W hW (by omega))
  have e0 : ((0 : Nat) : Int) = 0 := rfl
  rw [e0] at S1
  clear h ho hr hln hk hsplit h0 e0
  go_enter Try.func31, Try.ntmps31
  go_wp2_with (first
    | (go_at_call 52; go_must (refine (len_any A n c _).mono ?_; rintro e w2 ⟨rfl, rfl⟩))
    | (go_at_call 54; go_must (refine (S1.out).mono ?_; rintro e w1 ⟨rfl, o1, f1⟩; have H1 := hide (H0.out.row o1 (frm_rb f1)); have F1 := hide (frm_rb f1); have D1 := hide (DN.out w1 H1.out); clear o1 f1))
    | (go_at_call 35; go_must (refine (D1.out).mono ?_; rintro e w3 ⟨b3, rfl, h3, f3⟩; have F3 := hide (rb_hs (H := H) (rb_trans F1.out f3)); have P3 := hide (PO.out w3 h3); have mP := mPop H w3; clear h3 f3))
    | (go_at_call 55; go_must (refine (P3.out).mono ?_; rintro e w4 ⟨c4, rfl, h4, f4⟩; have H4 := hide h4; have F4 := hide (F3.out.trans f4 (fun k _ e => e)); clear h4 f4)))
  go_ret
  exact ⟨c4, rfl, H4.out, F4.out⟩
end Go.Proofs.Ytndnjdocdfjmcaa
