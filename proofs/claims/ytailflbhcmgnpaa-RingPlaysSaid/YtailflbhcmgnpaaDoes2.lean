/-
  does, walked: Fill. No condition but bounds.
-/
import Derived.Test.YtailflbhcmgnpaaDoes
namespace Go.Proofs.Ytailflbhcmgnpaa
open Go.RowKit Go.Proofs
set_option linter.unusedVariables false
theorem slAt_of {w : World} {B k c : Nat} {A : Option Addr} {rows : List (Value × Value)} {Rs : List Row} (h : w.ownsRow B 30 2 (.slice A k c) k (flatP rows)) (hr : RowsIn any w rows Rs) (hk : Rs.length = k) (h0 : 0 < k) : ∃ sl cur, A = some ⟨sl, 0, none⟩ ∧ SlAt w sl cur k Rs ∧ B ≤ sl := by
  rcases h.2 with ⟨_, h1⟩ | ⟨g, cap, cur, e1, hb, hh, hc, _, _, ht⟩
  · omega
  · injection e1 with e1 e2 e3
    subst e1 e3
    refine ⟨g, cur, rfl, ⟨hh, fun i R hR => ?_⟩, hb⟩
    have hi := (List.getElem?_eq_some_iff.1 hR).1
    obtain ⟨p, hp, hv⟩ := hr.2 i R hR
    obtain ⟨v1, v2⟩ := p
    obtain ⟨A, n, c, b, rfl, rfl⟩ := row_form hv
    obtain ⟨f1, f2⟩ := flatP_at hp
    rw [← ht, List.getElem?_take, if_pos (by omega)] at f1 f2
    exact ⟨A, n, c, b, by simpa using f1, by simpa using f2, hv⟩
/-- The rows that Fill is handed. -/
def hund (k : Nat) : List Row := (List.range k).map fun (i : Nat) => some ((100 + i : Nat) : Int)
theorem hund_len (k : Nat) : (hund k).length = k := by simp [hund]
theorem hund_succ (k : Nat) : hund (k + 1) = hund k ++ [some ((100 + k : Nat) : Int)] := by simp [hund, List.range_succ]
set_option maxRecDepth 100000 in
set_option maxHeartbeats 4000000 in
theorem does_fill (base g m : Nat) (S : Option Nat) (v : Value) (L : List Row) (gone room : Nat) (N : Int) (w : World) (h : Two base w g m S v L gone L gone room) (hb : base ≤ w.heap.size) (hr : room ≤ 255) (hg : gone ≤ 10000000) (hN : -9223372036854775808 ≤ N ∧ N ≤ 9223372036854775807) :
    Calls Try.prog 18 #[.pointer (some ⟨g, 0, none⟩), .pointer (some ⟨m, 0, none⟩), .agg #[.int .i64 1, .int .i64 N]] w (DoesPost base g m room gone w) := by
  have hl := h.len
  have hw0 : Below w.heap.size w (w.alloc (.cells #[.int .i64 1, .int .i64 N] 55)) := (Below.refl _ _).alloc (Nat.le_refl _) _
  have q0 := Blk.new w 55 #[.int .i64 1, .int .i64 N]
  have h0 := hide (h.below hw0)
  have HW0 := hide hw0
  have RW := hide (fun (k : Int) (W : World) (h0 : -2147483648 ≤ k) (h1 : k ≤ 2147483647) => row_any any k W h0 h1 (fun _ _ => trivial))
  have zb := Nat.le_trans hb hw0.size
  obtain ⟨n, hn⟩ : ∃ n : Nat, n = min N.toNat 12 := ⟨_, rfl⟩
  have hn12 : n ≤ 12 := by omega
  have hnN : n = 12 ∨ N ≤ n := by omega
  have hnN2 : ∀ k : Nat, k < n → (k : Int) < N ∧ k < 12 := fun k hk => by omega
  have HN := hide hnN2
  have Q0 := hide q0
  obtain ⟨q0, q1, _, _⟩ := blk2 q0
  clear hw0 h hN hn hnN2
  go_enter Try.func18, Try.ntmps18
  go_upto_region 8 with fail
  go_name_world W0 hW0
  rw [hW0] at zb
  have h0 := hide (show Two base W0 g m S v L gone L gone room by rw [← hW0]; exact h0.out)
  have Q0 := hide (show Blk W0 w.heap.size 55 #[.int .i64 1, .int .i64 N] by rw [← hW0]; exact Q0.out)
  have HW0 := hide (show Below w.heap.size w W0 by rw [← hW0]; exact HW0.out)
  have qlt := Q0.out.lt
  clear hW0 q0 q1
  go_wp2_with fail
  go_loopg [11, 12] n (fun gg s11 s12 wr => ∃ (k : Nat) (rs : List (Value × Value)), k + gg = n ∧ s12 = .int .i64 k ∧ wr.ownsRow W0.heap.size 30 2 s11 k (flatP rs) ∧ Hid (RowsIn any wr rs (hund k)) ∧ Below W0.heap.size W0 wr)
  case atStart => exact ⟨0, [], by omega, rfl, World.ownsRow_nil _ _ _ _, ⟨rfl, fun i R hR => by simp [hund] at hR⟩, Below.refl _ _⟩
  case round =>
    obtain ⟨k, rs, hkg, rfl, hown, HR, hB⟩ := hrel
    obtain ⟨A0, c0, rfl⟩ := own_slice hown
    have qk := Q0.out.below hB qlt
    obtain ⟨q0, q1, _, _⟩ := blk2 qk
    by_cases hlt : k < n
    · obtain ⟨l1, l2⟩ := HN.out k hlt
      have l3 : decide ((k : Int) < N) = true := by simpa using l1
      have hk1 : (100 : Int) + k = (100 + k : Nat) := by omega
      obtain ⟨j, hj⟩ : ∃ j, 100 + k = j := ⟨_, rfl⟩
      rw [hj] at hk1
      have hk2 : (k : Int) + 100 = j := by omega
      have hj2 : j ≤ 1000 := by omega
      have hjw : IntKind.i64.wrap (j : Int) = j := IntWalk.i64_in _ ⟨by omega, by omega⟩
      have HJ := hide hj
      have zr := hB.size
      clear hj
      have hbase : W0.heap.size ≤ wr.heap.size := hB.size
      have HB := hide hB
      clear hB qk
      go_wp2_with (first
        | (go_at_call 11; go_must (refine (RW.out j _ (by omega) (by omega)).mono ?_; rintro e w1 ⟨v1, v2, rfl, rv, b1⟩; obtain ⟨A', n', c', b', rfl, rfl⟩ := row_form rv; have own1 := own_call hown b1; have z1 := Nat.le_trans hbase b1.size))
        | (at_builtin; go_must (refine wpList_append1 Try.sl46 rfl _ _ rfl W0.heap.size (.slice A0 k c0) k (flatP rs) #[.slice A' n' c', .bool b'] w1 1 rfl rfl rfl own1 rfl (one_row _ _ _ _) (by simp only [maxLen]; omega) (by omega) z1 ?_; intro A3 c3 w3 app)))
      have B1 := below_in HB.out b1 (Nat.le_refl _)
      have kp1 : Keep45 any wr w1 := Keep45.below b1
      have kp3 : Keep45 any w1 w3 := fun b cs _ hB => app.blk (hB.alloc _) (own1.alloc _) (by decide)
      go_roundg (n - (k + 1))
      case measure => omega
      case rel =>
        refine ⟨k + 1, rs ++ [(.slice A' n' c', .bool b')], by omega, by go_num, by rw [flatP_snoc]; exact app.own, hide ?_, app.below (own1.alloc _) (B1.alloc z1 _) (Nat.le_refl _) (by simp; omega)⟩
        rw [hund_succ, HJ.out]
        exact rowsIn_add (HR.out.keep (kp1.trans kp3)) (rv.keep kp3)
    · obtain rfl : k = n := by omega
      have T := hide (h0.out.below hB)
      have zr := hB.size
      have O := hide (And.intro hown HR.out)
      have HB := hide hB
      have hlen := hund_len k
      have ngS : ∀ s, S = some s → s < W0.heap.size := fun s e => by obtain ⟨cs, k⟩ := h0.out.blks e; exact k.lt
      have F1 := hide (fill_t g S L room gone A0 k c0 (hund k) wr T.out.ring (by omega) hlen (by omega) (fun h => by
        obtain ⟨sl, cur, e, hs, hle⟩ := slAt_of O.out.1 O.out.2 hlen h
        exact ⟨sl, cur, e, hs, fun e2 => by have := ngS _ e2; omega⟩))
      have hkc := (own_cap O.out.1).1
      have NGS := hide ngS
      have HL := hide hlen
      clear hown hB hkg ngS hlen qk
      have hg1 : gone ≤ 1000000000 := by omega
      have F2 := hide (fun (S' : Option Nat) (LR : List Row) (gR : Nat) (W : World) (hW : Two base W g m S' v LR gR L gone room) (o : W.ownsRow W0.heap.size 30 2 (.slice A0 k c0) k (flatP rs)) (rr : RowsIn any W rs (hund k)) (hz : base ≤ W.heap.size) => rfill_t base m v L room gone W.heap.size A0 k c0 rs (hund k) W hW.ref (Rd.of_own o) (Nat.le_refl _) rr HL.out hkc (by omega) (by omega) hg1 hz)
      obtain ⟨t, ht⟩ : ∃ t, k - room = t := ⟨_, rfl⟩
      have F1' := F1.out
      have F2' := F2.out
      rw [ht] at F1' F2'
      have F1 := hide F1'
      have F2 := hide F2'
      have ht2 : t ≤ 12 := by omega
      have zb2 := Nat.le_trans zb zr
      have GB := hide (And.intro T.out.blkg O.out.1)
      clear F1' F2' ht
      by_cases hN2 : (k : Int) < N
      all_goals
        first
          | (have l3 : decide ((k : Int) < N) = true := by simpa using hN2
             have l4 : decide ((k : Int) < 12) = false := by simp; omega)
          | (have l3 : decide ((k : Int) < N) = false := by simpa using hN2)
        clear hN2 hnN
        go_wp2_with (first
          | (go_at_call 22; go_must (refine F1.out.mono ?_; rintro e w1 ⟨S1, rfl, r1, t1⟩; have T1 := hide (T.out.turn r1 t1 zb2); have b1 := T.out.base_turn t1 zb2; have o1 := own_frm O.out.1 t1.frm (fun s e => by rintro (e2 | e2); (obtain ⟨cs, bg⟩ := GB.out.1; exact own_ne O.out.1 bg (by decide) (by rw [← e2]; exact e.symm)); (have := NGS.out s e2; have := (O.out.1.lt s e).1; omega)); have r1' := O.out.2.keep t1.keep; have z1 := Nat.le_trans zb2 b1.size))
          | (go_at_call 30; go_must (refine (F2.out _ _ _ _ T1.out o1 r1' z1).mono ?_; rintro e w2 ⟨v2, rfl, r2, t2⟩)))
        go_ret
        exact ⟨rfl, S1, v2, _, _, T1.out.turnM r2 t2 z1, by omega, ((HW0.out.mono hb).trans ((HB.out.mono zb).trans b1)).trans (T1.out.base_turnM t2 z1)⟩
end Go.Proofs.Ytailflbhcmgnpaa
