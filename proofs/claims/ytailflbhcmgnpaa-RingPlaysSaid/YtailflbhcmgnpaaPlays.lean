/-
  RingPlays, walked. No condition but what the arguments' kinds bear.
-/
import Derived.Test.YtailflbhcmgnpaaDoesAll
namespace Go.Proofs.Ytailflbhcmgnpaa
open Go.RowKit Go.Proofs
set_option linter.unusedVariables false
theorem rows_n {ok : Nat → Prop} {L : List Row} {w w' : World} {e : Ending} {n : Nat} (h : RowsPost ok L w e w') (hn : L.length = n) : ∃ A c rows, e = .returned (.slice A n c) ∧ w'.ownsRow w.heap.size 30 2 (.slice A n c) n (flatP rows) ∧ RowsIn ok w' rows L ∧ Below w.heap.size w w' := by
  subst hn
  exact h
/-- What held under a stronger condition holds under a weaker one. -/
theorem wpAnyH_strong {P : Program} {ops : Array Oper} {Q : Exit → Act → World → Prop} {md : Region.Mode} {S S' : World → Prop} (h : ∀ w, S' w → S w) :
    ∀ (fuel : Nat) (listed : Array Bool) (a : Act) (w : World), wpAnyH P md ops Q S' fuel listed a w → wpAnyH P md ops Q S fuel listed a w
  | 0, _, _, _, k => k
  | fuel + 1, _, _, _, k => ⟨k.1, fun i hi => wpOp_mono (fun a' w' h' => ⟨h _ h'.1, wpAnyH_strong h fuel _ a' w' h'.2⟩) (k.2 i hi)⟩
set_option maxRecDepth 100000 in
set_option linter.unusedSimpArgs false in
set_option maxHeartbeats 8000000 in
theorem ringPlays_walk (w : World) (a : Int) (ha0 : (Lit.int .u8 a).wf = true) (A : Option Addr) (n c : Nat) (l : List (Int × Int)) (hl : l.length = n) (hnc : n ≤ c) (hcm : c ≤ maxLen) (hrd : Rd w w.heap.size 2 A n (l.flatMap opE)) (hq : ∀ p ∈ l, OpQ p) :
    Calls Try.prog 6 #[.int .u8 a, .slice A n c] w fun e w' => e = .returned (.bool true) ∧ Below w.heap.size w w' := by
  obtain ⟨a, rfl⟩ : ∃ k : Nat, a = k := ⟨a.toNat, by have := bounds_u8 ha0; omega⟩
  have ha : a ≤ 255 := by have := bounds_u8 ha0; omega
  clear ha0
  have AW := hide awake_any
  have hnm : n ≤ maxLen := by omega
  unfold maxLen at hnm
  by_cases hbig : 80 < n
  · have d1 : decide (80 < (n : Int)) = true := by simp; omega
    have d2 : decide (80 < n) = true := by simpa using hbig
    clear hrd hq hl hcm
    go_enter Try.func6, Try.ntmps6
    go_wp2_with (go_at_call 8; go_must (refine (AW.out _).mono ?_; rintro e w1 ⟨rfl, b1⟩))
    go_ret
    exact ⟨rfl, b1⟩
  · have d1 : decide (80 < (n : Int)) = false := by simp; omega
    have d2 : decide (80 < n) = false := by simpa using hbig
    have N := hide (fun (W : World) => new_any a W (by omega))
    have N2 := hide (fun (W : World) => two_new a W (by omega))
    have DO := hide (fun (base g m : Nat) (S : Option Nat) (v : Value) (L : List Row) (gone : Nat) (K N : Int) (W : World) (h : Two base W g m S v L gone L gone a) (hb : base ≤ W.heap.size) (hg : gone ≤ 10000000) (hN : -9223372036854775808 ≤ N ∧ N ≤ 9223372036854775807) => does_any base g m S v L gone a K N W h hb ha hg hN)
    have RD := hide hrd
    have HQ := hide hq
    have hn80 : n ≤ 80 := by omega
    clear hrd hq hl hcm
    go_enter Try.func6, Try.ntmps6
    go_upto_region 7 with (first
      | (go_at_call 8; go_must (refine (AW.out _).mono ?_; rintro e w1 ⟨rfl, b1⟩))
      | (go_at_call 9; go_must (refine (N.out _).mono ?_; rintro e w0 ⟨rfl, rfl⟩)))
    go_name_world W0 hW0
    have B0 : Below w1.heap.size w1 W0 := by rw [← hW0]; exact ((Below.refl _ _).alloc (Nat.le_refl _) _).alloc (by simp) _
    have T0 := hide (show Two w1.heap.size W0 w1.heap.size (w1.heap.size + 1) none (.slice none 0 0) [] 0 [] 0 a by rw [← hW0]; exact N2.out w1)
    have B1 := hide b1
    have HB0 := hide B0
    clear hW0 b1 B0 N N2
    go_wp2_with fail
    go_loopg [8] n (fun gg s8 wr => ∃ (k : Nat) (S : Option Nat) (v : Value) (L : List Row) (gone : Nat), k + gg = n ∧ s8 = .int .i64 k ∧ gone ≤ 300 * k ∧ Hid (Two w1.heap.size wr w1.heap.size (w1.heap.size + 1) S v L gone L gone a) ∧ Hid (Below w1.heap.size w1 wr))
    case atStart => exact ⟨0, none, .slice none 0 0, [], 0, by omega, rfl, by omega, T0, HB0⟩
    case round =>
      obtain ⟨k, S, v, L, gone, hkg, rfl, hgone, HT, HB⟩ := hrel
      by_cases hlt : k < n
      · obtain ⟨b, off, K, N, rfl, hbl, e0, e1, hN1, hN2⟩ := opAt RD.out HQ.out hlt
        have BB := hide (B1.out.trans (HB.out.mono B1.out.size))
        have e0 := (BB.out.cell (p := ⟨b, off + k * 2, none⟩) hbl).trans e0
        have e1 := (BB.out.cell (p := ⟨b, off + k * 2 + 1, none⟩) hbl).trans e1
        have DO1 := hide (DO.out w1.heap.size w1.heap.size (w1.heap.size + 1) S v L gone K N wr.drew (HT.out.below (Below.refl _ _).drew) HB.out.size (by omega) ⟨hN1, hN2⟩)
        have EF := hide (show ∀ W, Below w1.heap.size wr W → W.cell? ⟨b, off + k * 2, none⟩ = some (.int .i64 K) ∧ W.cell? ⟨b, off + k * 2 + 1, none⟩ = some (.int .i64 N) from fun W hW => ⟨((hW.mono B1.out.size).cell (p := ⟨b, off + k * 2, none⟩) hbl).trans e0, ((hW.mono B1.out.size).cell (p := ⟨b, off + k * 2 + 1, none⟩) hbl).trans e1⟩)
        have LN := hide (fun (S : Option Nat) (L : List Row) (gone n : Nat) (v : Value) (W : World) (h : Two w1.heap.size W w1.heap.size (w1.heap.size + 1) S v L gone L gone a) (hn : L.length = n) => len_t w1.heap.size S L a gone n W h.ring hn)
        have GN := hide (fun (S : Option Nat) (L : List Row) (gone : Nat) (v : Value) (W : World) (h : Two w1.heap.size W w1.heap.size (w1.heap.size + 1) S v L gone L gone a) => gone_t w1.heap.size S L a gone W h.ring)
        have AL := hide (fun (S : Option Nat) (L : List Row) (gone : Nat) (v : Value) (W : World) (h : Two w1.heap.size W w1.heap.size (w1.heap.size + 1) S v L gone L gone a) => all_t w1.heap.size S L a gone W h.ring)
        have zr := HB.out.size
        have SM := hide (fun (L : List Row) (rows rows' : List (Value × Value)) (n : Nat) (A A' : Option Addr) (c c' : Nat) (w : World) (h : w.ownsRow w1.heap.size 30 2 (.slice A n c) n (flatP rows)) (h' : w.ownsRow w1.heap.size 30 2 (.slice A' n c') n (flatP rows')) (r : RowsIn any w rows L) (r' : RowsIn any w rows' L) (hn : n ≤ 1000000) => same_any any any L rows rows' n A A' c c' w (Rd.of_own h) (Rd.of_own h') r r' hn)
        have h100 := HT.out.len
        go_wp2_with fail
        go_cut [75] (fun s wx => s = .bool false ∧ ∃ (S : Option Nat) (v : Value) (L : List Row) (gone2 : Nat), gone2 ≤ gone + 300 ∧ Hid (Two w1.heap.size wx w1.heap.size (w1.heap.size + 1) S v L gone2 L gone2 a) ∧ Hid (Below w1.heap.size w1 wx))
        case first =>
          have EFX : ∀ (W : World), Below w1.heap.size wr W → W.cell? ⟨b, off + k * 2, none⟩ = some (.int .i64 K) ∧ W.cell? ⟨b, off + k * 2 + 1, none⟩ = some (.int .i64 N) := fun W hW => EF.out W hW
          have below_in' : ∀ {X Y : World}, Below w1.heap.size wr X → Below X.heap.size X Y → Below w1.heap.size wr Y := fun h h2 => h.trans (h2.mono (Nat.le_trans zr h.size))
          have EFX := hide EFX
          refine wp_region_held_drew (S := fun W => W.cell? ⟨b, off + k * 2, none⟩ = some (.int .i64 K) ∧ W.cell? ⟨b, off + k * 2 + 1, none⟩ = some (.int .i64 N)) (by kernel_rfl) (EF.out _ (Below.refl _ _).drew) (fun hHeld => ?_)
          refine wpAnyH_take (i := 0) (oi := _) (v := ?v0) rfl (by kernel_rfl) (by kernel_rfl) (by kernel_rfl) (fun _ _ _ h => h) (Or.inl ⟨by rfl, ?h0⟩) (by assumption) ?r0
          case h0 =>
            intro w hSw
            (try dsimp only at hSw)
            go_simp
            all_goals (with_reducible rfl)
          try simp only [List.getElem_toArray, List.getElem_cons_succ, List.getElem_cons_zero, Act.put, List.setIfInBounds_toArray, List.set_cons_zero, List.set_cons_succ]
          refine wpAnyH_take (i := 1) (oi := _) (v := ?v1) rfl (by kernel_rfl) (by kernel_rfl) (by kernel_rfl) (fun _ _ _ h => h) (Or.inl ⟨by rfl, ?h1⟩) (by assumption) ?r1
          case h1 =>
            intro w hSw
            (try dsimp only at hSw)
            go_simp
            all_goals (with_reducible rfl)
          try simp only [List.getElem_toArray, List.getElem_cons_succ, List.getElem_cons_zero, Act.put, List.setIfInBounds_toArray, List.set_cons_zero, List.set_cons_succ]
          refine wpAnyH_take (i := 2) (oi := _) (v := ?v2) rfl (by kernel_rfl) (by kernel_rfl) (by kernel_rfl) (fun _ _ _ h => h) (Or.inl ⟨by rfl, ?h2⟩) (by assumption) ?r2
          case h2 =>
            intro w hSw
            (try dsimp only at hSw)
            go_simp
            all_goals (with_reducible rfl)
          try simp only [List.getElem_toArray, List.getElem_cons_succ, List.getElem_cons_zero, Act.put, List.setIfInBounds_toArray, List.set_cons_zero, List.set_cons_succ]
          refine wpAnyH_take (i := 3) (oi := _) (v := ?v3) rfl (by kernel_rfl) (by kernel_rfl) (by kernel_rfl) (fun _ _ _ h => h) (Or.inl ⟨by rfl, ?h3⟩) (by assumption) ?r3
          case h3 =>
            intro w hSw
            (try dsimp only at hSw)
            go_simp
            all_goals (with_reducible rfl)
          try simp only [List.getElem_toArray, List.getElem_cons_succ, List.getElem_cons_zero, Act.put, List.setIfInBounds_toArray, List.set_cons_zero, List.set_cons_succ]
          refine wpAnyH_take (i := 4) (oi := _) (v := ?v4) rfl (by kernel_rfl) (by kernel_rfl) (by kernel_rfl) (fun _ _ _ h => h) (Or.inl ⟨by rfl, ?h4⟩) (by assumption) ?r4
          case h4 =>
            intro w hSw
            (try dsimp only at hSw)
            go_simp
            all_goals (with_reducible rfl)
          try simp only [List.getElem_toArray, List.getElem_cons_succ, List.getElem_cons_zero, Act.put, List.setIfInBounds_toArray, List.set_cons_zero, List.set_cons_succ]
          refine wpAnyH_take (i := 5) (oi := _) (v := ?v5) rfl (by kernel_rfl) (by kernel_rfl) (by kernel_rfl) (fun _ _ _ h => h) (Or.inl ⟨by rfl, ?h5⟩) (by assumption) ?r5
          case h5 =>
            intro w hSw
            (try dsimp only at hSw)
            go_simp
            all_goals (with_reducible rfl)
          try simp only [List.getElem_toArray, List.getElem_cons_succ, List.getElem_cons_zero, Act.put, List.setIfInBounds_toArray, List.set_cons_zero, List.set_cons_succ]
          refine wpAnyH_ready (rs := [6]) (by kernel_rfl) (by simp) ?_
          refine AllReadyH.cons (o := _) rfl (fun K hK => ?_) AllReadyH.nil
          go_simp
          (go_at_call 18; go_must (refine (DO1.out).mono ?_; rintro e w2 ⟨rfl, S2, v2, L2, gone2, T2, hg2, b2⟩; obtain ⟨hB2, rows2, ho2, hr2⟩ := T2.ref; obtain ⟨A2, c2, rfl⟩ := own_slice ho2; obtain ⟨n2, hn2⟩ : ∃ n2, L2.length = n2 := ⟨_, rfl⟩; have hn2a : n2 ≤ 1000000 := (by have := T2.len; omega); rw [hn2] at hB2 ho2; obtain ⟨m0, m1, m2, _, _, _⟩ := blk3 hB2; have b2 : Below w1.heap.size wr w2 := ⟨b2.os, b2.tape, b2.output, b2.size, b2.block⟩; have TT := hide T2; have HN2 := hide hn2; have X2 := hide (And.intro ho2 hr2); have LN1 := hide (LN.out _ _ _ _ _ _ T2 hn2); have GN1 := hide (GN.out _ _ _ _ _ T2); have AL1 := AL.out _ _ _ _ _ T2; have hml := hB2.lt; have AL1 := hide AL1; have HB2 := hide b2; have EF2 := hide (fun (W : World) (hW : Below w2.heap.size w2 W) => And.intro ((hW.cell (p := ⟨w1.heap.size + 1, 1, none⟩) hml).trans m1) ((hW.cell (p := ⟨w1.heap.size + 1, 2, none⟩) hml).trans m2)); have EFW := hide (EF.out w2); have b2x := hide b2))
          refine hK.out _ _ (EFX.out w2 b2x.out) (fun hHeld6 => ?_)
          clear hK K
          try simp only [List.getElem_toArray, List.getElem_cons_succ, List.getElem_cons_zero, Act.put, List.setIfInBounds_toArray, List.set_cons_zero, List.set_cons_succ]
          refine wpAnyH_strong (S' := fun W => W.cell? ⟨w1.heap.size + 1, 1, none⟩ = some (.slice A2 n2 c2) ∧ W.cell? ⟨w1.heap.size + 1, 2, none⟩ = some (.int .u64 gone2) ∧ W.cell? ⟨b, off + k * 2, none⟩ = some (.int .i64 K) ∧ W.cell? ⟨b, off + k * 2 + 1, none⟩ = some (.int .i64 N)) (fun _ h => h.2.2) _ _ _ _ ?_
          have hHeldS : (fun W : World => W.cell? ⟨w1.heap.size + 1, 1, none⟩ = some (.slice A2 n2 c2) ∧ W.cell? ⟨w1.heap.size + 1, 2, none⟩ = some (.int .u64 gone2) ∧ W.cell? ⟨b, off + k * 2, none⟩ = some (.int .i64 K) ∧ W.cell? ⟨b, off + k * 2 + 1, none⟩ = some (.int .i64 N)) w2 := ⟨(EF2.out _ (Below.refl _ _)).1, (EF2.out _ (Below.refl _ _)).2, EFX.out w2 b2x.out⟩
          clear T2 hn2 ho2 hr2 hB2 b2 m0 m1 m2
          refine wpAnyH_take (i := 7) (oi := _) (v := ?v7) rfl (by kernel_rfl) (by kernel_rfl) (by kernel_rfl) (fun _ _ _ h => h) (Or.inl ⟨by rfl, ?h7⟩) (by assumption) ?r7
          case h7 =>
            intro w hSw
            (try dsimp only at hSw)
            go_simp
            all_goals (with_reducible rfl)
          try simp only [List.getElem_toArray, List.getElem_cons_succ, List.getElem_cons_zero, Act.put, List.setIfInBounds_toArray, List.set_cons_zero, List.set_cons_succ]
          refine wpAnyH_take (i := 8) (oi := _) (v := ?v8) rfl (by kernel_rfl) (by kernel_rfl) (by kernel_rfl) (fun _ _ _ h => h) (Or.inl ⟨by rfl, ?h8⟩) (by assumption) ?r8
          case h8 =>
            intro w hSw
            (try dsimp only at hSw)
            go_simp
            all_goals (with_reducible rfl)
          try simp only [List.getElem_toArray, List.getElem_cons_succ, List.getElem_cons_zero, Act.put, List.setIfInBounds_toArray, List.set_cons_zero, List.set_cons_succ]
          refine wpAnyH_take (i := 9) (oi := _) (v := ?v9) rfl (by kernel_rfl) (by kernel_rfl) (by kernel_rfl) (fun _ _ _ h => h) (Or.inl ⟨by rfl, ?h9⟩) (by assumption) ?r9
          case h9 =>
            intro w hSw
            (try dsimp only at hSw)
            go_simp
            all_goals (with_reducible rfl)
          try simp only [List.getElem_toArray, List.getElem_cons_succ, List.getElem_cons_zero, Act.put, List.setIfInBounds_toArray, List.set_cons_zero, List.set_cons_succ]
          refine wpAnyH_take (i := 11) (oi := _) (v := ?v11) rfl (by kernel_rfl) (by kernel_rfl) (by kernel_rfl) (fun _ _ _ h => h) (Or.inl ⟨by rfl, ?h11⟩) (by assumption) ?r11
          case h11 =>
            intro w hSw
            (try dsimp only at hSw)
            go_simp
            all_goals (with_reducible rfl)
          try simp only [List.getElem_toArray, List.getElem_cons_succ, List.getElem_cons_zero, Act.put, List.setIfInBounds_toArray, List.set_cons_zero, List.set_cons_succ]
          refine wpAnyH_take (i := 12) (oi := _) (v := ?v12) rfl (by kernel_rfl) (by kernel_rfl) (by kernel_rfl) (fun _ _ _ h => h) (Or.inl ⟨by rfl, ?h12⟩) (by assumption) ?r12
          case h12 =>
            intro w hSw
            (try dsimp only at hSw)
            go_simp
            all_goals (with_reducible rfl)
          try simp only [List.getElem_toArray, List.getElem_cons_succ, List.getElem_cons_zero, Act.put, List.setIfInBounds_toArray, List.set_cons_zero, List.set_cons_succ]
          refine wpAnyH_take (i := 13) (oi := _) (v := ?v13) rfl (by kernel_rfl) (by kernel_rfl) (by kernel_rfl) (fun _ _ _ h => h) (Or.inl ⟨by rfl, ?h13⟩) (by assumption) ?r13
          case h13 =>
            intro w hSw
            (try dsimp only at hSw)
            go_simp
            all_goals (with_reducible rfl)
          try simp only [List.getElem_toArray, List.getElem_cons_succ, List.getElem_cons_zero, Act.put, List.setIfInBounds_toArray, List.set_cons_zero, List.set_cons_succ]
          refine wpAnyH_take (i := 14) (oi := _) (v := ?v14) rfl (by kernel_rfl) (by kernel_rfl) (by kernel_rfl) (fun _ _ _ h => h) (Or.inl ⟨by rfl, ?h14⟩) (by assumption) ?r14
          case h14 =>
            intro w hSw
            (try dsimp only at hSw)
            go_simp
            all_goals (with_reducible rfl)
          try simp only [List.getElem_toArray, List.getElem_cons_succ, List.getElem_cons_zero, Act.put, List.setIfInBounds_toArray, List.set_cons_zero, List.set_cons_succ]
          refine wpAnyH_take (i := 15) (oi := _) (v := ?v15) rfl (by kernel_rfl) (by kernel_rfl) (by kernel_rfl) (fun _ _ _ h => h) (Or.inl ⟨by rfl, ?h15⟩) (by assumption) ?r15
          case h15 =>
            intro w hSw
            (try dsimp only at hSw)
            go_simp
            all_goals (with_reducible rfl)
          try simp only [List.getElem_toArray, List.getElem_cons_succ, List.getElem_cons_zero, Act.put, List.setIfInBounds_toArray, List.set_cons_zero, List.set_cons_succ]
          refine wpAnyH_ready (rs := [10]) (by kernel_rfl) (by simp) ?_
          refine AllReadyH.cons (o := _) rfl (fun K hK => ?_) AllReadyH.nil
          go_simp
          (go_at_call 13; go_must (refine (LN1.out).mono ?_; rintro e w3 ⟨rfl, rfl⟩))
          refine hK.out _ _ hHeldS (fun hHeld10 => ?_)
          clear hK K
          try simp only [List.getElem_toArray, List.getElem_cons_succ, List.getElem_cons_zero, Act.put, List.setIfInBounds_toArray, List.set_cons_zero, List.set_cons_succ]
          refine wpAnyH_take (i := 16) (oi := _) (v := ?v16) rfl (by kernel_rfl) (by kernel_rfl) (by kernel_rfl) (fun _ _ _ h => h) (Or.inl ⟨by rfl, ?h16⟩) (by assumption) ?r16
          case h16 =>
            intro w hSw
            (try dsimp only at hSw)
            go_simp
            all_goals (with_reducible rfl)
          try simp only [List.getElem_toArray, List.getElem_cons_succ, List.getElem_cons_zero, Act.put, List.setIfInBounds_toArray, List.set_cons_zero, List.set_cons_succ]
          refine wpAnyH_take (i := 17) (oi := _) (v := ?v17) rfl (by kernel_rfl) (by kernel_rfl) (by kernel_rfl) (fun _ _ _ h => h) (Or.inl ⟨by rfl, ?h17⟩) (by assumption) ?r17
          case h17 =>
            intro w hSw
            (try dsimp only at hSw)
            go_simp
            all_goals (with_reducible rfl)
          try simp only [List.getElem_toArray, List.getElem_cons_succ, List.getElem_cons_zero, Act.put, List.setIfInBounds_toArray, List.set_cons_zero, List.set_cons_succ]
          refine wpAnyH_take (i := 18) (oi := _) (v := ?v18) rfl (by kernel_rfl) (by kernel_rfl) (by kernel_rfl) (fun _ _ _ h => h) (Or.inl ⟨by rfl, ?h18⟩) (by assumption) ?r18
          case h18 =>
            intro w hSw
            (try dsimp only at hSw)
            go_simp
            all_goals (with_reducible rfl)
          try simp only [List.getElem_toArray, List.getElem_cons_succ, List.getElem_cons_zero, Act.put, List.setIfInBounds_toArray, List.set_cons_zero, List.set_cons_succ]
          refine wpAnyH_take (i := 19) (oi := _) (v := ?v19) rfl (by kernel_rfl) (by kernel_rfl) (by kernel_rfl) (fun _ _ _ h => h) (Or.inl ⟨by rfl, ?h19⟩) (by assumption) ?r19
          case h19 =>
            intro w hSw
            (try dsimp only at hSw)
            go_simp
            all_goals (with_reducible rfl)
          try simp only [List.getElem_toArray, List.getElem_cons_succ, List.getElem_cons_zero, Act.put, List.setIfInBounds_toArray, List.set_cons_zero, List.set_cons_succ]
          refine wpAnyH_take (i := 21) (oi := _) (v := ?v21) rfl (by kernel_rfl) (by kernel_rfl) (by kernel_rfl) (fun _ _ _ h => h) (Or.inl ⟨by rfl, ?h21⟩) (by assumption) ?r21
          case h21 =>
            intro w hSw
            (try dsimp only at hSw)
            go_simp
            all_goals (with_reducible rfl)
          try simp only [List.getElem_toArray, List.getElem_cons_succ, List.getElem_cons_zero, Act.put, List.setIfInBounds_toArray, List.set_cons_zero, List.set_cons_succ]
          refine wpAnyH_take (i := 22) (oi := _) (v := ?v22) rfl (by kernel_rfl) (by kernel_rfl) (by kernel_rfl) (fun _ _ _ h => h) (Or.inl ⟨by rfl, ?h22⟩) (by assumption) ?r22
          case h22 =>
            intro w hSw
            (try dsimp only at hSw)
            go_simp
            all_goals (with_reducible rfl)
          try simp only [List.getElem_toArray, List.getElem_cons_succ, List.getElem_cons_zero, Act.put, List.setIfInBounds_toArray, List.set_cons_zero, List.set_cons_succ]
          refine wpAnyH_take (i := 23) (oi := _) (v := ?v23) rfl (by kernel_rfl) (by kernel_rfl) (by kernel_rfl) (fun _ _ _ h => h) (Or.inl ⟨by rfl, ?h23⟩) (by assumption) ?r23
          case h23 =>
            intro w hSw
            (try dsimp only at hSw)
            go_simp
            all_goals (with_reducible rfl)
          try simp only [List.getElem_toArray, List.getElem_cons_succ, List.getElem_cons_zero, Act.put, List.setIfInBounds_toArray, List.set_cons_zero, List.set_cons_succ]
          refine wpAnyH_take (i := 24) (oi := _) (v := ?v24) rfl (by kernel_rfl) (by kernel_rfl) (by kernel_rfl) (fun _ _ _ h => h) (Or.inl ⟨by rfl, ?h24⟩) (by assumption) ?r24
          case h24 =>
            intro w hSw
            (try dsimp only at hSw)
            go_simp
            all_goals (with_reducible rfl)
          try simp only [List.getElem_toArray, List.getElem_cons_succ, List.getElem_cons_zero, Act.put, List.setIfInBounds_toArray, List.set_cons_zero, List.set_cons_succ]
          refine wpAnyH_ready (rs := [20]) (by kernel_rfl) (by simp) ?_
          refine AllReadyH.cons (o := _) rfl (fun K hK => ?_) AllReadyH.nil
          go_simp
          (go_at_call 14; go_must (refine (GN1.out).mono ?_; rintro e w3 ⟨rfl, rfl⟩))
          refine hK.out _ _ hHeldS (fun hHeld20 => ?_)
          clear hK K
          try simp only [List.getElem_toArray, List.getElem_cons_succ, List.getElem_cons_zero, Act.put, List.setIfInBounds_toArray, List.set_cons_zero, List.set_cons_succ]
          refine wpAnyH_take (i := 25) (oi := _) (v := ?v25) rfl (by kernel_rfl) (by kernel_rfl) (by kernel_rfl) (fun _ _ _ h => h) (Or.inl ⟨by rfl, ?h25⟩) (by assumption) ?r25
          case h25 =>
            intro w hSw
            (try dsimp only at hSw)
            go_simp
            all_goals (with_reducible rfl)
          try simp only [List.getElem_toArray, List.getElem_cons_succ, List.getElem_cons_zero, Act.put, List.setIfInBounds_toArray, List.set_cons_zero, List.set_cons_succ]
          refine wpAnyH_take (i := 26) (oi := _) (v := ?v26) rfl (by kernel_rfl) (by kernel_rfl) (by kernel_rfl) (fun _ _ _ h => h) (Or.inl ⟨by rfl, ?h26⟩) (by assumption) ?r26
          case h26 =>
            intro w hSw
            (try dsimp only at hSw)
            go_simp
            all_goals (with_reducible rfl)
          try simp only [List.getElem_toArray, List.getElem_cons_succ, List.getElem_cons_zero, Act.put, List.setIfInBounds_toArray, List.set_cons_zero, List.set_cons_succ]
          refine wpAnyH_take (i := 27) (oi := _) (v := ?v27) rfl (by kernel_rfl) (by kernel_rfl) (by kernel_rfl) (fun _ _ _ h => h) (Or.inl ⟨by rfl, ?h27⟩) (by assumption) ?r27
          case h27 =>
            intro w hSw
            (try dsimp only at hSw)
            go_simp
            all_goals (with_reducible rfl)
          try simp only [List.getElem_toArray, List.getElem_cons_succ, List.getElem_cons_zero, Act.put, List.setIfInBounds_toArray, List.set_cons_zero, List.set_cons_succ]
          refine wpAnyH_take (i := 28) (oi := _) (v := ?v28) rfl (by kernel_rfl) (by kernel_rfl) (by kernel_rfl) (fun _ _ _ h => h) (Or.inl ⟨by rfl, ?h28⟩) (by assumption) ?r28
          case h28 =>
            intro w hSw
            (try dsimp only at hSw)
            go_simp
            all_goals (with_reducible rfl)
          try simp only [List.getElem_toArray, List.getElem_cons_succ, List.getElem_cons_zero, Act.put, List.setIfInBounds_toArray, List.set_cons_zero, List.set_cons_succ]
          refine wpAnyH_take (i := 30) (oi := _) (v := ?v30) rfl (by kernel_rfl) (by kernel_rfl) (by kernel_rfl) (fun _ _ _ h => h) (Or.inl ⟨by rfl, ?h30⟩) (by assumption) ?r30
          case h30 =>
            intro w hSw
            (try dsimp only at hSw)
            go_simp
            all_goals (with_reducible rfl)
          try simp only [List.getElem_toArray, List.getElem_cons_succ, List.getElem_cons_zero, Act.put, List.setIfInBounds_toArray, List.set_cons_zero, List.set_cons_succ]
          refine wpAnyH_take (i := 31) (oi := _) (v := ?v31) rfl (by kernel_rfl) (by kernel_rfl) (by kernel_rfl) (fun _ _ _ h => h) (Or.inl ⟨by rfl, ?h31⟩) (by assumption) ?r31
          case h31 =>
            intro w hSw
            (try dsimp only at hSw)
            go_simp
            all_goals (with_reducible rfl)
          try simp only [List.getElem_toArray, List.getElem_cons_succ, List.getElem_cons_zero, Act.put, List.setIfInBounds_toArray, List.set_cons_zero, List.set_cons_succ]
          refine wpAnyH_take (i := 32) (oi := _) (v := ?v32) rfl (by kernel_rfl) (by kernel_rfl) (by kernel_rfl) (fun _ _ _ h => h) (Or.inl ⟨by rfl, ?h32⟩) (by assumption) ?r32
          case h32 =>
            intro w hSw
            (try dsimp only at hSw)
            go_simp
            all_goals (with_reducible rfl)
          try simp only [List.getElem_toArray, List.getElem_cons_succ, List.getElem_cons_zero, Act.put, List.setIfInBounds_toArray, List.set_cons_zero, List.set_cons_succ]
          refine wpAnyH_take (i := 33) (oi := _) (v := ?v33) rfl (by kernel_rfl) (by kernel_rfl) (by kernel_rfl) (fun _ _ _ h => h) (Or.inl ⟨by rfl, ?h33⟩) (by assumption) ?r33
          case h33 =>
            intro w hSw
            (try dsimp only at hSw)
            go_simp
            all_goals (with_reducible rfl)
          try simp only [List.getElem_toArray, List.getElem_cons_succ, List.getElem_cons_zero, Act.put, List.setIfInBounds_toArray, List.set_cons_zero, List.set_cons_succ]
          refine wpAnyH_ready (rs := [29]) (by kernel_rfl) (by simp) ?_
          refine AllReadyH.cons (o := _) rfl (fun K hK => ?_) AllReadyH.nil
          go_simp
          (go_at_call 16; go_must (refine (AL1.out).mono ?_; intro e w3 hp; obtain ⟨A3, c3, rows3, rfl, ho3, hr3, b3⟩ := rows_n hp HN2.out; have S1 := hide (same_any any any L2 rows3 rows2 n2 A3 A2 c3 c2 w3 (Rd.of_own ho3) (Rd.of_own (own_call X2.out.1 b3)) hr3 (X2.out.2.keep (Keep45.below b3)) hn2a); have B3 := hide b3; clear hp ho3 hr3 b3))
          refine hK.out _ _ ⟨(EF2.out _ B3.out).1, (EF2.out _ B3.out).2, EFX.out w3 (below_in' HB2.out B3.out)⟩ (fun hHeld29 => ?_)
          clear hK K
          try simp only [List.getElem_toArray, List.getElem_cons_succ, List.getElem_cons_zero, Act.put, List.setIfInBounds_toArray, List.set_cons_zero, List.set_cons_succ]
          refine wpAnyH_ready (rs := [34]) (by kernel_rfl) (by simp) ?_
          refine AllReadyH.cons (o := _) rfl (fun K hK => ?_) AllReadyH.nil
          go_simp
          (go_at_call 20; go_must (refine (S1.out).mono ?_; rintro e w4 ⟨rfl, b4⟩))
          refine hK.out _ _ ⟨(EF2.out _ (below_in B3.out b4 (Nat.le_refl _))).1, (EF2.out _ (below_in B3.out b4 (Nat.le_refl _))).2, EFX.out w4 (below_in' HB2.out (below_in B3.out b4 (Nat.le_refl _)))⟩ (fun hHeld34 => ?_)
          clear hK K
          try simp only [List.getElem_toArray, List.getElem_cons_succ, List.getElem_cons_zero, Act.put, List.setIfInBounds_toArray, List.set_cons_zero, List.set_cons_succ]
          refine wpAnyH_take (i := 35) (oi := _) (v := ?v35) rfl (by kernel_rfl) (by kernel_rfl) (by kernel_rfl) (fun _ _ _ h => h) (Or.inl ⟨by rfl, ?h35⟩) (by assumption) ?r35
          case h35 =>
            intro w hSw
            (try dsimp only at hSw)
            go_simp
            all_goals (with_reducible rfl)
          try simp only [List.getElem_toArray, List.getElem_cons_succ, List.getElem_cons_zero, Act.put, List.setIfInBounds_toArray, List.set_cons_zero, List.set_cons_succ]
          refine wpAnyH_take (i := 36) (oi := _) (v := ?v36) rfl (by kernel_rfl) (by kernel_rfl) (by kernel_rfl) (fun _ _ _ h => h) (Or.inl ⟨by rfl, ?h36⟩) (by assumption) ?r36
          case h36 =>
            intro w hSw
            (try dsimp only at hSw)
            go_simp
            all_goals (with_reducible rfl)
          try simp only [List.getElem_toArray, List.getElem_cons_succ, List.getElem_cons_zero, Act.put, List.setIfInBounds_toArray, List.set_cons_zero, List.set_cons_succ]
          refine wpAnyH_done (by kernel_rfl) ?_ _
          go_wp2
          go_meet
          exact ⟨rfl, S2, _, L2, gone2, hg2, TT.out.below (B3.out.trans (b4.mono B3.out.size)), HB.out.trans (HB2.out.trans ((B3.out.trans (b4.mono B3.out.size)).mono (Nat.le_trans zr HB2.out.size)))⟩
        case rest =>
          obtain ⟨rfl, S2, v2, L2, gone2, hg2, HT2, HB2⟩ := hcut
          go_wp2_with fail
          go_roundg (n - (k + 1))
          case measure => omega
          case rel => exact ⟨k + 1, S2, v2, L2, gone2, by omega, by go_num, by omega, HT2.out, HB2.out⟩
      · obtain ⟨len, first, rows, h1⟩ := HT.out.ring
        have RM := hide (room_any _ _ _ _ _ _ _ _ h1.blk)
        have d3 : decide (k < n) = false := by simpa using hlt
        clear h1
        go_wp2_with (go_at_call 21; go_must (refine (RM.out).mono ?_; rintro e w5 ⟨rfl, rfl⟩))
        go_ret
        exact ⟨rfl, B1.out.trans (HB.out.mono B1.out.size)⟩
end Go.Proofs.Ytailflbhcmgnpaa
