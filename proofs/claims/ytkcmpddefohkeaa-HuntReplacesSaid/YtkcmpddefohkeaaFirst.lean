/-
  First, All, walked: the first hits. No condition but bounds.
-/
import Derived.Test.YtkcmpddefohkeaaNew
namespace Go.Proofs.Ytkcmpddefohkeaa
open Go.RowKit Go.Proofs
set_option linter.unusedVariables false
theorem Try.sl26 : SliceOf Try.prog 26 33 2 16 := SliceOf.mk (z := .agg #[.int .i64 0, .int .i64 0]) (by kernel_rfl) (by kernel_rfl) (by kernel_rfl) (by omega)
theorem own_mono {w : World} {base base' : Nat} {e : TypeId} {s n : Nat} {v : Value} {xs : List Value} (h : w.ownsRow base e s v n xs) (hb : base' ≤ base) : w.ownsRow base' e s v n xs := by
  refine ⟨h.1, ?_⟩
  rcases h.2 with h2 | ⟨g, cap, cur, e1, h1, rest⟩
  · exact .inl h2
  · exact .inr ⟨g, cap, cur, e1, Nat.le_trans hb h1, rest⟩
theorem byNeedle_len {T : List Int} (hT : T.length ≤ 400) (L : List (List Int)) (k : Nat) : (byNeedle T L k).length ≤ k * 400 := by
  induction k with
  | zero => simp [byNeedle]
  | succ k ih =>
    have := placesF_le T (nth L k)
    rw [byNeedle_succ, List.length_append, List.length_map]
    omega
theorem hitsF_len {T : List Int} (hT : T.length ≤ 400) (L : List (List Int)) : (hitsF T L).length ≤ L.length * 400 := by
  rw [← (byNeedle_perm T L).length_eq]
  exact byNeedle_len hT L _
theorem own_blks {w w' : World} {base s n : Nat} {e : TypeId} {v : Value} {xs : List Value} (h : w.ownsRow base e s v n xs) (hk : ∀ g cs, Blk w g e cs → Blk w' g e cs) : w'.ownsRow base e s v n xs := by
  refine ⟨h.1, ?_⟩
  rcases h.2 with h3 | ⟨g, cap, cur, rfl, hb, hg, rest⟩
  · exact .inl h3
  · exact .inr ⟨g, cap, cur, rfl, hb, hk g cur hg, rest⟩
theorem SOk.keep' {w w' : World} {s : Strm} (h : SOk w s) (hk : ∀ g cs, Blk w g 3 cs → Blk w' g 3 cs) : SOk w' s := by
  obtain ⟨h1, h2, h3, b, off, cs, h4, h5, h6⟩ := h
  exact ⟨h1, h2, h3, b, off, cs, h4, hk _ _ h5, h6⟩
/-- Hits are appended to a row: a hunt stays. -/
theorem HuntAt.grown {w w' : World} {base base' H : Nat} {L : List (Nat × Nat)} (h : HuntAt w base H L) {s n : Nat} {v : Value} {xs : List Value} (ho : w.ownsRow base' 33 s v n xs) (hg : w.grownBy w' v.ownBlock) : HuntAt w' base H L := by
  obtain ⟨A, m, c, l, ⟨b1, b2, b3, b4⟩, h1, h2, h3, h4⟩ := h
  have K : ∀ t, (33 : TypeId) ≠ t → ∀ g cs, Blk w g t cs → Blk w' g t cs := fun t ht g cs hk => hk.grown hg (own_ne ho hk ht)
  exact ⟨A, m, c, l, ⟨K 49 (by decide) _ _ b1, own_blks b2 (K 53 (by decide)), fun s hs => (b3 s hs).keep' (K 3 (by decide)), b4⟩, h1, h2, h3, h4⟩
theorem HuntAt.perm_len {w : World} {base H : Nat} {L : List (Nat × Nat)} (h : HuntAt w base H L) : base ≤ H := by
  obtain ⟨A, m, c, l, hh, _⟩ := h
  exact hh.hb
set_option maxRecDepth 100000 in
set_option maxHeartbeats 4000000 in
theorem first_any (t : ByteArray) (ns : List ByteArray) (A : Option Addr) (n c : Nat) (q : Int) (w : World) (hr : Rd w w.heap.size 1 A n (ns.map Value.string)) (h1 : t.size ≤ 400) (h2 : ∀ x ∈ ns, x.size ≤ 400) (hn : n ≤ 100) (hnc : n ≤ c) :
    Calls Try.prog 17 #[.string t, .int .i64 q, .slice A n c] w (RetSlice 33 2 (((hitsF (bytesOf plainF t) (needs ns)).take q.toNat).flatMap hitE) w) := by
  have NW := hide (new_any t ns A n c w hr h1 h2 hn hnc)
  have hln := hr.len1
  obtain ⟨hits, hhits⟩ : ∃ hits, hitsF (bytesOf plainF t) (needs ns) = hits := ⟨_, rfl⟩
  have hlen : hits.length ≤ 40000 := by
    have := hitsF_len (T := bytesOf plainF t) (by rw [bytesOf_len]; exact h1) (needs ns)
    rw [hhits, show (needs ns).length = n by simp [needs, hln]] at this
    omega
  rw [hhits] at NW ⊢
  clear hr hhits h1 h2 hln
  go_enter Try.func17, Try.ntmps17
  go_upto_region 3 with (go_at_call 14; go_must (refine (NW.out).mono ?_; rintro e w1 ⟨H, rfl, h1, b1⟩; have H1 := hide h1; have B1 := hide b1; clear h1 b1))
  go_loopg [7] hits.length (fun gg s wr => ∃ (k : Nat) (pre rest : List (Nat × Nat)) (A2 : Option Addr) (c2 : Nat), hits = pre ++ rest ∧ pre.length = k ∧ k ≤ q.toNat ∧ rest.length ≤ gg ∧ s = .slice A2 k c2 ∧ Hid (HuntAt wr w.heap.size H rest) ∧ Hid (wr.ownsRow w.heap.size 33 2 (.slice A2 k c2) k (pre.flatMap hitE)) ∧ Hid (Below w.heap.size w wr))
  case atStart => exact ⟨0, [], hits, none, 0, rfl, rfl, Nat.zero_le _, Nat.le_refl _, rfl, H1.out, ⟨rfl, .inl ⟨rfl, rfl⟩⟩, B1.out⟩
  case round =>
    obtain ⟨k, pre, rest, A2, c2, hsp, hpl, hkq, hg, rfl, HH, HO, HB⟩ := hrel
    have hwr := HB.out.size
    have hk4 : k ≤ 40000 := by have := congrArg List.length hsp; rw [List.length_append] at this; omega
    by_cases hlt : (k : Int) < q
    · have d1 : decide ((k : Int) < q) = true := by simp [hlt]
      cases rest with
      | nil =>
        have NX := hide (next_none w.heap.size H wr HH.out hwr)
        have HR := hide (show hits.take q.toNat = pre by rw [hsp, List.append_nil]; exact List.take_of_length_le (by omega))
        clear hsp
        go_wp2_with (go_at_call 16; go_must (refine (NX.out).mono ?_; rintro e w2 ⟨rfl, h2, k2, b2⟩; have K2 := hide k2; have B2 := hide b2; clear h2 k2 b2))
        go_ret
        rw [HR.out]
        exact ⟨A2, k, c2, rfl, own_call (own_keepT HO.out K2.out (by decide) (by decide)) ((Below.refl _ _).alloc (Nat.le_refl _) _), (HB.out.trans B2.out).alloc (Nat.le_trans hwr B2.out.size) _⟩
      | cons x rest =>
        have hr4 : rest.length ≤ 40000 := by have := congrArg List.length hsp; rw [List.length_append, List.length_cons] at this; omega
        have NX := hide (next_some w.heap.size H rest x wr HH.out hwr (by omega))
        have HS := hide hsp
        clear hsp
        go_upto_region 6 with (go_at_call 16; go_must (refine (NX.out).mono ?_; rintro e w2 ⟨rfl, h2, k2, b2⟩; have H2 := hide h2; have K2 := hide k2; have B2 := hide b2; clear h2 k2 b2))
        go_name_world W6 hW6
        have B6 := hide (show Below w2.heap.size w2 W6 by rw [← hW6]; exact (Below.refl _ _).alloc (Nat.le_refl _) _)
        have X6 := hide (show Blk W6 w2.heap.size 33 #[.int .i64 x.1, .int .i64 x.2] by rw [← hW6]; exact Blk.new _ _ _)
        have H6 := hide (H2.out.call B6.out)
        have O6 := hide (own_call (own_keepT HO.out K2.out (by decide) (by decide)) B6.out)
        have BB6 := hide (show Below w.heap.size w W6 by rw [← hW6]; exact (HB.out.trans B2.out).alloc (Nat.le_trans hwr B2.out.size) _)
        have x0 := X6.out.cell 0
        have x1 := X6.out.cell 1
        simp at x0 x1
        have z6 := BB6.out.size
        clear hW6
        go_wp2_with (at_builtin; go_must (refine wpList_append1 Try.sl26 rfl _ _ rfl w.heap.size (.slice A2 k c2) k _ #[.int .i64 x.1, .int .i64 x.2] W6 1 rfl rfl rfl O6.out rfl (two_cell rfl rfl) (by simp only [maxLen]; omega) (by omega) z6 ?_; intro A3 c3 w3 app))
        have hk1 : k + 1 ≤ q.toNat := by omega
        have HK1 := hide hk1
        go_roundg rest.length
        case measure => simp at hg; omega
        case rel =>
          refine ⟨k + 1, pre ++ [x], rest, A3, c3, by rw [HS.out]; simp, by simp [hpl], HK1.out, Nat.le_refl _, rfl, ?_, ?_, ?_⟩
          · exact (H6.out.call ((Below.refl _ _).alloc (Nat.le_refl _) _)).grown (O6.out.alloc _) app.grown
          · exact own_snocE x app.own rfl
          · exact app.below (O6.out.alloc _) (BB6.out.alloc z6 _) (Nat.le_refl _) (by simp; omega)
    · have d1 : decide ((k : Int) < q) = false := by simp; omega
      have HR := hide (show hits.take q.toNat = pre by rw [hsp]; exact List.take_left' (by omega))
      clear hsp
      go_wp2
      go_ret
      rw [HR.out]
      exact ⟨A2, k, c2, rfl, HO.out, HB.out⟩
set_option maxRecDepth 100000 in
set_option maxHeartbeats 4000000 in
theorem all_any (t : ByteArray) (ns : List ByteArray) (A : Option Addr) (n c : Nat) (w : World) (hr : Rd w w.heap.size 1 A n (ns.map Value.string)) (h1 : t.size ≤ 400) (h2 : ∀ x ∈ ns, x.size ≤ 400) (hn : n ≤ 100) (hnc : n ≤ c) :
    Calls Try.prog 12 #[.string t, .slice A n c] w (RetSlice 33 2 ((hitsF (bytesOf plainF t) (needs ns)).flatMap hitE) w) := by
  have NW := hide (new_any t ns A n c w hr h1 h2 hn hnc)
  have FI := hide (fun (W : World) (hb : Below w.heap.size w W) => first_any t ns A n c (((hitsF (bytesOf plainF t) (needs ns)).length : Nat) : Int) W ((hr.below hb).more hb.size) h1 h2 hn hnc)
  obtain ⟨hits, hhits⟩ : ∃ hits, hitsF (bytesOf plainF t) (needs ns) = hits := ⟨_, rfl⟩
  rw [hhits] at NW FI ⊢
  have ht : hits.take (((hits.length : Nat) : Int)).toNat = hits := by rw [Int.toNat_natCast, List.take_length]
  rw [ht] at FI
  clear hhits h1 h2 hr ht
  go_enter Try.func12, Try.ntmps12
  go_wp2_with (first
    | (go_at_call 14; go_must (refine (NW.out).mono ?_; rintro e w1 ⟨H, rfl, h1, b1⟩; have L1 := hide (left_any _ H hits w1 h1); have F1 := hide (FI.out w1 b1); have B1 := hide b1; clear h1 b1))
    | (go_at_call 15; go_must (refine (L1.out).mono ?_; rintro e w2 ⟨rfl, rfl⟩))
    | (go_at_call 17; go_must (refine (F1.out).mono ?_; rintro e w3 ⟨A3, N3, c3, rfl, o3, b3⟩; have O3 := hide o3; have B3 := hide b3; clear o3 b3)))
  go_ret
  exact ⟨A3, N3, c3, rfl, own_mono O3.out B1.out.size, below_in B1.out B3.out (Nat.le_refl _)⟩
end Go.Proofs.Ytkcmpddefohkeaa
