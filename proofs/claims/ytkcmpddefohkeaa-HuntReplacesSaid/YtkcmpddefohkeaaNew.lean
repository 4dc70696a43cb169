/-
  New, walked: needle by needle, what each one's places are. No condition but bounds.
-/
import Derived.Test.YtkcmpddefohkeaaNext
import Derived.Test.YtkcmpddefohkeaaCallers
namespace Go.Proofs.Ytkcmpddefohkeaa
open Go.RowKit Go.Proofs
set_option linter.unusedVariables false
theorem sok_own {w : World} {base N c : Nat} {A : Option Addr} {ps : List Nat} (which : Nat) (h : w.ownsRow base 3 1 (.slice A N c) N (ps.map nI)) (hN : 0 < N) : SOk w ⟨A, N, c, ps, which⟩ := by
  have hl : ps.length = N := by have := h.1; rw [List.length_map] at this; omega
  rcases h.2 with ⟨_, h3⟩ | ⟨g, cap, cur, hv, hb, hg, hc, hm, hs, ht⟩
  · omega
  · injection hv with e1 e2 e3
    subst e1 e3
    refine ⟨hl, hN, hc, g, 0, cur, rfl, hg, fun j p hp => ?_⟩
    have hj : j < N := by rw [← hl]; exact (List.getElem?_eq_some_iff.1 hp).1
    have h5 : (ps.map nI)[j]? = some (nI p) := by rw [List.getElem?_map, hp]; rfl
    rw [← ht, List.getElem?_take] at h5
    rw [if_pos (by omega), Array.getElem?_toList] at h5
    rw [Nat.zero_add]; exact h5
theorem placesF_le (T N : List Int) : (placesF T N).length ≤ T.length := by
  unfold placesF placesTo
  split
  · simp
  · refine Nat.le_trans (List.length_filter_le _ _) ?_
    rw [List.length_range]; omega
/-- What a hunt is, behind the first needles. -/
structure NewOk (T : List Int) (L : List (List Int)) (k : Nat) (l : List Strm) : Prop where
  heap : HeapOK ltS l l.length
  sorted : ∀ s ∈ l, s.ps.Pairwise (· < ·)
  perm : (l.flatMap hitsOf).Perm (byNeedle T L k)
  few : l.length ≤ k
  many : (l.flatMap hitsOf).length ≤ k * 400
theorem NewOk.zero (T : List Int) (L : List (List Int)) : NewOk T L 0 [] := by
  refine ⟨?_, by simp, by simp [byNeedle], by simp, by simp⟩
  intro i a b h0 h1 h2 h3
  simp at h2
theorem NewOk.skip {T : List Int} {L : List (List Int)} {k : Nat} {l : List Strm} (h : NewOk T L k l) (h0 : (placesF T (nth L k)) = []) : NewOk T L (k + 1) l := by
  obtain ⟨h1, h2, h3, h4, h5⟩ := h
  refine ⟨h1, h2, ?_, by omega, Nat.le_trans h5 (Nat.mul_le_mul_right _ (Nat.le_succ k))⟩
  rw [byNeedle_succ, h0, List.map_nil, List.append_nil]; exact h3
theorem NewOk.add {T : List Int} {L : List (List Int)} {k : Nat} {l : List Strm} (h : NewOk T L k l) (hT : T.length ≤ 400) (s : Strm) (hp : s.ps = placesF T (nth L k)) (hw : s.which = k) : NewOk T L (k + 1) (upF ltS (l ++ [s]) l.length) ∧ ((upF ltS (l ++ [s]) l.length).flatMap hitsOf).length = (l.flatMap hitsOf).length + s.ps.length := by
  obtain ⟨h1, h2, h3, h4, h5⟩ := h
  have P := push_heap ordS h1 s
  have hpm := P.2.flatMap_right hitsOf
  have e : [s].flatMap hitsOf = s.ps.map (fun p => (p, k)) := by simp [hitsOf, hw]
  have e1 : ((upF ltS (l ++ [s]) l.length).flatMap hitsOf).length = (l.flatMap hitsOf).length + s.ps.length := by
    rw [hpm.length_eq, List.flatMap_append, e, List.length_append, List.length_map]
  have h6 := placesF_le T (nth L k)
  rw [← hp] at h6
  refine ⟨⟨?_, fun x hx => ?_, ?_, ?_, by rw [e1]; omega⟩, e1⟩
  · rw [upF_len, List.length_append]; exact P.1
  · rcases List.mem_append.1 (P.2.mem_iff.1 hx) with hx | hx
    · exact h2 x hx
    · rw [List.mem_singleton] at hx; subst hx; rw [hp]; exact places_sorted _ _
  · refine hpm.trans ?_
    rw [List.flatMap_append, e, byNeedle_succ, ← hp]
    exact h3.append_right _
  · rw [upF_len, List.length_append]; simp; omega
/-- A hunt of one's own, handed back. -/
def NewPost (L : List (Nat × Nat)) (w : World) (e : Ending) (w' : World) : Prop :=
  ∃ H, e = .returned (.pointer (some ⟨H, 0, none⟩)) ∧ HuntAt w' w.heap.size H L ∧ Below w.heap.size w w'
def needs (ns : List ByteArray) : List (List Int) := ns.map (bytesOf plainF)
theorem nth_needs {ns : List ByteArray} {k : Nat} {x : ByteArray} (h : ns[k]? = some x) : nth (needs ns) k = bytesOf plainF x := by
  unfold nth needs
  rw [List.getElem?_map, h]; rfl
/-- find.All, its length known. -/
theorem places_any (t s : ByteArray) (w : World) (h1 : t.size ≤ 400) (h2 : s.size ≤ 400) {M : Nat} (hM : (placesF (bytesOf plainF t) (bytesOf plainF s)).length = M) :
    Calls Try.prog 21 #[.string t, .string s] w (fun e w' => ∃ A c, e = .returned (.slice A M c) ∧ w'.ownsRow w.heap.size 3 1 (.slice A M c) M ((placesF (bytesOf plainF t) (bytesOf plainF s)).map nI) ∧ Below w.heap.size w w') := by
  refine (call12 t s w h1 h2).mono ?_
  rintro e w' ⟨A, N, c, rfl, ho, hb⟩
  have : N = M := by have := ho.1; rw [List.length_map, hM] at this; omega
  subst this
  exact ⟨A, c, rfl, ho, hb⟩
set_option maxRecDepth 100000 in
set_option maxHeartbeats 4000000 in
theorem new_any (t : ByteArray) (ns : List ByteArray) (A : Option Addr) (n c : Nat) (w : World) (hr : Rd w w.heap.size 1 A n (ns.map Value.string)) (h1 : t.size ≤ 400) (h2 : ∀ x ∈ ns, x.size ≤ 400) (hn : n ≤ 100) (hnc : n ≤ c) :
    Calls Try.prog 14 #[.string t, .slice A n c] w (NewPost (hitsF (bytesOf plainF t) (needs ns)) w) := by
  have hln := hr.len1
  have HR := hide hr
  have hT : (bytesOf plainF t).length ≤ 400 := by rw [bytesOf_len]; exact h1
  clear hr
  go_enter Try.func14, Try.ntmps14
  go_upto_region 2 with (fail)
  go_name_world W hW
  have HA := hide (show HeapAt W w.heap.size w.heap.size 0 none 0 0 [] from ⟨by rw [← hW]; exact Blk.new _ _ _, ⟨rfl, .inl ⟨rfl, rfl⟩⟩, by simp, Nat.le_refl _⟩)
  have BW := hide (show Below w.heap.size w W by rw [← hW]; exact (Below.refl _ _).alloc (Nat.le_refl _) _)
  clear hW
  go_wp2
  go_loopg [13] n (fun gg s wr => ∃ (k m : Nat) (A2 : Option Addr) (c2 : Nat) (l : List Strm), k ≤ n ∧ n ≤ k + gg ∧ s = .int .i64 k ∧ (l.flatMap hitsOf).length = m ∧ Hid (HeapAt wr w.heap.size w.heap.size m A2 l.length c2 l) ∧ Hid (NewOk (bytesOf plainF t) (needs ns) k l) ∧ Hid (Below w.heap.size w wr))
  case atStart => exact ⟨0, 0, none, 0, [], Nat.zero_le _, by omega, rfl, rfl, HA.out, NewOk.zero _ _, BW.out⟩
  case round =>
    obtain ⟨k, m, A2, c2, l, hkn, hgk, rfl, hm, HH, HN, HB⟩ := hrel
    by_cases hk : k = n
    · subst hk
      go_wp2
      go_ret
      refine ⟨w.heap.size, rfl, ⟨A2, l.length, c2, l, ?_, HN.out.heap, HN.out.sorted, ?_, hitsF_sorted _ _⟩, HB.out⟩
      · have hp := HN.out.perm
        rw [← hln, show ns.length = (needs ns).length by simp [needs]] at hp
        have := (hp.trans (byNeedle_perm _ _)).length_eq
        rw [← this, hm]
        exact HH.out
      · have hp := HN.out.perm
        rw [← hln, show ns.length = (needs ns).length by simp [needs]] at hp
        exact hp.trans (byNeedle_perm _ _)
    · have hlt : k < n := by omega
      obtain ⟨b, off, x, hA, hbl, hx, cx⟩ := (HR.out.below HB.out).at1 hlt
      obtain ⟨M, hM⟩ : ∃ M, (placesF (bytesOf plainF t) (bytesOf plainF x)).length = M := ⟨_, rfl⟩
      have hM4 : M ≤ 400 := by rw [← hM]; exact Nat.le_trans (placesF_le _ _) hT
      have PA := hide (places_any t x wr h1 (h2 x (List.mem_of_getElem? hx)) hM)
      have hnx := nth_needs hx
      have hNk := hide hnx
      have hbW := Nat.le_refl w.heap.size
      have hwr := HB.out.size
      have hm4 : m ≤ 40000 := by
        have := HN.out.many
        rw [hm] at this
        omega
      have hl4 : l.length ≤ 100 := by have := HN.out.few; omega
      subst hA
      obtain ⟨k9, hk9⟩ : ∃ k9, k + 1 = k9 := ⟨_, rfl⟩
      have k1 : (k : Int) + 1 = k9 := by omega
      have HK9 := hide hk9
      have hg9 : n ≤ k9 + (n - k - 1) := by omega
      have hk9n : k9 ≤ n := by omega
      clear hk9
      have i1 : (0 : Int) ≤ k := by omega
      have i2 : (k : Int) < n := by omega
      have HX := hide hx
      have HMM := hide hM
      have HMm := hide hm
      clear hx hM hm hnx
      by_cases h0 : M = 0
      · subst h0
        have HS := hide (HN.out.skip (by rw [hNk.out]; exact List.eq_nil_of_length_eq_zero HMM.out))
        go_wp2_with (go_at_call 21; go_must (refine (PA.out).mono ?_; rintro e w1 ⟨A1, c1, rfl, o1, b1⟩; have B1 := hide b1; clear o1 b1))
        go_roundg (n - k - 1)
        case measure => omega
        case rel => exact ⟨k9, m, A2, c2, l, hk9n, hg9, rfl, HMm.out, HH.out.call B1.out, by rw [← HK9.out]; exact HS.out, below_in HB.out B1.out (Nat.le_refl _)⟩
      · have d0 : decide (0 < M) = true := by simp; omega
        have hM0 : 0 < M := by omega
        obtain ⟨m2, hm2⟩ : ∃ m2, m + M = m2 := ⟨_, rfl⟩
        have s2 : (m : Int) + M = m2 := by omega
        have AD := hide (fun (A1 : Option Addr) (c1 : Nat) => HN.out.add hT { A := A1, n := M, c := c1, ps := placesF (bytesOf plainF t) (bytesOf plainF x), which := k } (by rw [hNk.out]) rfl)
        have PU := hide (fun (A1 : Option Addr) (c1 : Nat) (W1 : World) (hW : HeapAt W1 w.heap.size w.heap.size m A2 l.length c2 l) (hs : SOk W1 { A := A1, n := M, c := c1, ps := placesF (bytesOf plainF t) (bytesOf plainF x), which := k }) (hbW : w.heap.size ≤ W1.heap.size) => hpush_any w.heap.size w.heap.size m A2 l.length c2 l { A := A1, n := M, c := c1, ps := placesF (bytesOf plainF t) (bytesOf plainF x), which := k } W1 hW hs (by omega) hbW)
        have HM2 := hide hm2
        have HM0 := hide hM0
        clear hm2 h0
        go_upto_region 8 with (first
          | (go_at_call 21; go_must (refine (PA.out).mono ?_; rintro e w1 ⟨A1, c1, rfl, o1, b1⟩; have S1 := hide (sok_own k o1 HM0.out); have B1 := hide b1; have H1 := hide (HH.out.call b1); have P1 := hide (PU.out A1 c1 w1 (HH.out.call b1) (sok_own k o1 HM0.out) (Nat.le_trans hwr b1.size)); clear o1 b1))
          | (go_at_call 25; go_must (refine (P1.out).mono ?_; rintro e w3 ⟨A3, c3, rfl, h3, k3, b3⟩; have H3 := hide h3; have B3 := hide b3; clear h3 k3 b3)))
        have q1 := H3.out.blk.cell 1
        have qf := H3.out.blk.frozen 1
        simp at q1
        have hHl := H3.out.blk.lt
        have H4 := hide (H3.out.left (m2 : Int))
        go_wp2
        go_roundg (n - k - 1)
        case measure => omega
        case rel =>
          have AD1 := AD.out A1 c1
          refine ⟨k9, m2, A3, c3, _, hk9n, hg9, rfl, ?_, ?_, by rw [← HK9.out]; exact AD1.1, ?_⟩
          · rw [AD1.2, HMm.out, HMM.out, HM2.out]
          · rw [upF_len, List.length_append]; exact H4.out.1
          · exact ((below_in HB.out B1.out (Nat.le_refl _)).trans B3.out).setCell (p := ⟨w.heap.size, 1, none⟩) (Nat.le_refl _) _
end Go.Proofs.Ytkcmpddefohkeaa
