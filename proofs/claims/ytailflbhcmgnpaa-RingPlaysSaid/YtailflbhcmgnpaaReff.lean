/-
  The document's Fill, walked. No condition but bounds.
-/
import Derived.Test.YtailflbhcmgnpaaRefp
namespace Go.Proofs.Ytailflbhcmgnpaa
open Go.RowKit Go.Proofs
set_option linter.unusedVariables false
theorem rowsIn_drop {ok : Nat → Prop} {w : World} {rows : List (Value × Value)} {L : List Row} (h : RowsIn ok w rows L) (k : Nat) : RowsIn ok w (rows.drop k) (L.drop k) :=
  ⟨by simp [h.1], fun i S hS => by
    rw [List.getElem?_drop] at hS
    obtain ⟨q, h1, h2⟩ := h.2 _ S hS
    exact ⟨q, by rw [List.getElem?_drop]; exact h1, h2⟩⟩
set_option maxHeartbeats 4000000 in
theorem rfill_t (base m : Nat) (v : Value) (L : List Row) (room gone B : Nat) (A : Option Addr) (k c : Nat) (rows : List (Value × Value)) (Rs : List Row) (w : World) (h : RefAt base w m v L room gone) (hA : Rd w B 2 A k (flatP rows)) (hB : B ≤ w.heap.size) (hr : RowsIn any w rows Rs) (hk : Rs.length = k) (hkc : k ≤ c) (hk2 : k ≤ 1000000) (hr2 : room ≤ 1000000) (hgn : gone ≤ 1000000000) (hb : base ≤ w.heap.size) :
    Calls Try.prog 30 #[.pointer (some ⟨m, 0, none⟩), .slice A k c] w (MInt base m v (lastK room k Rs) room (gone + (k - room)) (k - room) w) := by
  obtain ⟨hM, rows0, hown, hrows0⟩ := h
  obtain ⟨d, hd⟩ : ∃ d, k - room = d := ⟨_, rfl⟩
  obtain ⟨j, hj⟩ : ∃ j, k - d = j := ⟨_, rfl⟩
  have hkd : d + j = k := by omega
  obtain ⟨q, hq⟩ : ∃ q, gone + d = q := ⟨_, rfl⟩
  have hq2 : (gone : Int) + d = q := by omega
  obtain ⟨X, hX⟩ : ∃ X, cutA A c d 2 = X := ⟨_, rfl⟩
  have hcut := fun W => cut_l (P := Try.prog) (t := 46) (e := 30) (a := A) (len := k) (cap := c) (s := 2) rfl (by kernel_rfl) (L := d) d rfl (by omega) W
  have hrd := hA.cutA (k := d) (cap := c) (by omega) hkc
  have h1 : ∀ u ∈ (flatP rows).drop (d * 2), u.oneCell' = true := fun u hu => ones_rows hr u (List.mem_of_mem_drop hu)
  rw [hX] at hcut hrd
  rw [hj] at hcut hrd
  have hml := hM.lt
  have hlast : lastK room k Rs = Rs.drop d := by unfold lastK; rw [List.take_of_length_le (by omega), hd]
  have hfl : (flatP rows).drop (d * 2) = flatP (rows.drop d) := flat_drop (E := fun p : Value × Value => [p.1, p.2]) (s := 2) (fun _ => rfl) rows d
  have hlen : (Rs.drop d).length = j := by simp; omega
  rw [hd, hq, hlast]
  rw [hfl] at hrd h1
  have n2 := (Below.refl w.heap.size w).alloc (Nat.le_refl _) (.cells #[] 30)
  have m2 := hM.alloc (.cells #[] 30)
  obtain ⟨c0, c1, c2, f0, f1, f2⟩ := blk3 m2
  obtain ⟨a0, a1, a2, b0, b1, b2⟩ := blk3 hM
  have AP := hide (And.intro (own_empty w 30 2) (And.intro (hrd.alloc hB (.cells #[] 30)) h1))
  have HH := hide (And.intro hM (And.intro m2 (And.intro n2 (And.intro hr hlen))))
  have hne3 : m ≠ w.heap.size := by omega
  have hd2 : d ≤ 1000000 := by omega
  have hjk : j ≤ 1000000 := by omega
  have HD := hide (And.intro hd (And.intro hj (And.intro hq hX)))
  clear hM hown hrows0 hA hr hk hX hrd h1 hfl hlen hlast n2 m2 hd hj hq
  by_cases hroom : room < k
  · have d1 : decide (room < k) = true := by simpa using hroom
    have d2 : decide ((room : Int) < k) = true := by simp; omega
    have hsub : (k : Int) - room = d := by have := HD.out.1; omega
    clear hkd
    go_enter Try.func30, Try.ntmps30
    go_upto_region 5 with (at_builtin; go_must (refine wpList_appends Try.sl46 rfl _ _ rfl w.heap.size (.slice (some ⟨w.heap.size, 0, none⟩) 0 0) 0 [] _ B _ j (c - d) (flatP (rows.drop d)) rfl rfl AP.out.1 AP.out.2.1 AP.out.2.2 (by simp only [maxLen]; omega) (by omega) (by simp) ?_; intro A5 c5 w5 app; have B5 := hide (app.blk HH.out.2.1 AP.out.1 (by decide)); obtain ⟨c0, c1, c2, f0, f1, f2⟩ := blk3 B5.out))
    go_name_world W6 hW6
    have oo : w5.ownsRow w.heap.size 30 2 (.slice A5 j c5) j (flatP (rows.drop d)) := by have h := app.own; simp only [Nat.zero_add, List.nil_append] at h; exact h
    have hne6 : some m ≠ Value.ownBlock (.slice A5 j c5) := own_ne oo B5.out (by decide)
    have m6 : Blk W6 m 53 (refC room (.slice A5 j c5) gone) := by rw [← hW6]; exact ref_v B5.out _
    have kk : Keep45 any w w5 := fun b cs _ h => app.blk (h.alloc _) AP.out.1 (by decide)
    have K6 : Keep45 any w W6 := by rw [← hW6]; exact kk.trans (keep45_set B5.out (by decide) 1 _)
    have o6 : W6.ownsRow w.heap.size 30 2 (.slice A5 j c5) j (flatP (rows.drop d)) := by rw [← hW6]; exact own_far (p := ⟨m, 1, none⟩) oo hne6 _
    have F6 : Frm (fun k => k = m) w W6 := by
      rw [← hW6]
      exact (((Frm.refl (fun k => k = m) w).alloc _).grown app.grown (fun k hk h2 => by simp [Value.ownBlock] at hk; omega)).setCell (p := ⟨m, 1, none⟩) (fun _ => rfl) _
    obtain ⟨c0, c1, c2, f0, f1, f2⟩ := blk3 m6
    have M6 := hide (And.intro m6 (And.intro K6 (And.intro o6 F6)))
    clear hW6 oo m6 K6 o6 F6 kk
    go_wp2
    go_ret
    obtain ⟨m6, K6, o6, F6⟩ := M6.out
    have hx : ∀ s, Value.ownBlock (.slice A5 j c5) = some s → w.heap.size ≤ s := fun s e => (o6.lt s e).1
    have K7 := keep45_set (ok := any) m6 (by decide) 2 (.int .u64 q)
    refine ⟨.slice A5 j c5, rfl, ⟨ref_g m6 q, rows.drop d, ?_, ?_⟩, ?_, fun s e => Or.inr (hx s e), K6.trans K7⟩
    · rw [HH.out.2.2.2.2]
      exact own_far (p := ⟨m, 2, none⟩) (own_mono o6 hb) (own_ne o6 m6 (by decide)) _
    · exact (rowsIn_drop HH.out.2.2.2.1 d).keep (K6.trans K7)
    · exact (F6.mono (fun i _ h => Or.inl h)).setCell (p := ⟨m, 2, none⟩) (fun _ => Or.inl rfl) _
  · have d1 : decide (room < k) = false := by simp; omega
    have d2 : decide ((room : Int) < k) = false := by simp; omega
    obtain rfl : d = 0 := by have := HD.out.1; omega
    obtain rfl : q = gone := by have := HD.out.2.2.1; omega
    obtain rfl : j = k := by have := HD.out.2.1; omega
    obtain rfl : X = A := by have := HD.out.2.2.2; rw [cutA_zero] at this; exact this.symm
    clear hkd
    go_enter Try.func30, Try.ntmps30
    go_upto_region 5 with (at_builtin; go_must (refine wpList_appends Try.sl46 rfl _ _ rfl w.heap.size (.slice (some ⟨w.heap.size, 0, none⟩) 0 0) 0 [] _ B _ j c (flatP (rows.drop 0)) rfl rfl AP.out.1 AP.out.2.1 AP.out.2.2 (by simp only [maxLen]; omega) (by omega) (by simp) ?_; intro A5 c5 w5 app; have B5 := hide (app.blk HH.out.2.1 AP.out.1 (by decide)); obtain ⟨c0, c1, c2, f0, f1, f2⟩ := blk3 B5.out))
    go_name_world W6 hW6
    have oo : w5.ownsRow w.heap.size 30 2 (.slice A5 j c5) j (flatP (rows.drop 0)) := by have h := app.own; simp only [Nat.zero_add, List.nil_append] at h; exact h
    have hne6 : some m ≠ Value.ownBlock (.slice A5 j c5) := own_ne oo B5.out (by decide)
    have m6 : Blk W6 m 53 (refC room (.slice A5 j c5) q) := by rw [← hW6]; exact ref_v B5.out _
    have kk : Keep45 any w w5 := fun b cs _ h => app.blk (h.alloc _) AP.out.1 (by decide)
    have K6 : Keep45 any w W6 := by rw [← hW6]; exact kk.trans (keep45_set B5.out (by decide) 1 _)
    have o6 : W6.ownsRow w.heap.size 30 2 (.slice A5 j c5) j (flatP (rows.drop 0)) := by rw [← hW6]; exact own_far (p := ⟨m, 1, none⟩) oo hne6 _
    have F6 : Frm (fun k => k = m) w W6 := by
      rw [← hW6]
      exact (((Frm.refl (fun k => k = m) w).alloc _).grown app.grown (fun k hk h2 => by simp [Value.ownBlock] at hk; omega)).setCell (p := ⟨m, 1, none⟩) (fun _ => rfl) _
    obtain ⟨c0, c1, c2, f0, f1, f2⟩ := blk3 m6
    have M6 := hide (And.intro m6 (And.intro K6 (And.intro o6 F6)))
    clear hW6 oo m6 K6 o6 F6 kk
    go_wp2
    go_ret
    obtain ⟨m6, K6, o6, F6⟩ := M6.out
    have hx : ∀ s, Value.ownBlock (.slice A5 j c5) = some s → w.heap.size ≤ s := fun s e => (o6.lt s e).1
    have K7 := keep45_set (ok := any) m6 (by decide) 2 (.int .u64 q)
    refine ⟨.slice A5 j c5, rfl, ⟨ref_g m6 q, rows.drop 0, ?_, ?_⟩, ?_, fun s e => Or.inr (hx s e), K6.trans K7⟩
    · rw [HH.out.2.2.2.2]
      exact own_far (p := ⟨m, 2, none⟩) (own_mono o6 hb) (own_ne o6 m6 (by decide)) _
    · exact (rowsIn_drop HH.out.2.2.2.1 0).keep (K6.trans K7)
    · exact (F6.mono (fun i _ h => Or.inl h)).setCell (p := ⟨m, 2, none⟩) (fun _ => Or.inl rfl) _
end Go.Proofs.Ytailflbhcmgnpaa
