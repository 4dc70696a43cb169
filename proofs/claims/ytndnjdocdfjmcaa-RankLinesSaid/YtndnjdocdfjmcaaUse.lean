/-
  A ledger: New, Use, Of, Len, Forget, walked. No condition but bounds.
-/
import Derived.Test.YtndnjdocdfjmcaaWorst
namespace Go.Proofs.Ytndnjdocdfjmcaa
open Go.RowKit Go.Proofs
set_option linter.unusedVariables false
/-- A ledger in memory: its block, its map's block, its entries in order. -/
structure Led (w : World) (X b most uses : Nat) (L : List Ent) : Prop where
  blk : Blk w X 62 #[.map (some b), .int .i64 most, .int .i64 uses]
  led : ∃ M, LedM w b M ∧ RankInv most uses M L
section
variable {w w' : World} {X b most uses : Nat} {L : List Ent}
theorem Led.call (h : Led w X b most uses L) (hb : Below w.heap.size w w') : Led w' X b most uses L := by
  obtain ⟨h1, M, h2, h3⟩ := h
  exact ⟨h1.below hb h1.lt, M, h2.below hb h2.lt, h3⟩
theorem Led.frm {S : Nat → Prop} (h : Led w X b most uses L) (hf : Frm S w w') (hX : ¬ S X) (hb : ¬ S b) : Led w' X b most uses L := by
  obtain ⟨h1, M, h2, h3⟩ := h
  exact ⟨h1.frm hf hX, M, h2.frm hf hb, h3⟩
theorem Led.ne (h : Led w X b most uses L) : X ≠ b := by
  obtain ⟨h1, M, ⟨D, ⟨es, clock, h2, _⟩, _⟩, _⟩ := h
  rintro rfl
  unfold Blk at h1
  rw [h1] at h2
  cases h2
theorem Led.lt (h : Led w X b most uses L) : X < w.heap.size ∧ b < w.heap.size := by
  obtain ⟨h1, M, h2, h3⟩ := h
  exact ⟨h1.lt, h2.lt⟩
end
theorem Led.srt {w : World} {X b most uses : Nat} {L : List Ent} (h : Led w X b most uses L) : Srt L := by obtain ⟨_, M, _, h⟩ := h; exact h.srt
set_option maxHeartbeats 1000000 in
theorem new_any (n : Nat) (w : World) (h1 : 1 ≤ n) (h2 : n ≤ 10000) :
    Calls Try.prog 11 #[.int .i64 n] w fun e w' => e = .returned (.tuple #[.pointer (some ⟨w.heap.size + 1, 0, none⟩), .int .i64 0]) ∧ Led w' (w.heap.size + 1) w.heap.size n 0 [] ∧ Below w.heap.size w w' := by
  have hmm := @run_makeMap Try.prog
  have d1 : decide ((n : Int) < 1) = false := by simp; omega
  have d2 : decide ((10000 : Int) < n) = false := by simp; omega
  go_enter Try.func11, Try.ntmps11
  go_wp2
  go_ret2
  refine ⟨rfl, ⟨?_, [], ?_, ?_⟩, ?_⟩
  · exact Blk.new' (by simp) _ _
  · exact (led_made w).below ((Below.refl _ _).alloc (Nat.le_refl _) _) (led_made w).lt
  · exact ⟨.refl _, .nil, .nil, Nat.zero_le _, (fun x hx => by cases hx), (fun x hx => by cases hx), (fun x hx => by cases hx)⟩
  · exact ((Below.refl _ _).alloc (Nat.le_refl _) _).alloc (by simp) _
set_option maxHeartbeats 1000000 in
theorem new_bad (n : Int) (w : World) (h1 : n < 1 ∨ 10000 < n) : Calls Try.prog 11 #[.int .i64 n] w fun e w' => e = .returned (.tuple #[.pointer none, .int .i64 1]) ∧ w' = w := by
  by_cases h2 : n < 1
  · have d1 : decide (n < 1) = true := by simpa using h2
    go_enter Try.func11, Try.ntmps11
    go_wp2
    go_ret2
    exact ⟨rfl, rfl⟩
  · have d1 : decide (n < 1) = false := by simpa using h2
    have d2 : decide (10000 < n) = true := by simp; omega
    go_enter Try.func11, Try.ntmps11
    go_wp2
    go_ret2
    exact ⟨rfl, rfl⟩
set_option maxHeartbeats 1000000 in
theorem len_led {X b most uses : Nat} {L : List Ent} (w : World) (h : Led w X b most uses L) : Calls Try.prog 14 #[.pointer (some ⟨X, 0, none⟩)] w fun e w' => e = .returned (.int .i64 L.length) ∧ w' = w := by
  obtain ⟨h1, M, h2, h3⟩ := h
  have x0 := h1.cell 0
  simp at x0
  have hl := fun ty => led_len h2 ty
  rw [h3.perm.length_eq] at hl
  clear h1 h2 h3
  go_enter Try.func14, Try.ntmps14
  go_wp2
  go_ret
  exact ⟨rfl, rfl⟩
set_option maxHeartbeats 1000000 in
theorem of_led {X b most uses : Nat} {L : List Ent} (w : World) (t : ByteArray) (ht : t.size ≤ maxLen) (h : Led w X b most uses L) : Calls Try.prog 13 #[.pointer (some ⟨X, 0, none⟩), .string t] w fun e w' => e = .returned (.tuple #[entA ((lk L t).getD zeroE), .bool (lk L t).isSome]) ∧ Below w.heap.size w w' := by
  obtain ⟨h1, M, h2, h3⟩ := h
  have LK := hide (fun (W : World) (hW : Below w.heap.size w W) => led_look_ok (h2.below hW h2.lt) ht)
  rw [lk_perm h3.perm h3.pw] at LK
  obtain ⟨e, he⟩ : ∃ e, (lk L t).getD zeroE = e := ⟨_, rfl⟩
  obtain ⟨ok, hok⟩ : ∃ ok, (lk L t).isSome = ok := ⟨_, rfl⟩
  rw [he, hok] at LK ⊢
  have H1 := hide h1
  have hXl := h1.lt
  unfold entA at LK ⊢
  clear h1 h2 h3 he hok
  go_enter Try.func13, Try.ntmps13
  go_upto_region 3 with (fail)
  go_name_world W hW
  have BW := hide (show Below w.heap.size w W by rw [← hW]; exact (Below.refl _ _).alloc (Nat.le_refl _) _)
  have x0 := (H1.out.below BW.out hXl).cell 0
  simp at x0
  have lk1 := LK.out W BW.out
  have zW : w.heap.size < W.heap.size := by rw [← hW]; simp
  have VW := hide (show Blk W w.heap.size 31 (entC zeroE) by rw [← hW]; exact Blk.new _ _ _)
  have fz := fun i => VW.out.frozen i
  clear hW
  go_upto_region 4 with (fail)
  go_name_world W2 hW2
  have y2 : Blk W2 W.heap.size 31 (entC e) := by rw [← hW2]; exact Blk.new _ _ _
  have BW2 := hide (show Below W.heap.size W W2 by rw [← hW2]; exact (Below.refl _ _).alloc (Nat.le_refl _) _)
  have V2 := hide (VW.out.below BW2.out VW.out.lt)
  have y0 := y2.cell 0
  have y1 := y2.cell 1
  have y3 := y2.cell 2
  have v0 := V2.out.cell 0
  have v1 := V2.out.cell 1
  have v2 := V2.out.cell 2
  have fz2 := fun i => V2.out.frozen i
  simp at y0 y1 y3 v0 v1 v2
  clear hW2 y2 fz lk1 x0
  have F3 := hide (frm_three (g := w.heap.size) (w := W2) (.string e.text) (.int .i64 e.cnt) (.int .i64 e.last))
  have V3 := hide (blk_three V2.out (.string e.text) (.int .i64 e.cnt) (.int .i64 e.last))
  have o0 := V3.out.cell 0
  have o1 := V3.out.cell 1
  have o2 := V3.out.cell 2
  simp at o0 o1 o2
  have BX := hide (below_in BW.out BW2.out (Nat.le_refl _))
  go_wp2
  have FIN := hide (BX.out.trans (F3.out.to_below BX.out.size (fun i (e : i = w.heap.size) => by omega)))
  exact bodyPost_ret (v := .tuple #[.agg #[.string e.text, .int .i64 e.cnt, .int .i64 e.last], .bool ok]) (by simp [results, Try.results13, go_sem, *]) rfl ⟨rfl, FIN.out⟩
set_option maxHeartbeats 1000000 in
theorem len_nil (w : World) : Calls Try.prog 14 #[.pointer none] w fun e w' => e = .returned (.int .i64 0) ∧ w' = w := by
  go_enter Try.func14, Try.ntmps14
  go_wp2
  go_ret
  exact ⟨rfl, rfl⟩
set_option maxHeartbeats 1000000 in
theorem of_nil (w : World) (t : ByteArray) : Calls Try.prog 13 #[.pointer none, .string t] w fun e w' => e = .returned (.tuple #[entA zeroE, .bool false]) ∧ Below w.heap.size w w' := by
  go_enter Try.func13, Try.ntmps13
  go_wp2
  exact bodyPost_ret (v := .tuple #[.agg #[.string ⟨#[]⟩, .int .i64 0, .int .i64 0], .bool false]) (by simp [results, Try.results13, go_sem]) rfl ⟨rfl, (Below.refl _ _).alloc (Nat.le_refl _) _⟩
/-- Only a ledger's blocks have turned. -/
def LS (X b : Nat) (k : Nat) : Prop := k = X ∨ k = b
theorem turned_frm {w w' : World} {X b : Nat} (h : w.mapTurned w' b) : Frm (LS X b) w w' := by
  obtain ⟨h1, h2, h3, h4, h5⟩ := h.grown
  exact ⟨h1, h2, h3, h4, fun k hk hn => h5 k hk (fun e => hn (.inr (by injection e)))⟩
set_option maxHeartbeats 1000000 in
theorem forget_led {X b most uses : Nat} {L : List Ent} (w : World) (t : ByteArray) (ht : t.size ≤ maxLen) (h : Led w X b most uses L) : Calls Try.prog 20 #[.pointer (some ⟨X, 0, none⟩), .string t] w fun e w' => e = .returned (.bool (lk L t).isSome) ∧ Led w' X b most uses (delM L t) ∧ Frm (LS X b) w w' := by
  have OF := hide (of_led w t ht h)
  obtain ⟨e, he⟩ : ∃ e, (lk L t).getD zeroE = e := ⟨_, rfl⟩
  rw [he] at OF
  have HH := hide h
  unfold entA at OF
  cases hok : (lk L t).isSome with
  | true =>
    rw [hok] at OF
    clear h he hok
    go_enter Try.func20, Try.ntmps20
    go_upto_region 3 with (go_at_call 13; go_must (refine (OF.out).mono ?_; rintro e9 w1 ⟨rfl, b1⟩; have B1 := hide b1; clear b1))
    go_name_world W hW
    have BW := hide (show Below w.heap.size w W by rw [← hW]; exact B1.out.alloc B1.out.size _)
    have HW := hide (HH.out.call BW.out)
    clear hW
    obtain ⟨hb1, M, hm1, hi1⟩ := HW.out
    have H1 := hide hb1
    have M1 := hide hm1
    have I1 := hide hi1
    have x0 := hb1.cell 0
    simp at x0
    clear hb1 hm1 hi1
    go_wp2_with (at_delete; go_must (refine wpList_delete_led rfl _ _ rfl b M t rfl M1.out rfl ht ?_; intro w2 M2 t2; have M2 := hide M2; have F2 := hide (turned_frm (X := X) t2); have H2 := hide (H1.out.grown t2.grown (fun e => HW.out.ne (by injection e))); clear t2))
    go_ret
    exact ⟨rfl, ⟨H2.out, _, M2.out, I1.out.drop t⟩, (call_frm BW.out).trans F2.out (fun k _ e => e)⟩
  | false =>
    rw [hok] at OF
    have hnone : lk L t = none := by cases hl : lk L t with | none => rfl | some x => rw [hl] at hok; cases hok
    have HD := hide (del_same hnone)
    clear h he hok hnone
    go_enter Try.func20, Try.ntmps20
    go_upto_region 2 with (go_at_call 13; go_must (refine (OF.out).mono ?_; rintro e9 w1 ⟨rfl, b1⟩; have B1 := hide b1; clear b1))
    go_name_world W hW
    have BW := hide (show Below w.heap.size w W by rw [← hW]; exact B1.out.alloc B1.out.size _)
    clear hW
    go_wp2
    go_ret
    rw [HD.out]
    exact ⟨rfl, HH.out.call BW.out, call_frm BW.out⟩
set_option maxHeartbeats 1000000 in
theorem forget_nil (w : World) (t : ByteArray) : Calls Try.prog 20 #[.pointer none, .string t] w fun e w' => e = .returned (.bool false) ∧ Below w.heap.size w w' := by
  have OF := hide (of_nil w t)
  unfold entA at OF
  go_enter Try.func20, Try.ntmps20
  go_wp2_with (go_at_call 13; go_must (refine (OF.out).mono ?_; rintro e9 w1 ⟨rfl, b1⟩; have B1 := hide b1; clear b1))
  go_ret
  exact ⟨rfl, B1.out.alloc B1.out.size _⟩
end Go.Proofs.Ytndnjdocdfjmcaa
