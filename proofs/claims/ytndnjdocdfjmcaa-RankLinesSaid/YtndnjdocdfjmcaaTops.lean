/-
  A ledger's Top and Begins, walked. No condition but bounds.
-/
import Derived.Test.YtndnjdocdfjmcaaBestW
namespace Go.Proofs.Ytndnjdocdfjmcaa
open Go.RowKit Go.Proofs
set_option linter.unusedVariables false
set_option maxHeartbeats 1000000 in
theorem best_few {X : Option Addr} {f : Value} (w : World) (n : Int) (hn : n < 1) : Calls Try.prog 24 #[.pointer X, .int .i64 n, f] w fun e w' => e = .returned (.slice none 0 0) ∧ w' = w := by
  have d1 : decide (n < 1) = true := by simpa using hn
  cases X with
  | none =>
    go_enter Try.func24, Try.ntmps24
    go_wp2
    go_ret
    exact ⟨rfl, rfl⟩
  | some a =>
    go_enter Try.func24, Try.ntmps24
    go_wp2
    go_ret
    exact ⟨rfl, rfl⟩
set_option maxHeartbeats 1000000 in
theorem best_nil {f : Value} (w : World) (n : Int) : Calls Try.prog 24 #[.pointer none, .int .i64 n, f] w fun e w' => e = .returned (.slice none 0 0) ∧ w' = w := by
  go_enter Try.func24, Try.ntmps24
  go_wp2
  go_ret
  exact ⟨rfl, rfl⟩
theorem own_mono {w : World} {base base' : Nat} {e : TypeId} {s n : Nat} {v : Value} {xs : List Value} (h : w.ownsRow base e s v n xs) (hb : base' ≤ base) : w.ownsRow base' e s v n xs := by
  refine ⟨h.1, ?_⟩
  rcases h.2 with h2 | ⟨g, cap, cur, e1, h1, rest⟩
  · exact .inl h2
  · exact .inr ⟨g, cap, cur, e1, Nat.le_trans hb h1, rest⟩
theorem ret_nil (w w' : World) (h : w' = w) (base : Nat) : RetSlice 31 3 [] w (.returned (.slice none 0 0)) w' := by
  subst h
  exact ⟨none, 0, 0, rfl, ⟨rfl, .inl ⟨rfl, rfl⟩⟩, Below.refl _ _⟩
/-- The best ones that are taken. -/
def topF (tk : ByteArray → Bool) (n : Int) (L : List Ent) : List Ent := (L.filter (fun e => tk e.text)).take n.toNat
theorem topF_few {tk : ByteArray → Bool} {n : Int} {L : List Ent} (h : n < 1) : topF tk n L = [] := by
  unfold topF
  rw [show n.toNat = 0 by omega]; rfl
set_option maxHeartbeats 1000000 in
theorem top_led {X b most uses : Nat} {L : List Ent} (w : World) (n : Int) (h : Led w X b most uses L) (hm2 : most ≤ 10000) :
    Calls Try.prog 15 #[.pointer (some ⟨X, 0, none⟩), .int .i64 n] w (RetSlice 31 3 ((topF (fun _ => true) n L).flatMap entE) w) := by
  by_cases hn : n < 1
  · rw [topF_few hn]
    have BF := hide (fun (W : World) => best_few (X := some ⟨X, 0, none⟩) (f := .func (.func 25) #[] #[]) W n hn)
    clear h hn
    go_enter Try.func15, Try.ntmps15
    go_wp2_with (go_at_call 24; go_must (refine (BF.out _).mono ?_; rintro e w1 ⟨rfl, hw⟩; have HW := hide hw; clear hw))
    go_ret
    exact ret_nil w _ HW.out 0
  · obtain ⟨k, rfl⟩ : ∃ k : Nat, n = k := ⟨n.toNat, by omega⟩
    have BF := hide (best_led w k 25 #[] (fun _ => true) (fun _ _ => rfl) h (by omega) hm2 (fun t W _ => (takesAll_any t W).mono (fun e w' h => ⟨h.1, by rw [h.2]; exact Below.refl _ _⟩)))
    have HE := hide (show topF (fun _ => true) (k : Int) L = (L.filter (fun e => (fun _ => true) e.text)).take k from rfl)
    clear h hn
    go_enter Try.func15, Try.ntmps15
    go_wp2_with (go_at_call 24; go_must (refine (BF.out).mono ?_; rintro e w1 ⟨A1, N1, c1, rfl, o1, b1⟩; have O1 := hide o1; have B1 := hide b1; clear o1 b1))
    go_ret
    rw [HE.out]
    exact ⟨A1, N1, c1, rfl, O1.out, B1.out⟩
set_option maxHeartbeats 1000000 in
theorem begins_led {X b most uses : Nat} {L : List Ent} (w : World) (head : ByteArray) (n : Int) (h : Led w X b most uses L) (hm2 : most ≤ 10000) :
    Calls Try.prog 22 #[.pointer (some ⟨X, 0, none⟩), .string head, .int .i64 n] w (RetSlice 31 3 ((topF (pfxB head) n L).flatMap entE) w) := by
  have BA := hide (show Below w.heap.size w (w.alloc (.cells #[.string head] 9)) from (Below.refl _ _).alloc (Nat.le_refl _) _)
  have VA := hide (show Blk (w.alloc (.cells #[.string head] 9)) w.heap.size 9 #[.string head] from Blk.new _ _ _)
  by_cases hn : n < 1
  · rw [topF_few hn]
    have BF := hide (fun (W : World) => best_few (X := some ⟨X, 0, none⟩) (f := .func (.func 27) #[] #[.pointer (some ⟨w.heap.size, 0, none⟩)]) W n hn)
    clear h hn
    go_enter Try.func22, Try.ntmps22
    go_wp2_with (go_at_call 24; go_must (refine (BF.out _).mono ?_; rintro e w1 ⟨rfl, hw⟩; have HW := hide hw; clear hw))
    go_ret
    exact ⟨none, 0, 0, rfl, ⟨rfl, .inl ⟨rfl, rfl⟩⟩, by rw [HW.out]; exact BA.out⟩
  · obtain ⟨k, rfl⟩ : ∃ k : Nat, n = k := ⟨n.toNat, by omega⟩
    have BF := hide (best_led (w.alloc (.cells #[.string head] 9)) k 27 #[.pointer (some ⟨w.heap.size, 0, none⟩)] (pfxB head) (fun _ _ => rfl) (h.call BA.out) (by omega) hm2 (fun t W hW => (takesPre_any t head w.heap.size W (VA.out.below hW VA.out.lt)).mono (fun e w' h => ⟨h.1, by rw [h.2]; exact Below.refl _ _⟩)))
    have HE := hide (show topF (pfxB head) (k : Int) L = (L.filter (fun e => pfxB head e.text)).take k from rfl)
    clear h hn
    go_enter Try.func22, Try.ntmps22
    go_wp2_with (go_at_call 24; go_must (refine (BF.out).mono ?_; rintro e w1 ⟨A1, N1, c1, rfl, o1, b1⟩; have O1 := hide o1; have B1 := hide b1; clear o1 b1))
    go_ret
    rw [HE.out]
    exact ⟨A1, N1, c1, rfl, own_mono O1.out BA.out.size, below_in BA.out B1.out (Nat.le_refl _)⟩
set_option maxHeartbeats 1000000 in
theorem top_nil (w : World) (n : Int) : Calls Try.prog 15 #[.pointer none, .int .i64 n] w fun e w' => e = .returned (.slice none 0 0) ∧ w' = w := by
  have BF := hide (fun (W : World) => best_nil (f := .func (.func 25) #[] #[]) W n)
  go_enter Try.func15, Try.ntmps15
  go_wp2_with (go_at_call 24; go_must (refine (BF.out _).mono ?_; rintro e w1 ⟨rfl, rfl⟩))
  go_ret
  exact ⟨rfl, rfl⟩
set_option maxHeartbeats 1000000 in
theorem begins_nil (w : World) (head : ByteArray) (n : Int) : Calls Try.prog 22 #[.pointer none, .string head, .int .i64 n] w fun e w' => e = .returned (.slice none 0 0) ∧ Below w.heap.size w w' := by
  have BF := hide (fun (W : World) => best_nil (f := .func (.func 27) #[] #[.pointer (some ⟨w.heap.size, 0, none⟩)]) W n)
  go_enter Try.func22, Try.ntmps22
  go_wp2_with (go_at_call 24; go_must (refine (BF.out _).mono ?_; rintro e w1 ⟨rfl, hw⟩; have HW := hide hw; clear hw))
  go_ret
  exact ⟨rfl, by rw [HW.out]; exact (Below.refl _ _).alloc (Nat.le_refl _) _⟩
set_option maxHeartbeats 1000000 in
theorem use_nil (w : World) (t : ByteArray) : Calls Try.prog 12 #[.pointer none, .string t] w fun e w' => e = .returned (.tuple #[]) ∧ w' = w := by
  go_enter Try.func12, Try.ntmps12
  go_wp2
  exact bodyPost_ret (results_none rfl _ _ _) rfl ⟨rfl, rfl⟩
set_option maxHeartbeats 1000000 in
theorem use_empty (X : Option Addr) (w : World) : Calls Try.prog 12 #[.pointer X, .string ⟨#[]⟩] w fun e w' => e = .returned (.tuple #[]) ∧ w' = w := by
  cases X with
  | none => exact use_nil w _
  | some a =>
    go_enter Try.func12, Try.ntmps12
    go_wp2
    exact bodyPost_ret (results_none rfl _ _ _) rfl ⟨rfl, rfl⟩
end Go.Proofs.Ytndnjdocdfjmcaa
