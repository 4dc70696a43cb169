/-
  Ints over equal lists, the function that looks for a place, and awake, walked. No condition but bounds.
-/
import Derived.Test.YtglonmjacacjaaaRefs
namespace Go.Proofs.Ytglonmjacacjaaa
open Go.RowKit Go.Proofs
set_option linter.unusedVariables false
theorem len_nI (l : List Nat) : (l.map nI).length = l.length := by simp
set_option maxHeartbeats 1000000 in
theorem ints_same {B B' : Nat} (l : List Nat) (A A' : Option Addr) (c d : Nat) (w : World) (ha : Rd w B 1 A l.length (l.map nI)) (hb : Rd w B' 1 A' l.length (l.map nI)) (hl : l.length ≤ 100000) :
    Calls Try.prog 10 #[.slice A l.length c, .slice A' l.length d] w fun e w' => e = .returned (.bool true) ∧ Below w.heap.size w w' := by
  obtain ⟨n, hn⟩ : ∃ n, l.length = n := ⟨_, rfl⟩
  rw [hn] at ha hb hl ⊢
  clear hn
  go_enter Try.func10, Try.ntmps10
  go_wp2_with fail
  go_loopg [5] n (fun g s5 wr => ∃ k : Nat, k + g = n ∧ s5 = .int .i64 k ∧ Rd wr B 1 A n (l.map nI) ∧ Rd wr B' 1 A' n (l.map nI) ∧ Below w.heap.size w wr)
  case atStart => exact ⟨0, by omega, rfl, ha, hb, Below.refl _ _⟩
  case round =>
    clear ha hb
    obtain ⟨k, hkg, rfl, ha, hb, hw⟩ := hrel
    by_cases hlt : k < n
    · obtain ⟨b, off, x, rfl, hbB, hx, c1⟩ := ha.at1 hlt
      obtain ⟨b', off', y, rfl, hbB', hy, c1'⟩ := hb.at1 hlt
      obtain rfl : x = y := by rw [hx] at hy; injection hy
      unfold nI at c1 c1'
      clear hx hy
      go_wp2_with fail
      go_quiet (fail)
      go_wp2_with fail
      go_roundg (n - (k + 1))
      case measure => omega
      case rel => exact ⟨k + 1, by omega, by go_num, ha.drewN nq, hb.drewN nq, below_drewN' hw nq⟩
    · go_wp2_with fail
      go_ret
      exact ⟨rfl, hw⟩
set_option maxHeartbeats 1000000 in
theorem has_any {B : Nat} (l : List Nat) (g : Nat) (s : ByteArray) (A : Option Addr) (c : Nat) (w : World) (ha : Rd w B 1 A l.length (l.map nI)) (hs : Blk w g 9 #[.string s]) (hl : l.length ≤ 100000) (hm : s.size ∈ l) :
    Calls Try.prog 13 #[.slice A l.length c, .pointer (some ⟨g, 0, none⟩)] w fun e w' => e = .returned (.bool true) ∧ Below w.heap.size w w' := by
  obtain ⟨n, hn⟩ : ∃ n, l.length = n := ⟨_, rfl⟩
  rw [hn] at ha hl ⊢
  have Hn := hide hn
  have d0 := hs.cell 0
  simp only [List.getElem?_toArray, List.getElem?_cons_zero] at d0
  clear hn
  go_enter Try.func13, Try.ntmps13
  go_wp2_with fail
  go_loopg [4] n (fun gg s4 wr => ∃ k : Nat, k + gg = n ∧ s4 = .int .i64 k ∧ Hid (s.size ∈ l.drop k) ∧ Rd wr B 1 A n (l.map nI) ∧ Blk wr g 9 #[.string s] ∧ Below w.heap.size w wr)
  case atStart => exact ⟨0, by omega, rfl, hm, ha, hs, Below.refl _ _⟩
  case round =>
    clear ha hs d0
    obtain ⟨k, hkg, rfl, hd, ha, hs, hw⟩ := hrel
    have d0 := hs.cell 0
    simp only [List.getElem?_toArray, List.getElem?_cons_zero] at d0
    have hlt : k < n := by
      have := hd.out
      rcases Nat.lt_or_ge k n with h | h
      · exact h
      · rw [List.drop_of_length_le (by rw [Hn.out]; exact h)] at this; simp at this
    obtain ⟨b, off, x, rfl, hbB, hx, c1⟩ := ha.at1 hlt
    unfold nI at c1
    have hdx := hide (drop_at hx)
    clear hx
    obtain ⟨N, hN⟩ : ∃ N, s.size = N := ⟨_, rfl⟩
    have HN := hide hN
    by_cases hxs : x = N
    · have hq : ((x : Int) == N) = true := by simp [hxs]
      have hxs' := hide hxs
      clear hxs
      go_wp2_with fail
      go_quiet (fail)
      go_wp2_with fail
      go_ret
      exact ⟨rfl, below_drewN' hw nq⟩
    · have hq : ((x : Int) == N) = false := by simp; omega
      have hxs' := hide hxs
      clear hxs
      go_wp2_with fail
      go_quiet (fail)
      go_wp2_with fail
      go_roundg (n - (k + 1))
      case measure => omega
      case rel =>
        refine ⟨k + 1, by omega, by go_num, ?_, ha.drewN nq, hs.drewN nq, below_drewN' hw nq⟩
        have := hd.out
        rw [hdx.out, HN.out] at this
        rcases List.mem_cons.1 this with h | h
        · exact absurd h.symm hxs'.out
        · show s.size ∈ _; rw [HN.out]; exact h
theorem bytesOf_data (f : Int → Int) (a : Array UInt8) : bytesOf f ⟨a⟩ = a.toList.map fun b => f (b.toNat : Int) := by
  rw [bytesOf, ByteArray.toList_eq]
set_option maxHeartbeats 1000000 in
theorem awake_any (w : World) : Calls Try.prog 8 #[] w fun e w' => e = .returned (.bool true) ∧ Below w.heap.size w w' := by
  have e1 : placesF (bytesOf plainF ⟨#[97, 97, 97, 97]⟩) (bytesOf plainF ⟨#[97, 97]⟩) = [0, 1, 2] := by rw [bytesOf_data, bytesOf_data]; decide
  have e2 : apF (⟨#[97, 97]⟩ : ByteArray).size (placesF (bytesOf plainF ⟨#[97, 97, 97, 97]⟩) (bytesOf plainF ⟨#[97, 97]⟩)) = [0, 2] := by rw [e1]; decide
  have A1 : ∀ W, Calls Try.prog 12 #[.string ⟨#[97, 97, 97, 97]⟩, .string ⟨#[97, 97]⟩] W (RetRd nI [0, 1, 2] W) := fun W => (call12 _ _ W (by decide) (by decide)).mono fun e w' h => by rw [e1] at h; exact h.rd
  have A2 : ∀ W, Calls Try.prog 11 #[.string ⟨#[97, 97, 97, 97]⟩, .string ⟨#[97, 97]⟩] W (RetRd nI [0, 2] W) := fun W => (apart_any _ _ W (by decide) (by decide)).mono fun e w' h => by rw [e2] at h; exact h.rd
  have A1 := hide A1
  have A2 := hide A2
  have I1 := hide (fun (A : Option Addr) (c : Nat) (W : World) (hr : Rd W W.heap.size 1 A 3 ([0, 1, 2].map nI)) => ints_same (B' := W.heap.size + 1) [0, 1, 2] A (some ⟨W.heap.size, 0, none⟩) c 3 (W.alloc (.cells #[.int .i64 0, .int .i64 1, .int .i64 2] 3)) (hr.alloc (Nat.le_refl _) _) (rd_built nI [0, 1, 2] W 3) (by decide))
  have I2 := hide (fun (A : Option Addr) (c : Nat) (W : World) (hr : Rd W W.heap.size 1 A 2 ([0, 2].map nI)) => ints_same (B' := W.heap.size + 1) [0, 2] A (some ⟨W.heap.size, 0, none⟩) c 2 (W.alloc (.cells #[.int .i64 0, .int .i64 2] 3)) (hr.alloc (Nat.le_refl _) _) (rd_built nI [0, 2] W 3) (by decide))
  clear e1 e2
  go_enter Try.func8, Try.ntmps8
  go_wp2_with (first
    | (go_at_call 12; go_must (refine (A1.out _).mono ?_; rintro e w1 ⟨a1, c1, rfl, r1, _, b1⟩))
    | (go_at_call 11; go_must (refine (A2.out _).mono ?_; rintro e w3 ⟨a3, c3, rfl, r3, _, b3⟩))
    | (go_at_call_of 10 a3; go_must (refine (I2.out _ _ _ r3).mono ?_; rintro e w4 ⟨rfl, b4⟩))
    | (go_at_call_of 10 a1; go_must (refine (I1.out _ _ _ r1).mono ?_; rintro e w2 ⟨rfl, b2⟩)))
  go_ret
  have h1 := b1.alloc b1.size (.cells #[.int .i64 0, .int .i64 1, .int .i64 2] 3)
  have h2 := below_in h1 b2 (Nat.le_refl _)
  have h3 := below_in h2 b3 (Nat.le_refl _)
  have h4 := h3.alloc h3.size (.cells #[.int .i64 0, .int .i64 2] 3)
  exact ⟨rfl, below_in h4 b4 (Nat.le_refl _)⟩
end Go.Proofs.Ytglonmjacacjaaa
