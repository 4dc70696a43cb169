/-
  great and awake, walked. No condition but bounds.
-/
import Derived.Test.YtkcmpddefohkeaaLongest
namespace Go.Proofs.Ytkcmpddefohkeaa
open Go.RowKit Go.Proofs
set_option linter.unusedVariables false
theorem bytesOf_data (f : Int → Int) (a : Array UInt8) : bytesOf f ⟨a⟩ = a.toList.map fun b => f (b.toNat : Int) := by
  rw [bytesOf, ByteArray.toList_eq]
/-- Hits handed back, to be read. -/
def RetHits (n : Nat) (l : List (Nat × Nat)) (w : World) (e : Ending) (w' : World) : Prop :=
  ∃ A c, e = .returned (.slice A n c) ∧ Rd w' w'.heap.size 2 A n (l.flatMap hitE) ∧ Below w.heap.size w w'
theorem ret_hits {l : List (Nat × Nat)} {w w' : World} {e : Ending} (h : RetSlice 33 2 (l.flatMap hitE) w e w') {n : Nat} (hn : l.length = n) : RetHits n l w e w' := by
  obtain ⟨A, N, c, rfl, ho, hb⟩ := h
  obtain rfl : N = n := by rw [← hn]; exact own_len hitE_len (by omega) ho
  exact ⟨A, c, rfl, Rd.of_own ho, hb⟩
def exT : ByteArray := ⟨#[97, 98, 97, 98]⟩
def exN : List ByteArray := [⟨#[97]⟩, ⟨#[97, 98]⟩]
theorem ex_hits : hitsF (bytesOf plainF exT) (needs exN) = [(0, 0), (0, 1), (2, 0), (2, 1)] := by
  unfold exT exN needs
  simp only [List.map, bytesOf_data]
  decide
theorem ex_long : longF (needs exN) [(0, 0), (0, 1), (2, 0), (2, 1)] = [(0, 1), (2, 1)] := by
  unfold exN needs
  simp only [List.map, bytesOf_data]
  decide
set_option maxHeartbeats 2000000 in
theorem awake_any (w : World) : Calls Try.prog 10 #[] w fun e w' => e = .returned (.bool true) ∧ Below w.heap.size w w' := by
  have A1 := hide (fun (W : World) => (all_any exT exN (some ⟨W.heap.size, 0, none⟩) 2 2 (W.alloc (.cells #[.string ⟨#[97]⟩, .string ⟨#[97, 98]⟩] 9)) ((rd_news (n := 2) (s := 1) rfl).more (by simp)) (by decide) (by decide) (by omega) (by omega)).mono fun e w' h => ret_hits (n := 4) (l := [(0, 0), (0, 1), (2, 0), (2, 1)]) (by rw [ex_hits] at h; exact h) rfl)
  have A2 := hide (fun (W : World) => (longest_any exT exN (some ⟨W.heap.size, 0, none⟩) 2 2 (W.alloc (.cells #[.string ⟨#[97]⟩, .string ⟨#[97, 98]⟩] 9)) ((rd_news (n := 2) (s := 1) rfl).more (by simp)) (by decide) (by decide) (by omega) (by omega)).mono fun e w' h => ret_hits (n := 2) (l := [(0, 1), (2, 1)]) (by rw [ex_hits, ex_long] at h; exact h) rfl)
  have I1 := hide (fun (A : Option Addr) (c : Nat) (W : World) (hr : Rd W W.heap.size 2 A 4 (([(0, 0), (0, 1), (2, 0), (2, 1)] : List (Nat × Nat)).flatMap hitE)) => same_hits (B' := W.heap.size + 1) [(0, 0), (0, 1), (2, 0), (2, 1)] A (some ⟨W.heap.size, 0, none⟩) 4 4 c 4 (W.alloc (.cells #[.int .i64 0, .int .i64 0, .int .i64 0, .int .i64 1, .int .i64 2, .int .i64 0, .int .i64 2, .int .i64 1] 33)) (hr.alloc (Nat.le_refl _) _) (rd_news (n := 4) (s := 2) rfl) (by omega))
  have I2 := hide (fun (A : Option Addr) (c : Nat) (W : World) (hr : Rd W W.heap.size 2 A 2 (([(0, 1), (2, 1)] : List (Nat × Nat)).flatMap hitE)) => same_hits (B' := W.heap.size + 1) [(0, 1), (2, 1)] A (some ⟨W.heap.size, 0, none⟩) 2 2 c 2 (W.alloc (.cells #[.int .i64 0, .int .i64 1, .int .i64 2, .int .i64 1] 33)) (hr.alloc (Nat.le_refl _) _) (rd_news (n := 2) (s := 2) rfl) (by omega))
  unfold exT at A1 A2
  go_enter Try.func10, Try.ntmps10
  go_wp2_with (first
    | (go_at_call 12; go_must (refine (A1.out _).mono ?_; rintro e w1 ⟨a1, c1, rfl, r1, b1⟩))
    | (go_at_call 18; go_must (refine (A2.out _).mono ?_; rintro e w3 ⟨a3, c3, rfl, r3, b3⟩))
    | (go_at_call_of 11 a3; go_must (refine (I2.out _ _ _ r3).mono ?_; rintro e w4 ⟨rfl, b4⟩))
    | (go_at_call_of 11 a1; go_must (refine (I1.out _ _ _ r1).mono ?_; rintro e w2 ⟨rfl, b2⟩)))
  go_ret
  have h0 : Below w.heap.size w (w.alloc (.cells #[.string ⟨#[97]⟩, .string ⟨#[97, 98]⟩] 9)) := (Below.refl _ _).alloc (Nat.le_refl _) _
  have h1 := below_in h0 b1 (Nat.le_refl _)
  have h2 := below_in (h1.alloc h1.size _) b2 (Nat.le_refl _)
  have h3 := below_in (h2.alloc h2.size _) b3 (Nat.le_refl _)
  exact ⟨rfl, below_in (h3.alloc h3.size _) b4 (Nat.le_refl _)⟩
def greatB (t : ByteArray) (ns : List ByteArray) : Bool := decide (200 < t.size) || (decide (30 < ns.length) || (ns.take 50).any (fun x => decide (100 < x.size)))
section
variable {t : ByteArray} {ns : List ByteArray}
theorem greatB_any {k : Nat} {x : ByteArray} (h : ns[k]? = some x) (hk : k < 50) (hx : 100 < x.size) : greatB t ns = true := by
  unfold greatB
  have : (ns.take 50).any (fun x => decide (100 < x.size)) = true := List.any_eq_true.2 ⟨x, List.mem_of_getElem? (i := k) (by rw [List.getElem?_take, if_pos hk]; exact h), by simpa using hx⟩
  rw [this]; simp
theorem greatB_text (h : 200 < t.size) : greatB t ns = true := by unfold greatB; simp [h]
theorem greatB_many (h : 30 < ns.length) : greatB t ns = true := by unfold greatB; simp [h]
theorem greatB_few (h : ¬ 200 < t.size) (hs : ∀ x ∈ ns, x.size ≤ 100) : greatB t ns = decide (30 < ns.length) := by
  unfold greatB
  have : (ns.take 50).any (fun x => decide (100 < x.size)) = false := by
    rw [List.any_eq_false]
    intro x hx
    have := hs x (List.mem_of_mem_take hx)
    simp; omega
  rw [this]; simp [h]
theorem greatB_false (h : greatB t ns = false) : t.size ≤ 200 ∧ ns.length ≤ 30 ∧ ∀ x ∈ ns, x.size ≤ 100 := by
  have h1 : ¬ 200 < t.size := fun h1 => by rw [greatB_text h1] at h; cases h
  have h2 : ¬ 30 < ns.length := fun h2 => by rw [greatB_many h2] at h; cases h
  refine ⟨by omega, by omega, fun x hx => ?_⟩
  obtain ⟨j, hj, rfl⟩ := List.getElem_of_mem hx
  by_cases h3 : 100 < (ns[j]).size
  · rw [greatB_any (List.getElem?_eq_getElem hj) (by omega) h3] at h; cases h
  · omega
end
set_option maxHeartbeats 2000000 in
theorem great_any (t : ByteArray) (ns : List ByteArray) (A : Option Addr) (n c : Nat) (w : World) (hr : Rd w w.heap.size 1 A n (ns.map Value.string)) (ht : t.size ≤ maxLen) (hs : ∀ x ∈ ns, x.size ≤ maxLen) (hn : n ≤ maxLen) :
    Calls Try.prog 9 #[.string t, .slice A n c] w fun e w' => e = .returned (.bool (greatB t ns)) ∧ Below w.heap.size w w' := by
  have hln := hr.len1
  obtain ⟨m, hm⟩ : ∃ m, t.size = m := ⟨_, rfl⟩
  have HM := hide hm
  have HLN := hide hln
  have HS := hide hs
  rw [hm] at ht
  simp only [maxLen] at ht hn
  clear hln hs
  go_enter Try.func9, Try.ntmps9
  go_wp2
  go_loopg [6] 50 (fun g s6 wr => ∃ k : Nat, k + g = 50 ∧ k ≤ n ∧ s6 = .int .i64 k ∧ Rd wr w.heap.size 1 A n (ns.map Value.string) ∧ Hid (∀ j x, ns[j]? = some x → j < k → x.size ≤ 100) ∧ Hid (Below w.heap.size w wr))
  case atStart => exact ⟨0, by omega, by omega, rfl, hr, fun j x _ h => by omega, Below.refl _ _⟩
  case round =>
    clear hr
    obtain ⟨k, hkg, hkn, rfl, hr, HJ, HB⟩ := hrel
    by_cases hlt : k < n
    · have d1 : decide ((k : Int) < (n : Int)) = true := by simp [hlt]
      by_cases h5 : k < 50
      · obtain ⟨b, off, x, rfl, hbl, hx, cx⟩ := hr.at1 hlt
        have d2 : decide ((k : Int) < 50) = true := by simp; omega
        obtain ⟨X, hX⟩ : ∃ X, x.size = X := ⟨_, rfl⟩
        have hXm : X ≤ maxLen := by rw [← hX]; exact HS.out x (List.mem_of_getElem? hx)
        simp only [maxLen] at hXm
        have HX := hide (And.intro hx hX)
        clear hx
        by_cases hg : 100 < X
        · have d3 : decide ((100 : Int) < (X : Int)) = true := by simp; omega
          have d4 : decide (100 < X) = true := by simp [hg]
          go_wp2
          go_ret
          exact ⟨by rw [greatB_any HX.out.1 h5 (by rw [HX.out.2]; exact hg)]; rfl, HB.out⟩
        · have d3 : decide ((100 : Int) < (X : Int)) = false := by simp; omega
          have d4 : decide (100 < X) = false := by simp; omega
          go_wp2
          go_roundg (50 - (k + 1))
          case measure => omega
          case rel => exact ⟨k + 1, by omega, by omega, by go_num, hr, (fun j z hz hj => by
            by_cases e : j = k
            · subst e; rw [HX.out.1] at hz; injection hz with hz; subst hz; rw [HX.out.2]; omega
            · exact HJ.out j z hz (by omega)), HB.out⟩
      · have d2 : decide ((k : Int) < 50) = false := by simp; omega
        have d5 : decide ((30 : Int) < (n : Int)) = true := by simp; omega
        have d6 : decide (30 < n) = true := by simp; omega
        by_cases hm2 : 200 < m
        · have d7 : decide ((200 : Int) < (m : Int)) = true := by simp; omega
          go_wp2
          go_ret
          exact ⟨by rw [greatB_many (by rw [HLN.out]; omega)]; rfl, HB.out⟩
        · have d7 : decide ((200 : Int) < (m : Int)) = false := by simp; omega
          go_wp2
          go_ret
          exact ⟨by rw [greatB_many (by rw [HLN.out]; omega)]; rfl, HB.out⟩
    · obtain rfl : k = n := by omega
      have d1 : decide ((k : Int) < (k : Int)) = false := by simp
      by_cases hm2 : 200 < m
      · have d7 : decide ((200 : Int) < (m : Int)) = true := by simp; omega
        go_wp2
        go_ret
        exact ⟨by rw [greatB_text (by rw [HM.out]; exact hm2)]; rfl, HB.out⟩
      · have d7 : decide ((200 : Int) < (m : Int)) = false := by simp; omega
        obtain ⟨G, hG⟩ : ∃ G, decide ((30 : Int) < (k : Int)) = G := ⟨_, rfl⟩
        have HG := hide hG
        go_wp2
        go_ret
        have hfew := greatB_few (t := t) (ns := ns) (by rw [HM.out]; exact hm2) (fun x hx => by
          obtain ⟨j, hj, rfl⟩ := List.getElem_of_mem hx
          exact HJ.out j _ (List.getElem?_eq_getElem hj) (by rw [← HLN.out]; exact hj))
        have hG2 : decide (30 < ns.length) = G := by rw [HLN.out, ← HG.out]; rw [decide_eq_decide]; omega
        rw [hfew, hG2]
        exact ⟨rfl, HB.out⟩
end Go.Proofs.Ytkcmpddefohkeaa
