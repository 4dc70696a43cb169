/-
  The document's All and Waits, walked. No condition but bounds.
-/
import Derived.Test.YtoaeadjihpbhgaaOne
namespace Go.Proofs.Ytoaeadjihpbhgaa
open Go.RowKit Go.Proofs
set_option linter.unusedVariables false
theorem one_le {b : List Int} (h : b ≠ []) : (oneF b).2 ≤ b.length := by
  have hl : 0 < b.length := List.length_pos_iff.2 h
  unfold oneF
  by_cases hw : wholeN b = 0
  · rw [if_pos hw, begN_to hl]
    have e3 : begTo b 3 = if 3 ≤ b.length ∧ begB (b.take 3) = true then 3 else begTo b 2 := rfl
    have e2 : begTo b 2 = if 2 ≤ b.length ∧ begB (b.take 2) = true then 2 else begTo b 1 := rfl
    have e1 : begTo b 1 = 1 := by show (if 1 ≤ b.length ∧ begB (b.take 1) = true then 1 else 1) = 1; split <;> rfl
    show begTo b 3 ≤ b.length
    rw [e3, e2, e1]
    (repeat' split) <;> omega
  · rw [if_neg hw]
    show wholeN b ≤ b.length
    have key : ∀ k, isB (b.take k) = true → (∀ j, j < k → isB (b.take j) = false) → k ≤ b.length := by
      intro k hk hj
      rcases Nat.lt_or_ge b.length k with h1 | h1
      · have := hj b.length h1
        rw [List.take_length] at this
        rw [List.take_of_length_le (by omega)] at hk
        rw [hk] at this; cases this
      · exact h1
    unfold wholeN
    by_cases c1 : isB (b.take 1) = true
    · rw [if_pos c1]; omega
    · rw [if_neg c1]
      have d0 : isB (b.take 0) = false := rfl
      have d1 : isB (b.take 1) = false := by simpa using c1
      by_cases c2 : isB (b.take 2) = true
      · rw [if_pos c2]; exact key 2 c2 (fun j hj => by have : j = 0 ∨ j = 1 := by omega
                                                       rcases this with rfl | rfl <;> assumption)
      · rw [if_neg c2]
        have d2 : isB (b.take 2) = false := by simpa using c2
        by_cases c3 : isB (b.take 3) = true
        · rw [if_pos c3]; exact key 3 c3 (fun j hj => by have : j = 0 ∨ j = 1 ∨ j = 2 := by omega
                                                         rcases this with rfl | rfl | rfl <;> assumption)
        · rw [if_neg c3]
          have d3 : isB (b.take 3) = false := by simpa using c3
          by_cases c4 : isB (b.take 4) = true
          · rw [if_pos c4]; exact key 4 c4 (fun j hj => by have : j = 0 ∨ j = 1 ∨ j = 2 ∨ j = 3 := by omega
                                                           rcases this with rfl | rfl | rfl | rfl <;> assumption)
          · rw [if_neg c4]; omega
theorem cutB_l {A : Option Addr} {n c k : Nat} (h : k ≤ n) (w : World) : (Instr.slice 51 (.slice A n c) (some (.int .i64 (k : Int))) none none).run Try.prog w = .ok (.slice (cutA A c k 1) (n - k) (c - k)) w :=
  cut_l (P := Try.prog) (t := 51) (e := 5) (a := A) (len := n) (cap := c) (s := 1) Try.ub51 (by kernel_rfl) (L := (k : Int)) k rfl h w
theorem rd_drop {w : World} {B n c k : Nat} {A : Option Addr} {l : List Int} (h : Rd w B 1 A n (l.map b8)) (hk : k ≤ n) (hc : n ≤ c) : Rd w B 1 (cutA A c k 1) (n - k) ((l.drop k).map b8) := by
  have := h.cutA (k := k) (cap := c) hk hc
  rwa [Nat.mul_one, ← List.map_drop] at this
theorem allF_len : ∀ (n : Nat) (b : List Int), b.length ≤ n → (allF b).length ≤ b.length
  | 0, b, h => by rw [List.eq_nil_of_length_eq_zero (Nat.le_zero.1 h)]; exact Nat.le_refl _
  | n + 1, [], h => Nat.le_refl _
  | n + 1, x :: b, h => by
    rw [allF_cons _ (by simp)]
    have h1 := drop_one_le x b
    have h2 := one_pos (x :: b)
    have h3 := allF_len n ((x :: b).drop (oneF (x :: b)).2) (by simp at h; omega)
    rw [List.length_cons, List.length_cons]
    omega
set_option maxRecDepth 100000 in
set_option maxHeartbeats 4000000 in
theorem rall_any (l : List Int) (A : Option Addr) (n c B : Nat) (w : World) (hl : Rd w B 1 A n (l.map b8)) (hB : B ≤ w.heap.size) (hq : ∀ x ∈ l, IsByte x) (hn : n ≤ 4000000) (hc : n ≤ c) :
    Calls Try.prog 63 #[.slice A n c] w (RetSlice 21 1 ((allF l).map r32) w) := by
  have HL := hide hl.len1
  have hl0 := hide (hl.more hB)
  have HQ := hide hq
  clear hl hq
  go_enter Try.func63, Try.ntmps63
  go_wp2
  go_loopg [0, 3] n (fun g s0 s3 wr => ∃ (m k c' : Nat) (A' : Option Addr) (rest out : List Int), m = g ∧ s0 = .slice A' m c' ∧ m ≤ c' ∧ m + k ≤ n ∧ wr.ownsRow w.heap.size 21 1 s3 k (out.map r32) ∧ Rd wr w.heap.size 1 A' m (rest.map b8) ∧ Hid (∀ x ∈ rest, IsByte x) ∧ Hid (allF l = out ++ allF rest) ∧ Hid (Below w.heap.size w wr))
  case atStart => exact ⟨n, 0, c, A, l, [], rfl, rfl, hc, by omega, World.ownsRow_nil _ _ _ _, hl0.out, HQ.out, rfl, Below.refl _ _⟩
  case round =>
    obtain ⟨m, k, c', A', rest, out, hmg, rfl, hmc, hmk, hown, hr, HQ2, HA, HW⟩ := hrel
    subst hmg
    obtain ⟨A0, c0, rfl⟩ := own_slice hown
    have zr := HW.out.size
    by_cases hm : 0 < m
    · have hlen := hr.len1
      have hne : rest ≠ [] := by rintro rfl; simp at hlen; omega
      have h1 := one_pos rest
      have h2 := one_le hne
      have ON := one_any rest A' m c' w.heap.size wr hr zr HQ2.out hm (by omega) hmc
      have HA2 := hide (show allF l = out ++ [(oneF rest).1] ++ allF (rest.drop (oneF rest).2) by rw [HA.out, allF_cons _ hne]; simp)
      obtain ⟨x, hx⟩ : ∃ x, (oneF rest).1 = x := ⟨_, rfl⟩
      obtain ⟨j, hj⟩ : ∃ j, (oneF rest).2 = j := ⟨_, rfl⟩
      rw [hx, hj] at ON HA2
      rw [hj] at h1 h2
      have ON := hide ON
      have hjm : j ≤ m := by omega
      have cu := cutB_l (A := A') (c := c') hjm
      have hrd := hide (rd_drop hr hjm hmc)
      have HQ3 := hide (show ∀ x ∈ rest.drop j, IsByte x from fun x hx => HQ2.out x (List.mem_of_mem_drop hx))
      have d1 : decide (0 < m) = true := by simpa using hm
      clear hx hj hlen hne hr
      go_wp2_with (first
        | (go_at_call 71; go_must (refine (ON.out).mono ?_; rintro e w1 ⟨rfl, b1⟩; have o1 := own_call hown b1; have z1 := Nat.le_trans zr b1.size; have b1h := hide b1; have HW1 := hide (HW.out.trans (b1.mono zr)); clear b1))
        | (at_builtin; go_must (refine wpList_append1 Try.sl73 rfl _ _ rfl w.heap.size (.slice A0 k c0) k _ #[.int .i32 x] w1 1 rfl rfl rfl o1 rfl (one_r32 [x]) (by simp only [maxLen]; omega) (by omega) z1 ?_; intro A3 c3 w3 app)))
      go_roundg (m - j)
      case measure => omega
      case rel =>
        have b3 : Below w.heap.size wr w3 := app.below (o1.alloc _) ((b1h.out.mono zr).alloc (by omega) _) (Nat.le_refl _) (by simp; omega)
        refine ⟨m - j, k + 1, c' - j, cutA A' c' j 1, rest.drop j, out ++ [x], rfl, rfl, by omega, by omega, ?_, hrd.out.below b3, HQ3.out, HA2.out, HW.out.trans b3⟩
        have := app.own
        rw [List.map_append]
        exact this
    · obtain rfl : m = 0 := by omega
      have h0 : rest = [] := by
        have := hr.len1
        exact List.eq_nil_of_length_eq_zero this
      subst h0
      have HA2 := hide (show out.map r32 = (allF l).map r32 by rw [HA.out, allF_nil, List.append_nil])
      clear hr
      go_wp2
      go_ret
      rw [HA2.out] at hown
      exact ⟨A0, k, c0, rfl, hown, HW.out⟩
end Go.Proofs.Ytoaeadjihpbhgaa
