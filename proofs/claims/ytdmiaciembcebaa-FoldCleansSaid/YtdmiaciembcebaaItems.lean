/-
  Items and folds as data, and the walks of Same and of the two Windows. No condition.
-/
import Derived.Test.YtdmiaciembcebaaBase
import Derived.Test.YtdmiaciembcebaaProg
namespace Go.Proofs.Ytdmiaciembcebaa
open Go.RowKit Go.Proofs

/-- Row, Id, Hidden. -/
abbrev It := Int × Int × Int
def itc (x : It) : List Value := [.int .i64 x.1, .int .u64 x.2.1, .int .i64 x.2.2]
theorem itc_len (x : It) : (itc x).length = 3 := rfl
/-- From, To, Id. -/
abbrev Fd := Int × Int × Int
def fdc (x : Fd) : List Value := [.int .i64 x.1, .int .i64 x.2.1, .int .u64 x.2.2]
theorem fdc_len (x : Fd) : (fdc x).length = 3 := rfl

theorem item_neq (a b c a' b' c' : Int) (w : World) : (binOp .neq 47 (.agg #[.int .i64 a, .int .u64 b, .int .i64 c]) (.agg #[.int .i64 a', .int .u64 b', .int .i64 c'])).run Try.prog w = .ok (.bool (!((a, b, c) == (a', b', c')))) w := by
  by_cases h1 : a = a' <;> by_cases h2 : b = b' <;> by_cases h3 : c = c' <;> simp [go_sem, h1, h2, h3]

theorem items_at {w : World} {B n : Nat} {A : Option Addr} {l : List It} (h : Rd w B 3 A n (l.flatMap itc)) {k : Nat} (hk : k < n) :
    ∃ b off x0 x1 x2, A = some ⟨b, off, none⟩ ∧ b < B ∧ l[k]? = some (x0, x1, x2) ∧ w.cell? ⟨b, off + k * 3, none⟩ = some (.int .i64 x0) ∧ w.cell? ⟨b, off + k * 3 + 1, none⟩ = some (.int .u64 x1) ∧ w.cell? ⟨b, off + k * 3 + 2, none⟩ = some (.int .i64 x2) := by
  obtain ⟨b, off, x, e, hb, hx, hc⟩ := h.row itc_len (by omega) hk
  exact ⟨b, off, x.1, x.2.1, x.2.2, e, hb, hx, hc 0 _ rfl, hc 1 _ rfl, hc 2 _ rfl⟩
theorem folds_at {w : World} {B n : Nat} {A : Option Addr} {l : List Fd} (h : Rd w B 3 A n (l.flatMap fdc)) {k : Nat} (hk : k < n) :
    ∃ b off x0 x1 x2, A = some ⟨b, off, none⟩ ∧ b < B ∧ l[k]? = some (x0, x1, x2) ∧ w.cell? ⟨b, off + k * 3, none⟩ = some (.int .i64 x0) ∧ w.cell? ⟨b, off + k * 3 + 1, none⟩ = some (.int .i64 x1) ∧ w.cell? ⟨b, off + k * 3 + 2, none⟩ = some (.int .u64 x2) := by
  obtain ⟨b, off, x, e, hb, hx, hc⟩ := h.row fdc_len (by omega) hk
  exact ⟨b, off, x.1, x.2.1, x.2.2, e, hb, hx, hc 0 _ rfl, hc 1 _ rfl, hc 2 _ rfl⟩

set_option maxHeartbeats 1000000 in
theorem same_any (A B : Option Addr) (n m c d B1 B2 : Nat) (xs ys : List It) (w : World) (ha : Rd w B1 3 A n (xs.flatMap itc)) (hb : Rd w B2 3 B m (ys.flatMap itc))
    (hn : n ≤ 1000000) (hm : m ≤ 1000000) :
    Calls Try.prog 11 #[.slice A n c, .slice B m d] w fun e w' => e = .returned (.bool (xs == ys)) ∧ ∃ k, w' = w.drewN k := by
  have lx := ha.len itc_len (by omega)
  have ly := hb.len itc_len (by omega)
  by_cases h : n = m
  · subst h
    have hlx := hide lx
    have hly := hide ly
    clear lx ly
    go_enter Try.func11, Try.ntmps11
    go_wp2
    go_loopw [5] (fun i wr => ∃ k q : Nat, k ≤ n ∧ i = .int .i64 k ∧ wr = w.drewN q ∧ xs.take k = ys.take k) (fun i _ => n - (intOf i).toNat)
    case atStart => exact ⟨0, 0, Nat.zero_le _, rfl, rfl, rfl⟩
    case round =>
      obtain ⟨k, q, hk, rfl, rfl, ht⟩ := hrel
      have Ht := hide ht
      clear ht
      by_cases hlt : k < n
      · obtain ⟨b, off, x0, x1, x2, rfl, hbB, hx, c1, c2, c3⟩ := items_at ha hlt
        obtain ⟨b', off', y0, y1, y2, rfl, hbB', hy, c1', c2', c3'⟩ := items_at hb hlt
        have Hx := hide hx
        have Hy := hide hy
        clear hx hy
        have hne := item_neq
        by_cases heq : ((x0, x1, x2) == (y0, y1, y2)) = true
        · have heq' := heq
          rw [beq_iff_eq] at heq'
          have Heq := hide heq'
          clear heq'
          go_wp2
          go_quiet (fail)
          go_wp2
          go_roundw
          case rel => exact ⟨k + 1, q + nq, by omega, by go_num, rfl, take_succ_same Ht.out Hx.out (by rw [Heq.out]; exact Hy.out)⟩
          case measure => simp [intOf]; omega
        · rw [Bool.not_eq_true] at heq
          have Heq := hide heq
          go_wp2
          go_quiet (fail)
          go_wp2
          go_ret
          exact ⟨ret_bool (ne_of_at Hx.out Hy.out Heq.out).symm, q + nq, World.drewN_drewN _ _ _⟩
      · go_wp2
        go_ret
        exact ⟨ret_bool (eq_of_takes Ht.out (by rw [hlx.out]; omega) (by rw [hly.out]; omega)).symm, q, rfl⟩
  · have hd : (!((n : Int) == (m : Int))) = true := by simp; omega
    have hf : (xs == ys) = false := ne_of_len (by rw [lx, ly]; exact h)
    have Hf := hide hf
    clear hf lx ly
    go_enter Try.func11, Try.ntmps11
    go_wp2
    go_ret
    exact ⟨ret_bool Hf.out.symm, 0, rfl⟩

theorem Try.info47 : (Try.prog.info? 47).map (fun i => (i.zero, i.size, i.bytes)) = some (some (.agg #[.int .i64 0, .int .u64 0, .int .i64 0]), 3, 24) := by kernel_rfl
theorem Try.size47 : (Try.prog.info? 47).map (·.size) = some 3 := by kernel_rfl

/-- The top that is meant, of n items in a window of a height. -/
def topOf (n : Nat) (top height : Int) : Nat := (max 0 (min top (n - max 0 height))).toNat
/-- The items of the window. -/
def winOf (l : List It) (top height : Int) : List It := (l.drop (topOf l.length top height)).take height.toNat

theorem oneCell_it (l : List It) : ∀ u ∈ l.flatMap itc, u.oneCell' = true := by
  intro u hu
  obtain ⟨x, _, hx⟩ := List.mem_flatMap.1 hu
  simp [itc] at hx
  rcases hx with rfl | rfl | rfl <;> rfl

set_option maxHeartbeats 1000000 in
theorem window_any (A : Option Addr) (n c : Nat) (top height : Int) (l : List It) (w : World) (ha : Rd w w.heap.size 3 A n (l.flatMap itc)) (hn : n ≤ 200) (hc : n ≤ c)
   (b1 : -9223372036854775808 ≤ top) (b2 : top ≤ 9223372036854775807)  (b3 : -9223372036854775808 ≤ height) (b4 : height ≤ 9223372036854775807) :
    Calls Try.prog 9 #[.slice A n c, .int .i64 top, .int .i64 height] w fun e w' =>
      ∃ v, e = .returned (.tuple #[v, .int .i64 (topOf n top height)]) ∧ w'.ownsRow w.heap.size 47 3 v (winOf l top height).length ((winOf l top height).flatMap itc) ∧ Below w.heap.size w w' := by
  have hl := ha.len itc_len (by omega)
  obtain ⟨H, hH⟩ : ∃ H : Nat, (H : Int) = max 0 height := ⟨(max 0 height).toNat, by omega⟩
  obtain ⟨m, hm⟩ : ∃ m : Int, m = min top (n - H) := ⟨_, rfl⟩
  obtain ⟨T, hT⟩ : ∃ T : Nat, (T : Int) = max 0 m := ⟨(max 0 m).toNat, by omega⟩
  obtain ⟨K, hK⟩ : ∃ K : Nat, (K : Int) = min (H : Int) n := ⟨min H n, by omega⟩
  obtain ⟨S, hS⟩ : ∃ S : Nat, (S : Int) = min (n : Int) (T + K) := ⟨min n (T + K), by omega⟩
  have e1 := fun W => max2_ Try.prog #[3, 3] 3 (k := .i64) hH W
  have e2 := fun W => min2_ Try.prog #[3, 3] 3 (k := .i64) hm W
  have e3 := fun W => max2_ Try.prog #[3, 3] 3 (k := .i64) hT W
  have e4 := fun W => min2_ Try.prog #[3, 3] 3 (k := .i64) hK W
  have e5 := fun W => min2_ Try.prog #[3, 3] 3 (k := .i64) hS W
  have f1 : H ≤ 9223372036854775807 := by omega
  have f2 : T ≤ n := by omega
  have f3 : T ≤ S := by omega
  have f4 : S ≤ n := by omega
  have f5 : K ≤ n := by omega
  have e6 := fun W => cut_lh (P := Try.prog) (a := A) (len := n) (cap := c) Try.underlying22 Try.size47 T S rfl rfl f3 (by omega) W
  have hR := ha.part f3 f4 hc
  have hwin : ((l.flatMap itc).drop (T * 3)).take ((S - T) * 3) = (winOf l top height).flatMap itc := by
    rw [flat_drop itc_len, flat_take itc_len]
    unfold winOf topOf
    rw [hl]
    have e : (max 0 (min top (n - max 0 height))).toNat = T := by omega
    rw [e]
    by_cases hh : height.toNat ≤ n - T
    · rw [show S - T = height.toNat by omega]
    · rw [List.take_of_length_le (by rw [List.length_drop]; omega), List.take_of_length_le (by rw [List.length_drop]; omega)]
  have hwl : (winOf l top height).length = S - T := by
    have := hR.1
    rw [hwin, len_flat itc_len] at this
    omega
  have htop : T = topOf n top height := by unfold topOf; omega
  rw [hwin] at hR
  obtain ⟨i0, hi0, hz0, hz1, hz2⟩ := info_parts Try.info47
  have G := hide (And.intro hwl htop)
  clear hH hm hT hK hS hwin hwl htop hl
  go_enter Try.func9, Try.ntmps9
  go_wp2_with (at_builtin; refine wpList_append_rd _ rfl _ _ _ rfl w.heap.size 47 i0 _ 3 24 Try.underlying22 hi0 hz0 hz1 hz2 rfl (by omega) (.slice none 0 0) 0 [] rfl (World.ownsRow_nil _ _ _ _) w.heap.size _ _ _ _ rfl hR (oneCell_it _) (by simp only [maxLen]; omega) (by omega) (Nat.le_refl _) ?_; intro v1 w1 hown1 hg1 _)
  go_ret2
  obtain ⟨g1, g2⟩ := G.out
  rw [← g2, g1]
  refine ⟨v1, rfl, ?_, below_appended (Below.refl _ _) (World.ownsRow_nil w w.heap.size 47 3) hg1 (Nat.le_refl _)⟩
  simpa using hown1

theorem rd_made3 (w : World) (a b c : Value) (e : TypeId) : Rd (w.alloc (.cells #[a, b, c] e)) (w.heap.size + 1) 3 (some ⟨w.heap.size, 0, none⟩) 1 [a, b, c] := by
  refine ⟨rfl, fun _ => ⟨_, _, rfl, by omega, fun j u hu => ?_⟩⟩
  rw [World.cell?_alloc_new]
  match j, hu with
  | 0, hu => simpa using hu
  | 1, hu => simpa using hu
  | 2, hu => simpa using hu

theorem winOf_eq {l : List It} {n T H k : Nat} {top height : Int} (hl : l.length = n) (hT : T = topOf n top height) (hH : (H : Int) = max 0 height) (h1 : T ≤ k) (h2 : k ≤ n) (h3 : k ≤ T + H) (h4 : k = n ∨ k = T + H) :
    (winOf l top height) = (l.drop T).take (k - T) ∧ (winOf l top height).length = k - T := by
  have e : winOf l top height = (l.drop T).take (k - T) := by
    unfold winOf
    rw [hl, ← hT]
    by_cases hh : height.toNat ≤ n - T
    · rw [show k - T = height.toNat by omega]
    · rw [List.take_of_length_le (by rw [List.length_drop]; omega), List.take_of_length_le (by rw [List.length_drop]; omega)]
  refine ⟨e, ?_⟩
  rw [e, List.length_take, List.length_drop]
  omega

set_option maxHeartbeats 1000000 in
theorem refwindow_any (A : Option Addr) (n c : Nat) (top height : Int) (l : List It) (w : World) (ha : Rd w w.heap.size 3 A n (l.flatMap itc)) (hn : n ≤ 200) 
   (b1 : -9223372036854775808 ≤ top) (b2 : top ≤ 9223372036854775807)  (b3 : -9223372036854775808 ≤ height) (b4 : height ≤ 9223372036854775807) :
    Calls Try.prog 10 #[.slice A n c, .int .i64 top, .int .i64 height] w fun e w' =>
      ∃ v, e = .returned (.tuple #[v, .int .i64 (topOf n top height)]) ∧ w'.ownsRow w.heap.size 47 3 v (winOf l top height).length ((winOf l top height).flatMap itc) ∧ Below w.heap.size w w' := by
  have hl := ha.len itc_len (by omega)
  obtain ⟨H, hH⟩ : ∃ H : Nat, (H : Int) = max 0 height := ⟨(max 0 height).toNat, by omega⟩
  obtain ⟨T, hT⟩ : ∃ T : Nat, T = topOf n top height := ⟨_, rfl⟩
  have f1 : H ≤ 9223372036854775807 := by omega
  have HH := hide hH
  have HT := hide hT
  have Hl := hide hl
  clear hH hT hl
  obtain ⟨i0, hi0, hz0, hz1, hz2⟩ := info_parts Try.info47
  go_enter Try.func10, Try.ntmps10
  go_upto_if 12 with (fail)
  go_cut [2] (fun s2 wx => s2 = .int .i64 H ∧ w = wx)
  case first =>
    go_wp2_with fail
    all_goals go_meet
    · refine ⟨?_, rfl⟩
      have := HH.out
      go_num
    · refine ⟨?_, rfl⟩
      have := HH.out
      go_num
  case rest =>
    obtain ⟨rfl, rfl⟩ := hcut
    go_upto_region 4 with (fail)
    go_cut [21] (fun s wx => s = .bool (decide (n ≤ H ∨ top < 0)) ∧ w = wx)
    case first =>
      by_cases h : n ≤ H
      · go_wp2_with fail
        go_meet
        exact ⟨by simp [h], rfl⟩
      · have h1 : decide (n ≤ H) = false := by simpa using h
        go_wp2_with fail
        go_meet
        exact ⟨by simp [h], rfl⟩
    case rest =>
      obtain ⟨rfl, rfl⟩ := hcut
      go_upto_if 21 with (fail)
      go_cut [1] (fun s1 wx => s1 = .int .i64 T ∧ w = wx)
      case first =>
        have e : (T : Int) = max 0 (min top (n - H)) := by rw [HT.out]; unfold topOf; have := HH.out; omega
        have He := hide e
        clear e
        go_wp2_with fail
        all_goals go_meet
        all_goals (refine ⟨?_, rfl⟩; have := He.out; go_num)
      case rest =>
        obtain ⟨rfl, rfl⟩ := hcut
        go_wp2_with fail
        go_loopw [9, 10] (fun v i wr => ∃ k : Nat, T ≤ k ∧ k ≤ n ∧ k ≤ T + H ∧ i = .int .i64 k ∧ wr.ownsRow w.heap.size 47 3 v (k - T) (((l.drop T).take (k - T)).flatMap itc) ∧ Below w.heap.size w wr) (fun _ i _ => n - (intOf i).toNat)
        case atStart => exact ⟨T, by omega, by have := HT.out; unfold topOf at this; omega, by omega, rfl, by simpa using World.ownsRow_nil _ _ _ _, Below.refl _ _⟩
        case round =>
          obtain ⟨k, k1, k2, k3, rfl, hown, hb⟩ := hrel
          by_cases hlt : k < n
          · by_cases hlt2 : k < T + H
            · obtain ⟨b, off, x0, x1, x2, rfl, hbB, hx, c1, c2, c3⟩ := items_at (ha.below hb) hlt
              have Hx := hide hx
              have hbz := hb.size
              clear hx
              go_wp2_with (at_builtin; refine wpList_append_rd _ rfl _ _ _ rfl w.heap.size 47 i0 _ 3 24 Try.underlying22 hi0 hz0 hz1 hz2 rfl (by omega) _ (k - T) _ rfl (hown.alloc _) (wr.heap.size + 1) _ 1 1 (itc (x0, x1, x2)) rfl (rd_made3 _ _ _ _ _) (by intro u hu; simp [itc] at hu; rcases hu with rfl | rfl | rfl <;> rfl) (by simp only [maxLen]; omega) (by omega) (by simp; omega) ?_; intro v1 w1 hown1 hg1 _)
              go_roundw
              case rel =>
                refine ⟨k + 1, by omega, by omega, by omega, by go_num, ?_, below_appended (hb.alloc hbz _) (hown.alloc _) hg1 (by simp; omega)⟩
                rw [show k + 1 - T = (k - T) + 1 by omega, take_snoc (x := (x0, x1, x2)) (by rw [List.getElem?_drop, show T + (k - T) = k by omega]; exact Hx.out), List.flatMap_append]
                simpa using hown1
              case measure => simp [intOf]; omega
            · go_wp2_with fail
              go_ret2
              exact ⟨u9, ret2_vi (by rw [HT.out]), by have W := winOf_eq Hl.out HT.out HH.out k1 k2 k3 (by omega); rw [W.2, W.1]; exact hown, hb⟩
          · go_wp2_with fail
            go_ret2
            exact ⟨u9, ret2_vi (by rw [HT.out]), by have W := winOf_eq Hl.out HT.out HH.out k1 k2 k3 (by omega); rw [W.2, W.1]; exact hown, hb⟩
end Go.Proofs.Ytdmiaciembcebaa
