/-
  Same over two slices of one-celled elements (runes), and All, walked. No condition but what the arguments' kinds bear.
-/
import Derived.Test.YtbacobajmmkjeaaSame
namespace Go.Proofs.Ytbacobajmmkjeaa
open Go.RowKit Go.Proofs
set_option linter.unusedVariables false
theorem below_six {B g : Nat} {w w1 : World} (h : Below B w w1) (hg : B ≤ g) (a b c d e f : Value) : Below B w ((((((w1.setCell ⟨g, 0, none⟩ a).setCell ⟨g, 1, none⟩ b).setCell ⟨g, 2, none⟩ c).setCell ⟨g, 3, none⟩ d).setCell ⟨g, 4, none⟩ e).setCell ⟨g, 5, none⟩ f) :=
  (((((h.setCell (p := ⟨g, 0, none⟩) hg _).setCell (p := ⟨g, 1, none⟩) hg _).setCell (p := ⟨g, 2, none⟩) hg _).setCell (p := ⟨g, 3, none⟩) hg _).setCell (p := ⟨g, 4, none⟩) hg _).setCell (p := ⟨g, 5, none⟩) hg _
theorem blk_six {g : Nat} {t : TypeId} {w : World} {v0 v1 v2 v3 v4 v5 : Value} (h : Blk w g t #[v0, v1, v2, v3, v4, v5]) (a b c d e f : Value) :
    Blk ((((((w.setCell ⟨g, 0, none⟩ a).setCell ⟨g, 1, none⟩ b).setCell ⟨g, 2, none⟩ c).setCell ⟨g, 3, none⟩ d).setCell ⟨g, 4, none⟩ e).setCell ⟨g, 5, none⟩ f) g t #[a, b, c, d, e, f] :=
  (((((h.set_ 0 a).set_ 1 b).set_ 2 c).set_ 3 d).set_ 4 e).set_ 5 f
theorem far_six {g k : Nat} {t : TypeId} {w : World} {cs : Array Value} (h : Blk w k t cs) (hk : k ≠ g) (a b c d e f : Value) :
    Blk ((((((w.setCell ⟨g, 0, none⟩ a).setCell ⟨g, 1, none⟩ b).setCell ⟨g, 2, none⟩ c).setCell ⟨g, 3, none⟩ d).setCell ⟨g, 4, none⟩ e).setCell ⟨g, 5, none⟩ f) k t cs :=
  (((((h.far (p := ⟨g, 0, none⟩) hk a).far (p := ⟨g, 1, none⟩) hk b).far (p := ⟨g, 2, none⟩) hk c).far (p := ⟨g, 3, none⟩) hk d).far (p := ⟨g, 4, none⟩) hk e).far (p := ⟨g, 5, none⟩) hk f
/-- A rune's cell. -/
def rn (x : Int) : Value := .int .i32 x
theorem Try.sl34 : SliceOf Try.prog 34 21 1 4 := SliceOf.mk (z := .int .i32 0) (by kernel_rfl) (by kernel_rfl) (by kernel_rfl) (by omega)

set_option maxHeartbeats 1000000 in
theorem same_any {B B' : Nat} (xs ys : List Int) (A A' : Option Addr) (n m c d : Nat) (w : World) (ha : Rd w B 1 A n (xs.map rn)) (hb : Rd w B' 1 A' m (ys.map rn)) (hn : n ≤ 1000000) (hm : m ≤ 1000000) :
    Calls Try.prog 13 #[.slice A n c, .slice A' m d] w fun e w' => e = .returned (.bool (xs == ys)) ∧ ∃ k, w' = w.drewN k := by
  have lx := ha.len1
  have ly := hb.len1
  by_cases h : n = m
  · subst h
    have hlx := hide lx
    have hly := hide ly
    clear lx ly
    go_enter Try.func13, Try.ntmps13
    go_wp2
    go_loopw [5] (fun i wr => ∃ k q : Nat, k ≤ n ∧ i = .int .i64 k ∧ wr = w.drewN q ∧ xs.take k = ys.take k) (fun i _ => n - (intOf i).toNat)
    case atStart => exact ⟨0, 0, Nat.zero_le _, rfl, rfl, rfl⟩
    case round =>
      obtain ⟨k, q, hk, rfl, rfl, ht⟩ := hrel
      have Ht := hide ht
      clear ht
      by_cases hlt : k < n
      · obtain ⟨b, off, x, rfl, hbB, hx, c1⟩ := ha.at1 hlt
        obtain ⟨b', off', y, rfl, hbB', hy, c1'⟩ := hb.at1 hlt
        have Hx := hide hx
        have Hy := hide hy
        clear hx hy
        unfold rn at c1 c1'
        by_cases heq : ((x : Int) == y) = true
        · have heq' := heq
          rw [beq_iff_eq] at heq'
          have Heq := hide heq'
          clear heq'
          go_wp2
          go_quiet (fail)
          go_wp2
          go_roundw
          case rel => exact ⟨k + 1, q + nq, by omega, by go_num, rfl, take_succ_same Ht.out Hx.out (by rw [Heq.out]; exact Hy.out)⟩
          case measure => simp [intOf]; omega
        · rw [Bool.not_eq_true] at heq
          have Heq := hide heq
          go_wp2
          go_quiet (fail)
          go_wp2
          go_ret
          exact ⟨ret_bool (ne_of_at Hx.out Hy.out Heq.out).symm, q + nq, World.drewN_drewN _ _ _⟩
      · go_wp2
        go_ret
        exact ⟨ret_bool (eq_of_takes Ht.out (by rw [hlx.out]; omega) (by rw [hly.out]; omega)).symm, q, rfl⟩
  · have hd : (!((n : Int) == (m : Int))) = true := by simp; omega
    have hf : (xs == ys) = false := ne_of_len (by rw [lx, ly]; exact h)
    have Hf := hide hf
    clear hf lx ly
    go_enter Try.func13, Try.ntmps13
    go_wp2
    go_ret
    exact ⟨ret_bool Hf.out.symm, 0, rfl⟩

/-- What scalars print as, one behind the other. -/
def allL (a b c d u o : Int) : List Int → List Int
  | [] => []
  | r :: l => shownF (setAt (usedF u o) a b c d) r :: allL a b c d u 0 l
/-- What is left of Once. -/
def lastO (o : Int) : List Int → Int
  | [] => o
  | _ :: l => lastO 0 l
theorem allL_len (a b c d u : Int) : ∀ (o : Int) (l : List Int), (allL a b c d u o l).length = l.length
  | _, [] => rfl
  | o, r :: l => by rw [allL, List.length_cons, List.length_cons, allL_len a b c d u 0 l]
theorem own_call {w w' : World} {base s n : Nat} {e : TypeId} {v : Value} {xs : List Value} (h : w.ownsRow base e s v n xs) (hb : Below w.heap.size w w') : w'.ownsRow base e s v n xs :=
  own_frm h (Frm.of_below (S := fun k => w.heap.size ≤ k) hb fun _ _ h => h) fun k hk hle => own_new h hle hk.symm
theorem own_six {w : World} {base s n g : Nat} {e : TypeId} {v : Value} {xs : List Value} (h : w.ownsRow base e s v n xs) (hg : some g ≠ v.ownBlock) (a b c d f i : Value) :
    ((((((w.setCell ⟨g, 0, none⟩ a).setCell ⟨g, 1, none⟩ b).setCell ⟨g, 2, none⟩ c).setCell ⟨g, 3, none⟩ d).setCell ⟨g, 4, none⟩ f).setCell ⟨g, 5, none⟩ i).ownsRow base e s v n xs :=
  own_far (p := ⟨g, 5, none⟩) (own_far (p := ⟨g, 4, none⟩) (own_far (p := ⟨g, 3, none⟩) (own_far (p := ⟨g, 2, none⟩) (own_far (p := ⟨g, 1, none⟩) (own_far (p := ⟨g, 0, none⟩) h hg _) hg _) hg _) hg _) hg _) hg _
def AllPost (a b c d u o : Int) (l : List Int) (n : Nat) (w : World) (e : Ending) (w' : World) : Prop :=
  ∃ A k, e = .returned (.tuple #[.slice A n k, .agg #[.int .i64 a, .int .i64 b, .int .i64 c, .int .i64 d, .int .i64 u, .int .i64 (lastO o l)]]) ∧
    w'.ownsRow w.heap.size 21 1 (.slice A n k) n ((allL a b c d u o l).map rn) ∧ Below w.heap.size w w'

set_option maxHeartbeats 1000000 in
theorem all_any (a b c d u o : Int) (l : List Int) (A : Option Addr) (n m : Nat) (w : World) (ha : Rd w w.heap.size 1 A n (l.map rn)) (hn : n ≤ 200) (hl : ∀ x ∈ l, -2147483648 ≤ x ∧ x ≤ 2147483647) :
    Calls Try.prog 12 #[.agg #[.int .i64 a, .int .i64 b, .int .i64 c, .int .i64 d, .int .i64 u, .int .i64 o], .slice A n m] w (AllPost a b c d u o l n w) := by
  have hlen := hide ha.len1
  have Hl := hide hl
  clear hl
  go_enter Try.func12, Try.ntmps12
  go_wp2_with fail
  go_loopw [6, 11] (fun v i wr => ∃ (k : Nat) (q : Int) (zs : List Int), k ≤ n ∧ i = .int .i64 k ∧ Blk wr w.heap.size 24 #[.int .i64 a, .int .i64 b, .int .i64 c, .int .i64 d, .int .i64 u, .int .i64 q] ∧ Blk wr (w.heap.size + 1) 24 #[.int .i64 0, .int .i64 0, .int .i64 0, .int .i64 0, .int .i64 0, .int .i64 0] ∧
    wr.ownsRow w.heap.size 21 1 v k (zs.map rn) ∧ Below w.heap.size w wr ∧ Hid (allL a b c d u o l = zs ++ allL a b c d u q (l.drop k) ∧ lastO o l = lastO q (l.drop k))) (fun v i _ => n - (intOf i).toNat)
  case atStart => exact ⟨0, o, [], Nat.zero_le _, rfl, (Blk.new _ _ _).alloc _, Blk.new' (by simp) _ _, by simpa using World.ownsRow_nil _ _ _ _, below2 _ _ _ (Nat.le_refl _), hide ⟨rfl, rfl⟩⟩
  case round =>
    obtain ⟨k, q, zs, hk, rfl, g1, g2, hown, hb, H⟩ := hrel
    obtain ⟨A0, c0, rfl⟩ := own_slice hown
    obtain ⟨d0, d1, d2, d3, d4, d5, df0, df1, df2, df3, df4, df5⟩ := blk6 g1
    obtain ⟨p0, p1, p2, p3, p4, p5, pf0, pf1, pf2, pf3, pf4, pf5⟩ := blk6 g2
    have hsz := hb.size
    by_cases hlt : k < n
    · obtain ⟨bb, off, x, rfl, hbB, hx, c1⟩ := (ha.below hb).at1 hlt
      have hx0 := Hl.out x (List.mem_of_getElem? hx)
      have Hx := hide hx
      clear hx
      unfold rn at c1
      obtain ⟨y, hy⟩ : ∃ y, y = shownF (setAt (usedF u q) a b c d) x := ⟨_, rfl⟩
      have E := hide (show allL a b c d u o l = (zs ++ [y]) ++ allL a b c d u 0 (l.drop (k + 1)) ∧ lastO o l = lastO 0 (l.drop (k + 1)) by
        have h := H.out
        rw [drop_at Hx.out] at h
        rw [h.1, h.2, hy, List.append_assoc]
        exact ⟨rfl, rfl⟩)
      have M := hide (fun w => (map_any a b c d u q x w hx0.1 hx0.2).mono fun _ _ h => mapPost hy h)
      clear hy
      go_upto_region 6 with (go_at_call 8; go_must (refine (M.out _).mono ?_; rintro e w1 ⟨rfl, hb1⟩; have k1 := g1.below hb1 g1.lt; have k2 := g2.below hb1 g2.lt; have own1 := own_call hown hb1; have own2 := own_six own1 (own_ne own1 k1 (by decide)) (.int .i64 a) (.int .i64 b) (.int .i64 c) (.int .i64 d) (.int .i64 u) (.int .i64 0); have HB2 := below_six (below_in hb hb1 (Nat.le_refl _)) (Nat.le_refl w.heap.size) (.int .i64 a) (.int .i64 b) (.int .i64 c) (.int .i64 d) (.int .i64 u) (.int .i64 0); have k3 := blk_six k1 (.int .i64 a) (.int .i64 b) (.int .i64 c) (.int .i64 d) (.int .i64 u) (.int .i64 0); have HB1 := below_in hb hb1 (Nat.le_refl _); have hz1 := hb1.size; obtain ⟨x0, x1, x2, x3, x4, x5, xf0, xf1, xf2, xf3, xf4, xf5⟩ := blk6 k1))
      go_wp2_with (at_builtin; go_must (refine wpList_append1 Try.sl34 rfl _ _ rfl w.heap.size (.slice A0 k c0) k (zs.map rn) #[.int .i32 y] _ 1 rfl rfl (by simp) own2 rfl (ones rfl) (by simp only [maxLen]; omega) (by omega) (by simp; omega) ?_; intro A1 c1 w2 app))
      go_roundw
      case rel =>
        have k4 := k3.alloc (.cells #[.int .i32 y] 21)
        have k5 := (far_six k2 (show w.heap.size + 1 ≠ w.heap.size by omega) (.int .i64 a) (.int .i64 b) (.int .i64 c) (.int .i64 d) (.int .i64 u) (.int .i64 0)).alloc (.cells #[.int .i32 y] 21)
        have own3 := own2.alloc (.cells #[.int .i32 y] 21)
        have HB3 := HB2.alloc HB2.size (.cells #[.int .i32 y] 21)
        exact ⟨k + 1, 0, zs ++ [y], by omega, by go_num, app.blk k4 own3 (by decide), app.blk k5 own3 (by decide), by simpa [rn] using app.own, app.below own3 HB3 (Nat.le_refl _) HB3.size, E⟩
      case measure => simp [intOf]; omega
    · go_wp2_with fail
      have e : k = n := by omega
      subst e
      have en : l.drop k = [] := List.drop_of_length_le (by rw [hlen.out]; omega)
      have H' := hide (show allL a b c d u o l = zs ∧ lastO o l = q by have h := H.out; rw [en] at h; simpa [allL, lastO] using h)
      clear en
      go_region
      all_goals go_wp2_with fail
      refine bodyPost_ret (v := .tuple #[.slice A0 k c0, .agg #[.int .i64 a, .int .i64 b, .int .i64 c, .int .i64 d, .int .i64 u, .int .i64 q]]) (by simp [results, Try.results12, go_sem, *]) rfl ⟨A0, c0, by rw [H'.out.2], ?_, (below_six hb (Nat.le_succ _) _ _ _ _ _ _).drew⟩
      rw [H'.out.1]
      exact own_frm (own_six hown (own_ne hown g2 (by decide)) (.int .i64 a) (.int .i64 b) (.int .i64 c) (.int .i64 d) (.int .i64 u) (.int .i64 q)) ((Frm.refl (fun _ => False) _).drew) (fun _ _ h => h)
end Go.Proofs.Ytbacobajmmkjeaa
