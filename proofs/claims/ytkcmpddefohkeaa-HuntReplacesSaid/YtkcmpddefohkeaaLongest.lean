/-
  Longest, walked. No condition but bounds.
-/
import Derived.Test.YtkcmpddefohkeaaRefAll
namespace Go.Proofs.Ytkcmpddefohkeaa
open Go.RowKit Go.Proofs
set_option linter.unusedVariables false
/-- One more hit: kept, put in the last one's place, or left. -/
def longStep (L : List (List Int)) (s : List (Nat × Nat) × Nat) (x : Nat × Nat) : List (Nat × Nat) × Nat :=
  match s.1.getLast? with
  | none => if s.2 ≤ x.1 then (s.1 ++ [x], x.1 + (nth L x.2).length) else s
  | some l => if x.1 = l.1 then (if (nth L l.2).length < (nth L x.2).length then (s.1.dropLast ++ [x], x.1 + (nth L x.2).length) else s) else if s.2 ≤ x.1 then (s.1 ++ [x], x.1 + (nth L x.2).length) else s
def longTo (L : List (List Int)) (hits : List (Nat × Nat)) (j : Nat) : List (Nat × Nat) × Nat := (hits.take j).foldl (longStep L) ([], 0)
def longF (L : List (List Int)) (hits : List (Nat × Nat)) : List (Nat × Nat) := (longTo L hits hits.length).1
theorem longTo_succ {L : List (List Int)} {hits : List (Nat × Nat)} {j : Nat} {x : Nat × Nat} (h : hits[j]? = some x) : longTo L hits (j + 1) = longStep L (longTo L hits j) x := by
  unfold longTo
  rw [List.take_add_one, h, List.foldl_append]; rfl
theorem long_app0 {L : List (List Int)} {e : Nat} {x : Nat × Nat} (h : e ≤ x.1) : longStep L ([], e) x = ([x], x.1 + (nth L x.2).length) := by
  unfold longStep; simp [h]
theorem long_off0 {L : List (List Int)} {e : Nat} {x : Nat × Nat} (h : ¬ e ≤ x.1) : longStep L ([], e) x = ([], e) := by
  unfold longStep; simp [h]
theorem long_app {L : List (List Int)} {i : List (Nat × Nat)} {l : Nat × Nat} {e : Nat} {x : Nat × Nat} (h0 : ¬ x.1 = l.1) (h : e ≤ x.1) : longStep L (i ++ [l], e) x = (i ++ [l] ++ [x], x.1 + (nth L x.2).length) := by
  unfold longStep; simp [h, h0]
theorem long_off {L : List (List Int)} {i : List (Nat × Nat)} {l : Nat × Nat} {e : Nat} {x : Nat × Nat} (h0 : ¬ x.1 = l.1) (h : ¬ e ≤ x.1) : longStep L (i ++ [l], e) x = (i ++ [l], e) := by
  unfold longStep; simp [h, h0]
theorem long_put {L : List (List Int)} {i : List (Nat × Nat)} {l : Nat × Nat} {e : Nat} {x : Nat × Nat} (h0 : x.1 = l.1) (h : (nth L l.2).length < (nth L x.2).length) : longStep L (i ++ [l], e) x = (i ++ [x], x.1 + (nth L x.2).length) := by
  unfold longStep; simp [h, h0]
theorem long_same {L : List (List Int)} {i : List (Nat × Nat)} {l : Nat × Nat} {e : Nat} {x : Nat × Nat} (h0 : x.1 = l.1) (h : ¬ (nth L l.2).length < (nth L x.2).length) : longStep L (i ++ [l], e) x = (i ++ [l], e) := by
  unfold longStep; simp [h, h0]
theorem snoc_of {α : Type} {l : List α} {k : Nat} (h : l.length = k + 1) : ∃ i x, l = i ++ [x] ∧ i.length = k := by
  refine ⟨l.dropLast, l.getLast (by intro e; rw [e] at h; simp at h), (List.dropLast_concat_getLast _).symm, by rw [List.length_dropLast, h]; rfl⟩
/-- The last hit is another one. -/
theorem put_last {W : World} {base g k c2 : Nat} {ini : List (Nat × Nat)} {a b x y : Nat} {T : List Value} (h : RowE 33 hitE W g (ini ++ [(a, b)]) T) (hk : ini.length = k) (hb : base ≤ g) (hc : k + 1 ≤ c2) (hsz : ((ini ++ [(a, b)]).flatMap hitE ++ T).length = c2 * 2) (hm : c2 ≤ maxLen) :
    ((W.setCell ⟨g, k * 2, none⟩ (.int .i64 x)).setCell ⟨g, k * 2 + 1, none⟩ (.int .i64 y)).ownsRow base 33 2 (.slice (some ⟨g, 0, none⟩) (k + 1) c2) (k + 1) ((ini ++ [(x, y)]).flatMap hitE) := by
  have e1 : ∀ d : Nat × Nat, ∀ d' : Nat × Nat, (ini ++ [d]).set k d' = ini ++ [d'] := fun d d' => by rw [List.set_append_right _ _ (by omega), hk, Nat.sub_self]; rfl
  have e2 : ∀ d : Nat × Nat, (ini ++ [d])[k]? = some d := fun d => by rw [List.getElem?_append_right (by omega), hk]; simp
  have h1 := h.set1 hitE_len (k := k) (i := 0) (d := (x, b)) (u := .int .i64 x) (e2 _) (by omega) rfl
  rw [e1] at h1
  have h2 := h1.set1 hitE_len (k := k) (i := 1) (d := (x, y)) (u := .int .i64 y) (e2 _) (by omega) rfl
  rw [e1] at h2
  exact own_of_rowE hitE_len hb hc hsz hm (by simp [hk]) (by simp [hk]) h2
set_option maxRecDepth 100000 in
set_option maxHeartbeats 8000000 in
theorem longest_any (t : ByteArray) (ns : List ByteArray) (A : Option Addr) (n c : Nat) (w : World) (hr : Rd w w.heap.size 1 A n (ns.map Value.string)) (h1 : t.size ≤ 400) (h2 : ∀ x ∈ ns, x.size ≤ 400) (hn : n ≤ 100) (hnc : n ≤ c) :
    Calls Try.prog 18 #[.string t, .slice A n c] w (RetSlice 33 2 ((longF (needs ns) (hitsF (bytesOf plainF t) (needs ns))).flatMap hitE) w) := by
  have AL := hide (all_any t ns A n c w hr h1 h2 hn hnc)
  have hln := hr.len1
  have hok : ∀ y ∈ hitsF (bytesOf plainF t) (needs ns), y.2 < n ∧ y.1 ≤ 400 := fun y hy => by
    have h3 := mem_hitsF.1 hy
    have h4 := stands_lt h3.2
    rw [bytesOf_len] at h4
    rw [show (needs ns).length = n by simp [needs, hln]] at h3
    exact ⟨h3.1, by omega⟩
  have hlen : (hitsF (bytesOf plainF t) (needs ns)).length ≤ 40000 := by
    have := hitsF_len (T := bytesOf plainF t) (by rw [bytesOf_len]; exact h1) (needs ns)
    rw [show (needs ns).length = n by simp [needs, hln]] at this
    omega
  obtain ⟨hits, hhits⟩ : ∃ hits, hitsF (bytesOf plainF t) (needs ns) = hits := ⟨_, rfl⟩
  rw [hhits] at AL hok hlen ⊢
  have HR := hide hr
  have HK := hide hok
  have H2 := hide h2
  clear hr hhits hok h1 h2 hln
  go_enter Try.func18, Try.ntmps18
  go_upto_region 4 with (go_at_call 12; go_must (refine (AL.out).mono ?_; rintro e w1 ⟨A1, N1, c1, rfl, o1, b1⟩; have O1 := hide o1; have B1 := hide b1; clear o1 b1))
  have hN : hits.length = N1 := (own_len hitE_len (by omega) O1.out).symm
  have RH := hide (Rd.of_own O1.out)
  have RN := hide ((HR.out.below B1.out).more B1.out.size)
  rw [hN] at hlen
  have HN1 := hide hN
  clear hN
  go_loopg [5, 6, 14] N1 (fun g s5 s6 s14 wr => ∃ (j k e : Nat) (out : List (Nat × Nat)) (A2 : Option Addr) (c2 : Nat), j + g = N1 ∧ s14 = .int .i64 j ∧ s6 = .int .i64 e ∧ s5 = .slice A2 k c2 ∧ k ≤ j ∧ e ≤ 1000 ∧ Hid (wr.ownsRow w1.heap.size 33 2 (.slice A2 k c2) k (out.flatMap hitE)) ∧ Hid (longTo (needs ns) hits j = (out, e)) ∧ Hid (∀ y ∈ out, y.2 < n ∧ y.1 ≤ 400) ∧ Hid (Below w1.heap.size w1 wr))
  case atStart => exact ⟨0, 0, 0, [], none, 0, by omega, rfl, rfl, rfl, by omega, by omega, ⟨rfl, .inl ⟨rfl, rfl⟩⟩, rfl, (fun y hy => by cases hy), Below.refl _ _⟩
  case round =>
    obtain ⟨j, k, e, out, A2, c2, hjg, rfl, rfl, rfl, hk, he, HO, HL, HY, HB⟩ := hrel
    by_cases hlt : j < N1
    · obtain ⟨b, off, x, y, rfl, hbl, hx, cx, cy⟩ := hits_at (RH.out.below HB.out) hlt
      have hxy := HK.out _ (List.mem_of_getElem? hx)
      obtain ⟨hyn, hx4⟩ := hxy
      simp only at hyn hx4
      obtain ⟨nb, noff, sx, rfl, hnb, hsx, cs⟩ := RN.out.at1 hyn
      have hst := longTo_succ (L := needs ns) hx
      rw [HL.out] at hst
      obtain ⟨X, hX⟩ : ∃ X, sx.size = X := ⟨_, rfl⟩
      have hnx : (nth (needs ns) y).length = X := by rw [nth_needs hsx, bytesOf_len, hX]
      have hX4 : X ≤ 400 := by rw [← hX]; exact H2.out _ (List.mem_of_getElem? hsx)
      have HNX := hide hnx
      have hwr := HB.out.size
      have hkl : out.length = k := (own_len hitE_len (by omega) HO.out).symm
      have hg9 : N1 - (j + 1) + (j + 1) = N1 := by omega
      have HST := hide hst
      clear hx hsx hnx hst
      obtain ⟨e2, he2⟩ : ∃ e2, x + X = e2 := ⟨_, rfl⟩
      have s2 : (x : Int) + X = e2 := by omega
      have s3 : IntKind.i64.wrap (e2 : Int) = e2 := IntWalk.i64_in _ ⟨by omega, by omega⟩
      have he2b : e2 ≤ 1000 := by omega
      have HE2 := hide he2
      clear he2
      have HXY := hide (And.intro hyn hx4)
      have NE := hide (own_new HO.out (Nat.le_refl wr.heap.size))
      go_upto_region 6 with (fail)
      go_name_world W5 hW5
      have D5 := hide (show Below wr.heap.size wr W5 by rw [← hW5]; exact (Below.refl _ _).alloc (Nat.le_refl _) _)
      have V5 := hide (show Blk W5 wr.heap.size 33 #[.int .i64 x, .int .i64 y] by rw [← hW5]; exact Blk.new _ _ _)
      have B5 := hide (below_in HB.out D5.out (Nat.le_refl _))
      have O5 := hide (own_call HO.out D5.out)
      have v0 := V5.out.cell 0
      have v1 := V5.out.cell 1
      simp at v0 v1
      have cs5 := (B5.out.cell (p := ⟨nb, noff + y, none⟩) hnb).trans cs
      clear hW5
      cases k with
      | zero =>
        obtain rfl : out = [] := List.eq_nil_of_length_eq_zero hkl
        have c00 : ((0 : Nat) : Int) = 0 := rfl
        by_cases hex : e ≤ x
        · have hHX := hide hex
          have hex' : (e : Int) ≤ x := by omega
          clear hex
          go_upto_region 7 with (fail)
          go_quiet (fail)
          go_upto_region 12 with (fail)
          go_name_world W7 hW7
          have O7 := hide (show W7.ownsRow w1.heap.size 33 2 (.slice A2 0 c2) 0 _ by rw [← hW7]; exact own_drewN O5.out _)
          have V7 := hide (show Blk W7 wr.heap.size 33 _ by rw [← hW7]; exact V5.out.drewN _)
          have B7 := hide (show Below w1.heap.size w1 W7 by rw [← hW7]; exact below_drewN' B5.out _)
          have z7 := B7.out.size
          clear hW7 v0 v1
          have v0 := V7.out.cell 0
          have v1 := V7.out.cell 1
          simp at v0 v1
          go_upto_region 13 with (at_builtin; go_must (refine wpList_append1 Try.sl26 rfl _ _ rfl w1.heap.size (.slice A2 0 c2) 0 _ #[.int .i64 x, .int .i64 y] W7 1 rfl rfl rfl O7.out rfl (two_cell rfl rfl) (by simp only [maxLen]; omega) (by omega) z7 ?_; intro A3 c3 w3 app; have V3 := hide ((V7.out.alloc _).grown app.grown NE.out); have B3 := hide (app.below (O7.out.alloc _) (B7.out.alloc z7 _) (Nat.le_refl _) (by simp; omega)); have O3 := hide (own_snocE (E := hitE) (x, y) app.own rfl); clear app))
          clear v0 v1
          have v0 := V3.out.cell 0
          have v1 := V3.out.cell 1
          have cs3 := (B3.out.cell (p := ⟨nb, noff + y, none⟩) hnb).trans cs
          simp at v0 v1
          go_quiet (fail)
          go_wp2_with fail
          go_roundg (N1 - (j + 1))
          case measure => omega
          case rel => exact ⟨j + 1, 0 + 1, e2, [] ++ [(x, y)], A3, c3, by omega, by go_num, rfl, rfl, by omega, he2b, own_drewN O3.out _, by rw [HST.out, long_app0 (x := (x, y)) hHX.out, HNX.out, HE2.out]; exact rfl, by intro z hz; rcases List.mem_append.1 hz with hz | hz; exact HY.out z hz; rw [List.mem_singleton] at hz; subst hz; exact HXY.out, below_drewN' B3.out _⟩
        · have hHX := hide hex
          have hex' : ¬ (e : Int) ≤ x := by omega
          clear hex
          go_upto_region 7 with (fail)
          go_quiet (fail)
          go_wp2_with fail
          go_roundg (N1 - (j + 1))
          case measure => omega
          case rel => exact ⟨j + 1, 0, e, [], A2, c2, by omega, by go_num, rfl, rfl, by omega, he, own_drewN O5.out _, by rw [HST.out, long_off0 (x := (x, y)) hHX.out]; exact rfl, HY.out, below_drewN' B5.out _⟩
      | succ k =>
        obtain ⟨ini, l, rfl, hil⟩ := snoc_of hkl
        obtain ⟨lx, ly⟩ := l
        rcases own_rowE hitE_len (by omega) O5.out with ⟨_, h0, _⟩ | ⟨g, T, rfl, hbg, hrow, hkc, hsz, hml, hll⟩
        · omega
        have hgl := hrow.blk.lt
        have hlk : (ini ++ [(lx, ly)])[k]? = some (lx, ly) := by rw [List.getElem?_append_right (by omega), hil]; simp
        have l0 : W5.cell? ⟨g, k * 2 + 0, none⟩ = some (.int .i64 lx) := hrow.at_ hitE_len hlk (i := 0) rfl
        have l1 : W5.cell? ⟨g, k * 2 + 1, none⟩ = some (.int .i64 ly) := hrow.at_ hitE_len hlk (i := 1) rfl
        simp only [Nat.add_zero] at l0
        have hk1 : ((k + 1 : Nat) : Int) - 1 = k := by omega
        have hly := HY.out (lx, ly) (by simp)
        have hlyn : ly < n := hly.1
        have HROW := hide (And.intro hrow (And.intro hbg (And.intro hkc (And.intro hsz (And.intro hml (And.intro hlk hil))))))
        have hng := hide (show g ≠ wr.heap.size from fun e9 => NE.out (by rw [e9]; rfl))
        clear hrow hsz hml hlk hil hly hkl hll
        by_cases hxl : x = lx
        · subst hxl
          obtain ⟨nb', noff', sl, hA', hnb', hsl, cl⟩ := RN.out.at1 hlyn
          obtain ⟨rfl, rfl⟩ : nb = nb' ∧ noff = noff' := by injection hA' with e9; injection e9 with e8 e7; exact ⟨e8, e7⟩
          obtain ⟨Z, hZ⟩ : ∃ Z, sl.size = Z := ⟨_, rfl⟩
          have HNZ := hide (show (nth (needs ns) ly).length = Z by rw [nth_needs hsl, bytesOf_len, hZ])
          have cl5 := (B5.out.cell (p := ⟨nb, noff + ly, none⟩) hnb).trans cl
          have cl1 := hide cl
          clear hsl cl hA' hnb'
          by_cases hzx : Z < X
          · have d1 : decide ((Z : Int) < (X : Int)) = true := by simp [hzx]
            have d2 : decide (Z < X) = true := by simp [hzx]
            have HZ := hide hzx
            clear hzx
            go_upto_region 7 with (fail)
            go_quiet (fail)
            go_upto_region 8 with (fail)
            go_quiet (fail)
            go_upto_region 9 with (fail)
            go_name_world W8 hW8
            have R8 := hide (show RowE 33 hitE W8 g (ini ++ [(x, ly)]) T by rw [← hW8]; exact (HROW.out.1.drewN _).drewN _)
            have V8 := hide (show Blk W8 wr.heap.size 33 #[.int .i64 x, .int .i64 y] by rw [← hW8]; exact (V5.out.drewN _).drewN _)
            have B8 := hide (show Below w1.heap.size w1 W8 by rw [← hW8]; exact below_drewN' (below_drewN' B5.out _) _)
            have z8 := B8.out.size
            have hg8 := R8.out.blk.lt
            clear hW8 v0 v1 l0 l1 hgl
            have v0 := V8.out.cell 0
            have v1 := V8.out.cell 1
            have gf := fun i => R8.out.frozen i
            have q0 : W8.cell? ⟨g, k * 2 + 0, none⟩ = some (.int .i64 x) := R8.out.at_ hitE_len HROW.out.2.2.2.2.2.1 (i := 0) rfl
            have q1 : W8.cell? ⟨g, k * 2 + 1, none⟩ = some (.int .i64 ly) := R8.out.at_ hitE_len HROW.out.2.2.2.2.2.1 (i := 1) rfl
            simp at v0 v1 q0
            go_upto_region 10 with (fail)
            go_name_world W9 hW9
            have O9 := hide (show W9.ownsRow w1.heap.size 33 2 (.slice (some ⟨g, 0, none⟩) (k + 1) c2) (k + 1) ((ini ++ [(x, y)]).flatMap hitE) by rw [← hW9]; exact put_last R8.out HROW.out.2.2.2.2.2.2 HROW.out.2.1 HROW.out.2.2.1 HROW.out.2.2.2.1 HROW.out.2.2.2.2.1)
            have V9 := hide (show Blk W9 wr.heap.size 33 _ by rw [← hW9]; exact (V8.out.far (p := ⟨g, k * 2, none⟩) (Ne.symm hng.out) _).far (p := ⟨g, k * 2 + 1, none⟩) (Ne.symm hng.out) _)
            have B9 := hide (show Below w1.heap.size w1 W9 by rw [← hW9]; exact (B8.out.setCell (p := ⟨g, k * 2, none⟩) HROW.out.2.1 _).setCell (p := ⟨g, k * 2 + 1, none⟩) HROW.out.2.1 _)
            clear hW9 v0 v1 q0 q1 gf
            have v0 := V9.out.cell 0
            have v1 := V9.out.cell 1
            have cs9 := (B9.out.cell (p := ⟨nb, noff + y, none⟩) hnb).trans cs
            simp at v0 v1
            go_quiet (fail)
            go_wp2_with fail
            go_roundg (N1 - (j + 1))
            case measure => omega
            case rel => exact ⟨j + 1, k + 1, e2, ini ++ [(x, y)], some ⟨g, 0, none⟩, c2, by omega, by go_num, rfl, rfl, by omega, he2b, own_drewN O9.out _, by rw [HST.out, long_put (l := (x, ly)) (x := (x, y)) rfl (by rw [HNZ.out, HNX.out]; exact HZ.out), HNX.out, HE2.out]; exact rfl, by intro z hz; rcases List.mem_append.1 hz with hz | hz; exact HY.out z (List.mem_append_left _ hz); rw [List.mem_singleton] at hz; subst hz; exact HXY.out, below_drewN' B9.out _⟩
          · have d1 : decide ((Z : Int) < (X : Int)) = false := by simp; omega
            have d2 : decide (Z < X) = false := by simp; omega
            have HZ := hide hzx
            clear hzx
            go_upto_region 7 with (fail)
            go_quiet (fail)
            go_upto_region 8 with (fail)
            go_quiet (fail)
            go_wp2_with fail
            go_roundg (N1 - (j + 1))
            case measure => omega
            case rel => exact ⟨j + 1, k + 1, e, ini ++ [(x, ly)], some ⟨g, 0, none⟩, c2, by omega, by go_num, rfl, rfl, by omega, he, own_drewN O5.out _, by rw [HST.out, long_same (l := (x, ly)) (x := (x, y)) rfl (by rw [HNZ.out, HNX.out]; exact HZ.out)]; exact rfl, HY.out, below_drewN' B5.out _⟩
        · have hHL := hide hxl
          have dq : ((x : Int) == (lx : Int)) = false := by rw [beq_eq_false_iff_ne]; omega
          have dq' : (x == lx) = false := by rw [beq_eq_false_iff_ne]; omega
          clear hxl
          by_cases hex : e ≤ x
          · have hHX := hide hex
            have hex' : (e : Int) ≤ x := by omega
            clear hex
            go_upto_region 7 with (fail)
            go_quiet (fail)
            go_upto_region 12 with (fail)
            go_name_world W7 hW7
            have O7 := hide (show W7.ownsRow w1.heap.size 33 2 (.slice (some ⟨g, 0, none⟩) (k + 1) c2) (k + 1) _ by rw [← hW7]; exact own_drewN O5.out _)
            have V7 := hide (show Blk W7 wr.heap.size 33 _ by rw [← hW7]; exact V5.out.drewN _)
            have B7 := hide (show Below w1.heap.size w1 W7 by rw [← hW7]; exact below_drewN' B5.out _)
            have z7 := B7.out.size
            clear hW7 v0 v1
            have v0 := V7.out.cell 0
            have v1 := V7.out.cell 1
            simp at v0 v1
            go_upto_region 13 with (at_builtin; go_must (refine wpList_append1 Try.sl26 rfl _ _ rfl w1.heap.size (.slice (some ⟨g, 0, none⟩) (k + 1) c2) (k + 1) _ #[.int .i64 x, .int .i64 y] W7 1 rfl rfl rfl O7.out rfl (two_cell rfl rfl) (by simp only [maxLen]; omega) (by omega) z7 ?_; intro A3 c3 w3 app; have V3 := hide ((V7.out.alloc _).grown app.grown NE.out); have B3 := hide (app.below (O7.out.alloc _) (B7.out.alloc z7 _) (Nat.le_refl _) (by simp; omega)); have O3 := hide (own_snocE (E := hitE) (x, y) app.own rfl); clear app))
            clear v0 v1
            have v0 := V3.out.cell 0
            have v1 := V3.out.cell 1
            have cs3 := (B3.out.cell (p := ⟨nb, noff + y, none⟩) hnb).trans cs
            simp at v0 v1
            go_quiet (fail)
            go_wp2_with fail
            go_roundg (N1 - (j + 1))
            case measure => omega
            case rel => exact ⟨j + 1, (k + 1) + 1, e2, (ini ++ [(lx, ly)]) ++ [(x, y)], A3, c3, by omega, by go_num, rfl, rfl, by omega, he2b, own_drewN O3.out _, by rw [HST.out, long_app (x := (x, y)) hHL.out hHX.out, HNX.out, HE2.out]; exact rfl, by intro z hz; rcases List.mem_append.1 hz with hz | hz; exact HY.out z hz; rw [List.mem_singleton] at hz; subst hz; exact HXY.out, below_drewN' B3.out _⟩
          · have hHX := hide hex
            have hex' : ¬ (e : Int) ≤ x := by omega
            clear hex
            go_upto_region 7 with (fail)
            go_quiet (fail)
            go_wp2_with fail
            go_roundg (N1 - (j + 1))
            case measure => omega
            case rel => exact ⟨j + 1, k + 1, e, ini ++ [(lx, ly)], some ⟨g, 0, none⟩, c2, by omega, by go_num, rfl, rfl, by omega, he, own_drewN O5.out _, by rw [HST.out, long_off (x := (x, y)) hHL.out hHX.out]; exact rfl, HY.out, below_drewN' B5.out _⟩
    · obtain rfl : j = N1 := by omega
      go_wp2
      go_ret
      have : longF (needs ns) hits = out := by unfold longF; rw [HN1.out, HL.out]
      rw [this]
      exact ⟨A2, k, c2, rfl, own_mono HO.out B1.out.size, below_in B1.out HB.out (Nat.le_refl _)⟩
end Go.Proofs.Ytkcmpddefohkeaa
