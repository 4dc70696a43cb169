/-
  The document's Push, walked. No condition but bounds.
-/
import Derived.Test.YtailflbhcmgnpaaRefs
import Derived.Deep.RegionLaw
namespace Go.Proofs.Ytailflbhcmgnpaa
open Go.RowKit Go.Proofs
set_option linter.unusedVariables false
theorem rowsIn_add {ok : Nat → Prop} {w : World} {rows : List (Value × Value)} {L : List Row} {p : Value × Value} {R : Row} (h : RowsIn ok w rows L) (hv : RowV ok w p R) : RowsIn ok w (rows ++ [p]) (L ++ [R]) := by
  refine ⟨by simp [h.1], fun i S hS => ?_⟩
  rcases Nat.lt_or_ge i L.length with hi | hi
  · rw [List.getElem?_append_left hi] at hS
    obtain ⟨q, h1, h2⟩ := h.2 i S hS
    exact ⟨q, by rw [List.getElem?_append_left (by rw [h.1]; exact hi)]; exact h1, h2⟩
  · rw [List.getElem?_append_right hi] at hS
    have h0 : i - L.length = 0 := by
      have := (List.getElem?_eq_some_iff.1 hS).1
      simp at this
      omega
    rw [h0] at hS
    simp at hS
    subst hS
    exact ⟨p, by rw [List.getElem?_append_right (by rw [h.1]; exact hi), h.1, h0]; rfl, hv⟩
theorem rowsIn_cons {ok : Nat → Prop} {w : World} {rows : List (Value × Value)} {L : List Row} {p : Value × Value} {R : Row} (h : RowsIn ok w (p :: rows) (R :: L)) : RowV ok w p R ∧ RowsIn ok w rows L := by
  refine ⟨?_, by have := h.1; simpa using this, fun i S hS => ?_⟩
  · obtain ⟨q, h1, h2⟩ := h.2 0 R rfl
    simp at h1
    subst h1
    exact h2
  · obtain ⟨q, h1, h2⟩ := h.2 (i + 1) S (by simpa using hS)
    exact ⟨q, by simpa using h1, h2⟩
theorem own_first {w : World} {base g n c : Nat} {p : Value × Value} {rows : List (Value × Value)} (h : w.ownsRow base 30 2 (.slice (some ⟨g, 0, none⟩) (n + 1) c) (n + 1) (flatP (p :: rows))) :
    w.cell? ⟨g, 0, none⟩ = some p.1 ∧ w.cell? ⟨g, 1, none⟩ = some p.2 := by
  obtain ⟨b, off, q, e, _, h0, h1, h2⟩ := flatRd (Rd.of_own h) (show 0 < n + 1 by omega)
  injection e with e
  injection e with e1 e2
  subst e1 e2
  simp at h0
  subst h0
  exact ⟨by simpa using h1, by simpa using h2⟩
theorem some_of {w : World} {base e s n m c : Nat} {A : Option Addr} {xs : List Value} (h : w.ownsRow base e s (.slice A m c) n xs) (hn : 0 < n) : ∃ g, A = some ⟨g, 0, none⟩ ∧ base ≤ g ∧ g < w.heap.size := by
  obtain ⟨g, cap, hv, h1, h2⟩ := h.form hn
  injection hv with hv
  exact ⟨g, hv, h1, h2⟩
/-- What the first statement of Push leaves. -/
structure Mid (base m : Nat) (v v' : Value) (n : Nat) (rows : List (Value × Value)) (p q : Value × Value) (room gone : Nat) (w wx : World) : Prop where
  form : ∃ A c, v' = .slice A (n + 1) c
  blk : Blk wx m 53 (refC room v' gone)
  own : wx.ownsRow base 30 2 v' (n + 1) (flatP (rows ++ [p]))
  q1 : Blk wx w.heap.size 30 #[p.1, p.2]
  q2 : Blk wx (w.heap.size + 1) 30 #[q.1, q.2]
  frm : Frm (fun k => k = m ∨ v.ownBlock = some k) w wx
  slots : ∀ s, v'.ownBlock = some s → v.ownBlock = some s ∨ w.heap.size + 2 ≤ s
  keep : Keep45 any w wx
set_option maxHeartbeats 4000000 in
theorem rpush_t (base m : Nat) (v : Value) (L : List Row) (R : Row) (v1 v2 : Value) (room gone n : Nat) (w : World) (h : RefAt base w m v L room gone) (hv : RowV any w (v1, v2) R) (hn : L.length = n) (hr : n ≤ room) (hr2 : room ≤ 1000000) (hgn : gone ≤ 1000000000) (hb : base ≤ w.heap.size) :
    Calls Try.prog 19 #[.pointer (some ⟨m, 0, none⟩), .agg #[v1, v2]] w (MRow base m v (pL room L R) room (pG room L gone) (pO room L R) (pB room L) w) := by
  obtain ⟨hB, rows, hown, hrows⟩ := h
  rw [hn] at hown
  obtain ⟨A, c, rfl⟩ := own_slice hown
  obtain ⟨A1, n1, cc1, b1, rfl, rfl⟩ := row_form hv
  have hml := hB.lt
  have HH := hide (And.intro hB (And.intro hown (And.intro hrows hv)))
  have HN := hide hn
  clear hB hown hrows hv hn
  have hne2 : some (w.heap.size + 1) ≠ Value.ownBlock (.slice A n c) := own_new HH.out.2.1 (Nat.le_succ _)
  go_enter Try.func19, Try.ntmps19
  go_upto_region 1 with fail
  go_name_world W1 hW1
  obtain ⟨hB, hown, hrows, hv⟩ := HH.out
  have B1 : Below w.heap.size w W1 := by rw [← hW1]; exact ((Below.refl _ _).alloc (Nat.le_refl _) _).alloc (by simp) _
  have Z1 := hide (show W1.heap.size = w.heap.size + 2 by rw [← hW1]; simp)
  have Z1a : w.heap.size + 2 ≤ W1.heap.size := by rw [Z1.out]; exact Nat.le_refl _
  have q1 : Blk W1 w.heap.size 30 #[.slice A1 n1 cc1, .bool b1] := by rw [← hW1]; exact (Blk.new _ _ _).alloc _
  have q2 : Blk W1 (w.heap.size + 1) 30 #[.slice none 0 0, .bool false] := by rw [← hW1]; exact Blk.new' (by simp) _ _
  have m1 := hB.below B1 hml
  have o1 := own_call hown B1
  clear hW1 hB hown
  obtain ⟨c0, c1, c2, f0, f1, f2⟩ := blk3 m1
  obtain ⟨x0, x1, x2, x3⟩ := blk2 q1
  have z1 := Nat.le_trans hb B1.size
  have ef : W1.cell? ⟨m, 1, none⟩ = some (.slice A n c) ∧ W1.cell? ⟨w.heap.size, 0, none⟩ = some (.slice A1 n1 cc1) ∧ W1.cell? ⟨w.heap.size, 1, none⟩ = some (.bool b1) ∧ W1.frozen? ⟨m, 1, none⟩ = false := ⟨c1, x0, x1, f1⟩
  have hwl : w.heap.size < W1.heap.size := by omega
  have hml1 : m < W1.heap.size := by omega
  have hwl1 : w.heap.size + 1 < W1.heap.size := by omega
  have EF := hide (show ∀ W, Below W1.heap.size W1 W → W.cell? ⟨m, 1, none⟩ = some (.slice A n c) ∧ W.cell? ⟨w.heap.size, 0, none⟩ = some (.slice A1 n1 cc1) ∧ W.cell? ⟨w.heap.size, 1, none⟩ = some (.bool b1) ∧ W.frozen? ⟨m, 1, none⟩ = false from fun W hW => ⟨(hW.cell (p := ⟨m, 1, none⟩) hml1).trans c1, (hW.cell (p := ⟨w.heap.size, 0, none⟩) hwl).trans x0, (hW.cell (p := ⟨w.heap.size, 1, none⟩) hwl).trans x1, (hW.frozen (p := ⟨m, 1, none⟩) hml1).trans f1⟩)
  have M1 := hide m1
  have O1 := hide o1
  have Q := hide (And.intro q1 q2)
  have hne1 : some w.heap.size ≠ Value.ownBlock (.slice A n c) := own_new HH.out.2.1 (Nat.le_refl _)
  clear m1 o1 q1 q2
  go_cut [7] (fun s7 wx => ∃ v', s7 = .pointer (some ⟨m, 0, none⟩) ∧ Hid (Mid base m (.slice A n c) v' n rows (.slice A1 n1 cc1, .bool b1) (.slice none 0 0, .bool false) room gone w wx))
  case first =>
    go_region_law (refine step_append1 Try.sl46 (by rfl) _ _ (by rfl) base (.slice A n c) n _ #[.slice A1 n1 cc1, .bool b1] W1 1 (by rfl) (by rfl) rfl O1.out rfl (one_row _ _ _ _) (by simp only [maxLen]; omega) (by omega) z1 ?_; intro A3 c3 w3 app; have g3 : ∀ k, k < W1.heap.size → some k ≠ Value.ownBlock (.slice A n c) → w3.heap[k]? = W1.heap[k]? := (fun k hk hk2 => (app.grown.block k (by simp; omega) hk2).trans (Below.heap_alloc W1 _ k hk)); have m3 := hide (show Blk w3 m 53 _ from (g3 m hml1 (own_ne O1.out M1.out (by decide))).trans M1.out); have p3 := hide (show Blk w3 (w.heap.size + 1) 30 _ from (g3 _ hwl1 hne2).trans Q.out.2); have q3 := hide (show Blk w3 w.heap.size 30 _ from (g3 _ hwl hne1).trans Q.out.1); obtain ⟨c0, c1, c2, f0, f1, f2⟩ := blk3 m3.out; obtain ⟨x0, x1, x2, x3⟩ := blk2 q3.out)
    all_goals go_wp2_with fail
    all_goals go_meet
    all_goals refine ⟨.slice A3 (n + 1) c3, rfl, hide ?_⟩
    all_goals have hm6 : some m ≠ Value.ownBlock (.slice A3 (n + 1) c3) := own_ne app.own m3.out (by decide)
    all_goals refine ⟨⟨_, _, rfl⟩, ref_v m3.out _, ?_, q3.out.far (p := ⟨m, 1, none⟩) (show w.heap.size ≠ m by omega) _, p3.out.far (p := ⟨m, 1, none⟩) (show w.heap.size + 1 ≠ m by omega) _, ?_, ?_, ?_⟩
    all_goals have kk : Keep45 any w w3 := fun b cs _ h => app.blk ((h.below B1 h.lt).alloc _) (O1.out.alloc _) (by decide)
    all_goals first
      | (rw [flatP_snoc]; exact own_far (p := ⟨m, 1, none⟩) app.own hm6 _)
      | exact ((((Frm.of_below (S := fun k => k = m ∨ Value.ownBlock (.slice A n c) = some k) B1 (fun i h1 h2 => by omega)).alloc _).grown app.grown (fun k hk h2 => Or.inr hk)).setCell (p := ⟨m, 1, none⟩) (fun _ => Or.inl rfl) _)
      | exact kk.trans (keep45_set m3.out (by decide) 1 _)
      | (intro s e; rcases app.at_ with h | ⟨g, h, hg⟩; exact Or.inl (h ▸ e); (rw [h] at e; injection e with e; simp at hg; exact Or.inr (by omega)))
  case rest =>
    obtain ⟨v', rfl, HM⟩ := hcut
    obtain ⟨⟨A3, c3, rfl⟩, mb, mo, mq1, mq2, _, _, _⟩ := HM.out
    obtain ⟨c0, c1, c2, f0, f1, f2⟩ := blk3 mb
    obtain ⟨x0, x1, x2, x3⟩ := blk2 mq1
    obtain ⟨y0, y1, y2, y3⟩ := blk2 mq2
    have Hrows := hide (rowsIn_add (hrows.keep HM.out.keep) (hv.keep HM.out.keep))
    clear EF ef hrows hv B1 M1 O1 Q
    by_cases hroom : n + 1 ≤ room
    · have d1 : ((n : Int) + 1) ≤ room := by omega
      have d2 : decide ((n : Int) + 1 ≤ room) = true := by simpa using d1
      clear mb mo mq1 mq2
      go_wp2_with fail
      go_quiet (fail)
      go_wp2
      have q2 := HM.out.q2
      have a4 : Blk _ (w.heap.size + 1) 30 _ := ((q2.drewN nq).set_ 0 (.slice none 0 0)).set_ 1 (.bool false)
      obtain ⟨r0, r1, _⟩ := blk2 (a := .slice none 0 0) (b := .bool false) (by simpa using a4)
      refine bodyPost_ret (v := .tuple #[.agg #[.slice none 0 0, .bool false], .bool false]) (by simp [results, Try.results19, go_sem, r0, r1]) rfl ?_
      have hlt : L.length < room := by rw [HN.out]; omega
      have e1 : pL room L R = L ++ [R] := by unfold pL; rw [if_pos hlt]
      have e2 : pG room L gone = gone := by unfold pG; rw [if_pos hlt]
      have e3 : pO room L R = none := by unfold pO; rw [if_pos hlt]
      have e4 : pB room L = false := by unfold pB; simp; omega
      rw [e1, e2, e3, e4]
      have hm7 : some (w.heap.size + 1) ≠ Value.ownBlock (.slice A3 (n + 1) c3) := fun e => by
        rcases HM.out.slots _ e.symm with h | h
        · exact hne2 h.symm
        · omega
      have K4 := (keep45_drewN (ok := any) (w := wc) nq).trans ((keep45_set (ok := any) (q2.drewN nq) (by decide) 0 (.slice none 0 0)).trans (keep45_set ((q2.drewN nq).set_ 0 (.slice none 0 0)) (by decide) 1 (.bool false)))
      refine ⟨_, _, .slice A3 (n + 1) c3, rfl, rfl, ⟨((HM.out.blk.drewN nq).far (p := ⟨w.heap.size + 1, 0, none⟩) (show m ≠ w.heap.size + 1 by omega) _).far (p := ⟨w.heap.size + 1, 1, none⟩) (show m ≠ w.heap.size + 1 by omega) _, _, ?_, Hrows.out.keep K4⟩, ?_, fun s e => ?_, HM.out.keep.trans K4⟩
      · rw [List.length_append, List.length_singleton, HN.out]
        exact own_far (p := ⟨w.heap.size + 1, 1, none⟩) (own_far (p := ⟨w.heap.size + 1, 0, none⟩) (own_drewN HM.out.own nq) hm7 _) hm7 _
      · exact ((HM.out.frm.drewN nq).setCell (p := ⟨w.heap.size + 1, 0, none⟩) (fun h => absurd h (show ¬ w.heap.size + 1 < w.heap.size by omega)) _).setCell (p := ⟨w.heap.size + 1, 1, none⟩) (fun h => absurd h (show ¬ w.heap.size + 1 < w.heap.size by omega)) _
      · rcases HM.out.slots _ e with h | h
        · exact Or.inl h
        · exact Or.inr (by omega)
    · have d2 : decide ((n : Int) + 1 ≤ room) = false := by simp; omega
      obtain ⟨g3, rfl, hg3, hg3l⟩ := some_of mo (by omega)
      have hcap := (own_cap mo).1
      obtain ⟨p0, rows0, hp0⟩ : ∃ p0 rows0, rows ++ [(Value.slice A1 n1 cc1, Value.bool b1)] = p0 :: rows0 := by cases rows <;> exact ⟨_, _, rfl⟩
      obtain ⟨R0, L0, hL0⟩ : ∃ R0 L0, L ++ [R] = R0 :: L0 := by cases L <;> exact ⟨_, _, rfl⟩
      have hl0 : L0.length = n := by have := congrArg List.length hL0; simp at this; have := HN.out; omega
      have hr := Hrows.out
      rw [hp0] at mo hr
      rw [hL0] at hr
      obtain ⟨rv0, hr0⟩ := rowsIn_cons hr
      obtain ⟨v01, v02⟩ := p0
      obtain ⟨A0, n0, cc0, b0, rfl, rfl⟩ := row_form rv0
      obtain ⟨z0, z1⟩ := own_first mo
      have z0 : wc.cell? ⟨g3, 0, none⟩ = some (.slice A0 n0 cc0) := z0
      have z1 : wc.cell? ⟨g3, 1, none⟩ = some (.bool b0) := z1
      have hrd := (Rd.of_own mo).cutA (k := 1) (cap := c3) (by omega) hcap
      obtain ⟨X, hX⟩ : ∃ X, cutA (some ⟨g3, 0, none⟩) c3 1 2 = X := ⟨_, rfl⟩
      have hcut := fun W => cut_l (P := Try.prog) (t := 46) (e := 30) (a := some ⟨g3, 0, none⟩) (len := n + 1) (cap := c3) (s := 2) rfl (by kernel_rfl) (L := 1) 1 rfl (by omega) W
      rw [hX] at hrd hcut
      have hrest : (flatP ((Value.slice A0 n0 cc0, Value.bool b0) :: rows0)).drop (1 * 2) = flatP rows0 := by simp [flatP]
      rw [hrest] at hrd
      simp only [Nat.add_sub_cancel] at hrd hcut
      have HH2 := hide (And.intro rv0 (And.intro hr0 (And.intro hrd (And.intro hL0 hl0))))
      clear hX hrest hp0 hL0 hl0 hr rv0 hr0 hrd mb mo mq1 mq2 Hrows
      go_wp2_with fail
      go_quiet (fail)
      go_upto_region 4 with fail
      go_name_world Wq hWq
      have hwcz := HM.out.q2.lt
      have Bq : Below wc.heap.size wc Wq := by rw [← hWq]; exact drewN_below wc nq
      have zq : wc.heap.size = Wq.heap.size := by rw [← hWq]; rfl
      have c0 : Wq.cell? ⟨m, 0, none⟩ = some (.int .i64 room) := by rw [← hWq]; exact c0
      have c1 : Wq.cell? ⟨m, 1, none⟩ = some (.slice (some ⟨g3, 0, none⟩) (n + 1) c3) := by rw [← hWq]; exact c1
      have z0 : Wq.cell? ⟨g3, 0, none⟩ = some (.slice A0 n0 cc0) := by rw [← hWq]; exact z0
      have z1 : Wq.cell? ⟨g3, 1, none⟩ = some (.bool b0) := by rw [← hWq]; exact z1
      have zq := hide zq
      clear hWq
      go_upto_region 5 with fail
      go_name_world W4 hW4
      have B4 : Below wc.heap.size wc W4 := by rw [← hW4]; exact Bq.alloc (Nat.le_of_eq zq.out) _
      have Z4a : wc.heap.size < W4.heap.size := by rw [← hW4, zq.out]; simp
      have t4 : Blk W4 Wq.heap.size 30 #[.slice A0 n0 cc0, .bool b0] := by rw [← hW4]; exact Blk.new' rfl _ _
      have q4 := HM.out.q2.below B4 HM.out.q2.lt
      have m4 := HM.out.blk.below B4 HM.out.blk.lt
      have own2 := own_empty W4 30 2
      obtain ⟨rv0, hr0, hrd, hL0, hl0⟩ := HH2.out
      have rd2 := (hrd.below B4).alloc B4.size (.cells #[] 30)
      have h1 := ones_rows hr0
      obtain ⟨c0, c1, c2, f0, f1, f2⟩ := blk3 (m4.alloc (.cells #[] 30))
      have hml4 := m4.lt
      have hne3 : m ≠ W4.heap.size := by omega
      have AP := hide (And.intro own2 (And.intro rd2 h1))
      have Q4 := hide (And.intro t4 (And.intro q4 m4))
      have hzq : wc.heap.size ≤ Wq.heap.size := Nat.le_of_eq zq.out
      have hzq4 := t4.lt
      have hz4 : w.heap.size + 2 ≤ wc.heap.size := by omega
      have hne4 : some Wq.heap.size ≠ Value.ownBlock (.slice (some ⟨W4.heap.size, 0, none⟩) 0 0) := by simp [Value.ownBlock]; omega
      have hne5 : some (w.heap.size + 1) ≠ Value.ownBlock (.slice (some ⟨W4.heap.size, 0, none⟩) 0 0) := by simp [Value.ownBlock]; omega
      have BB4 := hide B4
      clear hW4 t4 q4 m4 own2 rd2 h1 rv0 hr0 hrd hL0 hl0 B4
      go_upto_region 6 with (at_builtin; go_must (refine wpList_appends Try.sl46 rfl _ _ rfl W4.heap.size (.slice (some ⟨W4.heap.size, 0, none⟩) 0 0) 0 [] _ wc.heap.size _ n (c3 - 1) (flatP rows0) rfl rfl AP.out.1 AP.out.2.1 AP.out.2.2 (by simp only [maxLen]; omega) (by omega) (by simp) ?_; intro A5 c5 w5 app; have B5 := hide (app.blk (Q4.out.2.2.alloc _) AP.out.1 (by decide)); have qa := (Q4.out.1.alloc (.cells #[] 30)).grown app.grown hne4; have qb := (Q4.out.2.1.alloc (.cells #[] 30)).grown app.grown hne5; obtain ⟨c0, c1, c2, f0, f1, f2⟩ := blk3 B5.out; have Q5 := hide (And.intro qa qb); clear qa qb))
      go_name_world W6 hW6
      have oo : w5.ownsRow W4.heap.size 30 2 (.slice A5 n c5) n (flatP rows0) := by have h := app.own; simp only [Nat.zero_add, List.nil_append] at h; exact h
      have hne6 : some m ≠ Value.ownBlock (.slice A5 n c5) := own_ne oo B5.out (by decide)
      have m6 : Blk W6 m 53 (refC room (.slice A5 n c5) gone) := by rw [← hW6]; exact ref_v B5.out _
      have kk : Keep45 any wc w5 := fun b cs _ h => app.blk ((h.below BB4.out h.lt).alloc _) AP.out.1 (by decide)
      have K6 : Keep45 any wc W6 := by rw [← hW6]; exact kk.trans (keep45_set B5.out (by decide) 1 _)
      have o6 : W6.ownsRow W4.heap.size 30 2 (.slice A5 n c5) n (flatP rows0) := by rw [← hW6]; exact own_far (p := ⟨m, 1, none⟩) oo hne6 _
      have F6 : Frm (fun k => k = m) wc W6 := by
        rw [← hW6]
        exact ((Frm.of_below (S := fun k => k = m) (BB4.out.alloc BB4.out.size _) (fun i h1 h2 => by omega)).grown app.grown (fun k hk h2 => by simp [Value.ownBlock] at hk; omega)).setCell (p := ⟨m, 1, none⟩) (fun _ => rfl) _
      have a6 : Blk W6 Wq.heap.size 30 #[.slice A0 n0 cc0, .bool b0] := by rw [← hW6]; exact Q5.out.1.far (p := ⟨m, 1, none⟩) (show Wq.heap.size ≠ m by omega) _
      have b6 : Blk W6 (w.heap.size + 1) 30 #[.slice none 0 0, .bool false] := by rw [← hW6]; exact Q5.out.2.far (p := ⟨m, 1, none⟩) (show w.heap.size + 1 ≠ m by omega) _
      obtain ⟨c0, c1, c2, f0, f1, f2⟩ := blk3 m6
      obtain ⟨x0, x1, x2, x3⟩ := blk2 a6
      obtain ⟨y0, y1, y2, y3⟩ := blk2 b6
      have M6 := hide (And.intro m6 (And.intro K6 (And.intro o6 (And.intro F6 (And.intro a6 b6)))))
      have hq : (gone : Int) + 1 = (gone + 1 : Nat) := by omega
      obtain ⟨q, hq1⟩ : ∃ q, gone + 1 = q := ⟨_, rfl⟩
      rw [hq1] at hq
      have HQ := hide hq1
      clear hW6 oo m6 K6 o6 F6 a6 b6 kk hq1
      go_wp2
      obtain ⟨m6, K6, o6, F6, a6, b6⟩ := M6.out
      have m7 := ref_g m6 q
      have b7 := b6.far (p := ⟨m, 2, none⟩) (show w.heap.size + 1 ≠ m by omega) (.int .u64 q)
      have b8 := (b7.set_ 0 (.slice A0 n0 cc0)).set_ 1 (.bool b0)
      obtain ⟨r0, r1, _⟩ := blk2 (a := .slice A0 n0 cc0) (b := .bool b0) (by simpa using b8)
      refine bodyPost_ret (v := .tuple #[.agg #[.slice A0 n0 cc0, .bool b0], .bool true]) (by simp [results, Try.results19, go_sem, r0, r1]) rfl ?_
      obtain ⟨rv0, hr0, hrd, hL0, hl0⟩ := HH2.out
      have hnlt : ¬ L.length < room := by rw [HN.out]; omega
      have e1 : pL room L R = L0 := by unfold pL; rw [if_neg hnlt, hL0]; rfl
      have e2 : pG room L gone = q := by unfold pG; rw [if_neg hnlt]; exact HQ.out
      have e3 : pO room L R = R0 := by unfold pO; rw [if_neg hnlt, hL0]; rfl
      have e4 : pB room L = true := by unfold pB; simp; omega
      rw [e1, e2, e3, e4]
      have hw1 : w.heap.size + 1 < W4.heap.size := by omega
      have hx : ∀ s, Value.ownBlock (.slice A5 n c5) = some s → W4.heap.size ≤ s := fun s e => (o6.lt s e).1
      have hne7 : some (w.heap.size + 1) ≠ Value.ownBlock (.slice A5 n c5) := fun e => by have := hx _ e.symm; omega
      have K7 := (keep45_set (ok := any) m6 (by decide) 2 (.int .u64 q)).trans ((keep45_set (ok := any) b7 (by decide) 0 (.slice A0 n0 cc0)).trans (keep45_set (b7.set_ 0 (.slice A0 n0 cc0)) (by decide) 1 (.bool b0)))
      have hwc0 : w.heap.size ≤ wc.heap.size := by omega
      refine ⟨_, _, .slice A5 n c5, rfl, rv0.keep (K6.trans K7), ⟨(m7.far (p := ⟨w.heap.size + 1, 0, none⟩) (show m ≠ w.heap.size + 1 by omega) _).far (p := ⟨w.heap.size + 1, 1, none⟩) (show m ≠ w.heap.size + 1 by omega) _, rows0, ?_, hr0.keep (K6.trans K7)⟩, ?_, fun s e => Or.inr (Nat.le_trans (by omega) (hx s e)), HM.out.keep.trans (K6.trans K7)⟩
      · rw [hl0]
        exact own_far (p := ⟨w.heap.size + 1, 1, none⟩) (own_far (p := ⟨w.heap.size + 1, 0, none⟩) (own_far (p := ⟨m, 2, none⟩) (own_mono o6 (by omega)) (own_ne o6 m6 (by decide)) _) hne7 _) hne7 _
      · exact (((HM.out.frm.trans (F6.mono (S' := fun k => k = m ∨ Value.ownBlock (.slice A n c) = some k) (fun i _ h => Or.inl h)) (fun i _ h => h)).setCell (p := ⟨m, 2, none⟩) (fun _ => Or.inl rfl) _).setCell (p := ⟨w.heap.size + 1, 0, none⟩) (fun h => absurd h (show ¬ w.heap.size + 1 < w.heap.size by omega)) _).setCell (p := ⟨w.heap.size + 1, 1, none⟩) (fun h => absurd h (show ¬ w.heap.size + 1 < w.heap.size by omega)) _
end Go.Proofs.Ytailflbhcmgnpaa
