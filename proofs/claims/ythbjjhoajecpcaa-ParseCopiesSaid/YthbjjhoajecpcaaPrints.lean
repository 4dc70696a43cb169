/-
  The parser's prints and inHead walked. No condition but bounds.
-/
import Derived.Test.YthbjjhoajecpcaaFin
namespace Go.Proofs.Ythbjjhoajecpcaa
open Go.RowKit Go.Proofs
set_option linter.unusedVariables false
def execE (c : Int) : Ev := ⟨1, 0, c, 0, [], [], [], false⟩
def printE (r : Int) : Ev := ⟨0, r, 0, 0, [], [], [], false⟩
def print1 (s : Ps) (r : Int) : List Ev × Ps :=
  if r < 32 then ([execE r], s) else if r = 127 then ([], s) else if 128 ≤ r ∧ r < 160 then finalM s (r - 64) else ([printE r], s)
def printsM (s : Ps) : List Int → List Ev × Ps
  | [] => ([], s)
  | r :: l => ((print1 s r).1 ++ (printsM (print1 s r).2 l).1, (printsM (print1 s r).2 l).2)
theorem prints_snoc : ∀ (l : List Int) (s : Ps) (r : Int), printsM s (l ++ [r]) = ((printsM s l).1 ++ (print1 (printsM s l).2 r).1, (print1 (printsM s l).2 r).2)
  | [], s, r => by simp [printsM]
  | x :: l, s, r => by simp [printsM, prints_snoc l]
theorem final_len (s : Ps) (c : Int) : (finalM s c).1.length ≤ 1 := by
  unfold finalM escM
  (repeat' split) <;> simp
theorem print1_len (s : Ps) (r : Int) : (print1 s r).1.length ≤ 1 := by
  unfold print1
  (repeat' split)
  · simp
  · simp
  · exact final_len _ _
  · simp
theorem prints_len : ∀ (l : List Int) (s : Ps), (printsM s l).1.length ≤ l.length
  | [], s => by simp [printsM]
  | r :: l, s => by
    have := print1_len s r
    have := prints_len l (print1 s r).2
    simp [printsM]; omega
/-- The loop's state: events so far, the parser, the scalars. -/
structure PrInv (P : Nat) (r : Rows3) (w : World) (base : Nat) (A : Option Addr) (n c : Nat) (l : List Int) (s' : Ps) (v : Value) (evs : List Ev) (wr : World) : Prop where
  post : PPost P r s' w wr
  ev : EvRow wr w.heap.size v evs.length evs
  own : wr.ownsRow base 21 1 (.slice A n c) n (l.map r32)
section
variable {P : Nat} {s s' s2 : Ps} {r : Rows3} {w wr w2 : World} {base n c : Nat} {A : Option Addr} {l : List Int} {v : Value} {evs evs2 : List Ev}
theorem PPost.size (h : PPost P r s' w wr) : w.heap.size ≤ wr.heap.size := by obtain ⟨r', _, h2, _⟩ := h; exact h2.size
/-- Behind an append to the events' row of the call's own. -/
theorem PPost.grown {w3 : World} {m k : Nat} {v' : Value} {xs ys : List Value} (h : PPost P r s' w wr) (hown : wr.ownsRow w.heap.size 41 8 v k xs) (app : App wr w.heap.size 41 8 v v' m ys w3) : PPost P r s' w w3 := by
  obtain ⟨r', h1, h2, h3⟩ := h
  have f : Frm (fun i => v.ownBlock = some i) wr w3 := app.frm (Frm.refl _ wr) (fun i hi _ => hi)
  refine ⟨r', h1.frm f (fun i hi hv => own_ps h1 hown (by decide) (by decide) hv hi), app.frm h2 (fun i hi hlt => ?_), h3⟩
  have := (hown.lt i hi).1
  omega
theorem PPost.alloc (h : PPost P r s' w wr) (o : Obj) : PPost P r s' w (wr.alloc o) := h.call ((Below.refl _ _).alloc (Nat.le_refl _) _)
/-- One event more. -/
theorem pr_one {w3 : World} {A2 A3 : Option Addr} {k c2 c3 : Nat} {xs : List (Ev × Value)} {e : Ev} {u : Value} (hp : PPost P r s' w wr) (h1 : xs.map Prod.fst = evs) (h2 : wr.ownsRow w.heap.size 41 8 (.slice A2 k c2) k (xs.flatMap evC)) (h3 : ∀ x ∈ xs, NumsAt wr x.2 x.1.nums) (hu : NumsAt wr u e.nums) (ho : wr.ownsRow base 21 1 (.slice A n c) n (l.map r32))
    (app : App (wr.alloc (.cells (evC (e, u)).toArray 41)) w.heap.size 41 8 (.slice A2 k c2) (.slice A3 (k + 1) c3) (k + 1) (xs.flatMap evC ++ evC (e, u)) w3) :
    PPost P r s' w w3 ∧ EvRow w3 w.heap.size (.slice A3 (k + 1) c3) (k + 1) (evs ++ [e]) ∧ w3.ownsRow base 21 1 (.slice A n c) n (l.map r32) := by
  have h2' := h2.alloc (.cells (evC (e, u)).toArray 41)
  refine ⟨(hp.alloc _).grown h2' app, EvRow.snoc h1 h2 h3 hu app, (ho.alloc _).kept app.grown (own_ne' (ho.alloc _) h2' (by decide))⟩
theorem pr_more {w3 : World} {A2 A3 : Option Addr} {k m c2 c3 : Nat} {xs ys : List (Ev × Value)} (hp : PPost P r s' w wr) (h1 : xs.map Prod.fst = evs) (h2 : wr.ownsRow w.heap.size 41 8 (.slice A2 k c2) k (xs.flatMap evC)) (h3 : ∀ x ∈ xs, NumsAt wr x.2 x.1.nums) (k1 : ys.map Prod.fst = evs2) (k3 : ∀ x ∈ ys, NumsAt wr x.2 x.1.nums) (ho : wr.ownsRow base 21 1 (.slice A n c) n (l.map r32))
    (app : App wr w.heap.size 41 8 (.slice A2 k c2) (.slice A3 (k + m) c3) (k + m) (xs.flatMap evC ++ ys.flatMap evC) w3) :
    PPost P r s' w w3 ∧ EvRow w3 w.heap.size (.slice A3 (k + m) c3) (k + m) (evs ++ evs2) ∧ w3.ownsRow base 21 1 (.slice A n c) n (l.map r32) :=
  ⟨hp.grown h2 app, EvRow.app h1 h2 h3 k1 k3 app, ho.kept app.grown (own_ne' ho h2 (by decide))⟩
end
set_option maxRecDepth 100000 in
set_option maxHeartbeats 4000000 in
theorem prints_any (P : Nat) (s : Ps) (r : Rows3) (base n c : Nat) (A : Option Addr) (l : List Int) (w : World) (h : PIn w P s r) (ho : w.ownsRow base 21 1 (.slice A n c) n (l.map r32)) (hn : n ≤ 1000) (hr : ∀ x ∈ l, 0 ≤ x ∧ x ≤ 3000000) :
    Calls Try.prog 20 #[.pointer (some ⟨P, 0, none⟩), .slice A n c] w (EvPost P r (printsM s l).2 (printsM s l).1 w) := by
  have HL := hide (own_len1 ho)
  have HR := hide hr
  have hbase : w.heap.size ≤ w.heap.size := Nat.le_refl _
  go_enter Try.func20, Try.ntmps20
  go_wp2
  go_loopg [5, 10] n (fun g s5 s10 wr => ∃ (k : Nat), k + g = n ∧ s10 = .int .i64 k ∧ Hid (PPost P r (printsM s (l.take k)).2 w wr) ∧ Hid (EvRow wr w.heap.size s5 (printsM s (l.take k)).1.length (printsM s (l.take k)).1) ∧ wr.ownsRow base 21 1 (.slice A n c) n (l.map r32))
  case atStart => exact ⟨0, by omega, rfl, PPost.refl h, EvRow.nil _ _ 0, ho⟩
  case round =>
    clear h ho
    obtain ⟨k, hk, rfl, HP, HE, ho⟩ := hrel
    have hls := prints_len (l.take k) s
    have hPlt := HP.out.size
    obtain ⟨evs, hevs⟩ : ∃ evs, (printsM s (l.take k)).1 = evs := ⟨_, rfl⟩
    obtain ⟨s', hs'⟩ : ∃ s', (printsM s (l.take k)).2 = s' := ⟨_, rfl⟩
    rw [hevs] at HE hls
    rw [hs'] at HP
    by_cases hlt : k < n
    · obtain ⟨x, hx⟩ : ∃ x, l[k]? = some x := ⟨_, List.getElem?_eq_getElem (by rw [← HL.out]; exact hlt)⟩
      have hb := HR.out x (List.mem_of_getElem? hx)
      have hsn : printsM s (l.take (k + 1)) = (evs ++ (print1 s' x).1, (print1 s' x).2) := by rw [take_snoc hx, prints_snoc, hevs, hs']
      have HS := hide hsn
      have hle : evs.length ≤ 1000 := by rw [List.length_take] at hls; omega
      obtain ⟨b, off, y, rfl, hbl, hy, hcell⟩ := (Rd.of_own ho).at1 hlt
      obtain rfl : x = y := by rw [hx] at hy; injection hy
      obtain ⟨Ae, ce, rfl⟩ := HE.out.form
      unfold r32 at hcell
      have HO := hide ho
      obtain ⟨m, hm⟩ : ∃ m, evs.length = m := ⟨_, rfl⟩
      rw [hm] at HE hle ⊢
      have HM := hide hm
      clear hx hy hsn hls hevs hs' hm ho
      by_cases k1 : x < 32
      · have HQ := hide (show print1 s' x = ([execE x], s') by unfold print1; rw [if_pos k1])
        have e8 : IntKind.u8.wrap x = x := IntWalk.u8_in _ (by omega)
        obtain ⟨xs, h1, h2, h3⟩ := HE.out
        have H1 := hide h1
        have H2 := hide h2
        have H3 := hide h3
        clear h1 h2 h3 HE
        go_wp2_with (at_builtin; go_must (refine wpList_append1 Try.sl27 rfl _ _ rfl w.heap.size (.slice Ae m ce) m _ (evC (execE x, .slice none 0 0)).toArray wr 1 rfl rfl rfl H2.out rfl (ev_cells _ _ _ _) (by simp only [maxLen]; omega) (by omega) hPlt ?_; intro A3 c3 w3 app))
        have FIN := hide (pr_one (e := execE x) HP.out H1.out H2.out H3.out (nums_none wr 0) HO.out app)
        go_roundg (n - (k + 1))
        case measure => omega
        case rel =>
          have e1 := FIN.out
          refine ⟨k + 1, by omega, by simp, ?_, ?_, e1.2.2⟩
          · show PPost _ _ _ _ _
            rw [HS.out, HQ.out]
            exact e1.1
          · show EvRow _ _ _ _ _
            rw [HS.out, HQ.out, List.length_append, HM.out]
            exact e1.2.1
      · have d1 : decide (x < 32) = false := by simpa using k1
        by_cases k2 : x = 127
        · have HQ := hide (show print1 s' x = ([], s') by unfold print1; rw [if_neg k1, if_pos k2])
          subst k2
          have HO2 := HO.out
          go_wp2_with fail
          go_roundg (n - (k + 1))
          case measure => omega
          case rel =>
            refine ⟨k + 1, by omega, by simp, ?_, ?_, HO2⟩
            · show PPost _ _ _ _ _
              rw [HS.out, HQ.out]
              exact HP.out
            · show EvRow _ _ _ _ _
              rw [HS.out, HQ.out, List.append_nil, HM.out]
              exact HE.out
        · have d2 : (x == 127) = false := by simpa using k2
          by_cases k3 : 128 ≤ x ∧ x < 160
          · have HQ := hide (show print1 s' x = finalM s' (x - 64) by unfold print1; rw [if_neg k1, if_neg k2, if_pos k3])
            obtain ⟨r', p1, p2, p3⟩ := HP.out
            obtain ⟨k3, k4⟩ := k3
            have e8 : IntKind.u8.wrap x = x := IntWalk.u8_in _ (by omega)
            have e9 : IntKind.u8.wrap (x - 64) = x - 64 := IntWalk.u8_in _ (by omega)
            have FI := hide (final_any P s' r' (x - 64) wr p1)
            have fl := final_len s' (x - 64)
            obtain ⟨fe, hfe⟩ : ∃ fe, finalM s' (x - 64) = fe := ⟨_, rfl⟩
            rw [hfe] at FI HQ fl
            obtain ⟨evs2, s2⟩ := fe
            have P1 := hide p1
            have P2 := hide p2
            have P3 := hide p3
            obtain ⟨m2, hm2⟩ : ∃ m2, evs2.length = m2 := ⟨_, rfl⟩
            have HM2 := hide hm2
            have fl : m2 ≤ 1 := by rw [← hm2]; exact fl
            have FI : Hid (Calls Try.prog 32 #[.pointer (some ⟨P, 0, none⟩), .int .u8 (x - 64)] wr (fun e w' => ∃ A c, e = .returned (.slice A m2 c) ∧ EvRow w' wr.heap.size (.slice A m2 c) m2 evs2 ∧ PPost P r' s2 wr w')) := by
              have := FI.out
              unfold EvPost at this
              rw [hm2] at this
              exact this
            clear p1 p2 p3 hfe hm2
            go_wp2_with (first
              | (go_at_call 32; go_must (refine FI.out.mono ?_; rintro e w1 ⟨A2, c2, rfl, he2, hp2⟩; have z1 := hp2.size; have he1 := HE.out.over P1.out hp2; have ho1 := own_over HO.out P1.out hp2 (by decide) (by decide); obtain ⟨xs, h1, h2, h3⟩ := he1; obtain ⟨ys, j1, j2, j3⟩ := he2; have H1 := hide h1; have H2 := hide h2; have H3 := hide h3; have J1 := hide j1; have J3 := hide j3; have HO1 := hide ho1; have HP2 := hide (PPost.trans P2.out P3.out hp2); have hrd := Rd.of_own j2; clear h1 h2 h3 j1 ho1 hp2 j2))
              | (at_builtin; go_must (refine wpList_appends Try.sl27 rfl _ _ rfl w.heap.size (.slice Ae m ce) m _ w1 w1.heap.size A2 m2 c2 _ rfl rfl H2.out hrd (one_evC ys (fun x hx => nums_one (J3.out x hx))) (by simp only [maxLen]; omega) (by omega) (by omega) ?_; intro A3 c3 w3 app)))
            have FIN := hide (pr_more HP2.out H1.out H2.out H3.out J1.out J3.out HO1.out app)
            go_roundg (n - (k + 1))
            case measure => omega
            case rel =>
              have e1 := FIN.out
              refine ⟨k + 1, by omega, by simp, ?_, ?_, e1.2.2⟩
              · show PPost _ _ _ _ _
                rw [HS.out, HQ.out]
                exact e1.1
              · show EvRow _ _ _ _ _
                rw [HS.out, HQ.out, List.length_append, HM.out, HM2.out]
                exact e1.2.1
          · have HQ := hide (show print1 s' x = ([printE x], s') by unfold print1; rw [if_neg k1, if_neg k2, if_neg k3])
            have cs : (¬ 128 ≤ x) ∨ (128 ≤ x ∧ ¬ x < 160) := by omega
            clear k3
            rcases cs with k4 | ⟨k4, k5⟩
            · have d3 : decide (128 ≤ x) = false := by simpa using k4
              obtain ⟨xs, h1, h2, h3⟩ := HE.out
              have H1 := hide h1
              have H2 := hide h2
              have H3 := hide h3
              clear h1 h2 h3 HE
              go_wp2_with (at_builtin; go_must (refine wpList_append1 Try.sl27 rfl _ _ rfl w.heap.size (.slice Ae m ce) m _ (evC (printE x, .slice none 0 0)).toArray wr 1 rfl rfl rfl H2.out rfl (ev_cells _ _ _ _) (by simp only [maxLen]; omega) (by omega) hPlt ?_; intro A3 c3 w3 app))
              have FIN := hide (pr_one (e := printE x) HP.out H1.out H2.out H3.out (nums_none wr 0) HO.out app)
              go_roundg (n - (k + 1))
              case measure => omega
              case rel =>
                have e1 := FIN.out
                refine ⟨k + 1, by omega, by simp, ?_, ?_, e1.2.2⟩
                · show PPost _ _ _ _ _
                  rw [HS.out, HQ.out]
                  exact e1.1
                · show EvRow _ _ _ _ _
                  rw [HS.out, HQ.out, List.length_append, HM.out]
                  exact e1.2.1
            · have d3 : decide (x < 160) = false := by simpa using k5
              obtain ⟨xs, h1, h2, h3⟩ := HE.out
              have H1 := hide h1
              have H2 := hide h2
              have H3 := hide h3
              clear h1 h2 h3 HE
              go_wp2_with (at_builtin; go_must (refine wpList_append1 Try.sl27 rfl _ _ rfl w.heap.size (.slice Ae m ce) m _ (evC (printE x, .slice none 0 0)).toArray wr 1 rfl rfl rfl H2.out rfl (ev_cells _ _ _ _) (by simp only [maxLen]; omega) (by omega) hPlt ?_; intro A3 c3 w3 app))
              have FIN := hide (pr_one (e := printE x) HP.out H1.out H2.out H3.out (nums_none wr 0) HO.out app)
              go_roundg (n - (k + 1))
              case measure => omega
              case rel =>
                have e1 := FIN.out
                refine ⟨k + 1, by omega, by simp, ?_, ?_, e1.2.2⟩
                · show PPost _ _ _ _ _
                  rw [HS.out, HQ.out]
                  exact e1.1
                · show EvRow _ _ _ _ _
                  rw [HS.out, HQ.out, List.length_append, HM.out]
                  exact e1.2.1
    · obtain ⟨Ae, ce, rfl⟩ := HE.out.form
      have hkn : k = n := by omega
      have HT := hide (show l.take k = l from List.take_of_length_le (by rw [← HL.out]; omega))
      rw [HT.out] at hevs hs'
      have HV := hide hevs
      have HS := hide hs'
      clear hevs hs'
      go_wp2
      go_ret
      rw [HV.out, HS.out]
      exact ⟨Ae, ce, rfl, HE.out, HP.out⟩
end Go.Proofs.Ythbjjhoajecpcaa
