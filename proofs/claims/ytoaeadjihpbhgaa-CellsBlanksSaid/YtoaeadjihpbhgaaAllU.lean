/-
  All, walked: the loop over the iterator. No condition but bounds.
-/
import Derived.Test.YtoaeadjihpbhgaaIter
namespace Go.Proofs.Ytoaeadjihpbhgaa
open Go.RowKit Go.Proofs
set_option linter.unusedVariables false
attribute [local go_sem] Oper.semAt_some
theorem read_any (A : Option Addr) (n c : Nat) (w : World) : Calls Try.prog 75 #[.slice A n c] w fun e w' => e = .returned (.func (.func 80) #[] #[.pointer (some ⟨w.heap.size, 0, none⟩)]) ∧ w' = w.alloc (.cells #[.slice A n c] 51) := by
  go_enter Try.func75, Try.ntmps75
  go_wp2
  go_ret
  exact ⟨rfl, rfl⟩
theorem put_frm {S : Nat → Prop} {w W : World} {l : Nat} (h : Frm S w W) (o : Obj) (hl : l < w.heap.size → S l) : Frm S w (W.putObj l o) :=
  ⟨h.os, h.tape, h.output, by rw [World.putObj_size]; exact h.size, fun k hk hn => (World.putObj_heap_other (fun e => hn (by subst e; exact hl hk))).trans (h.block k hk hn)⟩
/-- What the body of the loop leaves: its variable holds one more. -/
def BodyPost (base B : Nat) (pre : List Int) (x : Int) (v : Value) (W : World) (e : Exit) (_ : Act) (W' : World) : Prop :=
  e = .normal ∧ ∃ v', Blk W' B 73 #[v'] ∧ W'.ownsRow base 21 1 v' (pre ++ [x]).length ((pre ++ [x]).map r32) ∧ Frm (fun k => k = B ∨ v.ownBlock = some k) W W' ∧ (v'.ownBlock = v.ownBlock ∨ ∃ g, v'.ownBlock = some g ∧ W.heap.size ≤ g)
/-- The loop over the iterator. -/
theorem range_law {ps : Array Tmp} {assign body : Code} {Q : Exit → Act → World → Prop} {a : Act} {W0 w0 : World} {g : Operand} {m base B bb : Nat} {A : Option Addr} {n c : Nat} {b : List Int}
    (hg : a.eval g = .func (.func 80) #[] #[.pointer (some ⟨bb, 0, none⟩)]) (hps : ps.size = 1)
    (hbox : Blk W0 B 73 #[.slice none 0 0]) (hbel : Below base w0 W0) (hB : base ≤ B) (hs : base ≤ W0.heap.size) (hbb : Blk W0 bb 51 #[.slice A n c])
    (hr : Rd w0 base 1 A n (b.map b8)) (hq : ∀ x ∈ b, IsByte x) (hn : n ≤ 1000000) (a₁ : Int → Act)
    (hassign : ∀ (l : Nat) (x : Int) (W : World) (K : Act → World → Prop), K (a₁ x) W →
      assign.wpIn (Fence.wide.inRound l) m Try.prog (Exit.then K (fun _ _ _ => False)) { tmps := (ps.zip #[Value.int .i32 x]).foldl (fun t (p, v) => t.setIfInBounds p v) a.tmps, defers := [] } W)
    (hbody : ∀ (l : Nat) (pre : List Int) (x : Int) (v : Value) (W : World), Blk W B 73 #[v] → W.ownsRow base 21 1 v pre.length (pre.map r32) → base ≤ W.heap.size → pre.length < 3000000 →
      body.wpIn (Fence.wide.inRound l) m Try.prog (BodyPost base B pre x v W) (a₁ x) W)
    (hdone : ∀ (D : Nat) (v : Value) (W : World), Blk W B 73 #[v] → W.ownsRow base 21 1 v (allF b).length ((allF b).map r32) → Below base w0 W → base ≤ D → W.heap[D]? = some (.deferred (some [])) →
      Q .normal { a with defers := { target := .collected D, args := #[] } :: a.defers } W) :
    (Code.rangeFunc g ps assign body).wpIn Fence.wide (m + 2) Try.prog Q a W0 := by
  refine wpIn_rangeFunc ?_
  intro fn hfn
  obtain ⟨rec, hrec⟩ : ∃ rec : LoopState → Option Code → Loop, rec = fun st pe => { state := st, pending := pe, fn, tmps := a.tmps, params := ps, assign, body, defers := W0.heap.size } := ⟨_, rfl⟩
  obtain ⟨W1, hW1⟩ : ∃ W1, (W0.alloc (.deferred (some []))).alloc (.loop (rec .ready none)) = W1 := ⟨_, rfl⟩
  have hL1 : W1.heap[W0.heap.size + 1]? = some (.loop (rec .ready none)) := by
    rw [← hW1]; have := World.alloc_heap_new (W0.alloc (.deferred (some []))) (.loop (rec .ready none)); rwa [World.size_alloc] at this
  have hK1 : W1.heap[W0.heap.size]? = some (.deferred (some [])) := by
    rw [← hW1]; exact (Below.heap_alloc _ _ _ (by simp)).trans (World.alloc_heap_new W0 _)
  have hb1 : Below base w0 W1 := by rw [← hW1]; exact (hbel.alloc hs _).alloc (by simp; omega) _
  have hx1 : Blk W1 B 73 #[.slice none 0 0] := by rw [← hW1]; exact (hbox.alloc _).alloc _
  have hbb1 : Blk W1 bb 51 #[.slice A n c] := by rw [← hW1]; exact (hbb.alloc _).alloc _
  have hs1 : base ≤ W1.heap.size := by rw [← hW1]; simp; omega
  refine ⟨W0.heap.size + 1, [{ target := .collected W0.heap.size, args := #[] }], W1, { target := .fn (.func 80) #[.pointer (some ⟨bb, 0, none⟩)], args := #[.func (.yield (W0.heap.size + 1)) #[] #[]] }, W1, 80,
    #[.func (.yield (W0.heap.size + 1)) #[] #[]] ++ #[.pointer (some ⟨bb, 0, none⟩)], W1, ?_, ?_, ?_, ?_, fun _ => by omega, ?_⟩
  · rw [← hW1, hrec]; exact run_enterLoop_outer _ _ _ _ _
  · simp only [resolve, hg]
    simp [go_sem]
  · intro f' hf'; trivial
  · simp [invoke, go_sem]
  · refine (iter_in m (W0.heap.size + 1) W0.heap.size base B bb (rec .ready none) w0 A n c b ?_ W1 hbb1 hr hq hn (.slice none 0 0) hs1 ⟨hx1, World.ownsRow_nil _ _ _ _, hb1, hL1, hK1⟩).mono ?_
    · rintro pre x v W hj hlen
      have hl := hj.rec_
      have hlt := hj.lt
      have hy := run_yield (P := Try.prog) (args := #[Value.int .i32 x]) hl (by rw [hrec]; exact hps.symm)
      rw [hrec] at hy
      refine ⟨fn, _, assign, body, hy, roundIn_of_wpIn hfn (hassign _ x W _ ⟨_, run_beginRound hl (by rw [hrec]), ?_⟩)⟩
      have hsW : base ≤ W.heap.size := Nat.le_trans hB (Nat.le_of_lt hlt.1)
      obtain ⟨W2, hW2⟩ : ∃ W2, W.putObj (W0.heap.size + 1) (.loop { rec .ready none with state := .busy }) = W2 := ⟨_, rfl⟩
      have f2 : Frm (fun k => k = W0.heap.size + 1) W W2 := by rw [← hW2]; exact put_frm (Frm.refl _ _) _ (fun _ => rfl)
      have hB2 : Blk W2 B 73 #[v] := hj.box.frm f2 (hj.box.ne_rec hl)
      have hvl : ∀ k, v.ownBlock = some k → k ≠ W0.heap.size + 1 := by
        intro k hk
        rcases hj.row.2 with ⟨e, _⟩ | ⟨g, cap, cur, e, _, hh, _⟩
        · rw [e] at hk; cases hk
        · rw [e] at hk
          have : g = k := by simpa [Value.ownBlock] using hk
          subst this
          exact Blk.ne_rec (t := 21) (cs := cur) hh hl
      have hr2 : W2.ownsRow base 21 1 v pre.length (pre.map r32) := own_frm hj.row f2 (fun k hk => hvl k hk)
      have hl2 : W2.heap[W0.heap.size + 1]? = some (.loop { rec .ready none with state := .busy }) := by rw [← hW2]; exact World.putObj_heap_same hlt.2.1
      have hd2 : W2.heap[W0.heap.size]? = some (.deferred (some [])) := (f2.block _ hlt.2.2 (by show W0.heap.size ≠ _; omega)).trans hj.dfr
      rw [hW2]
      refine wpIn_mono (hbody _ pre x v W2 hB2 hr2 (Nat.le_trans hsW f2.size) hlen) ?_
      rintro e a3 W3 ⟨rfl, v', hB3, hr3, f3, ha3⟩
      have hl3 : W3.heap[W0.heap.size + 1]? = some (.loop { rec .ready none with state := .busy }) := by
        refine (f3.block _ (Nat.lt_of_lt_of_le hlt.2.1 f2.size) ?_).trans hl2
        rintro (e | e)
        · exact hB2.ne_rec hl2 e.symm
        · exact hvl _ e rfl
      have hd3 : W3.heap[W0.heap.size]? = some (.deferred (some [])) := by
        refine (f3.block _ (Nat.lt_of_lt_of_le hlt.2.2 f2.size) ?_).trans hd2
        rintro (e | e)
        · exact hB2.ne_dfr hd2 e.symm
        · rcases hr2.2 with ⟨e2, _⟩ | ⟨g, cap, cur, e2, _, hh, _⟩
          · rw [e2] at e; cases e
          · rw [e2] at e
            have : g = W0.heap.size := by simpa [Value.ownBlock] using e
            subst this
            exact Blk.ne_dfr (t := 21) (cs := cur) hh hd2 rfl
      have he := run_endRound (P := Try.prog) none hl3
      have hvl3 : ∀ k, v'.ownBlock = some k → k ≠ W0.heap.size + 1 := by
        intro k hk
        rcases hr3.2 with ⟨e, _⟩ | ⟨g, cap, cur, e, _, hh, _⟩
        · rw [e] at hk; cases hk
        · rw [e] at hk
          have : g = k := by simpa [Value.ownBlock] using hk
          subst this
          exact Blk.ne_rec (t := 21) (cs := cur) hh hl3
      obtain ⟨W4, hW4⟩ : ∃ W4, W3.putObj (W0.heap.size + 1) (.loop { rec .ready none with state := if (none : Option Code).isNone then .ready else .done, pending := none }) = W4 := ⟨_, rfl⟩
      have f4 : Frm (fun k => k = W0.heap.size + 1) W3 W4 := by rw [← hW4]; exact put_frm (Frm.refl _ _) _ (fun _ => rfl)
      refine ⟨_, _, he, rfl, v', ?_, ?_⟩
      · rw [show (W3.putObj (W0.heap.size + 1) (.loop { rec .ready none with state := if (none : Option Code).isNone then .ready else .done, pending := none })) = W4 from hW4]
        have z3 := Nat.le_trans f2.size f3.size
        have b23 : Below base w0 W3 := (hj.bel.trans (f2.to_below hsW (fun i e => by have e : i = W0.heap.size + 1 := e; omega))).trans (f3.to_below (Nat.le_trans hsW f2.size) (fun i e => by
          rcases e with e | e
          · omega
          · exact (hr2.lt i e).1))
        refine ⟨hB3.frm f4 (hB3.ne_rec hl3), own_frm hr3 f4 (fun k hk => hvl3 k hk), b23.trans (f4.to_below (Nat.le_trans hsW z3) (fun i e => by have e : i = W0.heap.size + 1 := e; omega)), ?_, ?_⟩
        · rw [← hW4]
          have := World.putObj_heap_same (w := W3) (r := W0.heap.size + 1) (o := .loop { rec .ready none with state := if (none : Option Code).isNone then .ready else .done, pending := none }) (Nat.lt_of_lt_of_le hlt.2.1 z3)
          rw [this, hrec]
          rfl
        · exact (f4.block _ (Nat.lt_of_lt_of_le hlt.2.2 z3) (by show W0.heap.size ≠ _; omega)).trans hd3
      · refine ⟨?_, ?_⟩
        · rw [show (W3.putObj (W0.heap.size + 1) (.loop { rec .ready none with state := if (none : Option Code).isNone then .ready else .done, pending := none })) = W4 from hW4]
          refine ((f2.mono (fun i _ e => Or.inl e)).trans (f3.mono (S' := fun k => k = W0.heap.size + 1 ∨ k = B ∨ v.ownBlock = some k) (fun i _ e => Or.inr e)) (fun i _ e => e)).trans f4 (fun i _ e => Or.inl e)
        · rcases ha3 with h1 | ⟨g, h1, h2⟩
          · exact .inl h1
          · exact .inr ⟨g, h1, Nat.le_trans f2.size h2⟩
    · rintro e W2 ⟨⟨v, rfl⟩, v', hj⟩
      have hl := hj.rec_
      have hlt := hj.lt
      have hend := run_endLoop (P := Try.prog) hl (by rw [hrec]; simp)
      have hsW : base ≤ W2.heap.size := Nat.le_trans hB (Nat.le_of_lt hlt.1)
      have hvl : ∀ k, v'.ownBlock = some k → k ≠ W0.heap.size + 1 := by
        intro k hk
        rcases hj.row.2 with ⟨e, _⟩ | ⟨g, cap, cur, e, _, hh, _⟩
        · rw [e] at hk; cases hk
        · rw [e] at hk
          have : g = k := by simpa [Value.ownBlock] using hk
          subst this
          exact Blk.ne_rec (t := 21) (cs := cur) hh hl
      obtain ⟨W4, hW4⟩ : ∃ W4, W2.putObj (W0.heap.size + 1) (.loop { rec .ready none with state := .exhausted }) = W4 := ⟨_, rfl⟩
      have f4 : Frm (fun k => k = W0.heap.size + 1) W2 W4 := by rw [← hW4]; exact put_frm (Frm.refl _ _) _ (fun _ => rfl)
      have hend2 : (Instr.endLoop (W0.heap.size + 1)).run Try.prog W2 = .ok none W4 := by
        rw [← hW4]
        have := hend
        rw [hrec] at this ⊢
        exact this
      exact ⟨none, W4, hend2, hdone W0.heap.size v' W4 (hj.box.frm f4 (hj.box.ne_rec hl)) (own_frm hj.row f4 (fun k hk => hvl k hk)) (hj.bel.trans (f4.to_below hsW (fun i e => by have e : i = W0.heap.size + 1 := e; omega))) hs
        ((f4.block _ hlt.2.2 (by show W0.heap.size ≠ _; omega)).trans hj.dfr)⟩
set_option maxRecDepth 100000 in
set_option maxHeartbeats 4000000 in
theorem all_any (b : List Int) (A : Option Addr) (n c : Nat) (w : World) (hrd : Rd w w.heap.size 1 A n (b.map b8)) (hq : ∀ x ∈ b, IsByte x) (hn : n ≤ 1000000) :
    Calls Try.prog 70 #[.slice A n c] w (RetSlice 21 1 ((allF b).map r32) w) := by
  have RE := hide (fun (W : World) => read_any A n c W)
  have HI := hide (fun (m l D base B bb : Nat) (L : Loop) (w0 : World) (hr : Rd w0 base 1 A n (b.map b8)) (hY : _) (W : World) (hbb : _) (v0 : Value) (hs0 : _) (h0 : _) => iter_in m l D base B bb L w0 A n c b hY W hbb hr hq hn v0 hs0 h0)
  have HR := hide hrd
  clear hrd
  refine (callsIn_wide (n := 5)).1 ?_
  refine callsIn_of_wp_marks Try.func70 rfl trivial ?_ rfl
  simp only [Try.ntmps70, List.size_toArray, List.length_cons, List.length_nil, Nat.reduceAdd, Nat.reduceSub, Array.replicate_succ, Array.replicate_zero, List.push_toArray, List.append_toArray, List.nil_append, List.cons_append]
  gi_wp2_with (refine ⟨trivial, ?_⟩; gi_at_call 75; refine (callsIn_wide.2 (RE.out _)).mono ?_; rintro e w' ⟨rfl, rfl⟩)
  refine range_law (m := 3) (g := .tmp 6) (base := w.heap.size) (B := w.heap.size) (bb := w.heap.size + 1) (A := A) (n := n) (c := c) (b := b) (w0 := w) rfl rfl ((Blk.new w 73 _).alloc _) (((Below.refl _ _).alloc (Nat.le_refl _) _).alloc (by simp) _) (Nat.le_refl _) (by simp; omega) (Blk.new' (by simp) 51 _) HR.out hq hn
    (fun x => { tmps := #[.slice A n c, undef, .slice none 0 0, .pointer (some ⟨w.heap.size, 0, none⟩), .int .i32 x, .slice A n c, .func (.func 80) #[] #[.pointer (some ⟨w.heap.size + 1, 0, none⟩)], .int .i32 x, undef, undef, undef, undef, undef], defers := [] }) ?assign ?body ?done
  case assign =>
    intro l x W K hK
    gi_wp2
    exact hK
  case body =>
    intro l pre x v W hb hr hs hl
    obtain ⟨A0, k0, rfl⟩ := own_slice hr
    have c0 : W.cell? ⟨w.heap.size, 0, none⟩ = some (.slice A0 pre.length k0) := hb.cell 0
    have f0 := hb.frozen 0
    have HB := hide hb
    have HR2 := hide hr
    have ones := one_r32 [x]
    have hra := hr.alloc (.cells #[.int .i32 x] 21)
    have hbl := hb.lt
    obtain ⟨i, z, ht, hi, hz, h2, h3, h4, h5⟩ := Try.sl73
    clear hb hr
    gi_wp2_with (gi_at_builtin; go_must (refine wpListIn_append_own_at _ rfl _ _ 73 rfl w.heap.size 21 i z 1 4 ht hi hz h2 h3 h4 h5 (.slice A0 pre.length k0) pre.length (pre.map r32) rfl hra ⟨W.heap.size, 0, none⟩ 1 1 [r32 x] rfl rfl (cell_one_new _ _ _) ones (by simp only [maxLen]; omega) (by omega) (by simp; omega) ?_; intro v' w1 hown' hgrow hnil hat; obtain ⟨A1, k1, rfl⟩ := own_slice hown'; have B1 := (HB.out.alloc (.cells #[.int .i32 x] 21)).grown hgrow (own_ne (HR2.out.alloc (.cells #[.int .i32 x] 21)) (HB.out.alloc (.cells #[.int .i32 x] 21)) (by decide)); have f1 := B1.frozen 0; have c1 : w1.cell? ⟨w.heap.size, 0, none⟩ = some (.slice A0 pre.length k0) := B1.cell 0))
    have f3 : Frm (fun k => k = w.heap.size ∨ (Value.slice A0 pre.length k0).ownBlock = some k) W w1 := ((Frm.refl _ W).alloc (.cells #[.int .i32 x] 21)).grown hgrow (fun k e _ => .inr e)
    have hne := own_ne hown' B1 (by decide)
    refine ⟨rfl, _, B1.set_ 0 _, ?_, f3.setCell (p := ⟨w.heap.size, 0, none⟩) (fun _ => .inl rfl) _, ?_⟩
    · have e1 : (pre ++ [x]).length = pre.length + 1 := by simp
      have e2 : (pre ++ [x]).map r32 = pre.map r32 ++ [r32 x] := by simp
      rw [e1, e2]
      exact own_far (p := ⟨w.heap.size, 0, none⟩) hown' hne _
    · rcases hat with h | h
      · exact .inl h
      · exact .inr ⟨_, h, by simp⟩
  case done =>
    intro D v W hb hr hbel hD hK
    have c0 : W.cell? ⟨w.heap.size, 0, none⟩ = some v := hb.cell 0
    have HBE := hide (hbel.trans (belowK_b (w := w) (Nat.le_refl _) W D _ (.deferred none) hD hK rfl rfl))
    have HR2 := hide (own_frm hr (put_frm (Frm.refl (fun k => k = D) W) (.deferred none) (fun _ => rfl)) (fun k hk e => by
      rcases hr.2 with ⟨e2, _⟩ | ⟨g, cap, cur, e2, _, hh, _⟩
      · rw [e2] at hk; cases hk
      · rw [e2] at hk
        have : g = k := by simpa [Value.ownBlock] using hk
        subst this
        exact Blk.ne_dfr (t := 21) (cs := cur) hh hK e))
    clear hb hr hbel
    gi_wp2
    refine ⟨by simp, .inl ⟨_, _, rfl, run_takeDeferred hK, ?_⟩⟩
    obtain ⟨A0, k0, rfl⟩ := own_slice HR2.out
    refine ⟨_, results_tmp rfl _ _ _, ?_⟩
    exact ⟨A0, _, k0, rfl, HR2.out, HBE.out⟩
end Go.Proofs.Ytoaeadjihpbhgaa
