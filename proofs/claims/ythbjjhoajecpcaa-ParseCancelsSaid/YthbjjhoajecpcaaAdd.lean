/-
  The document's add, cut walked. No condition but bounds.
-/
import Derived.Test.YthbjjhoajecpcaaRef
namespace Go.Proofs.Ythbjjhoajecpcaa
open Go.RowKit Go.Proofs
set_option linter.unusedVariables false
theorem add_end {w0 W w3 : World} {q : Rn} {evs : List Ev} {st held m c c3 : Nat} {A A3 : Option Addr} {xs : List (Ev × Value)} {ev : Ev} {u : Value} (ho : ROk w0 q) (hm : evs.length = m)
    (h1 : Blk W q.R 36 #[.slice A m c, .int .i64 st, .int .i64 held, .slice q.A q.b.length q.c, .int .i64 q.most]) (x1 : xs.map Prod.fst = evs) (x2 : W.ownsRow q.B 41 8 (.slice A m c) m (xs.flatMap evC)) (x3 : ∀ x ∈ xs, NumsAt W x.2 x.1.nums) (hb : Below q.B w0 W) (hu : NumsAt W u ev.nums)
    (app : App (W.alloc (.cells (evC (ev, u)).toArray 41)) q.B 41 8 (.slice A m c) (.slice A3 (m + 1) c3) (m + 1) (xs.flatMap evC ++ evC (ev, u)) w3) :
    RInv w0 q (evs ++ [ev]) st held (w3.setCell ⟨q.R, 0, none⟩ (.slice A3 (m + 1) c3)) := by
  have k := app.blk (h1.alloc _) (x2.alloc _) (by decide)
  have hs := k.set_ 0 (.slice A3 (m + 1) c3)
  simp only [List.setIfInBounds_toArray, List.set_cons_zero] at hs
  have hl : (evs ++ [ev]).length = m + 1 := by rw [List.length_append, hm]; rfl
  have hz := hb.size
  have hB : q.B ≤ W.heap.size := Nat.le_trans ho.size hz
  obtain ⟨ys, y1, y2, y3⟩ := EvRow.snoc x1 x2 x3 hu app
  refine ⟨⟨A3, c3, by rw [hl]; exact hs, by rw [hl]; exact ⟨ys, y1, own_far (p := ⟨q.R, 0, none⟩) y2 (own_ne y2 k (by decide)) _, fun x hx => (y3 x hx).keep (fun g t cs ht hg => hg.far (p := ⟨q.R, 0, none⟩) (hg.ne_ k (by rcases ht with rfl | rfl <;> decide)) _)⟩⟩, ?_⟩
  exact (app.below (x2.alloc _) (hb.alloc hB _) (Nat.le_refl _) (by simp; omega)).setCell (p := ⟨q.R, 0, none⟩) ho.own _
set_option maxRecDepth 100000 in
set_option maxHeartbeats 4000000 in
theorem add_any (w0 : World) (q : Rn) (evs : List Ev) (st held : Nat) (ev : Ev) (AN : Option Addr) (cN : Nat) (w : World) (h : RInv w0 q evs st held w) (ho : ROk w0 q) (hn : evs.length ≤ 100000) (hu : NumsAt w (.slice AN ev.nums.length cN) ev.nums) :
    Calls Try.prog 39 #[.pointer (some ⟨q.R, 0, none⟩), .agg (evC (ev, .slice AN ev.nums.length cN)).toArray] w fun e w' => e = .returned (.tuple #[]) ∧ RInv w0 q (evs ++ [ev]) st held w' := by
  have ha : Below w.heap.size w (w.alloc (.cells (evC (ev, .slice AN ev.nums.length cN)).toArray 41)) := (Below.refl _ w).alloc (Nat.le_refl _) _
  have g := h.call ho.size ha
  have HU := hide (hu.keep (KN.of_below ha))
  have kb : Blk (w.alloc (.cells (evC (ev, .slice AN ev.nums.length cN)).toArray 41)) w.heap.size 41 (evC (ev, .slice AN ev.nums.length cN)).toArray := Blk.new _ _ _
  obtain ⟨nm, hnm⟩ : ∃ nm, ev.nums.length = nm := ⟨_, rfl⟩
  rw [hnm] at g HU kb ha ⊢
  clear hu
  obtain ⟨k, r, by_, pr, nums, it, tx, ct⟩ := ev
  simp only at hnm
  have HNM := hide hnm
  clear hnm h
  unfold evC at kb g HU ha
  unfold evC
  dsimp only at kb g HU ha ⊢
  go_enter Try.func39, Try.ntmps39
  go_upto_region 1 with (fail)
  go_name_world W hW
  rw [hW] at g HU kb
  obtain ⟨⟨A, c, h1, xs, x1, x2, x3⟩, hb⟩ := g
  obtain ⟨m, hm⟩ : ∃ m, evs.length = m := ⟨_, rfl⟩
  rw [hm] at h1 x2 hn
  have b0 := kb.cell 0
  have b1 := kb.cell 1
  have b2 := kb.cell 2
  have b3 := kb.cell 3
  have b4 := kb.cell 4
  have b5 := kb.cell 5
  have b6 := kb.cell 6
  have b7 := kb.cell 7
  have kl := kb.lt
  have c0 := h1.cell 0
  have cl := h1.lt
  simp only [List.getElem?_toArray, List.getElem?_cons_succ, List.getElem?_cons_zero] at b0 b1 b2 b3 b4 b5 b6 b7 c0
  have H1 := hide h1
  have X1 := hide x1
  have X2 := hide x2
  have X3 := hide x3
  have HB := hide hb
  have HM := hide hm
  have hbW : q.B ≤ W.heap.size := Nat.le_trans ho.size hb.size
  have HO := hide ho
  clear hW ha kb h1 x1 x2 x3 hb hm ho
  go_region_law (refine step_append1 Try.sl27 (by rfl) _ _ (by rfl) q.B (.slice A m c) m _ #[.int .i64 k, .int .i32 r, .int .u8 by_, .int .u8 pr, .slice AN nm cN, .string (strOfNums it), .string (strOfNums tx), .bool ct] W 1 (by rfl) (by rfl) rfl X2.out rfl (ev_cells ⟨k, r, by_, pr, nums, it, tx, ct⟩ AN nm cN) (by simp only [maxLen]; omega) (by omega) hbW ?_; intro A3 c3 w3 app; have k3 := hide (app.blk (H1.out.alloc _) (X2.out.alloc _) (by decide)); have z0 := k3.out.cell 0; have zf := k3.out.frozen 0; simp at z0)
  all_goals
    have FIN := hide (add_end (ev := ⟨k, r, by_, pr, nums, it, tx, ct⟩) (u := .slice AN nm cN) HO.out HM.out H1.out X1.out X2.out X3.out HB.out HU.out app)
    clear z0 zf
    go_end0
    exact ⟨rfl, FIN.out⟩
theorem cut64 (w0 : World) (q : Rn) (evs : List Ev) (st held : Nat) (s : List Int) (w : World) (h : RInv w0 q evs st held w) (ho : ROk w0 q) (hn : s.length ≤ 100000) :
    Calls Try.prog 64 #[.pointer (some ⟨q.R, 0, none⟩), .string (strOfNums s)] w fun e w' => e = .returned (.tuple #[.string (strOfNums (cutT q.most s).1), .bool (cutT q.most s).2]) ∧ w' = w := by
  obtain ⟨_, c1, c2, c3, c4, fz, hl, _, _⟩ := h.cells ho
  have hm := ho.most
  have hs := strOfNums_size s
  obtain ⟨m, hmm⟩ : ∃ m, q.most = m := ⟨_, rfl⟩
  obtain ⟨n, hnn⟩ : ∃ n, s.length = n := ⟨_, rfl⟩
  rw [hmm] at c4 hm ⊢
  rw [hnn] at hs hn
  by_cases k : m < n
  · have HC := hide (show cutT m s = (s.take m, true) by unfold cutT; rw [if_pos (by omega)])
    have HT := hide (so_take s m)
    have a1 : (0 : Int) ≤ m := by omega
    have a2 : (m : Int) ≤ n := by omega
    clear h ho hmm hnn
    go_enter Try.func64, Try.ntmps64
    go_wp2
    go_ret2
    rw [HC.out]
    exact ⟨by rw [← HT.out]; rfl, rfl⟩
  · have HC := hide (show cutT m s = (s, false) by unfold cutT; rw [if_neg (by omega)])
    have b1 : decide (m < n) = false := by simpa using k
    clear h ho hmm hnn
    go_enter Try.func64, Try.ntmps64
    go_wp2
    go_ret2
    rw [HC.out]
    exact ⟨rfl, rfl⟩
end Go.Proofs.Ythbjjhoajecpcaa
