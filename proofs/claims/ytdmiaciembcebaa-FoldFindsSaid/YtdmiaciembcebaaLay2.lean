/-
  The walks of fold.Lay and fold.Count. Conditions: as many folds as the laws let in.
-/
import Derived.Test.YtdmiaciembcebaaLay
namespace Go.Proofs.Ytdmiaciembcebaa
open Go.RowKit Go.Proofs

/-- What is shown, from row r on. -/
def layF (rows : Int) : Int → List Fd → List It
  | r, [] => rowsFrom r rows
  | r, f :: l => rowsFrom r f.1 ++ (f.1, f.2.2, f.2.1 - f.1) :: layF rows f.2.1 l
theorem rightF_cons {rows e : Int} {f : Fd} {l : List Fd} (h : rightF rows e (f :: l) = true) : e ≤ f.1 ∧ f.1 < f.2.1 ∧ f.2.1 ≤ rows ∧ rightF rows f.2.1 l = true := by
  simp only [rightF, Bool.and_eq_true, decide_eq_true_eq] at h
  obtain ⟨h1, h2⟩ := h
  exact ⟨by omega, by omega, by omega, h2⟩

def LayPost (rows : Int) (l : List Fd) (w : World) (e : Ending) (w' : World) : Prop :=
  ∃ v N, e = .returned (.tuple #[v, .int .i64 0]) ∧ w'.ownsRow w.heap.size 47 3 v N ((layF rows 0 l).flatMap itc) ∧ Below w.heap.size w w'

set_option maxHeartbeats 1000000 in
theorem lay_wrong (A : Option Addr) (n c : Nat) (rows : Int) (l : List Fd) (w : World) (ha : Rd w w.heap.size 3 A n (l.flatMap fdc)) (hn : n ≤ 1000) (h : rows < 0 ∨ 200000 < rows ∨ rightF rows 0 l = false) :
    Calls Try.prog 13 #[.int .i64 rows, .slice A n c] w fun e w' => e = .returned (.tuple #[.slice none 0 0, .int .i64 1]) ∧ Below w.heap.size w w' := by
  by_cases h1 : rows < 0
  · go_enter Try.func13, Try.ntmps13
    go_wp2_with fail
    go_ret2
    exact ⟨rfl, Below.refl _ _⟩
  · by_cases h2 : 200000 < rows
    · go_enter Try.func13, Try.ntmps13
      go_wp2_with fail
      go_ret2
      exact ⟨rfl, Below.refl _ _⟩
    · have hr : rightF rows 0 l = false := by rcases h with h | h | h; exact absurd h h1; exact absurd h h2; exact h
      have R := right_any A n c rows l w ha hn
      rw [hr] at R
      have R' := hide R
      clear hr h R
      go_enter Try.func13, Try.ntmps13
      go_wp2_with (go_at_call 16; refine R'.out.mono ?_; rintro e w' ⟨rfl, hb⟩)
      go_ret2
      exact ⟨rfl, hb⟩

set_option maxHeartbeats 1000000 in
theorem lay_right (A : Option Addr) (n c : Nat) (rows : Int) (l : List Fd) (w : World) (ha : Rd w w.heap.size 3 A n (l.flatMap fdc)) (hn : n ≤ 1000) (h1 : 0 ≤ rows) (h2 : rows ≤ 200000) (hr : rightF rows 0 l = true) :
    Calls Try.prog 13 #[.int .i64 rows, .slice A n c] w (LayPost rows l w) := by
  have R := right_any A n c rows l w ha hn
  rw [hr] at R
  have R' := hide R
  have Hr := hide hr
  have hl := hide (ha.len fdc_len (by omega))
  clear hr R
  have hmf : ∀ (fn : Fn) (first cap : Array Value) (w : World), (Instr.makeFunc fn first cap).run Try.prog w = .ok (.func fn first cap) w := fun _ _ _ _ => rfl
  go_enter Try.func13, Try.ntmps13
  go_wp2_with (go_at_call 16; refine R'.out.mono ?_; rintro e w1 ⟨rfl, hb1⟩; have hz1 := hb1.size)
  go_loopw [26] (fun i wr => ∃ (k N : Nat) (r : Int) (v : Value) (done : List It), k ≤ n ∧ i = .int .i64 k ∧ Blk wr (w1.heap.size + 1) 3 #[.int .i64 r] ∧ Blk wr w1.heap.size 22 #[v] ∧ wr.ownsRow w.heap.size 47 3 v N (done.flatMap itc) ∧ 0 ≤ r ∧ r ≤ rows ∧
    N ≤ r + k ∧ Below w.heap.size w wr ∧ Hid (rightF rows r (l.drop k) = true ∧ layF rows 0 l = done ++ layF rows r (l.drop k))) (fun i _ => n - (intOf i).toNat)
  case atStart =>
    exact ⟨0, 0, 0, .slice none 0 0, [], Nat.zero_le _, rfl, Blk.new' (by simp) _ _, (Blk.new _ _ _).alloc _, World.ownsRow_nil _ _ _ _, by omega, by omega, by omega, (hb1.alloc hz1 _).alloc (by simp; omega) _, hide ⟨Hr.out, rfl⟩⟩
  case round =>
    obtain ⟨k, N, r, v, done, hk, rfl, g1, g2, own, r0, r1, hN, hb, H⟩ := hrel
    have hbz := hb.size
    have gz := g1.lt
    by_cases hlt : k < n
    · obtain ⟨b, off, x0, x1, x2, rfl, hbB, hx, c1, c2, c3⟩ := folds_at (ha.below hb) hlt
      obtain ⟨q1, q2, q3, q4⟩ := rightF_cons (by have := H.out.1; rwa [drop_at hx] at this)
      have Hx := hide hx
      have Q4 := hide q4
      clear hx q4
      have P0 := hide (plain_any x0 r (w1.heap.size + 1) w1.heap.size w.heap.size N v done (wr.alloc (.cells #[.int .i64 x0, .int .i64 x1, .int .u64 x2] 43)) (g1.alloc _) (g2.alloc _) (own.alloc _) (by simp; omega) (by omega) (by omega) r0 (by omega))
      have g3 := Blk.new wr 43 #[.int .i64 x0, .int .i64 x1, .int .u64 x2]
      have n1 := g3.ne_ (g1.alloc _) (by decide)
      have n2 := g3.ne_ (g2.alloc _) (by decide)
      have n3 := own_ne (own.alloc _) g3 (by decide)
      have HL := hide (own_len itc_len (by omega) own)
      go_wp2_with (first
        | (go_at_call 20; go_must (refine P0.out.mono ?_; intro e w2 PP; obtain ⟨v2, N2, rfl, p1, p2, p3, p4, p5⟩ := PP; have p6 := p4.size; have p6' : wr.heap.size + 1 ≤ w2.heap.size := (by simpa using p6); have p7 := g3.frm p4 (fun h => by rcases h with h | h | h; exact n1 h; exact n2 h; exact n3 h); have d0 := p7.cell 0; have d1 := p7.cell 1; have d2 := p7.cell 2; have d3 := p2.cell 0; have d4 := p2.frozen 0; have P3 := hide (own_len itc_len (by omega) p3); have N2b : N2 ≤ x0 + k := (by rw [P3.out, List.length_append, rowsFrom_len, ← HL.out]; omega)))
        | (at_builtin; go_must (refine wpList_append1 Try.sl22 rfl _ _ rfl w.heap.size v2 _ _ #[.int .i64 x0, .int .u64 x2, .int .i64 (x1 - x0)] w2 1 rfl rfl rfl p3 rfl (oneCell_it1 _ _ _) (by simp only [maxLen]; omega) (by omega) (by omega) ?_; intro A1 m1 w3 app; have b1 := app.blk (p1.alloc _) (p3.alloc _) (by decide); have b2 := app.blk (p2.alloc _) (p3.alloc _) (by decide); have b3 := app.blk (p7.alloc _) (p3.alloc _) (by decide); have k1 := b1.cell 0; have k2 := b2.cell 0; have k3 := b3.cell 0; have k4 := b3.cell 1; have k5 := b1.frozen 0; have k6 := b2.frozen 0)))
      go_roundw
      case rel =>
        have hrow : done ++ rowsFrom r x0 ++ [(x0, x2, x1 - x0)] ++ layF rows x1 (l.drop (k + 1)) = layF rows 0 l := by
          rw [H.out.2, drop_at Hx.out]
          simp [layF]
        refine ⟨k + 1, N2 + 1, x1, _, done ++ rowsFrom r x0 ++ [(x0, x2, x1 - x0)], by omega, by go_num, (b1.far (by simp) _).set_ 0 _, (b2.set_ 0 _).far (by simp) _, ?_, by omega, by omega, by omega, ?_, hide ⟨Q4.out, hrow.symm⟩⟩
        · rw [List.flatMap_append]
          exact own_far (p := ⟨w1.heap.size + 1, 0, none⟩) (own_far (p := ⟨w1.heap.size, 0, none⟩) app.own (own_ne app.own b2 (by decide)) _) (own_ne app.own b1 (by decide)) _
        · have t1 : Below w.heap.size w w2 := (hb.alloc hbz _).trans (p4.to_below (by simp; omega) (by
            intro i hi
            rcases hi with rfl | rfl | hi
            · omega
            · omega
            · exact (own.lt i hi.symm).1))
          exact ((app.below (p3.alloc _) (t1.alloc (by omega) _) (Nat.le_refl _) (by simp; omega)).setCell (p := ⟨w1.heap.size, 0, none⟩) hz1 _).setCell (p := ⟨w1.heap.size + 1, 0, none⟩) (by simp; omega) _
      case measure => simp [intOf]; omega
    · have e : k = n := by omega
      have P0 := hide (plain_any rows r (w1.heap.size + 1) w1.heap.size w.heap.size N v done wr g1 g2 own hbz (by omega) (by omega) r0 (by omega))
      go_wp2_with (go_at_call 20; go_must (refine P0.out.mono ?_; intro e w2 PP; obtain ⟨v2, N2, rfl, p1, p2, p3, p4, p5⟩ := PP; have d3 := p2.cell 0))
      go_ret2
      have hE : l.drop k = [] := List.drop_of_length_le (by rw [hl.out]; omega)
      refine ⟨v2, N2, rfl, ?_, hb.trans (p4.to_below hbz (by
            intro i hi
            rcases hi with rfl | rfl | hi
            · omega
            · omega
            · exact (own.lt i hi.symm).1))⟩
      rw [H.out.2, hE]
      exact p3
end Go.Proofs.Ytdmiaciembcebaa
