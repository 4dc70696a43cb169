/-
  The walks of fold.Right, of Lay's closure, of Lay and Count. Conditions: as many folds and rows as the laws let in.
-/
import Derived.Test.YtdmiaciembcebaaItems
namespace Go.Proofs.Ytdmiaciembcebaa
open Go.RowKit Go.Proofs

theorem Try.info43 : (Try.prog.info? 43).map (fun i => (i.zero, i.size, i.bytes)) = some (some (.agg #[.int .i64 0, .int .i64 0, .int .u64 0]), 3, 24) := by kernel_rfl
theorem Try.size43 : (Try.prog.info? 43).map (·.size) = some 3 := by kernel_rfl

theorem Try.sl22 : SliceOf Try.prog 22 47 3 24 := .mk Try.underlying22 Try.info47 rfl (by decide)
theorem Try.sl29 : SliceOf Try.prog 29 43 3 24 := .mk Try.underlying29 Try.info43 rfl (by decide)
theorem oneCell_it1 (a b c : Int) : ∀ u ∈ (#[.int .i64 a, .int .u64 b, .int .i64 c] : Array Value).toList, u.oneCell' = true := by
  intro u hu
  simp at hu
  rcases hu with rfl | rfl | rfl <;> rfl
/-- Are folds right, from an end on? -/
def rightF (rows : Int) : Int → List Fd → Bool
  | _, [] => true
  | e, f :: l => decide (¬ (f.1 < e ∨ f.2.1 ≤ f.1 ∨ rows < f.2.1)) && rightF rows f.2.1 l
/-- Rows from a up to b, each shown. -/
def rowsFrom (a b : Int) : List It := (List.range (b - a).toNat).map fun (i : Nat) => (a + (i : Int), 0, 0)
theorem rowsFrom_none {a b : Int} (h : b ≤ a) : rowsFrom a b = [] := by unfold rowsFrom; rw [show (b - a).toNat = 0 by omega]; rfl
theorem rowsFrom_snoc {a b : Int} (h : a ≤ b) : rowsFrom a (b + 1) = rowsFrom a b ++ [(b, 0, 0)] := by
  unfold rowsFrom
  rw [show (b + 1 - a).toNat = (b - a).toNat + 1 by omega, List.range_succ, List.map_append]
  simp only [List.map_cons, List.map_nil]
  rw [show a + ((b - a).toNat : Int) = b by omega]
theorem rowsFrom_len (a b : Int) : (rowsFrom a b).length = (b - a).toNat := by simp [rowsFrom]

set_option maxHeartbeats 1000000 in
theorem right_any (A : Option Addr) (n c : Nat) (rows : Int) (l : List Fd) (w : World) (ha : Rd w w.heap.size 3 A n (l.flatMap fdc)) (hn : n ≤ 1000) :
    Calls Try.prog 16 #[.int .i64 rows, .slice A n c] w fun e w' => e = .returned (.bool (rightF rows 0 l)) ∧ Below w.heap.size w w' := by
  have hl := hide (ha.len fdc_len (by omega))
  go_enter Try.func16, Try.ntmps16
  go_wp2
  go_loopw [5, 10] (fun e i wr => ∃ (k : Nat) (q : Int), k ≤ n ∧ e = .int .i64 q ∧ i = .int .i64 k ∧ rightF rows 0 l = rightF rows q (l.drop k) ∧ Below w.heap.size w wr) (fun _ i _ => n - (intOf i).toNat)
  case atStart => exact ⟨0, 0, Nat.zero_le _, rfl, rfl, rfl, Below.refl _ _⟩
  case round =>
    obtain ⟨k, q, hk, rfl, rfl, hq, hb⟩ := hrel
    have Hq := hide hq
    clear hq
    by_cases hlt : k < n
    · obtain ⟨b, off, x0, x1, x2, rfl, hbB, hx, c1, c2, c3⟩ := folds_at (ha.below hb) hlt
      have Hx := hide hx
      have hbz := hb.size
      clear hx
      go_upto_region 5 with (fail)
      go_cut [7, 30] (fun s s' wx => s = .pointer (some ⟨wr.heap.size, 0, none⟩) ∧ s' = .bool (decide (x0 < q ∨ x1 ≤ x0 ∨ rows < x1)) ∧ wx = (wr.alloc (.cells #[.int .i64 x0, .int .i64 x1, .int .u64 x2] 43)))
      case first =>
        go_wp2_with fail
        all_goals go_meet
        all_goals (refine ⟨rfl, bool_dec ?_, rfl⟩; simp <;> omega)
      case rest =>
        obtain ⟨rfl, rfl, rfl⟩ := hcut
        by_cases hc : x0 < q ∨ x1 ≤ x0 ∨ rows < x1
        · have E := hide (show rightF rows 0 l = false by rw [Hq.out, drop_at Hx.out]; simp only [rightF, hc]; simp)
          go_wp2
          go_ret
          exact ⟨ret_bool E.out.symm, hb.alloc hbz _⟩
        · have E := hide (show rightF rows 0 l = rightF rows x1 (l.drop (k + 1)) by rw [Hq.out, drop_at Hx.out]; simp only [rightF, hc]; simp)
          go_wp2
          go_roundw
          case rel => exact ⟨k + 1, x1, by omega, rfl, by go_num, E.out, hb.alloc hbz _⟩
          case measure => simp [intOf]; omega
    · go_wp2
      go_ret
      have e : k = n := by omega
      exact ⟨ret_bool (by rw [Hq.out, List.drop_of_length_le (by rw [hl.out]; omega)]; rfl), hb⟩

def PlainPost (z r : Int) (br bo base : Nat) (v : Value) (l : List It) (w : World) (e : Ending) (w' : World) : Prop :=
  ∃ v' N', e = .returned (.tuple #[]) ∧ Blk w' br 3 #[.int .i64 (max r z)] ∧ Blk w' bo 22 #[v'] ∧ w'.ownsRow base 47 3 v' N' ((l ++ rowsFrom r z).flatMap itc) ∧ Frm (fun k => k = br ∨ k = bo ∨ some k = v.ownBlock) w w' ∧ (v'.ownBlock = v.ownBlock ∨ ∃ g, v'.ownBlock = some g ∧ w.heap.size ≤ g)

set_option maxHeartbeats 1000000 in
theorem plain_any (z r : Int) (br bo base M : Nat) (v : Value) (l : List It) (w : World) (hr : Blk w br 3 #[.int .i64 r]) (ho : Blk w bo 22 #[v]) (hown : w.ownsRow base 47 3 v M (l.flatMap itc))
    (hbase : base ≤ w.heap.size) (hlen : M + (z - r) ≤ 1000000) (hl2 : M ≤ 1000000) (h0 : 0 ≤ r) (h1 : z ≤ 1000000) :
    Calls Try.prog 20 #[.int .i64 z, .pointer (some ⟨br, 0, none⟩), .pointer (some ⟨bo, 0, none⟩)] w (PlainPost z r br bo base v l w) := by
  have hne := hr.ne_ ho (by decide)
  go_enter Try.func20, Try.ntmps20
  go_wp2
  go_loopg [] (z - r).toNat (fun k wr => ∃ (q : Int) (u : Value) (N : Nat), (z - q).toNat = k ∧ r ≤ q ∧ (q ≤ z ∨ q = r) ∧ Blk wr br 3 #[.int .i64 q] ∧ Blk wr bo 22 #[u] ∧ wr.ownsRow base 47 3 u N ((l ++ rowsFrom r q).flatMap itc) ∧
    Frm (fun k => k = br ∨ k = bo ∨ some k = v.ownBlock) w wr ∧ (u.ownBlock = v.ownBlock ∨ ∃ g, u.ownBlock = some g ∧ w.heap.size ≤ g))
  case atStart => exact ⟨r, v, _, rfl, Int.le_refl _, .inr rfl, hr, ho, by rw [rowsFrom_none (Int.le_refl _)]; simpa using hown, Frm.refl _ _, .inl rfl⟩
  case round =>
    obtain ⟨q, u, N, hk, h1, h2, h3, h4, h5, h6, h7⟩ := hrel
    have Hk := hide hk
    clear hk
    have hrc := h3.cell 0
    have hoc := h4.cell 0
    have hrf := h3.frozen 0
    have hof := h4.frozen 0
    have hsz := h6.size
    have hl3 : N ≤ 2000000 := by rw [own_len itc_len (by omega) h5, List.length_append, rowsFrom_len, ← own_len itc_len (by omega) hown]; omega
    by_cases hq : q < z
    · go_wp2_with (at_builtin; go_must (refine wpList_append1 Try.sl22 rfl _ _ rfl base u _ _ #[.int .i64 q, .int .u64 0, .int .i64 0] wr 1 rfl rfl rfl h5 rfl (oneCell_it1 q 0 0) (by simp only [maxLen]; omega) (by omega) (by omega) ?_; intro A1 c1 w1 app; have g3 := app.blk (h3.alloc _) (h5.alloc _) (by decide); have g4 := app.blk (h4.alloc _) (h5.alloc _) (by decide); have k3 := g3.cell 0; have k4 := g4.cell 0; have k5 := g3.frozen 0; have k6 := g4.frozen 0))
      go_roundg (z - (q + 1)).toNat
      case measure => have := Hk.out; omega
      case rel =>
        refine ⟨q + 1, _, N + 1, rfl, by omega, by omega, (g3.far (by simpa using hne) _).set_ 0 _, (g4.set_ 0 _).far (by simpa using Ne.symm hne) _, ?_, ?_, ?_⟩
        · rw [rowsFrom_snoc (by omega), ← List.append_assoc, List.flatMap_append]
          exact own_far (p := ⟨br, 0, none⟩) (own_far (p := ⟨bo, 0, none⟩) app.own (own_ne app.own g4 (by decide)) _) (own_ne app.own g3 (by decide)) _
        · refine ((app.frm (h6.alloc _) fun k hk hlt => ?_).setCell (p := ⟨bo, 0, none⟩) (fun _ => .inr (.inl rfl)) _).setCell (p := ⟨br, 0, none⟩) (fun _ => .inl rfl) _
          rcases h7 with e | ⟨g, e, hg⟩
          · rw [hk] at e; exact .inr (.inr e)
          · rw [hk] at e; injection e with e; omega
        · rcases app.at_ with e | ⟨g, e, hg⟩
          · rw [e]; exact h7
          · exact .inr ⟨g, e, by simp at hg; omega⟩
    · go_wp2_with fail
      go_end0
      refine ⟨u, N, rfl, ?_, h4, ?_, h6, h7⟩
      · rw [show max r z = q by omega]; exact h3
      · rcases h2 with h2 | h2
        · rw [show z = q by omega]; exact h5
        · subst h2; rw [rowsFrom_none (by omega)] at h5 ⊢; exact h5
end Go.Proofs.Ytdmiaciembcebaa
