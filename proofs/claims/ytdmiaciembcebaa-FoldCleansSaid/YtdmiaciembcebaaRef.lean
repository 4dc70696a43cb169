/-
  The walks of the reference's Right and Lay, and of 'to'. Conditions: as many folds and rows as the laws let in.
-/
import Derived.Test.YtdmiaciembcebaaLay2
namespace Go.Proofs.Ytdmiaciembcebaa
open Go.RowKit Go.Proofs

theorem Try.info42 : (Try.prog.info? 42).map (fun i => (i.zero, i.size, i.bytes)) = some (some (.agg #[.int .i64 0, .int .i64 0, .int .u64 0]), 3, 24) := by kernel_rfl
theorem Try.sl28 : SliceOf Try.prog 28 42 3 24 := .mk Try.underlying28 Try.info42 rfl (by decide)
theorem oneCell_fd1 (a b c : Int) : ∀ u ∈ (#[.int .i64 a, .int .i64 b, .int .u64 c] : Array Value).toList, u.oneCell' = true := by
  intro u hu
  simp at hu
  rcases hu with rfl | rfl | rfl <;> rfl

/-- What the reference says of one fold, behind the end e of the one ahead of it (k: how many are ahead). -/
def badR (rows e x0 x1 : Int) (k : Nat) : Bool := decide (x0 < 0 ∨ x1 ≤ x0 ∨ rows < x1 ∨ 0 < k ∧ x0 < e)

set_option maxHeartbeats 2000000 in
theorem refright_any (A : Option Addr) (n c : Nat) (rows : Int) (l : List Fd) (w : World) (ha : Rd w w.heap.size 3 A n (l.flatMap fdc)) (hn : n ≤ 1000) :
    Calls Try.prog 15 #[.int .i64 rows, .slice A n c] w fun e w' => e = .returned (.bool (rightF rows 0 l)) ∧ ∃ q, w' = w.drewN q := by
  have hl := hide (ha.len fdc_len (by omega))
  go_enter Try.func15, Try.ntmps15
  go_wp2
  go_loopw [5] (fun i wr => ∃ (k q : Nat) (e : Int), k ≤ n ∧ i = .int .i64 k ∧ wr = w.drewN q ∧ 0 ≤ e ∧ (k = 0 → e ≤ 0) ∧ Hid (rightF rows 0 l = rightF rows e (l.drop k) ∧ ∀ x, 0 < k → l[k - 1]? = some x → x.2.1 = e)) (fun i _ => n - (intOf i).toNat)
  case atStart => exact ⟨0, 0, 0, Nat.zero_le _, rfl, rfl, by omega, by omega, hide ⟨rfl, fun x h => absurd h (by omega)⟩⟩
  case round =>
    obtain ⟨k, q, e, hk, rfl, rfl, e0, ek, H⟩ := hrel
    by_cases hlt : k < n
    · obtain ⟨b, off, x0, x1, x2, rfl, hbB, hx, c1, c2, c3⟩ := folds_at ha hlt
      have Hx := hide hx
      clear hx
      have p : 0 < k → w.cell? ⟨b, off + (k - 1) * 3 + 1, none⟩ = some (.int .i64 e) := by
        intro h0
        obtain ⟨b', off', y0, y1, y2, e1, _, hy, d1, d2, d3⟩ := folds_at ha (k := k - 1) (by omega)
        have := H.out.2 _ h0 hy
        injection e1 with e1
        injection e1 with e1 e2
        subst e1 e2
        simp at this
        rw [← this]
        exact d2
      go_upto_region 4 with (fail)
      go_cut [57] (fun s wx => ∃ m, s = .bool (badR rows e x0 x1 k) ∧ wx = w.drewN m)
      case first =>
        by_cases t1 : x0 < 0
        · go_quiet (fail)
          go_wp2_with fail
          go_meet
          exact ⟨_, bool_dec (by simp [t1]), by first | rfl | exact World.drewN_drewN _ _ _⟩
        · by_cases t2 : x1 ≤ x0
          · go_quiet (fail)
            go_wp2_with fail
            go_meet
            exact ⟨_, bool_dec (by simp [t2]), by first | rfl | exact World.drewN_drewN _ _ _⟩
          · by_cases t3 : rows < x1
            · go_quiet (fail)
              go_wp2_with fail
              go_meet
              exact ⟨_, bool_dec (by simp [t3]), by first | rfl | exact World.drewN_drewN _ _ _⟩
            · by_cases t4 : 0 < k
              · have P := p t4
                clear p
                go_quiet (fail)
                go_wp2_with fail
                go_meet
                exact ⟨_, bool_dec (by simp [t4]; omega), by first | rfl | exact World.drewN_drewN _ _ _⟩
              · clear p
                go_quiet (fail)
                go_wp2_with fail
                go_meet
                exact ⟨_, bool_dec (by simp [t1, t2, t3, t4]), by first | rfl | exact World.drewN_drewN _ _ _⟩
      case rest =>
        obtain ⟨m, rfl, rfl⟩ := hcut
        cases hbad : badR rows e x0 x1 k
        · have B := of_decide_eq_false hbad
          have B1 : ¬ (x0 < e ∨ x1 ≤ x0 ∨ rows < x1) := by
            rcases Nat.eq_zero_or_pos k with h | h
            · have := ek h; omega
            · intro h'; exact B (by omega)
          clear B
          go_wp2_with fail
          go_roundw
          case rel =>
            refine ⟨k + 1, m, x1, by omega, by go_num, rfl, by omega, by omega, hide ⟨?_, ?_⟩⟩
            · rw [H.out.1, drop_at Hx.out]; simp only [rightF, B1]; simp
            · intro x _ h
              have hx := Hx.out
              simp only [Nat.add_sub_cancel] at h
              rw [hx] at h
              injection h with h
              rw [← h]
          case measure => simp [intOf]; omega
        · have B := of_decide_eq_true hbad
          have B1 : x0 < e ∨ x1 ≤ x0 ∨ rows < x1 := by omega
          have E := hide (show rightF rows 0 l = false by rw [H.out.1, drop_at Hx.out]; simp only [rightF, B1]; simp)
          clear B B1
          go_wp2_with fail
          go_ret
          exact ⟨ret_bool E.out.symm, m, rfl⟩
    · go_wp2_with fail
      go_ret
      exact ⟨ret_bool (by rw [H.out.1, List.drop_of_length_le (by rw [hl.out]; omega)]; rfl), _, rfl⟩

set_option maxHeartbeats 2000000 in
theorem to_any (A : Option Addr) (n c : Nat) (l : List Fd) (w : World) (ha : Rd w w.heap.size 3 A n (l.flatMap fdc)) (hn : n ≤ 1000) :
    Calls Try.prog 12 #[.slice A n c] w (RetSlice 43 3 (l.flatMap fdc) w) := by
  have hl := hide (ha.len fdc_len (by omega))
  go_enter Try.func12, Try.ntmps12
  go_wp2
  go_loopw [3, 4] (fun v i wr => ∃ (k : Nat), k ≤ n ∧ i = .int .i64 k ∧ wr.ownsRow w.heap.size 43 3 v k ((l.take k).flatMap fdc) ∧ Below w.heap.size w wr) (fun _ i _ => n - (intOf i).toNat)
  case atStart => exact ⟨0, Nat.zero_le _, rfl, World.ownsRow_nil _ _ _ _, Below.refl _ _⟩
  case round =>
    obtain ⟨k, hk, rfl, own, hb⟩ := hrel
    have hbz := hb.size
    by_cases hlt : k < n
    · obtain ⟨b, off, x0, x1, x2, rfl, hbB, hx, c1, c2, c3⟩ := folds_at (ha.below hb) hlt
      have Hx := hide hx
      clear hx
      go_wp2_with fail
      go_region_held3 (fun w' => w'.cell? ⟨b, off + k * 3, none⟩ = some (.int .i64 x0) ∧ w'.cell? ⟨b, off + k * 3 + 1, none⟩ = some (.int .i64 x1) ∧ w'.cell? ⟨b, off + k * 3 + 2, none⟩ = some (.int .u64 x2))
        (first | go_keep | (refine ⟨?_, ?_, ?_⟩ <;> (rw [(app.below (own.alloc _) ((Below.refl w.heap.size wr).alloc hbz _) (Nat.le_refl _) (by simp; omega)).cell hbB]; assumption)))
        ((refine step_append1 Try.sl29 (by rfl) _ _ (by rfl) w.heap.size u3 k _ #[.int .i64 x0, .int .i64 x1, .int .u64 x2] wr 1 (by rfl) (by rfl) rfl own rfl (oneCell_fd1 _ _ _) (by simp only [maxLen]; omega) (by omega) hbz ?_; intro A1 m1 w3 app))
      go_wp2_with fail
      go_roundw
      case rel =>
        refine ⟨k + 1, by omega, by go_num, ?_, app.below (own.alloc _) (hb.alloc hbz _) (Nat.le_refl _) (by simp; omega)⟩
        rw [take_snoc Hx.out, List.flatMap_append]
        exact app.own
      case measure => simp [intOf]; omega
    · go_wp2_with fail
      go_ret
      have e : k = n := by omega
      subst e
      rw [List.take_of_length_le (by rw [hl.out]; omega)] at own
      exact RetSlice.of own hb

/-- Does a fold hide a row? -/
def hitF (row : Int) (f : Fd) : Bool := decide (f.1 ≤ row ∧ row < f.2.1)
/-- What the reference appends for one fold, at a row. -/
def oneF (row : Int) (f : Fd) : List It := if hitF row f = true ∧ f.1 = row then [(row, f.2.2, f.2.1 - row)] else []
/-- What the reference shows of a row. -/
def refRow (l : List Fd) (row : Int) : List It := l.flatMap (oneF row) ++ if l.any (hitF row) then [] else [(row, 0, 0)]
def refLay (rows : Int) (l : List Fd) : List It := (List.range rows.toNat).flatMap fun (i : Nat) => refRow l i

theorem refRow_len (l : List Fd) (row : Int) : (refRow l row).length ≤ l.length + 1 := by
  unfold refRow
  rw [List.length_append]
  have h1 : (l.flatMap (oneF row)).length ≤ l.length := by
    induction l with
    | nil => simp
    | cons f l ih =>
      rw [List.flatMap_cons, List.length_append, List.length_cons]
      have : (oneF row f).length ≤ 1 := by unfold oneF; split <;> simp
      omega
  have h2 : (if l.any (hitF row) then ([] : List It) else [(row, 0, 0)]).length ≤ 1 := by split <;> simp
  omega

set_option maxHeartbeats 2000000 in
theorem reflay_any (A : Option Addr) (n c : Nat) (rows : Int) (l : List Fd) (w : World) (ha : Rd w w.heap.size 3 A n (l.flatMap fdc)) (hn : n ≤ 1000) (hr : rows ≤ 1000) (hw : ∀ f ∈ l, f.2.1 ≤ 1000000 ∧ 0 ≤ f.1) :
    Calls Try.prog 17 #[.int .i64 rows, .slice A n c] w (RetSlice 47 3 ((refLay rows l).flatMap itc) w) := by
  have hl := hide (ha.len fdc_len (by omega))
  have HW := hide hw
  clear hw
  go_enter Try.func17, Try.ntmps17
  go_wp2_with fail
  go_loopw [5, 6] (fun v r wr => ∃ (k N : Nat), (k : Int) ≤ max 0 rows ∧ r = .int .i64 k ∧ wr.ownsRow w.heap.size 47 3 v N ((((List.range k).flatMap fun (i : Nat) => refRow l i)).flatMap itc) ∧ N ≤ k * 1001 ∧ Below w.heap.size w wr) (fun _ r _ => rows.toNat - (intOf r).toNat)
  case atStart => exact ⟨0, 0, by omega, rfl, World.ownsRow_nil _ _ _ _, by omega, Below.refl _ _⟩
  case round =>
    obtain ⟨k, N, hk, rfl, own, hN, hb⟩ := hrel
    have hbz := hb.size
    obtain ⟨wo, rfl⟩ : ∃ wo : World, wo = wr := ⟨_, rfl⟩
    by_cases hlt : (k : Int) < rows
    · go_wp2_with fail
      go_loopw [5, 7, 8] (fun v h i wr => ∃ (j M : Nat), j ≤ n ∧ i = .int .i64 j ∧ h = .bool ((l.take j).any (hitF k)) ∧ wr.ownsRow w.heap.size 47 3 v M ((((List.range k).flatMap fun (i : Nat) => refRow l i) ++ (l.take j).flatMap (oneF k)).flatMap itc) ∧ M ≤ N + j ∧ Below w.heap.size w wr) (fun _ _ i _ => n - (intOf i).toNat)
      case atStart => exact ⟨0, N, by omega, rfl, rfl, by simpa using own, by omega, hb⟩
      case round =>
        obtain ⟨j, M, hj, rfl, rfl, own, hM, hb⟩ := hrel
        have hbz := hb.size
        by_cases hjt : j < n
        · obtain ⟨b, off, x0, x1, x2, rfl, hbB, hx, c1, c2, c3⟩ := folds_at (ha.below hb) hjt
          have hX := HW.out _ (List.mem_of_getElem? hx)
          have Hx := hide hx
          clear hx
          obtain ⟨hX1, hX2⟩ := hX
          simp only at hX1 hX2
          by_cases t1 : x0 ≤ (k : Int)
          · by_cases t2 : (k : Int) < x1
            · by_cases t3 : x0 = (k : Int)
              · subst t3
                have hwp : IntKind.i64.wrap (x1 - (k : Int)) = x1 - (k : Int) := IntWalk.i64_in _ (by omega)
                go_wp2_with fail
                go_region_held3 (fun w' => w'.cell? ⟨b, off + j * 3 + 1, none⟩ = some (.int .i64 x1) ∧ w'.cell? ⟨b, off + j * 3 + 2, none⟩ = some (.int .u64 x2))
                  (first | go_keep | (refine ⟨?_, ?_⟩ <;> (rw [(app.below (own.alloc _) ((Below.refl w.heap.size wr).alloc hbz _) (Nat.le_refl _) (by simp; omega)).cell hbB]; assumption)))
                  ((refine step_append1 Try.sl22 (by rfl) _ _ (by rfl) w.heap.size u5 M _ #[.int .i64 k, .int .u64 x2, .int .i64 (x1 - k)] wr 1 (by rfl) (by rfl) rfl own rfl (oneCell_it1 _ _ _) (by simp only [maxLen]; omega) (by omega) hbz ?_; intro A1 m1 w3 app))
                go_wp2_with fail
                go_roundw
                case rel =>
                  have hh : hitF (k : Int) ((k : Int), x1, x2) = true := by simp [hitF]; omega
                  refine ⟨j + 1, M + 1, by omega, by go_num, ?_, ?_, by omega, app.below (own.alloc _) (hb.alloc hbz _) (Nat.le_refl _) (by simp; omega)⟩
                  · rw [any_take_snoc Hx.out, hh]; simp
                  · have e1 : oneF k ((k : Int), x1, x2) = [((k : Int), x2, x1 - k)] := by simp [oneF, hh]
                    rw [flat_take_snoc Hx.out, e1, ← List.append_assoc, List.flatMap_append]
                    exact app.own
                case measure => simp [intOf]; omega
              · go_wp2_with fail
                go_roundw
                case rel =>
                  have hh : hitF (k : Int) (x0, x1, x2) = true := by simp [hitF]; omega
                  refine ⟨j + 1, M, by omega, by go_num, ?_, ?_, by omega, hb⟩
                  · rw [any_take_snoc Hx.out, hh]; simp
                  · have e1 : oneF k (x0, x1, x2) = [] := by simp [oneF, t3]
                    rw [flat_take_snoc Hx.out, e1, List.append_nil]
                    exact own
                case measure => simp [intOf]; omega
            · go_wp2_with fail
              go_roundw
              case rel =>
                have hh : hitF (k : Int) (x0, x1, x2) = false := by simp [hitF]; omega
                refine ⟨j + 1, M, by omega, by go_num, ?_, ?_, by omega, hb⟩
                · rw [any_take_snoc Hx.out, hh]; simp
                · have e1 : oneF k (x0, x1, x2) = [] := by simp [oneF, hh]
                  rw [flat_take_snoc Hx.out, e1, List.append_nil]
                  exact own
              case measure => simp [intOf]; omega
          · go_wp2_with fail
            go_roundw
            case rel =>
              have hh : hitF (k : Int) (x0, x1, x2) = false := by simp [hitF]; omega
              refine ⟨j + 1, M, by omega, by go_num, ?_, ?_, by omega, hb⟩
              · rw [any_take_snoc Hx.out, hh]; simp
              · have e1 : oneF k (x0, x1, x2) = [] := by simp [oneF, hh]
                rw [flat_take_snoc Hx.out, e1, List.append_nil]
                exact own
            case measure => simp [intOf]; omega
        · have e : j = n := by omega
          have hT : l.take j = l := List.take_of_length_le (by rw [hl.out]; omega)
          rw [hT] at own
          rw [hT]
          have HE := hide e
          clear e hT
          cases hany : l.any (hitF k)
          · go_wp2_with (at_builtin; go_must (refine wpList_append1 Try.sl22 rfl _ _ rfl w.heap.size u5 M _ #[.int .i64 k, .int .u64 0, .int .i64 0] wr 1 rfl rfl rfl own rfl (oneCell_it1 _ _ _) (by simp only [maxLen]; omega) (by omega) hbz ?_; intro A1 m1 w3 app))
            go_roundw
            case rel =>
              refine ⟨k + 1, M + 1, by omega, by go_num, ?_, by have := HE.out; omega, app.below (own.alloc _) (hb.alloc hbz _) (Nat.le_refl _) (by simp; omega)⟩
              have e1 : (List.range (k + 1)).flatMap (fun (i : Nat) => refRow l i) = (List.range k).flatMap (fun (i : Nat) => refRow l i) ++ l.flatMap (oneF k) ++ [((k : Int), 0, 0)] := by
                rw [List.range_succ, List.flatMap_append, List.append_assoc]
                congr 1
                simp [refRow, hany]
              rw [e1, List.flatMap_append]
              exact app.own
            case measure => simp [intOf]; omega
          · go_wp2_with fail
            go_roundw
            case rel =>
              refine ⟨k + 1, M, by omega, by go_num, ?_, by have := HE.out; omega, hb⟩
              have e1 : (List.range (k + 1)).flatMap (fun (i : Nat) => refRow l i) = (List.range k).flatMap (fun (i : Nat) => refRow l i) ++ l.flatMap (oneF k) := by
                rw [List.range_succ, List.flatMap_append]
                congr 1
                simp [refRow, hany]
              rw [e1]
              exact own
            case measure => simp [intOf]; omega
    · go_wp2_with fail
      go_ret
      have e : rows.toNat = k := by omega
      exact RetSlice.of (by unfold refLay; rw [e]; exact own) hb
end Go.Proofs.Ytdmiaciembcebaa
