/-
  The walks of FoldFinds and FoldCleans. No condition but what the arguments' kinds bear.
-/
import Derived.Test.YtdmiaciembcebaaPlain
import Derived.Test.YtdmiaciembcebaaLaws
namespace Go.Proofs.Ytdmiaciembcebaa
open Go.RowKit Go.Proofs
set_option linter.unusedVariables false

theorem fold_same (a b c : Int) (w : World) : (binOp .neq 43 (.agg #[.int .i64 a, .int .i64 b, .int .u64 c]) (.agg #[.int .i64 a, .int .i64 b, .int .u64 c])).run Try.prog w = .ok (.bool false) w := by
  simp [go_sem]
theorem item_has (x0 x1 x2 row : Int) (h : x1 ≠ 0) : hasF row (x0, x1, x2) = decide (x0 ≤ 1099511627776 ∧ 0 < x2 ∧ x2 ≤ 1099511627776 ∧ x0 ≤ row ∧ row < x0 + x2) := by simp [hasF, h]

set_option maxHeartbeats 2000000 in
theorem foldFinds_walk (w : World) (A : Option Addr) (n c : Nat) (l : List It) (hl : l.length = n) (hnc : n ≤ c) (_ : c ≤ maxLen) (ha : Rd w w.heap.size 3 A n (l.flatMap itc)) (hq : ∀ x ∈ l, -9223372036854775808 ≤ x.1)
    (row : Int) (wt : (Lit.int .i64 row).wf = true) :
    Calls Try.prog 6 #[.slice A n c, .int .i64 row] w fun e w' => e = .returned (.bool true) ∧ Below w.heap.size w w' := by
  by_cases h : 200 < n
  · have h' : decide ((200 : Int) < (n : Int)) = true := by simp; omega
    clear ha
    go_enter Try.func6, Try.ntmps6
    go_wp2_with (go_at_call 8; go_must (refine (awake_any _).mono ?_; rintro e w1 ⟨rfl, hb⟩))
    go_ret
    exact ⟨rfl, hb⟩
  · have h' : decide ((200 : Int) < (n : Int)) = false := by simp; omega
    have HQ := hide hq
    have HL := hide hl
    clear hq hl
    obtain ⟨o, ho⟩ : ∃ o, o = idxF row 0 l := ⟨_, rfl⟩
    obtain ⟨ob, hob⟩ : ∃ ob, ob = o.isSome := ⟨_, rfl⟩
    obtain ⟨ov, hov⟩ : ∃ ov, ov = o.getD 0 := ⟨_, rfl⟩
    have HO := hide ho
    have Hob := hide hob
    have Hov := hide hov
    clear ho hob hov
    go_enter Try.func6, Try.ntmps6
    go_wp2_with (first
      | (go_at_call 8; go_must (refine (awake_any _).mono ?_; rintro e w1 ⟨rfl, hb1⟩; have z1 := hb1.size; have R1 := (ha.below hb1).more z1))
      | (go_at_call 19; go_must (refine (find_any A n c row l w1 w1.heap.size (Nat.le_refl _) R1 (by omega) HQ.out).mono ?_; rintro e w2 ⟨rfl, hb2⟩; rw [← HO.out, ← Hob.out, ← Hov.out]; have z2 := hb2.size; have R2 := (R1.below hb2).more z2)))
    go_loopw [7] (fun i wr => ∃ (k : Nat), k ≤ n ∧ i = .int .i64 k ∧ Below w2.heap.size w2 wr ∧ Hid (o = idxF row k (l.drop k))) (fun i _ => n - (intOf i).toNat)
    case atStart => exact ⟨0, by omega, rfl, Below.refl _ _, HO⟩
    case round =>
      obtain ⟨k, hk, rfl, hb, H⟩ := hrel
      have hbz := hb.size
      by_cases hlt : k < n
      · obtain ⟨b, off, x0, x1, x2, rfl, hbB, hx, c1, c2, c3⟩ := items_at (R2.below hb) hlt
        have hX := HQ.out _ (List.mem_of_getElem? hx)
        simp only at hX
        have Hx := hide hx
        clear hx
        cases hh : hasF row (x0, x1, x2)
        · have E := hide (show idxF row k (l.drop k) = idxF row (k + 1) (l.drop (k + 1)) by rw [drop_at Hx.out]; simp [idxF, hh])
          have hsplit : (x1 = 0 ∧ ((x0 : Int) == row) = false) ∨ ((¬ x1 = 0 ∧ ((x1 : Int) == 0) = false) ∧ ¬ x0 ≤ 1099511627776) ∨ ((¬ x1 = 0 ∧ ((x1 : Int) == 0) = false) ∧ x0 ≤ 1099511627776 ∧ ¬ 0 < x2) ∨ ((¬ x1 = 0 ∧ ((x1 : Int) == 0) = false) ∧ x0 ≤ 1099511627776 ∧ 0 < x2 ∧ ¬ x2 ≤ 1099511627776) ∨
              ((¬ x1 = 0 ∧ ((x1 : Int) == 0) = false) ∧ x0 ≤ 1099511627776 ∧ 0 < x2 ∧ x2 ≤ 1099511627776 ∧ ¬ x0 ≤ row) ∨ ((¬ x1 = 0 ∧ ((x1 : Int) == 0) = false) ∧ x0 ≤ 1099511627776 ∧ 0 < x2 ∧ x2 ≤ 1099511627776 ∧ x0 ≤ row ∧ ¬ row < x0 + x2) := by
            by_cases h0 : x1 = 0
            · left
              simp [hasF, h0] at hh
              exact ⟨h0, by simpa using hh⟩
            · right
              rw [item_has _ _ _ _ h0] at hh
              have := of_decide_eq_false hh
              have hb0 : ((x1 : Int) == 0) = false := by simpa using h0
              simp only [hb0, h0, not_false_eq_true, true_and]
              omega
          clear hh
          rcases hsplit with ⟨rfl, q1⟩ | ⟨⟨q00, q0⟩, q1⟩ | ⟨⟨q00, q0⟩, q1, q2⟩ | ⟨⟨q00, q0⟩, q1, q2, q3⟩ | ⟨⟨q00, q0⟩, q1, q2, q3, q4⟩ | ⟨⟨q00, q0⟩, q1, q2, q3, q4, q5⟩
          all_goals
            go_wp2_with fail
            go_roundw
            case rel => exact ⟨k + 1, by omega, by go_num, hb.alloc hbz _, hide (by rw [H.out, E.out])⟩
            case measure => simp [intOf]; omega
        · have E := hide (show o = some k by rw [H.out, drop_at Hx.out]; simp [idxF, hh])
          have hsplit : (x1 = 0 ∧ ((x0 : Int) == row) = true) ∨ ((¬ x1 = 0 ∧ ((x1 : Int) == 0) = false) ∧ x0 ≤ 1099511627776 ∧ 0 < x2 ∧ x2 ≤ 1099511627776 ∧ x0 ≤ row ∧ row < x0 + x2) := by
            by_cases h0 : x1 = 0
            · left
              simp [hasF, h0] at hh
              exact ⟨h0, by simpa using hh⟩
            · right
              rw [item_has _ _ _ _ h0] at hh
              have := of_decide_eq_true hh
              have hb0 : ((x1 : Int) == 0) = false := by simpa using h0
              simp only [hb0, h0, not_false_eq_true, true_and]
              omega
          clear hh
          obtain rfl : ob = true := by rw [Hob.out, E.out]; rfl
          rcases hsplit with ⟨rfl, q1⟩ | ⟨⟨q00, q0⟩, q1, q2, q3, q4, q5⟩
          all_goals
            go_wp2_with fail
            go_ret
            exact ⟨ret_bool (by rw [Hov.out, E.out]; simp), ((hb1.trans (hb2.mono z1)).trans (hb.mono (by omega))).trans (((Below.refl _ _).alloc (by omega) _))⟩
      · have E : o = none := by rw [H.out, List.drop_of_length_le (by rw [HL.out]; omega)]; rfl
        have E' := hide E
        obtain rfl : ob = false := by rw [Hob.out, E]; rfl
        clear E
        go_wp2_with fail
        go_ret
        exact ⟨ret_bool (by rw [Hov.out, E'.out]; simp), (hb1.trans (hb2.mono z1)).trans (hb.mono (by omega))⟩

set_option maxHeartbeats 4000000 in
theorem foldCleans_walk (w : World) (rows : Int) (wr : (Lit.int .i64 rows).wf = true) (A : Option Addr) (n c : Nat) (l : List Fd) (hl : l.length = n) (hnc : n ≤ c) (_ : c ≤ maxLen) (ha : Rd w w.heap.size 3 A n (l.flatMap fdc)) (_ : ∀ x ∈ l, True) :
    Calls Try.prog 5 #[.int .i64 rows, .slice A n c] w fun e w' => e = .returned (.bool true) ∧ Below w.heap.size w w' := by
  clear wr
  by_cases h : 60 < n
  · have h' : decide ((60 : Int) < (n : Int)) = true := by simp; omega
    clear ha
    go_enter Try.func5, Try.ntmps5
    go_wp2_with (go_at_call 8; go_must (refine (awake_any _).mono ?_; rintro e w1 ⟨rfl, hb⟩))
    go_ret
    exact ⟨rfl, hb⟩
  · have h' : decide ((60 : Int) < (n : Int)) = false := by simp; omega
    have HL := hide hl
    clear hl
    go_enter Try.func5, Try.ntmps5
    go_wp2_with (first
      | (go_at_call 8; go_must (refine (awake_any _).mono ?_; rintro e w1 ⟨rfl, hb1⟩; have z1 := hb1.size; have R1 := (ha.below hb1).more z1))
      | (go_at_call 12; go_must (refine (to_any A n c l w1 R1 (by omega)).mono ?_; intro e w2 PP; obtain ⟨A2, N2, c2, rfl, own2, hb2⟩ := PP; have z2 := hb2.size; have S2 := Rd.of_own own2; have hN2 : N2 ≤ 1000 := (by have := own_len fdc_len (by omega) own2; have := HL.out; omega); have R2 := (R1.below hb2).more z2))
      | (go_at_call 18; go_must (refine (clean_any A2 N2 c2 rows l w2 S2 hN2).mono ?_; intro e w3 PP; obtain ⟨A3, N3, c3, rfl, own3, hb3⟩ := PP; have z3 := hb3.size; have S3 := Rd.of_own own3; have R3 := (R2.below hb3).more z3)))
    go_loopw [6, 7, 8] (fun v q i wr => ∃ (k M : Nat) (e : Int) (done : List Fd), k ≤ n ∧ i = .int .i64 k ∧ q = .int .i64 e ∧ wr.ownsRow w3.heap.size 42 3 v M (done.flatMap fdc) ∧ M ≤ k ∧ Below w3.heap.size w3 wr ∧ Hid (cleanF rows 0 l = done ++ cleanF rows e (l.drop k))) (fun _ _ i _ => n - (intOf i).toNat)
    case atStart => exact ⟨0, 0, 0, [], by omega, rfl, rfl, World.ownsRow_nil _ _ _ _, by omega, Below.refl _ _, hide rfl⟩
    case round =>
      obtain ⟨k, M, e, done, hk, rfl, rfl, own, hM, hb, H⟩ := hrel
      have hbz := hb.size
      by_cases hlt : k < n
      · obtain ⟨b, off, x0, x1, x2, rfl, hbB, hx, c1, c2, c3⟩ := folds_at (R3.below hb) hlt
        have Hx := hide hx
        clear hx
        obtain ⟨y0, hy0⟩ : ∃ y, (x0 < 0 ∧ y = 0) ∨ (¬ x0 < 0 ∧ y = x0) := by
          by_cases h : x0 < 0
          · exact ⟨0, .inl ⟨h, rfl⟩⟩
          · exact ⟨x0, .inr ⟨h, rfl⟩⟩
        obtain ⟨y1, hy1⟩ : ∃ y, (rows < x1 ∧ y = rows) ∨ (¬ rows < x1 ∧ y = x1) := by
          by_cases h : rows < x1
          · exact ⟨rows, .inl ⟨h, rfl⟩⟩
          · exact ⟨x1, .inr ⟨h, rfl⟩⟩
        have m0 : max 0 x0 = y0 := by omega
        have m1 : min x1 rows = y1 := by omega
        by_cases t : y0 < y1 ∧ e ≤ y0
        · obtain ⟨t1, t2⟩ := t
          have Hs := hide (show cleanF rows e (l.drop k) = (y0, y1, x2) :: cleanF rows y1 (l.drop (k + 1)) by
            rw [drop_at Hx.out]; simp only [cleanF, m0, m1, t1, t2]; simp)
          clear m0 m1
          rcases hy0 with ⟨q0, rfl⟩ | ⟨q0, rfl⟩ <;> rcases hy1 with ⟨q1, rfl⟩ | ⟨q1, rfl⟩
          · go_wp2_with (at_builtin; go_must (refine wpList_append1 Try.sl28 rfl _ _ rfl w3.heap.size u6 M _ #[.int .i64 0, .int .i64 y1, .int .u64 x2] (wr.alloc (.cells #[.int .i64 0, .int .i64 y1, .int .u64 x2] 42)) 1 rfl rfl (by simp) (own.alloc _) rfl (oneCell_fd1 _ _ _) (by simp only [maxLen]; omega) (by omega) (by simp; omega) ?_; intro A1 m1 w5 app; have k1 := (((Blk.new wr 42 #[.int .i64 0, .int .i64 y1, .int .u64 x2]).alloc _).grown app.grown (own_new own (Nat.le_refl _))).cell 1))
            go_roundw
            case rel =>
              refine ⟨k + 1, M + 1, y1, done ++ [(0, y1, x2)], by omega, by go_num, rfl, ?_, by omega, app.below ((own.alloc _).alloc _) ((hb.alloc hbz _).alloc (by simp; omega) _) (Nat.le_refl _) (by simp; omega), hide (by rw [H.out, Hs.out]; simp)⟩
              rw [List.flatMap_append]
              exact app.own
            case measure => simp [intOf]; omega
          · go_wp2_with (at_builtin; go_must (refine wpList_append1 Try.sl28 rfl _ _ rfl w3.heap.size u6 M _ #[.int .i64 0, .int .i64 y1, .int .u64 x2] (wr.alloc (.cells #[.int .i64 0, .int .i64 y1, .int .u64 x2] 42)) 1 rfl rfl (by simp) (own.alloc _) rfl (oneCell_fd1 _ _ _) (by simp only [maxLen]; omega) (by omega) (by simp; omega) ?_; intro A1 m1 w5 app; have k1 := (((Blk.new wr 42 #[.int .i64 0, .int .i64 y1, .int .u64 x2]).alloc _).grown app.grown (own_new own (Nat.le_refl _))).cell 1))
            go_roundw
            case rel =>
              refine ⟨k + 1, M + 1, y1, done ++ [(0, y1, x2)], by omega, by go_num, rfl, ?_, by omega, app.below ((own.alloc _).alloc _) ((hb.alloc hbz _).alloc (by simp; omega) _) (Nat.le_refl _) (by simp; omega), hide (by rw [H.out, Hs.out]; simp)⟩
              rw [List.flatMap_append]
              exact app.own
            case measure => simp [intOf]; omega
          · go_wp2_with (at_builtin; go_must (refine wpList_append1 Try.sl28 rfl _ _ rfl w3.heap.size u6 M _ #[.int .i64 y0, .int .i64 y1, .int .u64 x2] (wr.alloc (.cells #[.int .i64 y0, .int .i64 y1, .int .u64 x2] 42)) 1 rfl rfl (by simp) (own.alloc _) rfl (oneCell_fd1 _ _ _) (by simp only [maxLen]; omega) (by omega) (by simp; omega) ?_; intro A1 m1 w5 app; have k1 := (((Blk.new wr 42 #[.int .i64 y0, .int .i64 y1, .int .u64 x2]).alloc _).grown app.grown (own_new own (Nat.le_refl _))).cell 1))
            go_roundw
            case rel =>
              refine ⟨k + 1, M + 1, y1, done ++ [(y0, y1, x2)], by omega, by go_num, rfl, ?_, by omega, app.below ((own.alloc _).alloc _) ((hb.alloc hbz _).alloc (by simp; omega) _) (Nat.le_refl _) (by simp; omega), hide (by rw [H.out, Hs.out]; simp)⟩
              rw [List.flatMap_append]
              exact app.own
            case measure => simp [intOf]; omega
          · go_wp2_with (at_builtin; go_must (refine wpList_append1 Try.sl28 rfl _ _ rfl w3.heap.size u6 M _ #[.int .i64 y0, .int .i64 y1, .int .u64 x2] (wr.alloc (.cells #[.int .i64 y0, .int .i64 y1, .int .u64 x2] 42)) 1 rfl rfl (by simp) (own.alloc _) rfl (oneCell_fd1 _ _ _) (by simp only [maxLen]; omega) (by omega) (by simp; omega) ?_; intro A1 m1 w5 app; have k1 := (((Blk.new wr 42 #[.int .i64 y0, .int .i64 y1, .int .u64 x2]).alloc _).grown app.grown (own_new own (Nat.le_refl _))).cell 1))
            go_roundw
            case rel =>
              refine ⟨k + 1, M + 1, y1, done ++ [(y0, y1, x2)], by omega, by go_num, rfl, ?_, by omega, app.below ((own.alloc _).alloc _) ((hb.alloc hbz _).alloc (by simp; omega) _) (Nat.le_refl _) (by simp; omega), hide (by rw [H.out, Hs.out]; simp)⟩
              rw [List.flatMap_append]
              exact app.own
            case measure => simp [intOf]; omega
        · have Hs := hide (show cleanF rows e (l.drop k) = cleanF rows e (l.drop (k + 1)) by
            rw [drop_at Hx.out]; simp only [cleanF, m0, m1, t]; simp)
          clear m0 m1
          by_cases t1 : y0 < y1
          · have t2 : ¬ e ≤ y0 := fun h => t ⟨t1, h⟩
            clear t
            rcases hy0 with ⟨q0, rfl⟩ | ⟨q0, rfl⟩ <;> rcases hy1 with ⟨q1, rfl⟩ | ⟨q1, rfl⟩
            all_goals
              go_wp2_with fail
              go_roundw
              case rel => exact ⟨k + 1, M, e, done, by omega, by go_num, rfl, own.alloc _, by omega, hb.alloc hbz _, hide (by rw [H.out, Hs.out])⟩
              case measure => simp [intOf]; omega
          · clear t
            rcases hy0 with ⟨q0, rfl⟩ | ⟨q0, rfl⟩ <;> rcases hy1 with ⟨q1, rfl⟩ | ⟨q1, rfl⟩
            all_goals
              go_wp2_with fail
              go_roundw
              case rel => exact ⟨k + 1, M, e, done, by omega, by go_num, rfl, own.alloc _, by omega, hb.alloc hbz _, hide (by rw [H.out, Hs.out])⟩
              case measure => simp [intOf]; omega
      · have hE : l.drop k = [] := List.drop_of_length_le (by rw [HL.out]; omega)
        have hD : done = cleanF rows 0 l := by rw [H.out, hE]; simp [cleanF]
        subst hD
        clear hE
        obtain ⟨A4, c4, rfl⟩ := own_slice own
        have S4 := (S3.below hb).more hbz
        have R4 := (R3.below hb).more hbz
        have T4 := Rd.of_own own
        have e3 := own_len fdc_len (by omega) own3
        have e4 := own_len fdc_len (by omega) own
        obtain rfl : M = N3 := by rw [e3, e4]
        have HE := hide e3
        have HN : M ≤ n := by have := clean_len (rows := rows) l 0; rw [HL.out] at this; omega
        clear e3 e4
        have HC := hide (clean_right (rows := rows) l 0 (by omega))
        cases hrb : rightF rows 0 l
        all_goals
          have HR := hide hrb
          clear hrb
        · go_wp2_with (first
            | (go_at_call 16; go_must (refine (right_any A3 M _ rows _ wr S4 (by omega)).mono ?_; rintro e5 w5 ⟨rfl, hb5⟩; rw [HC.out]; have z5 := hb5.size; have S5 := (S4.below hb5).more z5; have R5 := (R4.below hb5).more z5; have T5 := (T4.below hb5).more z5))
            | (go_at_call 15; go_must (refine (refright_any A n c rows l w5 R5 (by omega)).mono ?_; rintro e6 w6 ⟨rfl, k6, rfl⟩; rw [HR.out]; have S6 := S5.drewN k6; have T6 := T5.drewN k6)))
          go_loopw [10] (fun i wx => ∃ (j q : Nat), j ≤ M ∧ i = .int .i64 j ∧ wx = w5.drewN q) (fun i _ => M - (intOf i).toNat)
          case atStart => exact ⟨0, k6, by omega, rfl, rfl⟩
          case round =>
            obtain ⟨j, q, hj, rfl, rfl⟩ := hrel
            by_cases hjt : j < M
            · obtain ⟨b, off, x0, x1, x2, rfl, _, hx, c1, c2, c3⟩ := folds_at S5 hjt
              obtain ⟨b', off', x0', x1', x2', rfl, _, hx', c1', c2', c3'⟩ := folds_at T5 hjt
              rw [hx] at hx'
              simp only [Option.some.injEq, Prod.mk.injEq] at hx'
              obtain ⟨rfl, rfl, rfl⟩ := hx'
              clear hx
              have hsame := fold_same
              go_wp2_with fail
              go_quiet (fail)
              go_wp2_with fail
              go_roundw
              case rel => exact ⟨j + 1, _, by omega, by go_num, by first | rfl | exact World.drewN_drewN _ _ _⟩
              case measure => simp [intOf]; omega
            · go_wp2_with fail
              go_ret
              exact ⟨rfl, below_drewN' ((((hb1.trans (hb2.mono z1)).trans (hb3.mono (by omega))).trans (hb.mono (by omega))).trans (hb5.mono (by omega))) _⟩
        · have hNn : M = n := by rw [HE.out, clean_keeps l 0 (by omega) HR.out, HL.out]
          subst hNn
          go_wp2_with (first
            | (go_at_call 16; go_must (refine (right_any A3 M _ rows _ wr S4 (by omega)).mono ?_; rintro e5 w5 ⟨rfl, hb5⟩; rw [HC.out]; have z5 := hb5.size; have S5 := (S4.below hb5).more z5; have R5 := (R4.below hb5).more z5; have T5 := (T4.below hb5).more z5))
            | (go_at_call 15; go_must (refine (refright_any A M c rows l w5 R5 (by omega)).mono ?_; rintro e6 w6 ⟨rfl, k6, rfl⟩; rw [HR.out]; have S6 := S5.drewN k6; have T6 := T5.drewN k6)))
          go_loopw [10] (fun i wx => ∃ (j q : Nat), j ≤ M ∧ i = .int .i64 j ∧ wx = w5.drewN q) (fun i _ => M - (intOf i).toNat)
          case atStart => exact ⟨0, k6, by omega, rfl, rfl⟩
          case round =>
            obtain ⟨j, q, hj, rfl, rfl⟩ := hrel
            by_cases hjt : j < M
            · obtain ⟨b, off, x0, x1, x2, rfl, _, hx, c1, c2, c3⟩ := folds_at S5 hjt
              obtain ⟨b', off', x0', x1', x2', rfl, _, hx', c1', c2', c3'⟩ := folds_at T5 hjt
              rw [hx] at hx'
              simp only [Option.some.injEq, Prod.mk.injEq] at hx'
              obtain ⟨rfl, rfl, rfl⟩ := hx'
              clear hx
              have hsame := fold_same
              go_wp2_with fail
              go_quiet (fail)
              go_wp2_with fail
              go_roundw
              case rel => exact ⟨j + 1, _, by omega, by go_num, by first | rfl | exact World.drewN_drewN _ _ _⟩
              case measure => simp [intOf]; omega
            · go_wp2_with fail
              go_ret
              exact ⟨rfl, below_drewN' ((((hb1.trans (hb2.mono z1)).trans (hb3.mono (by omega))).trans (hb.mono (by omega))).trans (hb5.mono (by omega))) _⟩
end Go.Proofs.Ytdmiaciembcebaa
