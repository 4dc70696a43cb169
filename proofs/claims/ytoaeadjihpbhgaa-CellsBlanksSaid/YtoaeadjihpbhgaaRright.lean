/-
  The document's Right, walked. No condition but bounds. (printed by gen_right.py)
-/
import Derived.Test.YtoaeadjihpbhgaaRight
namespace Go.Proofs.Ytoaeadjihpbhgaa
open Go.RowKit Go.Proofs
set_option linter.unusedVariables false
set_option maxRecDepth 100000 in
set_option maxHeartbeats 8000000 in
theorem rright_any (l : List Cell) (n c B : Nat) (A : Option Addr) (w : World) (hl : Rd w B 8 A n (l.flatMap cellE)) (hB : B ≤ w.heap.size) (hn : n ≤ 100000) (hq : ∀ c ∈ l, c.more.size ≤ 3000000) :
    Calls Try.prog 19 #[.slice A n c] w fun e w' => e = .returned (.bool (rightB l)) ∧ Below w.heap.size w w' := by
  have hll := hl.len (E := cellE) (fun _ => rfl) (by omega)
  have HL := hide hl
  have HLL := hide hll
  have HQ := hide hq
  have M1 := hide (rmend_any l n c B A w hl hB hn)
  have SA := hide (fun (A1 : Option Addr) (c1 : Nat) (w1 : World) (o1 : w1.ownsRow w.heap.size 40 8 (.slice A1 n c1) n ((mendF l).flatMap cellE)) (b1 : Below w.heap.size w w1) =>
    same_any (mendF l) l n n c1 c w1.heap.size A1 A w1 (Rd.of_own o1) ((hl.below (b1.mono hB)).more (Nat.le_trans hB b1.size)) (Nat.le_refl _) hn hn)
  have OF := hide (fun (r : Int) (W : World) => rof_any r W)
  have MK := hide (fun (s : ByteArray) (hs : s.size ≤ 3000000) (W : World) => rmk_any s hs W)
  clear hl hll hq
  by_cases hsame : mendF l = l
  · have HS := hide hsame
    rw [hsame, sameR_self] at SA
    rw [hsame] at M1
    clear hsame
    go_enter Try.func19, Try.ntmps19
    go_wp2_with (first
      | (go_at_call 21; go_must (refine (M1.out).mono ?_; rintro e w1 ⟨A1, c1, rfl, o1, h1, b1⟩; have S1 := hide (SA.out A1 c1 w1 o1 b1); have B1 := hide b1; clear o1 b1))
      | (go_at_call 11; go_must (refine (S1.out).mono ?_; rintro e w2 ⟨rfl, b2⟩; have B2 := hide (below_in B1.out b2 (Nat.le_refl _)); clear b2)))
    go_loopg [3] n (fun gg s wr => ∃ (k : Nat), k ≤ n ∧ n - k ≤ gg ∧ s = .int .i64 k ∧ Hid (∀ c ∈ l.take k, fineB c = true) ∧ Hid (Below w.heap.size w wr))
    case atStart => exact ⟨0, by omega, by omega, rfl, show ∀ c ∈ l.take 0, fineB c = true by simp, B2.out⟩
    case round =>
      obtain ⟨k, hkn, hgk, rfl, HF, HB⟩ := hrel
      by_cases hlt : k < n
      · have d1 : decide (k < n) = true := by simpa using hlt
        have i1 : (0 : Int) ≤ k := by omega
        have i2 : (k : Int) ≤ n := by omega
        obtain ⟨b, off, x, hA, hb, hx, x0, x1, x2, x3, x4, x5, x6, x7⟩ := (HL.out.below (HB.out.mono hB)).eight hlt
        subst hA
        obtain ⟨wd, hwd⟩ : ∃ wd, widOf x.r = wd := ⟨_, rfl⟩
        have O1 := hide (fun W => OF.out x.r W)
        rw [hwd] at O1
        have HW := hide hwd
        obtain ⟨mb, hmb⟩ : ∃ mb, marksB x.more = mb := ⟨_, rfl⟩
        have MB := hide (fun W => MK.out x.more (HQ.out x (List.mem_of_getElem? hx)) W)
        rw [hmb] at MB
        have HMB := hide hmb
        have hh := mendF_h l x (by rw [HS.out]; exact List.mem_of_getElem? hx)
        obtain ⟨hv, hhv⟩ : ∃ hv, x.half = hv := ⟨_, rfl⟩
        rw [hhv] at x2 hh
        have HH := hide hhv
        have HX := hide hx
        clear hwd hmb hhv hx
        rcases hh with rfl | rfl | rfl | rfl
        · by_cases hr0 : x.r = 0
          · have d2 : (x.r == 0) = true := by simpa using hr0
            have d2' : (x.r != 0) = false := by simpa using hr0
            by_cases hm : x.more.toList = []
            · have m1 : (x.more.toList == []) = true := by simpa using hm
              have m2 : x.more.toList.isEmpty = true := by simpa using hm
              have HT := hide (show fineB x = true by unfold fineB fineW; simp [hr0, hm, HH.out])
              clear hr0 hm
              go_upto_region 7 with (fail)
              go_name_world W hW
              have QW := hide (show Blk W wr.heap.size 40 #[.int .i32 x.r, .string x.more, .int .i64 0, .int .i64 x.a.fk, .int .i64 x.a.fn, .int .i64 x.a.bk, .int .i64 x.a.bn, .int .i64 x.a.fl] by rw [← hW]; exact Blk.new _ _ _)
              have BW := hide (show Below wr.heap.size wr W by rw [← hW]; exact (Below.refl _ _).alloc (Nat.le_refl _) _)
              clear hW x0 x1 x2 x3 x4 x5 x6 x7
              obtain ⟨⟨p0, p1, p2, p3, p4, p5, p6, p7⟩, _⟩ := blk8 QW.out
              go_wp2_with (first
                | (go_at_call 42; go_must (refine (O1.out _).mono ?_; rintro e w3 ⟨rfl, b3⟩; obtain ⟨⟨q0, q1, q2, q3, q4, q5, q6, q7⟩, _⟩ := blk8 (QW.out.below b3 QW.out.lt); have B3 := hide (below_in (HB.out.trans (BW.out.mono HB.out.size)) b3 (Nat.le_refl _)); clear b3))
                | (go_at_call 43; go_must (refine (MB.out _).mono ?_; rintro e w4 ⟨rfl, b4⟩; have B4 := hide (below_in B3.out b4 (Nat.le_refl _)); clear b4)))
              go_roundg (n - (k + 1))
              case measure => omega
              case rel =>
                refine ⟨k + 1, by omega, by omega, by go_num, ?_, B3.out⟩
                show ∀ c ∈ l.take (k + 1), fineB c = true
                intro z hz
                rw [take_snoc HX.out, List.mem_append] at hz
                rcases hz with hz | hz
                · exact HF.out z hz
                · rw [List.mem_singleton] at hz; subst hz; exact HT.out
            · have m1 : (x.more.toList == []) = false := by simpa using hm
              have m2 : x.more.toList.isEmpty = false := by simpa using hm
              have HT := hide (show fineB x = false by unfold fineB fineW; simp [hr0, hm])
              clear hr0 hm
              go_upto_region 7 with (fail)
              go_name_world W hW
              have QW := hide (show Blk W wr.heap.size 40 #[.int .i32 x.r, .string x.more, .int .i64 0, .int .i64 x.a.fk, .int .i64 x.a.fn, .int .i64 x.a.bk, .int .i64 x.a.bn, .int .i64 x.a.fl] by rw [← hW]; exact Blk.new _ _ _)
              have BW := hide (show Below wr.heap.size wr W by rw [← hW]; exact (Below.refl _ _).alloc (Nat.le_refl _) _)
              clear hW x0 x1 x2 x3 x4 x5 x6 x7
              obtain ⟨⟨p0, p1, p2, p3, p4, p5, p6, p7⟩, _⟩ := blk8 QW.out
              go_wp2_with (first
                | (go_at_call 42; go_must (refine (O1.out _).mono ?_; rintro e w3 ⟨rfl, b3⟩; obtain ⟨⟨q0, q1, q2, q3, q4, q5, q6, q7⟩, _⟩ := blk8 (QW.out.below b3 QW.out.lt); have B3 := hide (below_in (HB.out.trans (BW.out.mono HB.out.size)) b3 (Nat.le_refl _)); clear b3))
                | (go_at_call 43; go_must (refine (MB.out _).mono ?_; rintro e w4 ⟨rfl, b4⟩; have B4 := hide (below_in B3.out b4 (Nat.le_refl _)); clear b4)))
              go_ret
              rw [right_bad (List.mem_of_getElem? HX.out) HT.out]
              exact ⟨rfl, B3.out⟩
          · have d2 : (x.r == 0) = false := by simpa using hr0
            have d2' : (x.r != 0) = true := by simpa using hr0
            by_cases hk : wd = 1
            · subst hk
              cases mb with
              | true =>
                have HT := hide (show fineB x = true by unfold fineB fineW; simp [hr0, HW.out, HMB.out, HH.out])
                clear hr0
                go_upto_region 7 with (fail)
                go_name_world W hW
                have QW := hide (show Blk W wr.heap.size 40 #[.int .i32 x.r, .string x.more, .int .i64 0, .int .i64 x.a.fk, .int .i64 x.a.fn, .int .i64 x.a.bk, .int .i64 x.a.bn, .int .i64 x.a.fl] by rw [← hW]; exact Blk.new _ _ _)
                have BW := hide (show Below wr.heap.size wr W by rw [← hW]; exact (Below.refl _ _).alloc (Nat.le_refl _) _)
                clear hW x0 x1 x2 x3 x4 x5 x6 x7
                obtain ⟨⟨p0, p1, p2, p3, p4, p5, p6, p7⟩, _⟩ := blk8 QW.out
                go_wp2_with (first
                  | (go_at_call 42; go_must (refine (O1.out _).mono ?_; rintro e w3 ⟨rfl, b3⟩; obtain ⟨⟨q0, q1, q2, q3, q4, q5, q6, q7⟩, _⟩ := blk8 (QW.out.below b3 QW.out.lt); have B3 := hide (below_in (HB.out.trans (BW.out.mono HB.out.size)) b3 (Nat.le_refl _)); clear b3))
                  | (go_at_call 43; go_must (refine (MB.out _).mono ?_; rintro e w4 ⟨rfl, b4⟩; have B4 := hide (below_in B3.out b4 (Nat.le_refl _)); clear b4)))
                go_roundg (n - (k + 1))
                case measure => omega
                case rel =>
                  refine ⟨k + 1, by omega, by omega, by go_num, ?_, B4.out⟩
                  show ∀ c ∈ l.take (k + 1), fineB c = true
                  intro z hz
                  rw [take_snoc HX.out, List.mem_append] at hz
                  rcases hz with hz | hz
                  · exact HF.out z hz
                  · rw [List.mem_singleton] at hz; subst hz; exact HT.out
              | false =>
                have HT := hide (show fineB x = false by unfold fineB fineW; simp [hr0, HMB.out])
                clear hr0
                go_upto_region 7 with (fail)
                go_name_world W hW
                have QW := hide (show Blk W wr.heap.size 40 #[.int .i32 x.r, .string x.more, .int .i64 0, .int .i64 x.a.fk, .int .i64 x.a.fn, .int .i64 x.a.bk, .int .i64 x.a.bn, .int .i64 x.a.fl] by rw [← hW]; exact Blk.new _ _ _)
                have BW := hide (show Below wr.heap.size wr W by rw [← hW]; exact (Below.refl _ _).alloc (Nat.le_refl _) _)
                clear hW x0 x1 x2 x3 x4 x5 x6 x7
                obtain ⟨⟨p0, p1, p2, p3, p4, p5, p6, p7⟩, _⟩ := blk8 QW.out
                go_wp2_with (first
                  | (go_at_call 42; go_must (refine (O1.out _).mono ?_; rintro e w3 ⟨rfl, b3⟩; obtain ⟨⟨q0, q1, q2, q3, q4, q5, q6, q7⟩, _⟩ := blk8 (QW.out.below b3 QW.out.lt); have B3 := hide (below_in (HB.out.trans (BW.out.mono HB.out.size)) b3 (Nat.le_refl _)); clear b3))
                  | (go_at_call 43; go_must (refine (MB.out _).mono ?_; rintro e w4 ⟨rfl, b4⟩; have B4 := hide (below_in B3.out b4 (Nat.le_refl _)); clear b4)))
                go_ret
                rw [right_bad (List.mem_of_getElem? HX.out) HT.out]
                exact ⟨rfl, B4.out⟩
            · have d3 : (wd == 1) = false := by simpa using hk
              have HT := hide (show fineB x = false by unfold fineB fineW; simp [hr0, HW.out, HH.out, hk])
              clear hr0 hk
              go_upto_region 7 with (fail)
              go_name_world W hW
              have QW := hide (show Blk W wr.heap.size 40 #[.int .i32 x.r, .string x.more, .int .i64 0, .int .i64 x.a.fk, .int .i64 x.a.fn, .int .i64 x.a.bk, .int .i64 x.a.bn, .int .i64 x.a.fl] by rw [← hW]; exact Blk.new _ _ _)
              have BW := hide (show Below wr.heap.size wr W by rw [← hW]; exact (Below.refl _ _).alloc (Nat.le_refl _) _)
              clear hW x0 x1 x2 x3 x4 x5 x6 x7
              obtain ⟨⟨p0, p1, p2, p3, p4, p5, p6, p7⟩, _⟩ := blk8 QW.out
              go_wp2_with (first
                | (go_at_call 42; go_must (refine (O1.out _).mono ?_; rintro e w3 ⟨rfl, b3⟩; obtain ⟨⟨q0, q1, q2, q3, q4, q5, q6, q7⟩, _⟩ := blk8 (QW.out.below b3 QW.out.lt); have B3 := hide (below_in (HB.out.trans (BW.out.mono HB.out.size)) b3 (Nat.le_refl _)); clear b3))
                | (go_at_call 43; go_must (refine (MB.out _).mono ?_; rintro e w4 ⟨rfl, b4⟩; have B4 := hide (below_in B3.out b4 (Nat.le_refl _)); clear b4)))
              go_ret
              rw [right_bad (List.mem_of_getElem? HX.out) HT.out]
              exact ⟨rfl, B3.out⟩
        · by_cases hk : wd = 2
          · have hr0 : ¬ x.r = 0 := by intro e; have h1 := HW.out; rw [e, wid_zero, hk] at h1; omega
            subst hk
            cases mb with
            | true =>
              have HT := hide (show fineB x = true by unfold fineB fineW; simp [hr0, HW.out, HMB.out, HH.out])
              clear hr0
              go_upto_region 7 with (fail)
              go_name_world W hW
              have QW := hide (show Blk W wr.heap.size 40 #[.int .i32 x.r, .string x.more, .int .i64 1, .int .i64 x.a.fk, .int .i64 x.a.fn, .int .i64 x.a.bk, .int .i64 x.a.bn, .int .i64 x.a.fl] by rw [← hW]; exact Blk.new _ _ _)
              have BW := hide (show Below wr.heap.size wr W by rw [← hW]; exact (Below.refl _ _).alloc (Nat.le_refl _) _)
              clear hW x0 x1 x2 x3 x4 x5 x6 x7
              obtain ⟨⟨p0, p1, p2, p3, p4, p5, p6, p7⟩, _⟩ := blk8 QW.out
              go_wp2_with (first
                | (go_at_call 42; go_must (refine (O1.out _).mono ?_; rintro e w3 ⟨rfl, b3⟩; obtain ⟨⟨q0, q1, q2, q3, q4, q5, q6, q7⟩, _⟩ := blk8 (QW.out.below b3 QW.out.lt); have B3 := hide (below_in (HB.out.trans (BW.out.mono HB.out.size)) b3 (Nat.le_refl _)); clear b3))
                | (go_at_call 43; go_must (refine (MB.out _).mono ?_; rintro e w4 ⟨rfl, b4⟩; have B4 := hide (below_in B3.out b4 (Nat.le_refl _)); clear b4)))
              go_roundg (n - (k + 1))
              case measure => omega
              case rel =>
                refine ⟨k + 1, by omega, by omega, by go_num, ?_, B4.out⟩
                show ∀ c ∈ l.take (k + 1), fineB c = true
                intro z hz
                rw [take_snoc HX.out, List.mem_append] at hz
                rcases hz with hz | hz
                · exact HF.out z hz
                · rw [List.mem_singleton] at hz; subst hz; exact HT.out
            | false =>
              have HT := hide (show fineB x = false by unfold fineB fineW; simp [hr0, HMB.out])
              clear hr0
              go_upto_region 7 with (fail)
              go_name_world W hW
              have QW := hide (show Blk W wr.heap.size 40 #[.int .i32 x.r, .string x.more, .int .i64 1, .int .i64 x.a.fk, .int .i64 x.a.fn, .int .i64 x.a.bk, .int .i64 x.a.bn, .int .i64 x.a.fl] by rw [← hW]; exact Blk.new _ _ _)
              have BW := hide (show Below wr.heap.size wr W by rw [← hW]; exact (Below.refl _ _).alloc (Nat.le_refl _) _)
              clear hW x0 x1 x2 x3 x4 x5 x6 x7
              obtain ⟨⟨p0, p1, p2, p3, p4, p5, p6, p7⟩, _⟩ := blk8 QW.out
              go_wp2_with (first
                | (go_at_call 42; go_must (refine (O1.out _).mono ?_; rintro e w3 ⟨rfl, b3⟩; obtain ⟨⟨q0, q1, q2, q3, q4, q5, q6, q7⟩, _⟩ := blk8 (QW.out.below b3 QW.out.lt); have B3 := hide (below_in (HB.out.trans (BW.out.mono HB.out.size)) b3 (Nat.le_refl _)); clear b3))
                | (go_at_call 43; go_must (refine (MB.out _).mono ?_; rintro e w4 ⟨rfl, b4⟩; have B4 := hide (below_in B3.out b4 (Nat.le_refl _)); clear b4)))
              go_ret
              rw [right_bad (List.mem_of_getElem? HX.out) HT.out]
              exact ⟨rfl, B4.out⟩
          · have d3 : (wd == 2) = false := by simpa using hk
            have HT := hide (show fineB x = false by unfold fineB fineW; simp [HW.out, HH.out, hk])
            clear hk
            go_upto_region 7 with (fail)
            go_name_world W hW
            have QW := hide (show Blk W wr.heap.size 40 #[.int .i32 x.r, .string x.more, .int .i64 1, .int .i64 x.a.fk, .int .i64 x.a.fn, .int .i64 x.a.bk, .int .i64 x.a.bn, .int .i64 x.a.fl] by rw [← hW]; exact Blk.new _ _ _)
            have BW := hide (show Below wr.heap.size wr W by rw [← hW]; exact (Below.refl _ _).alloc (Nat.le_refl _) _)
            clear hW x0 x1 x2 x3 x4 x5 x6 x7
            obtain ⟨⟨p0, p1, p2, p3, p4, p5, p6, p7⟩, _⟩ := blk8 QW.out
            go_wp2_with (first
              | (go_at_call 42; go_must (refine (O1.out _).mono ?_; rintro e w3 ⟨rfl, b3⟩; obtain ⟨⟨q0, q1, q2, q3, q4, q5, q6, q7⟩, _⟩ := blk8 (QW.out.below b3 QW.out.lt); have B3 := hide (below_in (HB.out.trans (BW.out.mono HB.out.size)) b3 (Nat.le_refl _)); clear b3))
              | (go_at_call 43; go_must (refine (MB.out _).mono ?_; rintro e w4 ⟨rfl, b4⟩; have B4 := hide (below_in B3.out b4 (Nat.le_refl _)); clear b4)))
            go_ret
            rw [right_bad (List.mem_of_getElem? HX.out) HT.out]
            exact ⟨rfl, B3.out⟩
        · by_cases hk : wd = 2
          · have hr0 : ¬ x.r = 0 := by intro e; have h1 := HW.out; rw [e, wid_zero, hk] at h1; omega
            subst hk
            cases mb with
            | true =>
              have HT := hide (show fineB x = true by unfold fineB fineW; simp [hr0, HW.out, HMB.out, HH.out])
              clear hr0
              go_upto_region 7 with (fail)
              go_name_world W hW
              have QW := hide (show Blk W wr.heap.size 40 #[.int .i32 x.r, .string x.more, .int .i64 2, .int .i64 x.a.fk, .int .i64 x.a.fn, .int .i64 x.a.bk, .int .i64 x.a.bn, .int .i64 x.a.fl] by rw [← hW]; exact Blk.new _ _ _)
              have BW := hide (show Below wr.heap.size wr W by rw [← hW]; exact (Below.refl _ _).alloc (Nat.le_refl _) _)
              clear hW x0 x1 x2 x3 x4 x5 x6 x7
              obtain ⟨⟨p0, p1, p2, p3, p4, p5, p6, p7⟩, _⟩ := blk8 QW.out
              go_wp2_with (first
                | (go_at_call 42; go_must (refine (O1.out _).mono ?_; rintro e w3 ⟨rfl, b3⟩; obtain ⟨⟨q0, q1, q2, q3, q4, q5, q6, q7⟩, _⟩ := blk8 (QW.out.below b3 QW.out.lt); have B3 := hide (below_in (HB.out.trans (BW.out.mono HB.out.size)) b3 (Nat.le_refl _)); clear b3))
                | (go_at_call 43; go_must (refine (MB.out _).mono ?_; rintro e w4 ⟨rfl, b4⟩; have B4 := hide (below_in B3.out b4 (Nat.le_refl _)); clear b4)))
              go_roundg (n - (k + 1))
              case measure => omega
              case rel =>
                refine ⟨k + 1, by omega, by omega, by go_num, ?_, B4.out⟩
                show ∀ c ∈ l.take (k + 1), fineB c = true
                intro z hz
                rw [take_snoc HX.out, List.mem_append] at hz
                rcases hz with hz | hz
                · exact HF.out z hz
                · rw [List.mem_singleton] at hz; subst hz; exact HT.out
            | false =>
              have HT := hide (show fineB x = false by unfold fineB fineW; simp [hr0, HMB.out])
              clear hr0
              go_upto_region 7 with (fail)
              go_name_world W hW
              have QW := hide (show Blk W wr.heap.size 40 #[.int .i32 x.r, .string x.more, .int .i64 2, .int .i64 x.a.fk, .int .i64 x.a.fn, .int .i64 x.a.bk, .int .i64 x.a.bn, .int .i64 x.a.fl] by rw [← hW]; exact Blk.new _ _ _)
              have BW := hide (show Below wr.heap.size wr W by rw [← hW]; exact (Below.refl _ _).alloc (Nat.le_refl _) _)
              clear hW x0 x1 x2 x3 x4 x5 x6 x7
              obtain ⟨⟨p0, p1, p2, p3, p4, p5, p6, p7⟩, _⟩ := blk8 QW.out
              go_wp2_with (first
                | (go_at_call 42; go_must (refine (O1.out _).mono ?_; rintro e w3 ⟨rfl, b3⟩; obtain ⟨⟨q0, q1, q2, q3, q4, q5, q6, q7⟩, _⟩ := blk8 (QW.out.below b3 QW.out.lt); have B3 := hide (below_in (HB.out.trans (BW.out.mono HB.out.size)) b3 (Nat.le_refl _)); clear b3))
                | (go_at_call 43; go_must (refine (MB.out _).mono ?_; rintro e w4 ⟨rfl, b4⟩; have B4 := hide (below_in B3.out b4 (Nat.le_refl _)); clear b4)))
              go_ret
              rw [right_bad (List.mem_of_getElem? HX.out) HT.out]
              exact ⟨rfl, B4.out⟩
          · have d3 : (wd == 2) = false := by simpa using hk
            have HT := hide (show fineB x = false by unfold fineB fineW; simp [HW.out, HH.out, hk])
            clear hk
            go_upto_region 7 with (fail)
            go_name_world W hW
            have QW := hide (show Blk W wr.heap.size 40 #[.int .i32 x.r, .string x.more, .int .i64 2, .int .i64 x.a.fk, .int .i64 x.a.fn, .int .i64 x.a.bk, .int .i64 x.a.bn, .int .i64 x.a.fl] by rw [← hW]; exact Blk.new _ _ _)
            have BW := hide (show Below wr.heap.size wr W by rw [← hW]; exact (Below.refl _ _).alloc (Nat.le_refl _) _)
            clear hW x0 x1 x2 x3 x4 x5 x6 x7
            obtain ⟨⟨p0, p1, p2, p3, p4, p5, p6, p7⟩, _⟩ := blk8 QW.out
            go_wp2_with (first
              | (go_at_call 42; go_must (refine (O1.out _).mono ?_; rintro e w3 ⟨rfl, b3⟩; obtain ⟨⟨q0, q1, q2, q3, q4, q5, q6, q7⟩, _⟩ := blk8 (QW.out.below b3 QW.out.lt); have B3 := hide (below_in (HB.out.trans (BW.out.mono HB.out.size)) b3 (Nat.le_refl _)); clear b3))
              | (go_at_call 43; go_must (refine (MB.out _).mono ?_; rintro e w4 ⟨rfl, b4⟩; have B4 := hide (below_in B3.out b4 (Nat.le_refl _)); clear b4)))
            go_ret
            rw [right_bad (List.mem_of_getElem? HX.out) HT.out]
            exact ⟨rfl, B3.out⟩
        · by_cases hr0 : x.r = 0
          · have d2 : (x.r == 0) = true := by simpa using hr0
            by_cases hm : x.more.toList = []
            · have m1 : (x.more.toList == []) = true := by simpa using hm
              have m2 : x.more.toList.isEmpty = true := by simpa using hm
              have HT := hide (show fineB x = true by unfold fineB fineW; simp [hr0, hm, HH.out])
              clear hr0 hm
              go_upto_region 7 with (fail)
              go_name_world W hW
              have QW := hide (show Blk W wr.heap.size 40 #[.int .i32 x.r, .string x.more, .int .i64 3, .int .i64 x.a.fk, .int .i64 x.a.fn, .int .i64 x.a.bk, .int .i64 x.a.bn, .int .i64 x.a.fl] by rw [← hW]; exact Blk.new _ _ _)
              have BW := hide (show Below wr.heap.size wr W by rw [← hW]; exact (Below.refl _ _).alloc (Nat.le_refl _) _)
              clear hW x0 x1 x2 x3 x4 x5 x6 x7
              obtain ⟨⟨p0, p1, p2, p3, p4, p5, p6, p7⟩, _⟩ := blk8 QW.out
              go_wp2_with (first
                | (go_at_call 42; go_must (refine (O1.out _).mono ?_; rintro e w3 ⟨rfl, b3⟩; obtain ⟨⟨q0, q1, q2, q3, q4, q5, q6, q7⟩, _⟩ := blk8 (QW.out.below b3 QW.out.lt); have B3 := hide (below_in (HB.out.trans (BW.out.mono HB.out.size)) b3 (Nat.le_refl _)); clear b3))
                | (go_at_call 43; go_must (refine (MB.out _).mono ?_; rintro e w4 ⟨rfl, b4⟩; have B4 := hide (below_in B3.out b4 (Nat.le_refl _)); clear b4)))
              go_roundg (n - (k + 1))
              case measure => omega
              case rel =>
                refine ⟨k + 1, by omega, by omega, by go_num, ?_, B3.out⟩
                show ∀ c ∈ l.take (k + 1), fineB c = true
                intro z hz
                rw [take_snoc HX.out, List.mem_append] at hz
                rcases hz with hz | hz
                · exact HF.out z hz
                · rw [List.mem_singleton] at hz; subst hz; exact HT.out
            · have m1 : (x.more.toList == []) = false := by simpa using hm
              have m2 : x.more.toList.isEmpty = false := by simpa using hm
              have HT := hide (show fineB x = false by unfold fineB fineW; simp [hr0, hm])
              clear hr0 hm
              go_upto_region 7 with (fail)
              go_name_world W hW
              have QW := hide (show Blk W wr.heap.size 40 #[.int .i32 x.r, .string x.more, .int .i64 3, .int .i64 x.a.fk, .int .i64 x.a.fn, .int .i64 x.a.bk, .int .i64 x.a.bn, .int .i64 x.a.fl] by rw [← hW]; exact Blk.new _ _ _)
              have BW := hide (show Below wr.heap.size wr W by rw [← hW]; exact (Below.refl _ _).alloc (Nat.le_refl _) _)
              clear hW x0 x1 x2 x3 x4 x5 x6 x7
              obtain ⟨⟨p0, p1, p2, p3, p4, p5, p6, p7⟩, _⟩ := blk8 QW.out
              go_wp2_with (first
                | (go_at_call 42; go_must (refine (O1.out _).mono ?_; rintro e w3 ⟨rfl, b3⟩; obtain ⟨⟨q0, q1, q2, q3, q4, q5, q6, q7⟩, _⟩ := blk8 (QW.out.below b3 QW.out.lt); have B3 := hide (below_in (HB.out.trans (BW.out.mono HB.out.size)) b3 (Nat.le_refl _)); clear b3))
                | (go_at_call 43; go_must (refine (MB.out _).mono ?_; rintro e w4 ⟨rfl, b4⟩; have B4 := hide (below_in B3.out b4 (Nat.le_refl _)); clear b4)))
              go_ret
              rw [right_bad (List.mem_of_getElem? HX.out) HT.out]
              exact ⟨rfl, B3.out⟩
          · have d2 : (x.r == 0) = false := by simpa using hr0
            have HT := hide (show fineB x = false by unfold fineB fineW; simp [hr0, HH.out])
            clear hr0
            go_upto_region 7 with (fail)
            go_name_world W hW
            have QW := hide (show Blk W wr.heap.size 40 #[.int .i32 x.r, .string x.more, .int .i64 3, .int .i64 x.a.fk, .int .i64 x.a.fn, .int .i64 x.a.bk, .int .i64 x.a.bn, .int .i64 x.a.fl] by rw [← hW]; exact Blk.new _ _ _)
            have BW := hide (show Below wr.heap.size wr W by rw [← hW]; exact (Below.refl _ _).alloc (Nat.le_refl _) _)
            clear hW x0 x1 x2 x3 x4 x5 x6 x7
            obtain ⟨⟨p0, p1, p2, p3, p4, p5, p6, p7⟩, _⟩ := blk8 QW.out
            go_wp2_with (first
              | (go_at_call 42; go_must (refine (O1.out _).mono ?_; rintro e w3 ⟨rfl, b3⟩; obtain ⟨⟨q0, q1, q2, q3, q4, q5, q6, q7⟩, _⟩ := blk8 (QW.out.below b3 QW.out.lt); have B3 := hide (below_in (HB.out.trans (BW.out.mono HB.out.size)) b3 (Nat.le_refl _)); clear b3))
              | (go_at_call 43; go_must (refine (MB.out _).mono ?_; rintro e w4 ⟨rfl, b4⟩; have B4 := hide (below_in B3.out b4 (Nat.le_refl _)); clear b4)))
            go_ret
            rw [right_bad (List.mem_of_getElem? HX.out) HT.out]
            exact ⟨rfl, B3.out⟩
      · obtain rfl : k = n := by omega
        have d1 : decide (k < k) = false := by simp
        have HR := hide (show rightB l = true from right_yes HS.out (by
          have h := HF.out
          rw [List.take_of_length_le (by rw [HLL.out]; exact Nat.le_refl _)] at h
          exact h))
        go_wp2
        go_ret
        rw [HR.out]
        exact ⟨rfl, HB.out⟩
  · have HR := hide (right_mend hsame)
    rw [sameR_false hsame] at SA
    clear hsame
    go_enter Try.func19, Try.ntmps19
    go_wp2_with (first
      | (go_at_call 21; go_must (refine (M1.out).mono ?_; rintro e w1 ⟨A1, c1, rfl, o1, h1, b1⟩; have S1 := hide (SA.out A1 c1 w1 o1 b1); have B1 := hide b1; clear o1 b1))
      | (go_at_call 11; go_must (refine (S1.out).mono ?_; rintro e w2 ⟨rfl, b2⟩; have B2 := hide (below_in B1.out b2 (Nat.le_refl _)); clear b2)))
    go_ret
    rw [HR.out]
    exact ⟨rfl, B2.out⟩
end Go.Proofs.Ytoaeadjihpbhgaa
