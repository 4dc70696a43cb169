/-
  The law UtfEnds, walked. No condition but what the arguments' kinds bear.
-/
import Derived.Test.YtlmgglkicdlchaaLawSteps
namespace Go.Proofs.Ytlmgglkicdlchaa
open Go.RowKit Go.Proofs
set_option linter.unusedVariables false
set_option maxRecDepth 100000 in
set_option maxHeartbeats 4000000 in
theorem utfEnds_walk (w : World) (A : Option Addr) (n c : Nat) (l : List Int) (hl : l.length = n) (hnc : n ≤ c) (hcm : c ≤ maxLen) (hrd : Rd w w.heap.size 1 A n (l.map b8)) (hq : ∀ x ∈ l, IsByte x)
    (A' : Option Addr) (n' c' : Nat) (l' : List Int) (hl' : l'.length = n') (hnc' : n' ≤ c') (hcm' : c' ≤ maxLen) (hrd' : Rd w w.heap.size 1 A' n' (l'.map b8)) (hq' : ∀ x ∈ l', IsByte x) :
    Calls Try.prog 6 #[.slice A n c, .slice A' n' c'] w fun e w' => e = .returned (.bool true) ∧ Below w.heap.size w w' := by
  have AW := hide awake_any
  by_cases hbig : 200 < n
  · have d1 : decide (200 < n) = true := by simpa using hbig
    have d2 : decide (200 < (n : Int)) = true := by simp; omega
    clear hrd hq hl hcm hrd' hq' hl' hcm'
    go_enter Try.func6, Try.ntmps6
    go_wp2_with (go_at_call 10; go_must (refine (AW.out _).mono ?_; rintro e w1 ⟨rfl, b1⟩))
    go_ret
    exact ⟨rfl, b1⟩
  · have hn : n ≤ 200 := by omega
    have d1 : decide (200 < n) = false := by simpa using hbig
    have d2 : decide (200 < (n : Int)) = false := by simp; omega
    by_cases hbig' : 200 < n'
    · have d3 : decide (200 < n') = true := by simpa using hbig'
      have d4 : decide (200 < (n' : Int)) = true := by simp; omega
      clear hrd hq hl hcm hrd' hq' hl' hcm'
      go_enter Try.func6, Try.ntmps6
      go_wp2_with (go_at_call 10; go_must (refine (AW.out _).mono ?_; rintro e w1 ⟨rfl, b1⟩))
      go_ret
      exact ⟨rfl, b1⟩
    · have hn' : n' ≤ 200 := by omega
      have d3 : decide (200 < n') = false := by simpa using hbig'
      have d4 : decide (200 < (n' : Int)) = false := by simp; omega
      have HR := hide hrd
      have HQ := hide hq
      have HL := hide hl
      have HR' := hide hrd'
      have HQ' := hide hq'
      have HL' := hide hl'
      have HD0 := hide (show DecAt (w.alloc (.cells (decC 0 0 0 0 0) 31)) w.heap.size [] from ⟨0, 0, 0, 0, 0, Blk.new _ _ _, rfl, rfl⟩)
      clear hrd hq hl hcm hbig hrd' hq' hl' hcm' hbig'
      go_enter Try.func6, Try.ntmps6
      go_wp2
      go_loopg [6] 2 (fun g s6 wr => ∃ (k : Nat), k + g = 2 ∧ s6 = .int .i64 k ∧ Hid (DecAt wr w.heap.size []) ∧ Hid (Below w.heap.size w wr))
      case atStart => exact ⟨0, by omega, rfl, HD0.out, (Below.refl _ _).alloc (Nat.le_refl _) _⟩
      case round =>
        clear HD0
        obtain ⟨k, hkg, rfl, HDz, HWz⟩ := hrel
        have zrz := HWz.out.size
        have hk3 : k = 0 ∨ k = 1 ∨ k = 2 := by omega
        rcases hk3 with rfl | rfl | rfl
        · go_wp2
          go_loopg [8, 9] n (fun g s8 s9 wr => ∃ (k p : Nat), k + g = n ∧ s9 = .int .i64 k ∧ p ≤ 2 * k ∧ wr.ownsRow w.heap.size 21 1 s8 p ((readF [] (l.take k)).1.map r32) ∧ Hid (DecAt wr w.heap.size (readF [] (l.take k)).2) ∧ Hid (Below w.heap.size w wr))
          case atStart => exact ⟨0, 0, by omega, rfl, by omega, World.ownsRow_nil _ _ _ _, HDz.out, HWz.out⟩
          case round =>
            clear HDz HWz zrz
            obtain ⟨k, p, hkg2, rfl, hp, hown, HD, HW⟩ := hrel
            obtain ⟨A0, c0, rfl⟩ := own_slice hown
            have zr := HW.out.size
            by_cases hlt : k < n
            · have d5 : decide (k < n) = true := by simpa using hlt
              obtain ⟨bl, off, x, rfl, hbB, ex, cx⟩ := (HR.out.below HW.out).at1 hlt
              have hxb := HQ.out x (List.mem_of_getElem? ex)
              have hrb := begB_bytes (l.take k) (t := []) (fun _ h => by cases h) (fun z hz => HQ.out z (List.mem_of_mem_take hz))
              have ST := step_any w.heap.size _ x wr hxb.1 hxb.2 hrb HD.out
              have hsn := readF_snoc (l.take k) [] x
              rw [← take_snoc ex] at hsn
              have hsl := stepF_len (readF [] (l.take k)).2 x
              obtain ⟨out, hout⟩ : ∃ out, (readF [] (l.take k)).1 = out := ⟨_, rfl⟩
              obtain ⟨t, ht⟩ : ∃ t, (readF [] (l.take k)).2 = t := ⟨_, rfl⟩
              obtain ⟨ls, hls⟩ : ∃ ls, (stepF t x).1 = ls := ⟨_, rfl⟩
              obtain ⟨t2, ht2⟩ : ∃ t2, (stepF t x).2 = t2 := ⟨_, rfl⟩
              obtain ⟨q, hqq⟩ : ∃ q, ls.length = q := ⟨_, rfl⟩
              rw [hout, ht, hls, ht2] at hsn
              rw [hout] at hown
              rw [ht] at ST hsl HD
              rw [hls] at ST hsl
              rw [ht2] at ST
              rw [hqq] at hsl
              unfold DecPost at ST
              rw [hqq] at ST
              have ST := hide ST
              have HSN := hide hsn
              unfold b8 at cx
              clear hxb hrb hsn hout ht hls ht2 hqq ex
              go_wp2_with (first
                | (go_at_call 17; go_must (refine (ST.out).mono ?_; rintro e w1 ⟨A1, c1, rfl, hown1, hd1, hf1⟩; have o1 := own_dec hown HD.out hf1; have rd1 := Rd.of_own hown1; have z1 := Nat.le_trans zr hf1.size; have HW1 := hide (HW.out.trans (hf1.to_below zr (fun i e => by have e : i = w.heap.size := e; omega)))))
                | (at_builtin; go_must (refine wpList_appends Try.sl25 rfl _ _ rfl w.heap.size (.slice A0 p c0) p (out.map r32) _ _ A1 q c1 (ls.map r32) rfl rfl o1 rd1 (one_r32 ls) (by simp only [maxLen]; omega) (by omega) z1 ?_; intro A2 c2 w2 app; have HD2 := hide (hd1.app app o1); have HW2 := hide (app.below o1 HW1.out (Nat.le_refl _) z1); have own2 := hide (show w2.ownsRow w.heap.size 21 1 (.slice A2 (p + q) c2) (p + q) ((out ++ ls).map r32) by rw [List.map_append]; exact app.own))))
              go_roundg (n - (k + 1))
              case measure => omega
              case rel => exact ⟨k + 1, p + q, by omega, by go_num, by omega, by rw [HSN.out]; exact own2.out, by rw [HSN.out]; exact HD2.out, HW2.out⟩
            · obtain rfl : n = k := by omega
              have d5 : decide (n < n) = false := by simp
              have e0 : l.take n = l := List.take_of_length_le (by rw [HL.out]; exact Nat.le_refl _)
              rw [e0] at hown HD
              have hra := read_all l
              have hal := allF_len n l (by rw [HL.out]; exact Nat.le_refl _)
              rw [HL.out] at hal
              have EN := end_any w.heap.size _ wr HD.out
              obtain ⟨out, hout⟩ : ∃ out, (readF [] l).1 = out := ⟨_, rfl⟩
              obtain ⟨t, ht⟩ : ∃ t, (readF [] l).2 = t := ⟨_, rfl⟩
              obtain ⟨ls, hls⟩ : ∃ ls, endF t = ls := ⟨_, rfl⟩
              obtain ⟨q, hqq⟩ : ∃ q, ls.length = q := ⟨_, rfl⟩
              have hsl : q ≤ 1 := by rw [← hqq, ← hls]; unfold endF; split <;> simp
              rw [hout] at hown hra
              rw [ht] at EN HD hra
              rw [hls] at EN hra
              unfold DecPost at EN
              rw [hqq] at EN
              have EN := hide EN
              have hpl := own_len1 hown
              have HLEN := hide (show (out ++ ls).length = p + q by rw [List.length_append, hqq]; omega)
              have AL := hide (fun (W : World) (h : Below w.heap.size w W) => show Calls Try.prog 13 #[.slice A n c] W (RetSlice 21 1 ((out ++ ls).map r32) W) by
                have := rall_any l A n c w.heap.size W (HR.out.below h) h.size HQ.out (by omega) hnc
                rwa [hra] at this)
              have LE := hide (fun (W : World) (h : DecAt W w.heap.size []) => left_any w.heap.size [] W h)
              have EE := hide (fun (W : World) (h : DecAt W w.heap.size []) => show Calls Try.prog 20 #[.pointer (some ⟨w.heap.size, 0, none⟩)] W (DecPost w.heap.size [] [] W) from end_any w.heap.size [] W h)
              clear hra hal hout ht hls hqq hpl e0
              go_wp2_with (first
                | (go_at_call 20; (with_reducible refine (EN.out).mono ?_); rintro e w1 ⟨A1, c1, rfl, hown1, hd1, hf1⟩; have o1 := own_dec hown HD.out hf1; have rd1 := Rd.of_own hown1; have z1 := Nat.le_trans zr hf1.size; have HW1 := hide (HW.out.trans (hf1.to_below zr (fun i e => by have e : i = w.heap.size := e; omega))))
                | (at_builtin; go_must (refine wpList_appends Try.sl25 rfl _ _ rfl w.heap.size (.slice A0 p c0) p (out.map r32) _ _ A1 q c1 (ls.map r32) rfl rfl o1 rd1 (one_r32 ls) (by simp only [maxLen]; omega) (by omega) z1 ?_; intro A2 c2 w2 app; have HD2 := hide (hd1.app app o1); have HW2 := hide (app.below o1 HW1.out (Nat.le_refl _) z1); have own2 := hide (show w2.ownsRow w.heap.size 21 1 (.slice A2 (p + q) c2) (p + q) ((out ++ ls).map r32) by rw [List.map_append]; exact app.own)))
                | (go_at_call 13; go_must (refine (AL.out _ HW2.out).mono ?_; intro e w5 h; obtain ⟨B5, c5, rfl, hown5, _, b5⟩ := ret_n h HLEN.out; have HD5 := hide (HD2.out.below b5); have own5 := hide (own_call own2.out b5); have HW5 := hide (below_in HW2.out b5 (Nat.le_refl _))))
                | (go_at_call 11; go_must (refine (same_true (out ++ ls) _ _ _ _ _ _ _ _ _ (Rd.of_own own5.out) (Rd.of_own hown5) (by omega)).mono ?_; rintro e w6 ⟨rfl, b6⟩; have HD6 := hide (HD5.out.below b6); have HW6 := hide (below_in HW5.out b6 (Nat.le_refl _)); have LE6 := hide (LE.out _ HD6.out); have EE6 := hide (EE.out _ HD6.out)))
                | (go_at_call 19; go_must (refine (LE6.out).mono ?_; rintro e w7 ⟨rfl, rfl⟩))
                | (go_at_call 20; (with_reducible refine (EE6.out).mono ?_); rintro e w8 ⟨A8, c8, rfl, hown8, hd8, hf8⟩; have z6 := HW6.out.size; have HW8 := hide (HW6.out.trans (hf8.to_below z6 (fun i e => by have e : i = w.heap.size := e; omega)))))
              go_roundg (2 - (0 + 1))
              case measure => omega
              case rel => exact ⟨0 + 1, by omega, by go_num, hd8, HW8.out⟩
        · go_wp2
          go_loopg [8, 9] n' (fun g s8 s9 wr => ∃ (k p : Nat), k + g = n' ∧ s9 = .int .i64 k ∧ p ≤ 2 * k ∧ wr.ownsRow w.heap.size 21 1 s8 p ((readF [] (l'.take k)).1.map r32) ∧ Hid (DecAt wr w.heap.size (readF [] (l'.take k)).2) ∧ Hid (Below w.heap.size w wr))
          case atStart => exact ⟨0, 0, by omega, rfl, by omega, World.ownsRow_nil _ _ _ _, HDz.out, HWz.out⟩
          case round =>
            clear HDz HWz zrz
            obtain ⟨k, p, hkg2, rfl, hp, hown, HD, HW⟩ := hrel
            obtain ⟨A0, c0, rfl⟩ := own_slice hown
            have zr := HW.out.size
            by_cases hlt : k < n'
            · have d5 : decide (k < n') = true := by simpa using hlt
              obtain ⟨bl, off, x, rfl, hbB, ex, cx⟩ := (HR'.out.below HW.out).at1 hlt
              have hxb := HQ'.out x (List.mem_of_getElem? ex)
              have hrb := begB_bytes (l'.take k) (t := []) (fun _ h => by cases h) (fun z hz => HQ'.out z (List.mem_of_mem_take hz))
              have ST := step_any w.heap.size _ x wr hxb.1 hxb.2 hrb HD.out
              have hsn := readF_snoc (l'.take k) [] x
              rw [← take_snoc ex] at hsn
              have hsl := stepF_len (readF [] (l'.take k)).2 x
              obtain ⟨out, hout⟩ : ∃ out, (readF [] (l'.take k)).1 = out := ⟨_, rfl⟩
              obtain ⟨t, ht⟩ : ∃ t, (readF [] (l'.take k)).2 = t := ⟨_, rfl⟩
              obtain ⟨ls, hls⟩ : ∃ ls, (stepF t x).1 = ls := ⟨_, rfl⟩
              obtain ⟨t2, ht2⟩ : ∃ t2, (stepF t x).2 = t2 := ⟨_, rfl⟩
              obtain ⟨q, hqq⟩ : ∃ q, ls.length = q := ⟨_, rfl⟩
              rw [hout, ht, hls, ht2] at hsn
              rw [hout] at hown
              rw [ht] at ST hsl HD
              rw [hls] at ST hsl
              rw [ht2] at ST
              rw [hqq] at hsl
              unfold DecPost at ST
              rw [hqq] at ST
              have ST := hide ST
              have HSN := hide hsn
              unfold b8 at cx
              clear hxb hrb hsn hout ht hls ht2 hqq ex
              go_wp2_with (first
                | (go_at_call 17; go_must (refine (ST.out).mono ?_; rintro e w1 ⟨A1, c1, rfl, hown1, hd1, hf1⟩; have o1 := own_dec hown HD.out hf1; have rd1 := Rd.of_own hown1; have z1 := Nat.le_trans zr hf1.size; have HW1 := hide (HW.out.trans (hf1.to_below zr (fun i e => by have e : i = w.heap.size := e; omega)))))
                | (at_builtin; go_must (refine wpList_appends Try.sl25 rfl _ _ rfl w.heap.size (.slice A0 p c0) p (out.map r32) _ _ A1 q c1 (ls.map r32) rfl rfl o1 rd1 (one_r32 ls) (by simp only [maxLen]; omega) (by omega) z1 ?_; intro A2 c2 w2 app; have HD2 := hide (hd1.app app o1); have HW2 := hide (app.below o1 HW1.out (Nat.le_refl _) z1); have own2 := hide (show w2.ownsRow w.heap.size 21 1 (.slice A2 (p + q) c2) (p + q) ((out ++ ls).map r32) by rw [List.map_append]; exact app.own))))
              go_roundg (n' - (k + 1))
              case measure => omega
              case rel => exact ⟨k + 1, p + q, by omega, by go_num, by omega, by rw [HSN.out]; exact own2.out, by rw [HSN.out]; exact HD2.out, HW2.out⟩
            · obtain rfl : n' = k := by omega
              have d5 : decide (n' < n') = false := by simp
              have e0 : l'.take n' = l' := List.take_of_length_le (by rw [HL'.out]; exact Nat.le_refl _)
              rw [e0] at hown HD
              have hra := read_all l'
              have hal := allF_len n' l' (by rw [HL'.out]; exact Nat.le_refl _)
              rw [HL'.out] at hal
              have EN := end_any w.heap.size _ wr HD.out
              obtain ⟨out, hout⟩ : ∃ out, (readF [] l').1 = out := ⟨_, rfl⟩
              obtain ⟨t, ht⟩ : ∃ t, (readF [] l').2 = t := ⟨_, rfl⟩
              obtain ⟨ls, hls⟩ : ∃ ls, endF t = ls := ⟨_, rfl⟩
              obtain ⟨q, hqq⟩ : ∃ q, ls.length = q := ⟨_, rfl⟩
              have hsl : q ≤ 1 := by rw [← hqq, ← hls]; unfold endF; split <;> simp
              rw [hout] at hown hra
              rw [ht] at EN HD hra
              rw [hls] at EN hra
              unfold DecPost at EN
              rw [hqq] at EN
              have EN := hide EN
              have hpl := own_len1 hown
              have HLEN := hide (show (out ++ ls).length = p + q by rw [List.length_append, hqq]; omega)
              have AL := hide (fun (W : World) (h : Below w.heap.size w W) => show Calls Try.prog 13 #[.slice A' n' c'] W (RetSlice 21 1 ((out ++ ls).map r32) W) by
                have := rall_any l' A' n' c' w.heap.size W (HR'.out.below h) h.size HQ'.out (by omega) hnc'
                rwa [hra] at this)
              have LE := hide (fun (W : World) (h : DecAt W w.heap.size []) => left_any w.heap.size [] W h)
              have EE := hide (fun (W : World) (h : DecAt W w.heap.size []) => show Calls Try.prog 20 #[.pointer (some ⟨w.heap.size, 0, none⟩)] W (DecPost w.heap.size [] [] W) from end_any w.heap.size [] W h)
              clear hra hal hout ht hls hqq hpl e0
              go_wp2_with (first
                | (go_at_call 20; (with_reducible refine (EN.out).mono ?_); rintro e w1 ⟨A1, c1, rfl, hown1, hd1, hf1⟩; have o1 := own_dec hown HD.out hf1; have rd1 := Rd.of_own hown1; have z1 := Nat.le_trans zr hf1.size; have HW1 := hide (HW.out.trans (hf1.to_below zr (fun i e => by have e : i = w.heap.size := e; omega))))
                | (at_builtin; go_must (refine wpList_appends Try.sl25 rfl _ _ rfl w.heap.size (.slice A0 p c0) p (out.map r32) _ _ A1 q c1 (ls.map r32) rfl rfl o1 rd1 (one_r32 ls) (by simp only [maxLen]; omega) (by omega) z1 ?_; intro A2 c2 w2 app; have HD2 := hide (hd1.app app o1); have HW2 := hide (app.below o1 HW1.out (Nat.le_refl _) z1); have own2 := hide (show w2.ownsRow w.heap.size 21 1 (.slice A2 (p + q) c2) (p + q) ((out ++ ls).map r32) by rw [List.map_append]; exact app.own)))
                | (go_at_call 13; go_must (refine (AL.out _ HW2.out).mono ?_; intro e w5 h; obtain ⟨B5, c5, rfl, hown5, _, b5⟩ := ret_n h HLEN.out; have HD5 := hide (HD2.out.below b5); have own5 := hide (own_call own2.out b5); have HW5 := hide (below_in HW2.out b5 (Nat.le_refl _))))
                | (go_at_call 11; go_must (refine (same_true (out ++ ls) _ _ _ _ _ _ _ _ _ (Rd.of_own own5.out) (Rd.of_own hown5) (by omega)).mono ?_; rintro e w6 ⟨rfl, b6⟩; have HD6 := hide (HD5.out.below b6); have HW6 := hide (below_in HW5.out b6 (Nat.le_refl _)); have LE6 := hide (LE.out _ HD6.out); have EE6 := hide (EE.out _ HD6.out)))
                | (go_at_call 19; go_must (refine (LE6.out).mono ?_; rintro e w7 ⟨rfl, rfl⟩))
                | (go_at_call 20; (with_reducible refine (EE6.out).mono ?_); rintro e w8 ⟨A8, c8, rfl, hown8, hd8, hf8⟩; have z6 := HW6.out.size; have HW8 := hide (HW6.out.trans (hf8.to_below z6 (fun i e => by have e : i = w.heap.size := e; omega)))))
              go_roundg (2 - (1 + 1))
              case measure => omega
              case rel => exact ⟨1 + 1, by omega, by go_num, hd8, HW8.out⟩
        · go_wp2_with (go_at_call 10; go_must (refine (AW.out _).mono ?_; rintro e w1 ⟨rfl, b1⟩))
          go_ret
          exact ⟨rfl, below_in HWz.out b1 (Nat.le_refl _)⟩
end Go.Proofs.Ytlmgglkicdlchaa
