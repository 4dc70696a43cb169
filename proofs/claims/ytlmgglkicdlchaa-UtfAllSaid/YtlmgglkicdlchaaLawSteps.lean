/-
  The laws UtfSteps and UtfEnds, walked. No condition but what the arguments' kinds bear.
-/
import Derived.Test.YtlmgglkicdlchaaLawPuts
namespace Go.Proofs.Ytlmgglkicdlchaa
open Go.RowKit Go.Proofs
set_option linter.unusedVariables false
theorem cutB_h2 {A : Option Addr} {n c k : Nat} {L : Int} (e : L = k) (h : k ≤ c) (w : World) : (Instr.slice 22 (.slice A n c) none (some (.int .i64 L)) none).run Try.prog w = .ok (.slice A k c) w := by
  rw [e]; exact cutB_h h w
theorem rd_take {w : World} {B n k : Nat} {A : Option Addr} {l : List Int} (h : Rd w B 1 A n (l.map b8)) (hk : k ≤ n) : Rd w B 1 A k ((l.take k).map b8) := by
  have := h.front hk
  rwa [Nat.mul_one, ← List.map_take] at this
/-- The decoder and what was read so far, a step on. -/
theorem dec_blk {w : World} {g : Nat} {t : List Int} (h : DecAt w g t) : ∃ cs, Blk w g 31 cs := by
  obtain ⟨_, _, _, _, _, h, _⟩ := h; exact ⟨_, h⟩
theorem DecAt.app {w w' : World} {g base n m : Nat} {t : List Int} {v v' : Value} {xs ys : List Value} (h : DecAt w g t) (app : App w base 21 1 v v' n ys w') (hown : w.ownsRow base 21 1 v m xs) : DecAt w' g t := by
  obtain ⟨a, b, c, d, e, hB, hR⟩ := h
  exact ⟨a, b, c, d, e, app.blk hB hown (by decide), hR⟩
theorem DecAt.below {w w' : World} {g : Nat} {t : List Int} (h : DecAt w g t) (hb : Below w.heap.size w w') : DecAt w' g t := by
  obtain ⟨a, b, c, d, e, hB, hR⟩ := h
  exact ⟨a, b, c, d, e, hB.below hb hB.lt, hR⟩
theorem own_dec {w w' : World} {g base n : Nat} {t : List Int} {v : Value} {xs : List Value} (h : w.ownsRow base 21 1 v n xs) (hd : DecAt w g t) (hf : Frm (fun k => k = g) w w') : w'.ownsRow base 21 1 v n xs := by
  obtain ⟨cs, hB⟩ := dec_blk hd
  exact own_frm h hf (fun k hk e => own_ne h hB (by decide) (by rw [hk, show k = g from e]))
set_option maxRecDepth 100000 in
set_option maxHeartbeats 4000000 in
theorem utfSteps_walk (w : World) (A : Option Addr) (n c : Nat) (l : List Int) (hl : l.length = n) (hnc : n ≤ c) (hcm : c ≤ maxLen) (hrd : Rd w w.heap.size 1 A n (l.map b8)) (hq : ∀ x ∈ l, IsByte x) :
    Calls Try.prog 5 #[.slice A n c] w fun e w' => e = .returned (.bool true) ∧ Below w.heap.size w w' := by
  have AW := hide awake_any
  by_cases hbig : 120 < n
  · have d1 : decide (120 < n) = true := by simpa using hbig
    have d2 : decide (120 < (n : Int)) = true := by simp; omega
    clear hrd hq hl hcm
    go_enter Try.func5, Try.ntmps5
    go_wp2_with (go_at_call 10; go_must (refine (AW.out _).mono ?_; rintro e w1 ⟨rfl, b1⟩))
    go_ret
    exact ⟨rfl, b1⟩
  · have d1 : decide (120 < n) = false := by simpa using hbig
    have d2 : decide (120 < (n : Int)) = false := by simp; omega
    have hn : n ≤ 120 := by omega
    have HR := hide hrd
    have HQ := hide hq
    have HL := hide hl
    have HD0 := hide (show DecAt (w.alloc (.cells (decC 0 0 0 0 0) 31)) w.heap.size [] from ⟨0, 0, 0, 0, 0, Blk.new _ _ _, rfl, rfl⟩)
    clear hrd hq hl hcm d1 d2 hbig
    have d1 : decide (120 < n) = false := by simp; omega
    have d2 : decide (120 < (n : Int)) = false := by simp; omega
    go_enter Try.func5, Try.ntmps5
    go_wp2
    go_loopg [4, 5] n (fun g s4 s5 wr => ∃ (k p : Nat), k + g = n ∧ s5 = .int .i64 k ∧ p ≤ 2 * k ∧ wr.ownsRow w.heap.size 21 1 s4 p ((readF [] (l.take k)).1.map r32) ∧ Hid (DecAt wr w.heap.size (readF [] (l.take k)).2) ∧ Hid (Below w.heap.size w wr))
    case atStart => exact ⟨0, 0, by omega, rfl, by omega, World.ownsRow_nil _ _ _ _, HD0.out, (Below.refl _ _).alloc (Nat.le_refl _) _⟩
    case round =>
      obtain ⟨k, p, hkg, rfl, hp, hown, HD, HW⟩ := hrel
      obtain ⟨A0, c0, rfl⟩ := own_slice hown
      have zr := HW.out.size
      by_cases hlt : k < n
      · have d3 : decide (k < n) = true := by simpa using hlt
        obtain ⟨bl, off, x, rfl, hbB, ex, cx⟩ := (HR.out.below HW.out).at1 hlt
        have hxb := HQ.out x (List.mem_of_getElem? ex)
        have hrb := begB_bytes (l.take k) (t := []) (fun _ h => by cases h) (fun z hz => HQ.out z (List.mem_of_mem_take hz))
        have ST := step_any w.heap.size _ x wr hxb.1 hxb.2 hrb HD.out
        have hsn := readF_snoc (l.take k) [] x
        rw [← take_snoc ex] at hsn
        have hsl := stepF_len (readF [] (l.take k)).2 x
        obtain ⟨hw1, hw2, hw3⟩ := read_so_far (l.take (k + 1))
        have hlk : (l.take (k + 1)).length = k + 1 := by rw [List.length_take, HL.out]; omega
        obtain ⟨out, hout⟩ : ∃ out, (readF [] (l.take k)).1 = out := ⟨_, rfl⟩
        obtain ⟨t, ht⟩ : ∃ t, (readF [] (l.take k)).2 = t := ⟨_, rfl⟩
        obtain ⟨ls, hls⟩ : ∃ ls, (stepF t x).1 = ls := ⟨_, rfl⟩
        obtain ⟨t2, ht2⟩ : ∃ t2, (stepF t x).2 = t2 := ⟨_, rfl⟩
        obtain ⟨q, hqq⟩ : ∃ q, ls.length = q := ⟨_, rfl⟩
        obtain ⟨m, hm⟩ : ∃ m, t2.length = m := ⟨_, rfl⟩
        rw [hout, ht, hls, ht2] at hsn
        rw [hout] at hown
        rw [ht] at ST hsl HD
        rw [hls] at ST hsl
        rw [ht2] at ST
        rw [hsn] at hw1 hw2 hw3
        rw [show (out ++ ls, t2).2.length = m from hm] at hw1 hw2 hw3
        rw [hlk] at hw2 hw3
        rw [hqq] at hsl
        rw [List.take_take, Nat.min_eq_left (by omega)] at hw3
        have hw3 : allF (l.take (k + 1 - m)) = out ++ ls := hw3
        unfold DecPost at ST
        rw [hqq] at ST
        have ST := hide ST
        have HSN := hide hsn
        have hpl := own_len1 hown
        have hHM := hide hm
        have HT2 := hide (show ∀ W, DecAt W w.heap.size t2 → Calls Try.prog 19 #[.pointer (some ⟨w.heap.size, 0, none⟩)] W fun e w' => e = .returned (.int .i64 m) ∧ W = w' by
          intro W h
          have := left_any w.heap.size t2 W h
          rwa [hm] at this)
        have hx0 := hxb.1
        have hx1 := hxb.2
        unfold b8 at cx
        have WA := hide (fun (W : World) (h : Below w.heap.size w W) => show Calls Try.prog 18 #[.slice (some ⟨bl, off, none⟩) (k + 1) c] W (RetN m W) by
          have := waits_any (l.take (k + 1)) (some ⟨bl, off, none⟩) (k + 1) c w.heap.size W (rd_take (HR.out.below h) (by omega)) h.size (fun z hz => HQ.out z (List.mem_of_mem_take hz)) (by omega) (by omega)
          rwa [hw1] at this)
        have AL := hide (fun (W : World) (h : Below w.heap.size w W) => show Calls Try.prog 13 #[.slice (some ⟨bl, off, none⟩) (k + 1 - m) c] W (RetSlice 21 1 ((out ++ ls).map r32) W) by
          have := rall_any (l.take (k + 1 - m)) (some ⟨bl, off, none⟩) (k + 1 - m) c w.heap.size W (rd_take (HR.out.below h) (by omega)) h.size (fun z hz => HQ.out z (List.mem_of_mem_take hz)) (by omega) (by omega)
          rwa [hw3] at this)
        have cu1 := fun W => cutB_h2 (A := some ⟨bl, off, none⟩) (n := n) (c := c) (k := k + 1) (L := (k : Int) + 1) (by omega) (by omega) W
        have cu2 := fun W => cutB_h2 (A := some ⟨bl, off, none⟩) (n := n) (c := c) (k := k + 1 - m) (L := (k : Int) + 1 - m) (by omega) (by omega) W
        have hlen : (out ++ ls).length = p + q := by rw [List.length_append, hqq]; omega
        have HLEN := hide hlen
        clear hxb hrb hsn hw1 hw3 hlk hout ht hls ht2 hqq hm hpl ex hlen
        go_wp2_with (first
          | (go_at_call 17; go_must (refine (ST.out).mono ?_; rintro e w1 ⟨A1, c1, rfl, hown1, hd1, hf1⟩; have o1 := own_dec hown HD.out hf1; have rd1 := Rd.of_own hown1; have z1 := Nat.le_trans zr hf1.size; have HW1 := hide (HW.out.trans (hf1.to_below zr (fun i e => by have e : i = w.heap.size := e; omega)))))
          | (at_builtin; go_must (refine wpList_appends Try.sl25 rfl _ _ rfl w.heap.size (.slice A0 p c0) p (out.map r32) _ _ A1 q c1 (ls.map r32) rfl rfl o1 rd1 (one_r32 ls) (by simp only [maxLen]; omega) (by omega) z1 ?_; intro A2 c2 w2 app; have HD2 := hide (hd1.app app o1); have HW2 := hide (app.below o1 HW1.out (Nat.le_refl _) z1); have z2 := HW2.out.size; have own2 := hide (show w2.ownsRow w.heap.size 21 1 (.slice A2 (p + q) c2) (p + q) ((out ++ ls).map r32) by rw [List.map_append]; exact app.own)))
          | (go_at_call 18; go_must (refine (WA.out _ HW2.out).mono ?_; rintro e w3 ⟨rfl, b3⟩; have HD3 := hide (HD2.out.below b3); have own3 := hide (own_call own2.out b3); have HW3 := hide (below_in HW2.out b3 (Nat.le_refl _))))
          | (go_at_call 19; go_must (refine (HT2.out _ HD3.out).mono ?_; rintro e w4 ⟨rfl, rfl⟩))
          | (go_at_call 13; go_must (refine (AL.out _ HW3.out).mono ?_; intro e w5 h; obtain ⟨A5, c5, rfl, hown5, _, b5⟩ := ret_n h HLEN.out; have HD5 := hide (HD3.out.below b5); have own5 := hide (own_call own3.out b5); have HW5 := hide (below_in HW3.out b5 (Nat.le_refl _))))
          | (go_at_call 11; go_must (refine (same_true (out ++ ls) _ _ _ _ _ _ _ _ _ (Rd.of_own own5.out) (Rd.of_own hown5) (by omega)).mono ?_; rintro e w6 ⟨rfl, b6⟩; have HD6 := hide (HD5.out.below b6); have own6 := hide (own_call own5.out b6); have HW6 := hide (below_in HW5.out b6 (Nat.le_refl _)))))
        go_roundg (n - (k + 1))
        case measure => omega
        case rel => exact ⟨k + 1, p + q, by omega, by go_num, by omega, by rw [HSN.out]; exact own6.out, by rw [HSN.out]; exact HD6.out, HW6.out⟩
      · obtain rfl : n = k := by omega
        have d3 : decide (n < n) = false := by simp
        go_wp2_with (go_at_call 10; go_must (refine (AW.out _).mono ?_; rintro e w1 ⟨rfl, b1⟩))
        go_ret
        exact ⟨rfl, below_in HW.out b1 (Nat.le_refl _)⟩
end Go.Proofs.Ytlmgglkicdlchaa
