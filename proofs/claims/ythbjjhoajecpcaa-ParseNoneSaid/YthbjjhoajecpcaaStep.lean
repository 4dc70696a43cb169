/-
  The walks of Step, Left and End. No condition but bounds.
-/
import Derived.Test.YthbjjhoajecpcaaUtf
import Derived.Lib.ItoaWalk
namespace Go.Proofs.Ythbjjhoajecpcaa
open Go.RowKit Go.Proofs
set_option linter.unusedVariables false
theorem left_none (w : World) : Calls Try.prog 28 #[.pointer none] w fun e w' => e = .returned (.int .i64 0) ∧ w = w' := by
  go_enter Try.func28, Try.ntmps28
  go_wp2
  go_ret
  exact ⟨rfl, rfl⟩
theorem end_none (w : World) : Calls Try.prog 21 #[.pointer none] w fun e w' => e = .returned (.slice none 0 0) ∧ w = w' := by
  go_enter Try.func21, Try.ntmps21
  go_wp2
  go_ret
  exact ⟨rfl, rfl⟩
theorem step_none (c : Int) (w : World) : Calls Try.prog 24 #[.pointer none, .int .u8 c] w fun e w' => e = .returned (.slice none 0 0) ∧ w = w' := by
  go_enter Try.func24, Try.ntmps24
  go_wp2
  go_ret
  exact ⟨rfl, rfl⟩
theorem dec_have {t : List Int} {n need have_ lo hi : Int} (h : DecR t n need have_ lo hi) : have_ = t.length ∧ t.length ≤ 3 ∧ (t = [] ∨ begB t = true) := by
  match t, h with
  | [], h => exact ⟨h.2, by simp, .inl rfl⟩
  | [a], h => exact ⟨h.2.2.2.1, by simp, .inr h.1⟩
  | [a, b], h => exact ⟨h.2.2.2.1, by simp, .inr h.1⟩
  | [a, b, c], h => exact ⟨h.2.2.2.1, by simp, .inr h.1⟩
  | a :: b :: c :: d :: t, h => exact absurd h.1 (by simp [begB])
theorem left_any (g : Nat) (p : Pc) (t : List Int) (w : World) (h : DecAt w g p t) : Calls Try.prog 28 #[.pointer (some ⟨g, 9, none⟩)] w fun e w' => e = .returned (.int .i64 t.length) ∧ w = w' := by
  obtain ⟨n, need, have_, lo, hi, hB, hR⟩ := h
  obtain ⟨rfl, _, _⟩ := dec_have hR
  obtain ⟨c0, c1, c2, c3, c4, f0, f1, f2, f3, f4⟩ := blk5 hB
  clear hR hB
  go_enter Try.func28, Try.ntmps28
  go_wp2
  go_ret
  exact ⟨rfl, rfl⟩
set_option maxHeartbeats 400000 in
theorem end_any (g : Nat) (p : Pc) (t : List Int) (w : World) (h : DecAt w g p t) : Calls Try.prog 21 #[.pointer (some ⟨g, 9, none⟩)] w (DecPost g p (endF t) [] w) := by
  obtain ⟨n, need, have_, lo, hi, hB, hR⟩ := h
  obtain ⟨rfl, hl, _⟩ := dec_have hR
  obtain ⟨c0, c1, c2, c3, c4, f0, f1, f2, f3, f4⟩ := blk5 hB
  have HB := hide hB
  by_cases h0 : t = []
  · subst h0
    have HR := hide hR
    clear hR hB hl
    go_enter Try.func21, Try.ntmps21
    go_wp2
    go_ret
    exact ⟨none, 0, rfl, World.ownsRow_nil _ _ _ _, ⟨_, _, _, _, _, HB.out, HR.out⟩, Frm.refl _ _⟩
  · obtain ⟨k, hk⟩ : ∃ k, t.length = k := ⟨_, rfl⟩
    have hk0 : 0 < k := by
      cases t with
      | nil => exact absurd rfl h0
      | cons x t => simp at hk; omega
    have HE := hide (show endF t = [65533] by unfold endF; rw [if_neg h0])
    have d1 : (((k : Nat) : Int) == 0) = false := by simp; omega
    have d2 : ¬ k = 0 := by omega
    rw [hk] at c2 HB
    clear hR hB hl h0 hk
    go_enter Try.func21, Try.ntmps21
    go_wp2
    go_ret
    rw [HE.out]
    exact ⟨_, _, rfl, own_new1' (by simp) 65533, ⟨0, 0, 0, 0, 0, (((((HB.out.set_ 9 (.int .i32 0)).set_ 10 (.int .i64 0)).set_ 11 (.int .i64 0)).set_ 12 (.int .u8 0)).set_ 13 (.int .u8 0)).alloc _, rfl, rfl⟩, (five_frm _ _ _ _ _ _ _).alloc _⟩
theorem step_zero (g : Nat) (p : Pc) (n lo hi c : Int) (w : World) (h0 : 0 ≤ c) (h1 : c ≤ 255) (h : Blk w g 56 (decC p n 0 0 lo hi)) : Calls Try.prog 24 #[.pointer (some ⟨g, 9, none⟩), .int .u8 c] w (DecPost g p (firstF c).1 (firstF c).2 w) := by
  obtain ⟨c0, c1, c2, c3, c4, f0, f1, f2, f3, f4⟩ := blk5 h
  have BE := hide (begin_any g p n lo hi c w h0 h1 h)
  clear h
  go_enter Try.func24, Try.ntmps24
  go_wp2_with (go_at_call 34; go_must (refine BE.out.mono ?_; rintro e w1 ⟨A, cc, rfl, hown, hd, hf⟩))
  go_ret
  exact ⟨A, cc, rfl, hown, hd, hf⟩
theorem g_frm {w w' : World} {g i : Nat} (h : Frm (fun k => k = g) w w') (u : Value) : Frm (fun k => k = g) w (w'.setCell ⟨g, i, none⟩ u) := h.setCell (p := ⟨g, i, none⟩) (fun _ => rfl) u
/-- The last byte comes. -/
def LastPost (g : Nat) (p : Pc) (x : Int) (w : World) (e : Ending) (w' : World) : Prop :=
  ∃ A cc, e = .returned (.slice A 1 cc) ∧ w'.ownsRow w.heap.size 21 1 (.slice A 1 cc) 1 [r32 x] ∧ Blk w' g 56 (decC p x 0 0 128 191) ∧ Frm (fun k => k = g) w w'
/-- A byte that goes on comes. -/
def MorePost (g : Nat) (p : Pc) (x need have_ : Int) (w : World) (e : Ending) (w' : World) : Prop :=
  e = .returned (.slice none 0 0) ∧ Blk w' g 56 (decC p x need have_ 128 191) ∧ Frm (fun k => k = g) w w'
set_option maxHeartbeats 400000 in
theorem step_last (g : Nat) (p : Pc) (n have_ lo hi c : Int) (w : World) (h0 : 128 ≤ c) (h1 : c ≤ 191) (hn0 : 0 ≤ n) (hn1 : n < 100000) (hv1 : 1 ≤ have_) (hv2 : have_ ≤ 3) (hlo : lo ≤ c) (hhi : c ≤ hi) (h : Blk w g 56 (decC p n 1 have_ lo hi)) :
    Calls Try.prog 24 #[.pointer (some ⟨g, 9, none⟩), .int .u8 c] w (LastPost g p (n * 64 + (c - 128)) w) := by
  obtain ⟨c0, c1, c2, c3, c4, f0, f1, f2, f3, f4⟩ := blk5 h
  have HB := hide h
  obtain ⟨x, hx⟩ : ∃ x, n * 64 + (c - 128) = x := ⟨_, rfl⟩
  have ha := u8_and63 c (by omega) (by omega)
  have hc : c % 64 = c - 128 := by omega
  rw [hc] at ha
  have ho := i32_or6 (n * 64) (c - 128) (by omega) (by omega) (by omega) (by omega) (by omega)
  rw [hx] at ho
  have hw : IntKind.i32.wrap (n * 64) = n * 64 := IntWalk.i32_in _ ⟨by omega, by omega⟩
  have hw2 : IntKind.i32.wrap (c - 128) = c - 128 := IntWalk.i32_in _ ⟨by omega, by omega⟩
  rw [hx]
  clear h hx hc
  go_enter Try.func24, Try.ntmps24
  go_wp2
  go_ret
  refine ⟨_, _, rfl, own_new1' (by simp) x, ?_, ?_⟩
  · exact ((((((HB.out.set_ 9 (.int .i32 x)).set_ 12 (.int .u8 128)).set_ 13 (.int .u8 191)).set_ 11 (.int .i64 (have_ + 1))).set_ 10 (.int .i64 0)).set_ 11 (.int .i64 0)).alloc _
  · exact (g_frm (g_frm (g_frm (g_frm (g_frm (g_frm (Frm.refl _ _) _) _) _) _) _) _).alloc _
set_option maxHeartbeats 400000 in
theorem step_more (g : Nat) (p : Pc) (n need have_ lo hi c : Int) (w : World) (h0 : 128 ≤ c) (h1 : c ≤ 191) (hn0 : 0 ≤ n) (hn1 : n < 100000) (hd1 : 2 ≤ need) (hd2 : need ≤ 3) (hv1 : 1 ≤ have_) (hv2 : have_ ≤ 3) (hlo : lo ≤ c) (hhi : c ≤ hi) (h : Blk w g 56 (decC p n need have_ lo hi)) :
    Calls Try.prog 24 #[.pointer (some ⟨g, 9, none⟩), .int .u8 c] w (MorePost g p (n * 64 + (c - 128)) (need - 1) (have_ + 1) w) := by
  obtain ⟨c0, c1, c2, c3, c4, f0, f1, f2, f3, f4⟩ := blk5 h
  have HB := hide h
  obtain ⟨x, hx⟩ : ∃ x, n * 64 + (c - 128) = x := ⟨_, rfl⟩
  have ha := u8_and63 c (by omega) (by omega)
  have hc : c % 64 = c - 128 := by omega
  rw [hc] at ha
  have ho := i32_or6 (n * 64) (c - 128) (by omega) (by omega) (by omega) (by omega) (by omega)
  rw [hx] at ho
  have hw : IntKind.i32.wrap (n * 64) = n * 64 := IntWalk.i32_in _ ⟨by omega, by omega⟩
  have hw2 : IntKind.i32.wrap (c - 128) = c - 128 := IntWalk.i32_in _ ⟨by omega, by omega⟩
  rw [hx]
  have hd3 : decide (0 < need - 1) = true := by simp; omega
  have hd4 : ¬ need = 0 := by omega
  have hd5 : (need == 0) = false := by simpa using hd4
  clear h hx hc
  go_enter Try.func24, Try.ntmps24
  go_wp2
  go_ret
  refine ⟨rfl, ?_, ?_⟩
  · exact (((((HB.out.set_ 9 (.int .i32 x)).set_ 12 (.int .u8 128)).set_ 13 (.int .u8 191)).set_ 11 (.int .i64 (have_ + 1))).set_ 10 (.int .i64 (need - 1)))
  · exact (g_frm (g_frm (g_frm (g_frm (g_frm (Frm.refl _ _) _) _) _) _) _)
set_option maxHeartbeats 1000000 in
theorem step_broken (g : Nat) (p : Pc) (n need have_ lo hi c : Int) (w : World) (h0 : 0 ≤ c) (h1 : c ≤ 255) (hd1 : 1 ≤ need) (hc : c < lo ∨ hi < c) (h : Blk w g 56 (decC p n need have_ lo hi)) :
    Calls Try.prog 24 #[.pointer (some ⟨g, 9, none⟩), .int .u8 c] w (DecPost g p (65533 :: (firstF c).1) (firstF c).2 w) := by
  obtain ⟨c0, c1, c2, c3, c4, f0, f1, f2, f3, f4⟩ := blk5 h
  have HB := hide h
  have BE := hide (fun (W : World) (h : Blk W g 56 (decC p n 0 0 lo hi)) => begin_any g p n lo hi c W h0 h1 h)
  have hd5 : (need == 0) = false := by simp; omega
  obtain ⟨l, hl⟩ : ∃ l, (firstF c).1 = l := ⟨_, rfl⟩
  obtain ⟨t, ht⟩ : ∃ t, (firstF c).2 = t := ⟨_, rfl⟩
  have hl1 : l.length ≤ 1 := by rw [← hl]; unfold firstF; (repeat' split) <;> simp
  rw [hl, ht] at BE ⊢
  clear h hl ht
  have hc2 : c < lo ∨ (¬ c < lo ∧ hi < c) := by omega
  clear hc
  rcases hc2 with hc | ⟨hc0, hc⟩
  all_goals
    go_enter Try.func24, Try.ntmps24
    go_upto_region 7 with fail
    go_name_world W1 hW1
    have B1 : Blk W1 g 56 (decC p n 0 0 lo hi) := by rw [← hW1]; exact (HB.out.set_ 10 (.int .i64 0)).set_ 11 (.int .i64 0)
    have F1 : Frm (fun k => k = g) w W1 := by rw [← hW1]; exact g_frm (g_frm (Frm.refl _ _) _) _
    have E1 := BE.out _ (B1.alloc (.cells #[.int .i32 65533] 21))
    have E1 := hide E1
    have z1 : W1.heap.size = w.heap.size := by rw [← hW1]; simp
    have gl := B1.lt
    clear hW1
    go_wp2_with (first
      | (go_at_call 34; go_must (refine E1.out.mono ?_; rintro e w2 ⟨A, cc, rfl, hown, hd, hf⟩; have o0 := own_frm (own_new1' z1 65533) hf (fun k e => by simp [Value.ownBlock] at e; omega); have hr := Rd.of_own hown; have hz := hf.size))
      | (at_builtin; go_must (refine wpList_appends Try.sl50 rfl _ _ rfl w.heap.size (.slice (some ⟨w.heap.size, 0, none⟩) 1 1) 1 [r32 65533] _ _ A l.length cc (l.map r32) rfl rfl o0 hr (one_r32 l) (by simp only [maxLen]; omega) (by omega) (by simp at hz; omega) ?_; intro A3 c3 w3 app)))
    go_ret
    have el : (65533 :: l).length = 1 + l.length := by simp; omega
    obtain ⟨n', need', have', lo', hi', hB', hR'⟩ := hd
    have F2 := (F1.alloc (.cells #[.int .i32 65533] 21)).trans hf (fun i _ h => h)
    refine ⟨A3, c3, by rw [el]; rfl, by rw [el]; exact app.own, ⟨_, _, _, _, _, app.blk hB' o0 (by decide), hR'⟩, app.frm F2 (fun k e h => ?_)⟩
    simp [Value.ownBlock] at e
    omega
theorem numF_bd {t : List Int} (h : begB t = true) (hb : ∀ x ∈ t, 0 ≤ x ∧ x ≤ 255) : 0 ≤ numF t ∧ numF t < 100000 ∧ ∀ c, numF (t ++ [c]) = numF t * 64 + (c - 128) := by
  have hh : ∀ a, 2 ≤ sizeF a → 0 ≤ a → 0 ≤ headF a ∧ headF a < 32 ∧ (3 ≤ sizeF a → headF a < 16) ∧ (4 ≤ sizeF a → headF a < 8) := by
    intro a h2 h0
    have := size_cases (c := a) h0 (by omega) (by omega)
    have hs := sizeF_le a
    unfold headF
    rcases this with ⟨e, l1, l2⟩ | ⟨e, l1, l2⟩ | ⟨e, l1, l2⟩
    · rw [if_pos e]; omega
    · rw [if_neg (by omega), if_pos e]; omega
    · rw [if_neg (by omega), if_neg (by omega), if_pos e]; omega
  have hi : ∀ a b, inB a b = true → 128 ≤ b ∧ b ≤ 191 := by
    intro a b h
    unfold inB loF hiF at h
    rw [Bool.and_eq_true, decide_eq_true_eq, decide_eq_true_eq] at h
    obtain ⟨h1, h2⟩ := h
    refine ⟨?_, ?_⟩
    · split at h1 <;> first | omega | (split at h1 <;> omega)
    · split at h2 <;> first | omega | (split at h2 <;> omega)
  match t, h, hb with
  | [], h, _ => simp [begB] at h
  | [a], h, hb =>
    have h2 : 2 ≤ sizeF a := by simpa [begB] using h
    have := hh a h2 (hb a (by simp)).1
    refine ⟨this.1, by show headF a < 100000; omega, fun c => rfl⟩
  | [a, b], h, hb =>
    have h2 : 3 ≤ sizeF a ∧ inB a b = true := by simpa [begB] using h
    have := hh a (by omega) (hb a (by simp)).1
    have k := hi a b h2.2
    have e : numF [a, b] = headF a * 64 + (b - 128) := rfl
    refine ⟨by rw [e]; omega, by rw [e]; omega, fun c => rfl⟩
  | [a, b, c], h, hb =>
    have h2 : (4 ≤ sizeF a ∧ inB a b = true) ∧ tailB c = true := by simpa [begB] using h
    have := hh a (by omega) (hb a (by simp)).1
    have k := hi a b h2.1.2
    have hc : 128 ≤ c ∧ c ≤ 191 := by simpa [tailB] using h2.2
    have e : numF [a, b, c] = (headF a * 64 + (b - 128)) * 64 + (c - 128) := rfl
    refine ⟨by rw [e]; omega, by rw [e]; omega, fun c => rfl⟩
  | _ :: _ :: _ :: _ :: _, h, _ => simp [begB] at h
/-- The fields where bytes wait, and what the next byte makes of them. -/
theorem dec_facts {t : List Int} {n need have_ lo hi : Int} (h : DecR t n need have_ lo hi) (h0 : t ≠ []) (c : Int) (hc0 : 0 ≤ c) :
    begB t = true ∧ n = numF t ∧ have_ = t.length ∧ 1 ≤ need ∧ need ≤ 3 ∧ (¬ (c < lo ∨ hi < c) → 128 ≤ c ∧ c ≤ 191) ∧
    ((c < lo ∨ hi < c) → isB (t ++ [c]) = false ∧ begB (t ++ [c]) = false) ∧
    (¬ (c < lo ∨ hi < c) → need = 1 → isB (t ++ [c]) = true) ∧
    (¬ (c < lo ∨ hi < c) → 2 ≤ need → isB (t ++ [c]) = false ∧ begB (t ++ [c]) = true ∧ DecR (t ++ [c]) (numF (t ++ [c])) (need - 1) (have_ + 1) 128 191) := by
  have hlo : ∀ a, 128 ≤ loF a := by intro a; unfold loF; (repeat' split) <;> omega
  have hhi : ∀ a, hiF a ≤ 191 := by intro a; unfold hiF; (repeat' split) <;> omega
  match t, h, h0 with
  | [a], h, _ =>
    obtain ⟨hb, rfl, rfl, rfl, rfl, rfl⟩ := h
    have h2 : 2 ≤ sizeF a := by simpa [begB] using hb
    have hs := sizeF_le a
    have l1 := hlo a
    have l2 := hhi a
    refine ⟨hb, rfl, rfl, by omega, by omega, fun h => by omega, fun h => ?_, fun h hn => ?_, fun h hn => ?_⟩
    · have : inB a c = false := by unfold inB; simp; omega
      simp [isB, begB, this]
    · have : inB a c = true := by unfold inB; simp; omega
      simp [isB, this]; omega
    · have : inB a c = true := by unfold inB; simp; omega
      have hg : begB [a, c] = true := by simp [begB, this]; omega
      refine ⟨by simp [isB, this]; omega, hg, hg, rfl, ?_, rfl, rfl, rfl⟩
      show (sizeF a : Int) - 1 - 1 = (sizeF a : Int) - ((2 : Nat) : Int)
      omega
  | [a, b], h, _ =>
    obtain ⟨hb, rfl, rfl, rfl, rfl, rfl⟩ := h
    have h2 : 3 ≤ sizeF a ∧ inB a b = true := by simpa [begB] using hb
    have hs := sizeF_le a
    have e : ((sizeF (([a, b] : List Int).headD 0) : Nat) : Int) - (([a, b] : List Int).length : Nat) = (sizeF a : Int) - 2 := rfl
    rw [e]
    refine ⟨hb, rfl, rfl, by omega, by omega, fun h => by omega, fun h => ?_, fun h hn => ?_, fun h hn => ?_⟩
    · have : tailB c = false := by unfold tailB; simp; omega
      simp [isB, begB, this]
    · have : tailB c = true := by unfold tailB; simp; omega
      simp [isB, this, h2.2]; omega
    · have : tailB c = true := by unfold tailB; simp; omega
      have hg : begB [a, b, c] = true := by simp [begB, this, h2.2]; omega
      refine ⟨by simp [isB, this]; omega, hg, hg, rfl, ?_, rfl, rfl, rfl⟩
      show (sizeF a : Int) - 2 - 1 = (sizeF a : Int) - ((3 : Nat) : Int)
      omega
  | [a, b, d], h, _ =>
    obtain ⟨hb, rfl, rfl, rfl, rfl, rfl⟩ := h
    have h2 : (4 ≤ sizeF a ∧ inB a b = true) ∧ tailB d = true := by simpa [begB] using hb
    have hs := sizeF_le a
    have e : ((sizeF (([a, b, d] : List Int).headD 0) : Nat) : Int) - (([a, b, d] : List Int).length : Nat) = (sizeF a : Int) - 3 := rfl
    rw [e]
    refine ⟨hb, rfl, rfl, by omega, by omega, fun h => by omega, fun h => ?_, fun h hn => ?_, fun h hn => by omega⟩
    · have : tailB c = false := by unfold tailB; simp; omega
      simp [isB, begB, this]
    · have : tailB c = true := by unfold tailB; simp; omega
      simp [isB, this, h2.1.2, h2.2]; omega
  | _ :: _ :: _ :: _ :: _, h, _ => exact absurd h.1 (by simp [begB])
/-- Step, whatever waits. -/
theorem step_any (g : Nat) (p : Pc) (t : List Int) (c : Int) (w : World) (h0 : 0 ≤ c) (h1 : c ≤ 255) (hb : ∀ x ∈ t, 0 ≤ x ∧ x ≤ 255) (h : DecAt w g p t) :
    Calls Try.prog 24 #[.pointer (some ⟨g, 9, none⟩), .int .u8 c] w (DecPost g p (stepF t c).1 (stepF t c).2 w) := by
  obtain ⟨n, need, have_, lo, hi, hB, hR⟩ := h
  by_cases ht : t = []
  · subst ht
    obtain ⟨rfl, rfl⟩ := hR
    have e : stepF [] c = firstF c := by unfold stepF; rw [if_pos rfl]
    rw [e]
    exact step_zero g p n lo hi c w h0 h1 hB
  · obtain ⟨hbt, rfl, rfl, hn1, hn2, ht1, ht2, ht3, ht4⟩ := dec_facts hR ht c h0
    have hl := beg_len hbt
    obtain ⟨nb1, nb2, nb3⟩ := numF_bd hbt hb
    unfold stepF
    rw [if_neg ht]
    by_cases hc : c < lo ∨ hi < c
    · obtain ⟨e1, e2⟩ := ht2 hc
      rw [if_neg (by rw [e1]; simp), if_neg (by rw [e2]; simp)]
      exact step_broken g p _ need _ lo hi c w h0 h1 hn1 hc hB
    · have hr := ht1 hc
      by_cases hn : need = 1
      · subst hn
        rw [if_pos (ht3 hc rfl)]
        refine (step_last g p _ _ lo hi c w hr.1 hr.2 nb1 nb2 (by omega) (by omega) (by omega) (by omega) hB).mono fun e w' h => ?_
        obtain ⟨A, cc, he, hown, hB', hf⟩ := h
        rw [← nb3 c] at hown
        exact ⟨A, cc, he, hown, ⟨_, _, _, _, _, hB', rfl, rfl⟩, hf⟩
      · obtain ⟨e1, e2, hR'⟩ := ht4 hc (by omega)
        rw [if_neg (by rw [e1]; simp), if_pos e2]
        refine (step_more g p _ need _ lo hi c w hr.1 hr.2 nb1 nb2 (by omega) (by omega) (by omega) (by omega) (by omega) (by omega) hB).mono fun e w' h => ?_
        obtain ⟨he, hB', hf⟩ := h
        rw [← nb3 c] at hB'
        exact ⟨none, 0, he, World.ownsRow_nil _ _ _ _, ⟨_, _, _, _, _, hB', hR'⟩, hf⟩
end Go.Proofs.Ythbjjhoajecpcaa
