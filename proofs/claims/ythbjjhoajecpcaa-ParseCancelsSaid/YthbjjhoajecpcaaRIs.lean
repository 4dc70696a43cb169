/-
  The document's Is and Begins, walked. No condition but bounds.
-/
import Derived.Test.YthbjjhoajecpcaaRPlain
namespace Go.Proofs.Ythbjjhoajecpcaa
open Go.RowKit Go.Proofs
set_option linter.unusedVariables false
theorem rnumber_any (l : List Int) (A : Option Addr) (n c B : Nat) (w : World) (hl : Rd w B 1 A n (l.map b8)) (hB : B ≤ w.heap.size) (hq : ∀ x ∈ l, IsByte x) (hn : n ≤ 4) :
    Calls Try.prog 51 #[.slice A n c] w (RetI32 (numberF l) w) := by
  have hlen := hl.len1
  match l, hl, hq, hlen with
  | [], hl, hq, hlen =>
    obtain rfl : 0 = n := by simpa using hlen
    have HN := hide (show numberF [] = -1 from rfl)
    clear hl hq hlen hn hB
    go_enter Try.func51, Try.ntmps51
    go_wp2
    go_ret
    rw [HN.out]
    exact ⟨rfl, Below.refl _ _⟩
  | [a], hl, hq, hlen =>
    obtain rfl : 1 = n := by simpa using hlen
    obtain ⟨bl, off, x, rfl, hbB, ex, cx⟩ := hl.at1 (k := 0) (by omega)
    have e0 : x = a := by simpa using ex.symm
    subst e0
    have hqa := hq x (by simp)
    have hqa1 := hqa.1
    have hqa2 := hqa.2
    unfold b8 at cx
    rw [Nat.add_zero] at cx
    have HN := hide (show numberF [x] = x from rfl)
    clear hl hq hlen hn hB hqa ex
    go_enter Try.func51, Try.ntmps51
    go_wp2
    go_ret
    rw [HN.out]
    exact ⟨rfl, Below.refl _ _⟩
  | a :: b :: l, hl, hq, hlen =>
    have h2 : n = 2 ∨ n = 3 ∨ n = 4 := by simp at hlen; omega
    exact num_more l a b A n c B w hl hB hq h2
theorem strOf_ne {x y : List Int} (hx : ∀ a ∈ x, IsByte a) (hy : ∀ a ∈ y, IsByte a) (h : strOfNums x = strOfNums y) : x = y := by
  have h1 := congrArg (fun s : ByteArray => s.data.toList) h
  simp only [strOfNums_data] at h1
  have key : ∀ (x y : List Int), (∀ a ∈ x, IsByte a) → (∀ a ∈ y, IsByte a) → (x.map fun n => UInt8.ofNat n.toNat) = (y.map fun n => UInt8.ofNat n.toNat) → x = y := by
    intro x
    induction x with
    | nil => intro y _ _ h; cases y with
      | nil => rfl
      | cons b y => simp at h
    | cons a x ih =>
      intro y hx hy h
      cases y with
      | nil => simp at h
      | cons b y =>
        simp only [List.map_cons, List.cons.injEq] at h
        have ha := hx a (by simp)
        have hb := hy b (by simp)
        unfold IsByte at ha hb
        have e : a.toNat = b.toNat := by
          have := congrArg UInt8.toNat h.1
          simp only [UInt8.toNat_ofNat'] at this
          omega
        have e2 : a = b := by omega
        rw [e2, ih y (fun c hc => hx c (by simp [hc])) (fun c hc => hy c (by simp [hc])) h.2]
  exact key x y hx hy h1
theorem Try.ub22 : Try.prog.underlying 22 = some (.slice 5) := by kernel_rfl
theorem Try.ub5 : Try.prog.underlying 5 = some (.int .u8) := by kernel_rfl
theorem Try.ub9 : Try.prog.underlying 9 = some .string := by kernel_rfl
theorem conv_str1 {w : World} {B n c : Nat} {A : Option Addr} {l : List Int} (h : Rd w B 1 A n (l.map b8)) : (convert 22 9 (.slice A n c)).run Try.prog w = .ok (.string (strOfNums l)) w :=
  run_bytes_str 22 9 5 Try.ub22 Try.ub5 Try.ub9 h
theorem str_eq {x y : List Int} (hx : ∀ a ∈ x, IsByte a) (hy : ∀ a ∈ y, IsByte a) : ((strOfNums x).toList == (strOfNums y).toList) = (x == y) := by
  by_cases h : x = y
  · subst h; simp
  · rw [show (x == y) = false by simpa using h]
    rw [beq_eq_false_iff_ne]
    intro e
    rw [ByteArray.toList_eq, ByteArray.toList_eq] at e
    refine h (strOf_ne hx hy ?_)
    have e2 : (strOfNums x).data = (strOfNums y).data := by
      rw [← Array.toList_inj]; exact e
    exact congrArg ByteArray.mk e2
/-- A Bool handed back; memory of the call's own alone has come. -/
def RetB (x : Bool) (w : World) (e : Ending) (w' : World) : Prop := e = .returned (.bool x) ∧ Below w.heap.size w w'
set_option maxHeartbeats 1000000 in
theorem is_any (l : List Int) (A : Option Addr) (n c B : Nat) (w : World) (hl : Rd w B 1 A n (l.map b8)) (hB : B ≤ w.heap.size) (hq : ∀ x ∈ l, IsByte x) (hn : n ≤ 4) :
    Calls Try.prog 50 #[.slice A n c] w (RetB (isB l) w) := by
  have hlen := hl.len1
  have hsp := is_spec l (by omega) hq
  have NU := hide (rnumber_any l A n c B w hl hB hq hn)
  obtain ⟨r, hr⟩ : ∃ r, numberF l = r := ⟨_, rfl⟩
  rw [hr] at hsp NU
  have hl0 := hide (hl.more hB)
  have HR := hide hr
  have HQ := hide hq
  by_cases h0 : 0 ≤ r
  · have PU := hide (fun (W : World) => rput_any r W)
    obtain ⟨p, hp⟩ : ∃ p, putF r = p := ⟨_, rfl⟩
    have hpb := hide (show ∀ x ∈ p, IsByte x by rw [← hp]; exact putF_bytes r)
    rw [hp] at hsp PU
    have d0 : decide (0 ≤ r) = true := by simpa using h0
    have HS := hide hsp
    clear hp hsp hq hr hl
    go_enter Try.func50, Try.ntmps50
    go_upto_region 2 with (go_at_call 51; go_must (refine NU.out.mono ?_; rintro e w1 ⟨rfl, b1⟩))
    have hl1 := (hl0.out.below b1)
    have cv1 := conv_str1 (c := c) hl1.drew
    go_region_with (first
      | (go_at_call 60; go_must (refine (PU.out _).mono ?_; rintro e w2 ⟨A2, c2, rfl, r2, hc2, b2⟩; have b2 := (Below.refl w1.heap.size w1).drew.trans b2; have cv2 := conv_str1 (c := c) ((hl1.more b1.size).below b2); have cv3 := conv_str1 (c := c2) r2)))
    all_goals
      go_wp2
      go_ret
      refine ⟨ret_bool ?_, b1.trans (b2.mono b1.size)⟩
      rw [str_eq hpb.out HQ.out]
      cases hi : isB l with
      | true => rw [(HS.out.2 hi).2]; simp
      | false => rw [beq_eq_false_iff_ne]; intro e; rw [HS.out.1 ⟨h0, e⟩] at hi; cases hi
  · have HI := hide (show isB l = false by
      cases hi : isB l with
      | true => exact absurd (hsp.2 hi).1 h0
      | false => rfl)
    have d0 : decide (0 ≤ r) = false := by simpa using h0
    clear hsp hq hr hl h0
    go_enter Try.func50, Try.ntmps50
    go_wp2_with (go_at_call 51; go_must (refine NU.out.mono ?_; rintro e w1 ⟨rfl, b1⟩))
    go_quiet (fail)
    go_wp2
    go_ret
    rw [HI.out]
    exact ⟨rfl, below_drewN' b1 _⟩
end Go.Proofs.Ythbjjhoajecpcaa
