/-
  The plain law: whatever is done to a right row leaves it right. No program in sight.
-/
import Derived.Test.YtoaeadjihpbhgaaAwake
namespace Go.Proofs.Ytoaeadjihpbhgaa
open Go.RowKit
set_option linter.unusedVariables false
theorem put_nil {r : Int} (h : scalarB r = false) : putF r = [] := by unfold putF; rw [if_pos h]
theorem fine_empty (a : At8) : fineB (emptyC a) = true := by unfold fineB emptyC fineW; simp [ByteArray.toList_eq]
theorem fine_blank (bk bn : Int) : fineB (blankC bk bn) = true := fine_empty _
theorem fine_pad : fineB padC = true := by decide +kernel
theorem marks_nil : marksB { data := #[] } = true := by decide +kernel
theorem fine_put {r : Int} {a : At8} (h : widOf r = 1) : fineB ⟨r, { data := #[] }, 0, a⟩ = true := by
  have h0 : ¬ r = 0 := by rintro rfl; rw [wid_zero] at h; omega
  unfold fineB fineW; simp [h0, h, marks_nil]
theorem fine_wide {r : Int} {a : At8} {hh : Int} (h : widOf r = 2) (h1 : hh = 1 ∨ hh = 2) : fineB ⟨r, { data := #[] }, hh, a⟩ = true := by
  have h0 : ¬ r = 0 := by rintro rfl; rw [wid_zero] at h; omega
  unfold fineB fineW; simp [h0, h, marks_nil, h1]
theorem right_parts {l : List Cell} (h : rightB l = true) : mendF l = l ∧ ∀ c ∈ l, fineB c = true := by
  unfold rightB at h
  rw [Bool.and_eq_true, sameR_iff, List.all_eq_true] at h
  exact h
theorem right_of_fine {l : List Cell} (h : ∀ c ∈ l, fineB c = true) : rightB (mendF l) = true :=
  right_yes (mend_mend l) (mendF_all fine_empty l h)
theorem set_all {Q : Cell → Prop} {l : List Cell} {k : Nat} {d : Cell} (h : ∀ c ∈ l, Q c) (hd : Q d) : ∀ c ∈ l.set k d, Q c := by
  intro c hc
  rcases List.mem_or_eq_of_mem_set hc with h1 | h1
  · exact h c h1
  · subst h1; exact hd
theorem put_fine {l : List Cell} {x r : Int} {a : At8} (h : ∀ c ∈ l, fineB c = true) : ∀ c ∈ putIn x r a l, fineB c = true := by
  unfold putIn
  split
  · rename_i h1; exact set_all h (fine_put h1.1)
  · split
    · rename_i h1; exact set_all (set_all h (fine_wide h1.1 (.inr rfl))) (fine_wide h1.1 (.inl rfl))
    · exact h
theorem close_fine {l : List Cell} (h : ∀ c ∈ l, fineB c = true) : ∀ c ∈ closeIn l, fineB c = true := by
  unfold closeIn
  split
  · exact set_all h fine_pad
  · exact h
theorem wipe_all {Q : Cell → Prop} {l : List Cell} {bk bn : Int} {a b : Nat} (h : ∀ c ∈ l, Q c) (hq : Q (blankC bk bn)) : ∀ c ∈ wipeAB bk bn a b l, Q c := by
  intro c hc
  unfold wipeAB at hc
  rcases List.mem_append.1 hc with hc | hc
  · exact h c (List.mem_of_mem_take hc)
  · rcases List.mem_append.1 hc with hc | hc
    · rw [(List.mem_replicate.1 hc).2]; exact hq
    · exact h c (List.mem_of_mem_drop hc)
theorem copy_all {Q : Cell → Prop} {l : List Cell} {a b k : Nat} (h : ∀ c ∈ l, Q c) : ∀ c ∈ copyAB a b k l, Q c := by
  intro c hc
  unfold copyAB at hc
  rcases List.mem_append.1 hc with hc | hc
  · exact h c (List.mem_of_mem_take hc)
  · rcases List.mem_append.1 hc with hc | hc
    · exact h c (List.mem_of_mem_drop (List.mem_of_mem_take hc))
    · exact h c (List.mem_of_mem_drop hc)
theorem erase_all {Q : Cell → Prop} {l : List Cell} {x y bk bn : Int} (h : ∀ c ∈ l, Q c) (hq : Q (blankC bk bn)) : ∀ c ∈ eraseIn x y bk bn l, Q c := by
  unfold eraseIn
  split
  · exact wipe_all h hq
  · exact h
theorem insert_all {Q : Cell → Prop} {l : List Cell} {x y bk bn : Int} (h : ∀ c ∈ l, Q c) (hq : Q (blankC bk bn)) : ∀ c ∈ insertIn x y bk bn l, Q c := by
  unfold insertIn
  split
  · exact wipe_all (copy_all h) hq
  · exact h
theorem delete_all {Q : Cell → Prop} {l : List Cell} {x y bk bn : Int} (h : ∀ c ∈ l, Q c) (hq : Q (blankC bk bn)) : ∀ c ∈ deleteIn x y bk bn l, Q c := by
  unfold deleteIn
  split
  · exact wipe_all (copy_all h) hq
  · exact h
/-! ### marks -/
theorem nums_append (s t : ByteArray) : numsOf (s ++ t) = numsOf s ++ numsOf t := by unfold numsOf; simp
theorem nums_str {l : List Int} (h : ∀ x ∈ l, IsByte x) : numsOf (strOfNums l) = l := by
  unfold numsOf
  rw [strOfNums_data, List.map_map]
  have : ∀ x ∈ l, ((fun b : UInt8 => (b.toNat : Int)) ∘ fun n : Int => UInt8.ofNat n.toNat) x = x := by
    intro x hx
    have := h x hx
    unfold IsByte at this
    show ((UInt8.ofNat x.toNat).toNat : Int) = x
    rw [UInt8.toNat_ofNat']
    omega
  exact (List.map_congr_left this).trans (List.map_id _)
theorem one_put {r : Int} (h : scalarB r = true) : isB (putF r) = true ∧ numF (putF r) = r ∧ putF r ≠ [] := by
  obtain ⟨b0, b1, b2⟩ := scalarB_bd h
  have hb := putF_bytes r
  by_cases a1 : r ≤ 127
  · have e := put1 ⟨b0, a1⟩
    have hs : sizeF r = 1 := size1.2 (by omega)
    rw [e]
    refine ⟨by simp [isB, hs], ?_, by simp⟩
    show headF r = r
    unfold headF
    rw [if_neg (by omega), if_neg (by omega), if_neg (by omega)]
  · by_cases a2 : r ≤ 2047
    · have e := put2 (r := r) ⟨by omega, a2⟩
      rw [e]
      have hs : sizeF (192 + r / 64) = 2 := size2.2 (by omega)
      have hi : inB (192 + r / 64) (128 + r % 64) = true := inB_iff.2 (by omega)
      refine ⟨by simp [isB, hs, hi], ?_, by simp⟩
      show headF _ * 64 + (_ - 128) = r
      unfold headF
      rw [if_pos hs]
      omega
    · by_cases a3 : r ≤ 65535
      · have e := put3 (r := r) ⟨by omega, a3⟩ b2
        rw [e]
        have hs : sizeF (224 + r / 64 / 64) = 3 := size3.2 (by omega)
        have hi : inB (224 + r / 64 / 64) (128 + r / 64 % 64) = true := inB_iff.2 (by omega)
        have ht : tailB (128 + r % 64) = true := tailB_iff.2 (by omega)
        refine ⟨by simp [isB, hs, hi, ht], ?_, by simp⟩
        show (headF _ * 64 + (_ - 128)) * 64 + (_ - 128) = r
        unfold headF
        rw [if_neg (by omega), if_pos hs]
        omega
      · have e := put4 (r := r) ⟨by omega, b1⟩
        rw [e]
        have hs : sizeF (240 + r / 64 / 64 / 64) = 4 := size4.2 (by omega)
        have hi : inB (240 + r / 64 / 64 / 64) (128 + r / 64 / 64 % 64) = true := inB_iff.2 (by omega)
        have ht : tailB (128 + r / 64 % 64) = true := tailB_iff.2 (by omega)
        have ht2 : tailB (128 + r % 64) = true := tailB_iff.2 (by omega)
        refine ⟨by simp [isB, hs, hi, ht, ht2], ?_, by simp⟩
        show ((headF _ * 64 + (_ - 128)) * 64 + (_ - 128)) * 64 + (_ - 128) = r
        unfold headF
        rw [if_neg (by omega), if_neg (by omega), if_pos hs]
        omega
theorem all_put {r : Int} (h : scalarB r = true) (rest : List Int) : allF (putF r ++ rest) = r :: allF rest := by
  obtain ⟨h1, h2, h3⟩ := one_put h
  have h4 := one_is h1 rest
  rw [allF_cons _ (by intro e; exact h3 (List.append_eq_nil_iff.1 e).1), h4, h2]
  simp
theorem all_enc : ∀ (l rest : List Int), allF (l.flatMap putF ++ rest) = l.filter scalarB ++ allF rest
  | [], rest => rfl
  | r :: l, rest => by
    rw [List.flatMap_cons, List.append_assoc]
    cases h : scalarB r with
    | true => rw [all_put h, all_enc l rest, List.filter_cons_of_pos h]; rfl
    | false => rw [put_nil h, List.nil_append, all_enc l rest, List.filter_cons_of_neg (by rw [h]; simp)]
theorem marks_add {s : ByteArray} {r : Int} (h : marksB s = true) (hr : widOf r = 0) (hz : (s ++ strOfNums (putF r)).size ≤ 32) : marksB (s ++ strOfNums (putF r)) = true := by
  unfold marksB at h
  rw [Bool.and_eq_true, List.all_eq_true] at h
  have hw : ∀ x ∈ allF (numsOf s), widOf x = 0 := fun x hx => by simpa using h.2 x hx
  refine marks_yes hz ?_
  rw [nums_append, nums_str (putF_bytes r), ← back_marks (numsOf_byte s) hw, all_enc]
  intro x hx
  rcases List.mem_append.1 hx with hx | hx
  · exact hw x (List.mem_filter.1 hx).1
  · cases hs : scalarB r with
    | false => rw [put_nil hs] at hx; simp [allF_nil] at hx
    | true =>
      have := all_put hs []
      rw [List.append_nil, allF_nil] at this
      rw [this] at hx
      simp at hx
      subst hx; exact hr
/-! ### halves of a mended row stand side by side -/
def Paired (m : List Cell) : Prop := ∀ (k : Nat) (c : Cell), m[k]? = some c → (c.half = 1 → ∃ d : Cell, m[k + 1]? = some d ∧ d.r = c.r ∧ d.half = 2) ∧ (c.half = 2 → ∃ d : Cell, 1 ≤ k ∧ m[k - 1]? = some d ∧ d.r = c.r ∧ d.half = 1)
theorem paired_cons {c : Cell} {m : List Cell} (h0 : c.half ≠ 1 ∧ c.half ≠ 2) (h : Paired m) : Paired (c :: m) := by
  intro k x hx
  cases k with
  | zero => simp at hx; subst hx; exact ⟨fun e => absurd e h0.1, fun e => absurd e h0.2⟩
  | succ k =>
    simp at hx
    have h1 := h k x hx
    refine ⟨fun e => by obtain ⟨d, hd, hr⟩ := h1.1 e; exact ⟨d, by simpa using hd, hr⟩, fun e => ?_⟩
    obtain ⟨d, hk, hd, hr⟩ := h1.2 e
    refine ⟨d, by omega, ?_, hr⟩
    rw [show k + 1 - 1 = (k - 1) + 1 by omega, List.getElem?_cons_succ]
    exact hd
theorem paired_pair {c d : Cell} {m : List Cell} (hp : pairB c d = true) (h : Paired m) : Paired (c :: d :: m) := by
  have hc := (pairB_halves hp).1
  have hd := (pairB_halves hp).2
  have hr : c.r = d.r := by
    unfold pairB at hp
    rw [Bool.and_eq_true, sameC_iff] at hp
    rw [hp.2]
  intro k x hx
  match k with
  | 0 => simp at hx; subst hx; exact ⟨fun _ => ⟨d, by simp, hr.symm, hd⟩, fun e => by omega⟩
  | 1 => simp at hx; subst hx; exact ⟨fun e => by omega, fun _ => ⟨c, by omega, by simp, hr, hc⟩⟩
  | k + 2 =>
    simp at hx
    have h1 := h k x hx
    refine ⟨fun e => by obtain ⟨d, hd, hr⟩ := h1.1 e; exact ⟨d, by simpa using hd, hr⟩, fun e => ?_⟩
    obtain ⟨d, hk, hd, hr⟩ := h1.2 e
    refine ⟨d, by omega, ?_, hr⟩
    rw [show k + 2 - 1 = (k - 1) + 1 + 1 by omega, List.getElem?_cons_succ, List.getElem?_cons_succ]
    exact hd
theorem mendF_paired : ∀ l : List Cell, Paired (mendF l)
  | [] => by intro k c h; simp [mendF] at h
  | [c] => by
    rw [mendF]
    have hn : Paired [] := by intro k c h; simp at h
    split
    · rename_i h; exact paired_cons (by omega) hn
    · exact paired_cons ⟨by simp [emptyC], by simp [emptyC]⟩ hn
  | c :: d :: l => by
    rw [mendF]
    split
    · exact paired_cons (by omega) (mendF_paired (d :: l))
    · split
      · rename_i h; exact paired_pair h (mendF_paired l)
      · exact paired_cons ⟨by simp [emptyC], by simp [emptyC]⟩ (mendF_paired (d :: l))
theorem fine_more {c : Cell} {M : ByteArray} (h : fineB c = true) (h0 : c.r ≠ 0) (hM : marksB M = true) : fineB { c with more := M } = true := by
  unfold fineB at h ⊢
  rw [if_neg h0] at h ⊢
  rw [Bool.and_eq_true] at h ⊢
  exact ⟨h.1, hM⟩
theorem setMore_all {Q : Cell → Prop} {k : Nat} {M : ByteArray} {l : List Cell} (h : ∀ c ∈ l, Q c) (hk : ∀ c, l[k]? = some c → Q { c with more := M }) : ∀ c ∈ setMore k M l, Q c := by
  intro c hc
  obtain ⟨i, hi⟩ := List.mem_iff_getElem?.1 hc
  rw [setMore_get] at hi
  cases hl : l[i]? with
  | none => rw [hl] at hi; cases hi
  | some d =>
    rw [hl] at hi
    simp only [Option.map_some, Option.some.injEq] at hi
    split at hi
    · rename_i e; subst e; rw [← hi]; exact hk d hl
    · rw [← hi]; exact h d (List.mem_of_getElem? hl)
theorem mark_fine {l : List Cell} {x r : Int} (hm : Paired l) (h : ∀ c ∈ l, fineB c = true) : ∀ c ∈ markIn x r l, fineB c = true := by
  unfold markIn
  split
  · exact h
  · rename_i u hu
    split
    · rename_i hy
      obtain ⟨hx0, hu0, hw, hz⟩ := hy
      have hfu := h u (List.mem_of_getElem? hu)
      have hM : marksB (marked r u) = true := by
        unfold marked
        refine marks_add ?_ hw hz
        unfold fineB at hfu
        rw [if_neg hu0, Bool.and_eq_true] at hfu
        exact hfu.2
      have hpa := hm _ u hu
      have side : ∀ c ∈ (if u.half = 1 then setMore (x.toNat + 1) (marked r u) l else if u.half = 2 then setMore (x.toNat - 1) (marked r u) l else l), fineB c = true := by
        split
        · rename_i h1
          refine setMore_all h fun d hd => ?_
          obtain ⟨v, hv, hr, _⟩ := hpa.1 h1
          rw [hd] at hv; injection hv with hv; subst hv
          exact fine_more (h d (List.mem_of_getElem? hd)) (by rw [hr]; exact hu0) hM
        · split
          · rename_i h2
            refine setMore_all h fun d hd => ?_
            obtain ⟨v, _, hv, hr, _⟩ := hpa.2 h2
            rw [hd] at hv; injection hv with hv; subst hv
            exact fine_more (h d (List.mem_of_getElem? hd)) (by rw [hr]; exact hu0) hM
          · exact h
      refine setMore_all side fun d hd => ?_
      have hdr : d.r = u.r := by
        have key : ∀ (k : Nat), (setMore k (marked r u) l)[x.toNat]? = some d → d.r = u.r := by
          intro k hk
          rw [setMore_get, hu] at hk
          simp only [Option.map_some, Option.some.injEq] at hk
          rw [← hk]
          split <;> rfl
        split at hd
        · exact key _ hd
        · split at hd
          · exact key _ hd
          · rw [hu] at hd; injection hd with hd; rw [hd]
      exact fine_more (side d (List.mem_of_getElem? hd)) (by rw [hdr]; exact hu0) hM
    · exact h
theorem alone_right (o : Op9) {l : List Cell} (h : rightB l = true) : rightB (aloneF o l) = true := by
  obtain ⟨hm, hf⟩ := right_parts h
  have hp : Paired l := by rw [← hm]; exact mendF_paired l
  unfold aloneF
  rw [hm]
  split
  · exact right_of_fine (put_fine hf)
  · split
    · exact right_of_fine (mark_fine hp hf)
    · split
      · exact right_of_fine (erase_all hf (fine_blank _ _))
      · split
        · exact right_of_fine (insert_all hf (fine_blank _ _))
        · split
          · exact right_of_fine (delete_all hf (fine_blank _ _))
          · split
            · exact right_of_fine (close_fine hf)
            · exact h
theorem mendF_plain {l : List Cell} (h : ∀ c ∈ l, c.half = 0) : mendF l = l := by
  induction l with
  | nil => rfl
  | cons c l ih => rw [mend_plain (h c (by simp)), ih (fun d hd => h d (by simp [hd]))]
theorem right_blanks (K : Nat) (bk bn : Int) : rightB (List.replicate K (blankC bk bn)) = true :=
  right_yes (mendF_plain fun c hc => by rw [(List.mem_replicate.1 hc).2]; rfl) (fun c hc => by rw [(List.mem_replicate.1 hc).2]; exact fine_blank _ _)
/-! ### how long texts grow -/
theorem insertIn_len (x y bk bn : Int) (m : List Cell) : (insertIn x y bk bn m).length = m.length := by
  unfold insertIn
  split
  · show (wipeAB _ _ _ _ _).length = _
    rw [wipeAB_len _ _ (by omega) (by rw [copyAB_len (by omega) (by omega)]; omega), copyAB_len (by omega) (by omega)]
  · rfl
theorem deleteIn_len (x y bk bn : Int) (m : List Cell) : (deleteIn x y bk bn m).length = m.length := by
  unfold deleteIn
  split
  · show (wipeAB _ _ _ _ _).length = _
    rw [wipeAB_len _ _ (by omega) (by rw [copyAB_len (by omega) (by omega)]; exact Nat.le_refl _), copyAB_len (by omega) (by omega)]
  · rfl
def More32 (c : Cell) : Prop := c.more.size ≤ 32
theorem more_empty (a : At8) : More32 (emptyC a) := by unfold More32 emptyC; simp [ByteArray.size]
theorem mark_more {l : List Cell} {x r : Int} (h : ∀ c ∈ l, More32 c) : ∀ c ∈ markIn x r l, More32 c := by
  unfold markIn
  split
  · exact h
  · rename_i u hu
    split
    · rename_i hy
      refine setMore_all ?_ fun d hd => hy.2.2.2
      split
      · exact setMore_all h fun d hd => hy.2.2.2
      · split
        · exact setMore_all h fun d hd => hy.2.2.2
        · exact h
    · exact h
theorem alone_more (o : Op9) {l : List Cell} (h : ∀ c ∈ l, More32 c) : ∀ c ∈ aloneF o l, More32 c := by
  have hm := mendF_all more_empty l h
  have hb : ∀ bk bn, More32 (blankC bk bn) := fun _ _ => more_empty _
  have he : More32 padC := by unfold More32 padC; simp [ByteArray.size]
  unfold aloneF
  split
  · refine mendF_all more_empty _ ?_
    unfold putIn
    split
    · exact set_all hm (by unfold More32; simp [ByteArray.size])
    · split
      · exact set_all (set_all hm (by unfold More32; simp [ByteArray.size])) (by unfold More32; simp [ByteArray.size])
      · exact hm
  · split
    · exact mendF_all more_empty _ (mark_more hm)
    · split
      · exact mendF_all more_empty _ (erase_all hm (hb _ _))
      · split
        · exact mendF_all more_empty _ (insert_all hm (hb _ _))
        · split
          · exact mendF_all more_empty _ (delete_all hm (hb _ _))
          · split
            · refine mendF_all more_empty _ ?_
              unfold closeIn
              split
              · exact set_all hm he
              · exact hm
            · exact hm
theorem blanks_more (K : Nat) (bk bn : Int) : ∀ c ∈ List.replicate K (blankC bk bn), More32 c := fun c hc => by rw [(List.mem_replicate.1 hc).2]; exact more_empty _
theorem more_Q {l : List Cell} (h : ∀ c ∈ l, More32 c) : ∀ c ∈ l, MoreQ c := fun c hc => by have := h c hc; unfold More32 at this; unfold MoreQ; omega
theorem more_3 {l : List Cell} (h : ∀ c ∈ l, More32 c) : ∀ c ∈ l, c.more.size ≤ 3000000 := fun c hc => by have := h c hc; unfold More32 at this; omega
theorem alone_len (o : Op9) (l : List Cell) : (aloneF o l).length = l.length := by
  unfold aloneF
  (repeat' split) <;> simp only [mendF_len, putIn_len, markIn_len, eraseIn_len, closeIn_len, insertIn_len, deleteIn_len]
end Go.Proofs.Ytoaeadjihpbhgaa
