/-
  strings.Cut at one byte, strings.IndexFunc over a head, walked; splits. No condition but bounds.
-/
import Derived.Test.YthbjjhoajecpcaaMore
import Derived.Test.YthbjjhoajecpcaaChecked
import Derived.Lib.Bytealg
import Derived.Laws.Strings3
import Derived.Laws.RangeString
namespace Go.Proofs.Ythbjjhoajecpcaa
open Go.RowKit Go.Proofs
set_option linter.unusedVariables false
/-! ### strings of numbers -/
theorem so_extract (l : List Int) (a b : Nat) : (strOfNums l).extract a b = strOfNums ((l.take b).drop a) := by
  apply ByteArray.ext
  apply Array.ext'
  simp [strOfNums, ByteArray.extract, ByteArray.copySlice, List.take_drop]
  rcases Nat.le_total a b with h | h
  · rw [Nat.add_sub_cancel' h]
  · rw [Nat.sub_eq_zero_of_le h, Nat.add_zero, List.drop_eq_nil_of_le (by simp; omega), List.drop_eq_nil_of_le (by simp; omega)]
theorem so_take (l : List Int) (k : Nat) : (strOfNums l).extract 0 k = strOfNums (l.take k) := by rw [so_extract]; simp
theorem so_drop (l : List Int) (k n : Nat) (h : n = l.length) : (strOfNums l).extract k n = strOfNums (l.drop k) := by rw [so_extract, h]; simp
theorem so_at (l : List Int) {i : Nat} {x : Int} (h : l[i]? = some x) (h0 : 0 ≤ x) (h1 : x ≤ 255) (hi : i < (strOfNums l).size) : (((strOfNums l)[i]'hi).toNat : Int) = x := by
  have hl : i < l.length := (List.getElem?_eq_some_iff.1 h).1
  have : (strOfNums l)[i]'hi = UInt8.ofNat x.toNat := by
    have e : l[i] = x := (List.getElem?_eq_some_iff.1 h).2
    show (strOfNums l).data[i]'hi = _
    simp [strOfNums, e]
  rw [this, UInt8.toNat_ofNat']
  omega
/-! ### cuts -/
def cutF (c : Int) : List Int → List Int × List Int × Bool
  | [] => ([], [], false)
  | x :: l => if x = c then ([], l, true) else (x :: (cutF c l).1, (cutF c l).2.1, (cutF c l).2.2)
def splitF (c : Int) : List Int → List (List Int)
  | [] => [[]]
  | x :: l => if x = c then [] :: splitF c l else (x :: (splitF c l).headD []) :: (splitF c l).tail
def idxI (c : Int) (l : List Int) : Int := if (cutF c l).2.2 = true then ((cutF c l).1.length : Int) else -1
theorem cut_hit {c : Int} : ∀ {l : List Int}, (cutF c l).2.2 = true → l = (cutF c l).1 ++ c :: (cutF c l).2.1
  | [], h => by simp [cutF] at h
  | x :: l, h => by
    unfold cutF at h ⊢
    by_cases e : x = c
    · simp [e]
    · simp only [if_neg e] at h ⊢
      rw [List.cons_append, ← cut_hit h]
theorem cut_miss {c : Int} : ∀ {l : List Int}, (cutF c l).2.2 = false → (cutF c l).1 = l ∧ (cutF c l).2.1 = []
  | [], h => by simp [cutF]
  | x :: l, h => by
    unfold cutF at h ⊢
    by_cases e : x = c
    · simp [e] at h
    · simp only [if_neg e] at h ⊢
      have := cut_miss h
      rw [this.1, this.2]
      exact ⟨rfl, rfl⟩
theorem cut_not {c : Int} : ∀ (l : List Int), ∀ x ∈ (cutF c l).1, x ∈ l ∧ x ≠ c
  | [], x, h => by simp [cutF] at h
  | y :: l, x, h => by
    unfold cutF at h
    by_cases e : y = c
    · simp [e] at h
    · simp only [if_neg e, List.mem_cons] at h
      rcases h with rfl | h
      · exact ⟨by simp, e⟩
      · exact ⟨List.mem_cons_of_mem _ (cut_not l x h).1, (cut_not l x h).2⟩
theorem split_ne {c : Int} (l : List Int) : splitF c l ≠ [] := by
  cases l with
  | nil => simp [splitF]
  | cons x l => unfold splitF; split <;> simp
theorem split_cut {c : Int} : ∀ (l : List Int), splitF c l = (cutF c l).1 :: (if (cutF c l).2.2 = true then splitF c (cutF c l).2.1 else [])
  | [] => by simp [splitF, cutF]
  | x :: l => by
    rw [splitF, cutF]
    by_cases e : x = c
    · simp only [if_pos e, if_true]
    · simp only [if_neg e]
      rw [split_cut l]
      rfl
theorem idxB {c : Int} (h0 : 0 ≤ c) (h1 : c ≤ 255) : ∀ {l : List Int}, (∀ x ∈ l, 0 ≤ x ∧ x ≤ 255) → Go.Lib.indexByte (strOfNums l).data.toList c.toNat.toUInt8 = idxI c l
  | [], _ => rfl
  | x :: l, h => by
    have hx := h x (by simp)
    have ih := idxB h0 h1 (l := l) (fun y hy => h y (List.mem_cons_of_mem _ hy))
    rw [strOfNums_data] at ih ⊢
    rw [List.map_cons, Go.Lib.indexByte]
    have key : (UInt8.ofNat x.toNat == c.toNat.toUInt8) = decide (x = c) := by
      rw [Bool.eq_iff_iff, beq_iff_eq, decide_eq_true_iff]
      constructor
      · intro e
        have := congrArg UInt8.toNat e
        simp only [UInt8.toNat_ofNat', Nat.toUInt8_eq] at this
        omega
      · rintro rfl; rfl
    rw [key, ih]
    unfold idxI
    rw [cutF]
    by_cases e : x = c
    · simp [e]
    · simp only [e, decide_false, if_neg, Bool.false_eq_true, not_false_eq_true]
      by_cases k : (cutF c l).2.2 = true
      · simp [k]
        try omega
      · simp [k]
set_option maxHeartbeats 1000000 in
theorem ixb_any (l : List Int) (c : Int) (w : World) (hl : ∀ x ∈ l, 0 ≤ x ∧ x ≤ 255) (h0 : 0 ≤ c) (h1 : c ≤ 255) : Calls Try.prog 72 #[.string (strOfNums l), .int .u8 c] w fun e w' => e = .returned (.int .i64 (idxI c l)) ∧ w' = w := by
  have HI := hide (idxB h0 h1 hl)
  clear hl
  go_enter Try.func72, Try.ntmps72
  go_wp2
  rw [run_callFunc_extern (fn := Try.f76) (by kernel_rfl) (by kernel_rfl) (by kernel_rfl) (by kernel_rfl) (e := Extern.BytealgIndexByte.indexByte) (by kernel_rfl), Go.Lib.run_indexByteString, HI.out]
  simp only [Result.andThen]
  rw [Oper.upon_value]
  go_wp2
  go_ret
  exact ⟨rfl, rfl⟩
theorem so_toList (l : List Int) : (strOfNums l).toList = l.map fun n => UInt8.ofNat n.toNat := by
  rw [ByteArray.toList_eq, strOfNums_data]
theorem so_one {l : List Int} {c : Int} (hl : ∀ x ∈ l, 0 ≤ x ∧ x ≤ 255) (h0 : 0 ≤ c) (h1 : c ≤ 255) (h : l ≠ [c]) : ((strOfNums [c]).toList == (strOfNums l).toList) = false := by
  rw [beq_eq_false_iff_ne, so_toList, so_toList]
  intro e
  apply h
  match l, e, hl with
  | [], e, _ => simp at e
  | [x], e, hl =>
    have hx := hl x (by simp)
    simp only [List.map_cons, List.map_nil, List.cons.injEq, and_true] at e
    have := congrArg UInt8.toNat e
    simp only [UInt8.toNat_ofNat'] at this
    congr 1
    omega
  | _ :: _ :: _, e, _ => simp at e
set_option maxHeartbeats 1000000 in
theorem index_any (l : List Int) (c : Int) (w : World) (hl : ∀ x ∈ l, 0 ≤ x ∧ x ≤ 255) (h0 : 0 ≤ c) (h1 : c ≤ 255) : Calls Try.prog 71 #[.string (strOfNums l), .string (strOfNums [c])] w fun e w' => e = .returned (.int .i64 (idxI c l)) ∧ w' = w := by
  have HI := hide (ixb_any l c w hl h0 h1)
  have hs : (strOfNums [c]).size = 1 := rfl
  have hc : ∀ h : 0 < (strOfNums [c]).size, (((strOfNums [c])[0]'h).toNat : Int) = c := fun h => so_at [c] (i := 0) rfl h0 h1 h
  by_cases k : l = [c]
  · subst k
    have HE := hide (show idxI c [c] = 0 by simp [idxI, cutF])
    clear hl
    go_enter Try.func71, Try.ntmps71
    go_wp2_with (go_at_call 72; go_must (refine HI.out.mono ?_; rintro e w1 ⟨rfl, rfl⟩))
    go_ret
    exact ⟨by rw [HE.out]; rfl, rfl⟩
  · have hb := so_one hl h0 h1 k
    clear hl k
    go_enter Try.func71, Try.ntmps71
    go_wp2_with (go_at_call 72; go_must (refine HI.out.mono ?_; rintro e w1 ⟨rfl, rfl⟩))
    go_ret
    exact ⟨rfl, rfl⟩
theorem app_take {l a b : List Int} {c : Int} (h : l = a ++ c :: b) : l.take a.length = a ∧ l.drop (a.length + 1) = b ∧ a.length + 1 ≤ l.length := by
  subst h
  refine ⟨List.take_left, ?_, by simp⟩
  rw [← List.drop_drop, List.drop_left]; rfl
/-- What Cut hands back. -/
def CutPost (c : Int) (l : List Int) (w : World) (e : Ending) (w' : World) : Prop :=
  e = .returned (.tuple #[.string (strOfNums (cutF c l).1), .string (strOfNums (cutF c l).2.1), .bool (cutF c l).2.2]) ∧ ∃ q, w' = w.drewN q
set_option maxHeartbeats 1000000 in
theorem cut70 (l : List Int) (c : Int) (w : World) (hn : l.length ≤ 1000000) (hl : ∀ x ∈ l, 0 ≤ x ∧ x ≤ 255) (h0 : 0 ≤ c) (h1 : c ≤ 255) : Calls Try.prog 70 #[.string (strOfNums l), .string (strOfNums [c])] w (CutPost c l w) := by
  have HI := hide (index_any l c w hl h0 h1)
  have hs : (strOfNums [c]).size = 1 := rfl
  have hz := strOfNums_size l
  obtain ⟨k, hk⟩ : ∃ k, (cutF c l).1.length = k := ⟨_, rfl⟩
  cases hh : (cutF c l).2.2 with
  | true =>
    obtain ⟨t1, t2, hkl⟩ := app_take (cut_hit hh)
    rw [hk] at t1 t2 hkl
    have hI : idxI c l = k := by unfold idxI; rw [if_pos hh, hk]
    have HP := hide (show ∀ q, CutPost c l w (.returned (.tuple #[.string ((strOfNums l).extract 0 k), .string ((strOfNums l).extract (k + 1) l.length), .bool true])) (w.drewN q) from fun q => ⟨by rw [so_take, so_drop l _ _ rfl, t1, t2, hh], q, rfl⟩)
    obtain ⟨n, hn'⟩ : ∃ n, l.length = n := ⟨_, rfl⟩
    rw [hn'] at hz hkl hn HP
    rw [hI] at HI
    have hw : IntKind.i64.wrap ((k : Int) + 1) = k + 1 := IntWalk.i64_in _ (by omega)
    have a1 : (0 : Int) ≤ k := by omega
    have a2 : (k : Int) ≤ n := by omega
    have a3 : (0 : Int) ≤ (k : Int) + 1 := by omega
    have a4 : (k : Int) + 1 ≤ n := by omega
    clear t1 t2 hI hh hk hl hn'
    go_enter Try.func70, Try.ntmps70
    go_wp2_with (go_at_call 71; go_must (refine HI.out.mono ?_; rintro e w1 ⟨rfl, rfl⟩))
    go_quiet (fail)
    go_wp2_with fail
    go_ret3
    have := HP.out nq
    exact this
  | false =>
    have e1 := cut_miss hh
    have hI : idxI c l = -1 := by unfold idxI; rw [if_neg (by rw [hh]; simp)]
    have HP := hide (show CutPost c l w (.returned (.tuple #[.string (strOfNums l), .string ⟨#[]⟩, .bool false])) w from ⟨by rw [e1.1, e1.2, hh]; rfl, 0, rfl⟩)
    rw [hI] at HI
    clear e1 hI hh hk hl
    go_enter Try.func70, Try.ntmps70
    go_wp2_with (go_at_call 71; go_must (refine HI.out.mono ?_; rintro e w1 ⟨rfl, rfl⟩))
    go_ret3
    exact HP.out
set_option maxHeartbeats 1000000 in
theorem cut_any (l : List Int) (c : Int) (w : World) (hn : l.length ≤ 1000000) (hl : ∀ x ∈ l, 0 ≤ x ∧ x ≤ 255) (h0 : 0 ≤ c) (h1 : c ≤ 255) : Calls Try.prog 67 #[.string (strOfNums l), .string (strOfNums [c])] w (CutPost c l w) := by
  have HI := hide (cut70 l c w hn hl h0 h1)
  clear hl
  go_enter Try.func67, Try.ntmps67
  go_wp2_with (go_at_call 70; go_must (refine HI.out.mono ?_; rintro e w1 ⟨rfl, hw⟩; have hw := hide hw))
  go_ret3
  exact ⟨rfl, hw.out⟩
end Go.Proofs.Ythbjjhoajecpcaa
