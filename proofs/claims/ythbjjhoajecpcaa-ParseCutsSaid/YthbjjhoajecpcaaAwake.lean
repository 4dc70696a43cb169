/-
  awake, made walked. No condition but bounds.
-/
import Derived.Test.YthbjjhoajecpcaaDoc2
import Derived.Test.YthbjjhoajecpcaaOf
import Derived.Test.YthbjjhoajecpcaaSameE
import Derived.Lib.SlBytesConst
namespace Go.Proofs.Ythbjjhoajecpcaa
open Go.RowKit Go.Proofs
set_option linter.unusedVariables false
theorem few_group (p : List Int) : (groupF p).length ≤ 8 := by unfold groupF; rw [List.length_map, List.length_take]; omega
theorem few_nums (l : List Int) : Few (numsF l) := by
  unfold Few numsF
  refine ⟨by rw [List.length_map, List.length_take]; omega, fun x hx => ?_⟩
  obtain ⟨p, _, rfl⟩ := List.mem_map.1 hx
  have := few_group p
  omega
theorem few_nil : Few [] := ⟨by simp, by simp⟩
/-- made. -/
def MadePost (most : Nat) (w : World) (e : Ending) (w' : World) : Prop := ∃ P, w.heap.size ≤ P ∧ e = .returned (.pointer (some ⟨P, 0, none⟩)) ∧ PIn w' P (newM most) R0 ∧ Below w.heap.size w w'
set_option maxHeartbeats 1000000 in
theorem made_any (c : Int) (w : World) (h0 : 0 ≤ c) (h1 : c ≤ 255) : Calls Try.prog 11 #[.int .u8 c] w (MadePost (c.toNat + 1) w) := by
  obtain ⟨m, hm⟩ : ∃ m : Nat, c = m := ⟨c.toNat, by omega⟩
  subst hm
  have hm : (((m : Int).toNat + 1 : Nat)) = m + 1 := by simp
  rw [hm]
  obtain ⟨q, hq⟩ : ∃ q, m + 1 = q := ⟨_, rfl⟩
  rw [hq]
  have NW := hide (new_any q w (by omega) (by omega))
  have e2 : IntKind.i64.wrap (m : Int) = m := IntWalk.i64_in _ (by omega)
  have e3 : (m : Int) + 1 = q := by omega
  clear hm
  go_enter Try.func11, Try.ntmps11
  go_wp2_with (go_at_call 19; go_must (refine NW.out.mono ?_; rintro e w1 ⟨P, hP, rfl, hI, hb⟩; have HI := hide hI))
  go_ret
  exact ⟨P, hP, rfl, HI.out, hb⟩
/-- The example's bytes and events. -/
def exB : List Int := [27, 91, 49, 59, 51, 49, 109, 27, 93, 48, 59, 97, 7]
def exE : List Ev := [⟨3, 0, 109, 0, [[1], [31]], [], [], false⟩, ⟨4, 0, 0, 0, [], [], [48, 59, 97], false⟩]
theorem ex_law : (allM (newM 99) exB).1 = exE := by kernel_rfl
theorem Frm.below {S : Nat → Prop} {B : Nat} {w w' : World} (h : Frm S w w') (hS : ∀ k, S k → B ≤ k) (hB : B ≤ w.heap.size) : Below B w w' :=
  ⟨h.os, h.tape, h.output, h.size, fun k hk => h.block k (Nat.lt_of_lt_of_le hk hB) (fun hs => by have := hS k hs; omega)⟩
/-- The example's events as a literal lays them. -/
def exW (w : World) : World :=
  (((w.alloc (.cells #[.int .i64 1] 3)).alloc (.cells #[.int .i64 31] 3)).alloc (.cells #[.slice (some ⟨w.heap.size, 0, none⟩) 1 1, .slice (some ⟨w.heap.size + 1, 0, none⟩) 1 1] 48)).alloc (.cells #[.int .i64 3, .int .i32 0, .int .u8 109, .int .u8 0, .slice (some ⟨w.heap.size + 1 + 1, 0, none⟩) 2 2, .string ⟨#[]⟩, .string ⟨#[]⟩, .bool false, .int .i64 4, .int .i32 0, .int .u8 0, .int .u8 0, .slice none 0 0, .string ⟨#[]⟩, .string ⟨#[48, 59, 97]⟩, .bool false] 41)
theorem ex_rd (w : World) : EvRd (exW w) (some ⟨w.heap.size + 1 + 1 + 1, 0, none⟩) 2 exE := by
  have z : (exW w).heap.size = w.heap.size + 4 := by unfold exW; simp
  have b0 : Blk (exW w) w.heap.size 3 #[.int .i64 1] := (((Blk.new w 3 _).alloc _).alloc _).alloc _
  have b1 : Blk (exW w) (w.heap.size + 1) 3 #[.int .i64 31] := ((Blk.new' (by simp) 3 _).alloc _).alloc _
  have b2 : Blk (exW w) (w.heap.size + 1 + 1) 48 #[.slice (some ⟨w.heap.size, 0, none⟩) 1 1, .slice (some ⟨w.heap.size + 1, 0, none⟩) 1 1] := (Blk.new' (by simp) 48 _).alloc _
  have b3 : Blk (exW w) (w.heap.size + 1 + 1 + 1) 41 #[.int .i64 3, .int .i32 0, .int .u8 109, .int .u8 0, .slice (some ⟨w.heap.size + 1 + 1, 0, none⟩) 2 2, .string ⟨#[]⟩, .string ⟨#[]⟩, .bool false, .int .i64 4, .int .i32 0, .int .u8 0, .int .u8 0, .slice none 0 0, .string ⟨#[]⟩, .string ⟨#[48, 59, 97]⟩, .bool false] := Blk.new' (by simp) 41 _
  have i0 : IntsAt (exW w) (.slice (some ⟨w.heap.size, 0, none⟩) 1 1) [1] := ⟨_, 1, rfl, fun _ => ⟨_, _, rfl, b0, fun i x hx => by
    match i, hx with
    | 0, hx => injection hx with hx; subst hx; rfl
    | i + 1, hx => simp at hx⟩⟩
  have i1 : IntsAt (exW w) (.slice (some ⟨w.heap.size + 1, 0, none⟩) 1 1) [31] := ⟨_, 1, rfl, fun _ => ⟨_, _, rfl, b1, fun i x hx => by
    match i, hx with
    | 0, hx => injection hx with hx; subst hx; rfl
    | i + 1, hx => simp at hx⟩⟩
  have n0 : NumsAt (exW w) (.slice (some ⟨w.heap.size + 1 + 1, 0, none⟩) 2 2) [[1], [31]] := ⟨_, 2, rfl, fun _ => ⟨_, _, rfl, b2, fun i l hl => by
    match i, hl with
    | 0, hl => injection hl with hl; subst hl; exact ⟨_, rfl, i0⟩
    | 1, hl => injection hl with hl; subst hl; exact ⟨_, rfl, i1⟩
    | i + 2, hl => simp at hl⟩⟩
  refine ⟨[(⟨3, 0, 109, 0, [[1], [31]], [], [], false⟩, .slice (some ⟨w.heap.size + 1 + 1, 0, none⟩) 2 2), (⟨4, 0, 0, 0, [], [], [48, 59, 97], false⟩, .slice none 0 0)], rfl, ⟨rfl, fun _ => ⟨_, 0, rfl, by omega, fun j u hu => ?_⟩⟩, fun x hx => ?_⟩
  · rw [Nat.zero_add, b3.cell]
    match j, hu with
    | 0, hu => exact hu
    | 1, hu => exact hu
    | 2, hu => exact hu
    | 3, hu => exact hu
    | 4, hu => exact hu
    | 5, hu => exact hu
    | 6, hu => exact hu
    | 7, hu => exact hu
    | 8, hu => exact hu
    | 9, hu => exact hu
    | 10, hu => exact hu
    | 11, hu => exact hu
    | 12, hu => exact hu
    | 13, hu => exact hu
    | 14, hu => exact hu
    | 15, hu => exact hu
    | j + 16, hu => simp [evC] at hu
  · simp only [List.mem_cons, List.not_mem_nil, or_false] at hx
    rcases hx with rfl | rfl
    · exact n0
    · exact nums_none _ 0
theorem ex_few : ∀ e ∈ exE, Few e.nums := by
  intro e he
  simp only [exE, List.mem_cons, List.not_mem_nil, or_false] at he
  rcases he with rfl | rfl <;> exact ⟨by decide, by decide⟩
theorem ex_below (w : World) : Below w.heap.size w (exW w) := by
  unfold exW
  exact ((((Below.refl _ w).alloc (Nat.le_refl _) _).alloc (by simp) _).alloc (by simp; omega) _).alloc (by simp; omega) _
theorem ex_bytes (w : World) (P : Nat) (hP : P < w.heap.size) (o : Nat × Nat) : RdN (w.alloc (.cells #[.int .u8 27, .int .u8 91, .int .u8 49, .int .u8 59, .int .u8 51, .int .u8 49, .int .u8 109, .int .u8 27, .int .u8 93, .int .u8 48, .int .u8 59, .int .u8 97, .int .u8 7] 5 o)) (PS P R0) (some ⟨w.heap.size, 0, none⟩) 13 exB := by
  refine ⟨rfl, fun _ => ⟨_, 0, rfl, by simp, ?_, fun j x hx => ?_⟩⟩
  · rintro (h | h | h | h)
    · omega
    · exact (rb_none h).elim
    · exact (rb_none h).elim
    · exact (rb_none h).elim
  · rw [Nat.zero_add, cell_of_row _ _ _ _ _ _ (heap_alloc_new w _)]
    match j, hx with
    | 0, hx => injection hx with hx; subst hx; rfl
    | 1, hx => injection hx with hx; subst hx; rfl
    | 2, hx => injection hx with hx; subst hx; rfl
    | 3, hx => injection hx with hx; subst hx; rfl
    | 4, hx => injection hx with hx; subst hx; rfl
    | 5, hx => injection hx with hx; subst hx; rfl
    | 6, hx => injection hx with hx; subst hx; rfl
    | 7, hx => injection hx with hx; subst hx; rfl
    | 8, hx => injection hx with hx; subst hx; rfl
    | 9, hx => injection hx with hx; subst hx; rfl
    | 10, hx => injection hx with hx; subst hx; rfl
    | 11, hx => injection hx with hx; subst hx; rfl
    | 12, hx => injection hx with hx; subst hx; rfl
    | j + 13, hx => simp [exB] at hx
theorem ps0 {P B : Nat} (h : B ≤ P) : ∀ k, PS P R0 k → B ≤ k := by
  rintro k (h | h | h | h)
  · omega
  · exact (rb_none h).elim
  · exact (rb_none h).elim
  · exact (rb_none h).elim
set_option maxRecDepth 100000 in
set_option maxHeartbeats 1000000 in
theorem awake_any (w : World) : Calls Try.prog 10 #[] w fun e w' => e = .returned (.bool true) ∧ Below w.heap.size w w' := by
  have NW := hide (new_any 99 w (by omega) (by omega))
  have kc := fun (w : World) (C : Array Value) (n c : Nat) => Lib.run_convert_bytes_const (P := Try.prog) w 22 5 C n c Try.u22 Try.u5
  go_enter Try.func10, Try.ntmps10
  go_wp2_with (first
    | (go_at_call 19; go_must (refine NW.out.mono ?_; rintro e w1 ⟨P, hP, rfl, hI, hb⟩; have HI := hide hI; have HB := hide hb; have hPl : P < w1.heap.size := by obtain ⟨cs, hc⟩ := hI.dec.blk; exact hc.lt))
    | (go_at_call 16; go_must (refine (all_any P (newM 99) R0 13 13 _ exB _ (HI.out.call ((Below.refl _ _).alloc (Nat.le_refl _) _)) (new_ok (by omega)) (ex_bytes w1 P hPl (13, 14)) (by omega) (by decide)).mono ?_; unfold EvPost; rw [ex_law, show exE.length = 2 from rfl]; rintro e w2 ⟨A2, c2, rfl, hE, hp⟩; have HE := hide hE.rd; have HP := hide hp))
    | (go_at_call 15; go_must (change Calls Try.prog 15 _ (exW w2) _; refine (sameE_any _ _ 2 c2 2 exE (exW w2) (HE.out.call (ex_below w2)) (ex_rd w2) (by omega) ex_few).mono ?_; rintro e w3 ⟨rfl, hb3⟩; have HB3 := hide hb3)))
  go_ret
  obtain ⟨_, _, hfr, _⟩ := HP.out
  have z := HB.out.size
  exact ⟨rfl, below_in (below_in ((HB.out.alloc z _).trans (Frm.below hfr (ps0 hP) (by simp; omega))) (ex_below w2) (Nat.le_refl _)) HB3.out (Nat.le_refl _)⟩
end Go.Proofs.Ythbjjhoajecpcaa
