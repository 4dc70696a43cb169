/-
  The given statement of CellsRight in its second form: for every input whose bulk is at most 1048576 the law returns true, and each argument reads as it did. The condition: the bulk.
-/
import Derived.Test.YtoaeadjihpbhgaaLawB
import Derived.Test.YtoaeadjihpbhgaaReads
import Derived.Test.YtoaeadjihpbhgaaFrame
import Derived.Test.YtoaeadjihpbhgaaRows
import Derived.JoinedCond
namespace Go.Proofs.Ytoaeadjihpbhgaa.cellsRight
open Go.ChangeShapes Go.WideShapes Go.ChangeAt Go.RowKit
open Go.ChangeMaps (open_string shut_string)
set_option linter.unusedVariables false


theorem bulk_part {H : Type} {d : DataW H} {l : List (DataW H)} (h : d ∈ l) : Rows.uptoBulk d ≤ Rows.uptoBulkAll l := by
  induction l with
  | nil => cases h
  | cons x r ih =>
    simp only [Rows.uptoBulkAll]
    cases List.mem_cons.1 h with
    | inl e => subst e; omega
    | inr e => have := ih e; omega
theorem bulk_string {H : Type} (bytes : List UInt8) : Rows.uptoBulk (DataW.lit (H := H) (.string bytes)) = bytes.length + 1 := by
  simp [Rows.uptoBulk]
set_option maxRecDepth 100000 in
theorem contract (H : Type) (enc : TypeId × Value → H) (W : World) (base : Nat) (args : Array Value) (ds gs : List (DataW H)) (before : List MemPlace)
    (hval0 : ∀ (j : Nat) t v, Try.f5.params[j]? = some t → args[j]? = some v → Value.okWide Try.prog W .any base t v)
    (hW : DataW.Whole enc Try.prog Try.f5.params.toList Rows.cellsRightSpec.vars false W args.toList ds gs before) (hk : Rows.uptoSmall H (ds ++ gs) = true) :
    Calls Try.prog 5 args W fun e W' => ∃ v, e = .returned v ∧ Rows.cellsRightSpec.post enc Try.prog Try.f5 false true false false W args v W' := by
  have hval : ∀ (j : Nat) t v, Try.f5.params[j]? = some t → args[j]? = some v → Value.okWide Try.prog W .any base t v := hval0
  have hW' := hW
  obtain ⟨p, q, hA0, hV, rfl, hfz, hnd⟩ := hW
  have hA : DataW.TrodAll enc Try.prog W 0 (fun _ => true) true Try.f5.params.toList args.toList ds p := hA0
  rw [Try.params5] at hA hval
  obtain ⟨v0, vs0, d0, ds0, p0, q0, hargs, rfl, rfl, h0, r0⟩ := trodAll_cons hA
  obtain ⟨rfl, rfl, rfl⟩ := trodAll_nil r0
  obtain rfl : args = #[v0] := by cases args; simp_all
  obtain ⟨rfl, rfl⟩ := trodVars_none hV
  have k0 := h0
  have lt0 : ∀ x ∈ p0, x.block < W.heap.size := by obtain ⟨m, hm⟩ := k0; exact DataW.trod_lt m _ _ _ hm
  obtain ⟨A0, n0, c0, rfl⟩ := okWide_slice Try.underlying26 (hval 0 26 v0 rfl rfl)
  obtain ⟨l0, e0, f0, g0, t0, dd⟩ := open_rd_d (α := Cell) (s := 8) cellE (fun _ => rfl) CellR Try.underlying26 (by kernel_rfl) (by decide) (fun _ _ _ => read_cell) h0
  have q0 : ∀ a ∈ l0, a.more.size ≤ 3000000 := by
    intro a ha
    rcases dd with ⟨_, hl⟩ | ⟨elems, sp, hd, hdd⟩
    · rw [hl] at ha; cases ha
    · obtain ⟨x, hx, ps, hp, hb⟩ := hdd a ha
      subst hd
      have h1 := bulk_part (List.mem_of_getElem? hb)
      rw [bulk_string] at h1
      have h2 := bulk_part hx
      have h3 : Rows.uptoBulk (DataW.slice elems sp) ≤ 1048576 := Nat.le_trans (bulk_part (List.mem_append.2 (.inl (List.mem_cons_self ..)))) (of_decide_eq_true hk)
      rw [hp] at h2
      simp only [Rows.uptoBulk] at h2 h3
      have h4 : a.more.data.toList.length = a.more.size := by rw [Array.length_toList]; rfl
      omega
  clear hA0 hval0
  refine (cellsRight_walk W A0 n0 c0 l0 e0 f0 g0 t0 q0).mono fun e W' ⟨he, bel⟩ => ?_
  subst he
  exact ⟨_, rfl, _, _, _, [], _, [], hW', trodAll_mk1 (shut_bool Try.underlying4 _), (trodAll_cons_mk (Below.trod laidOutT (by kernel_rfl) (of_decide_eq_true (by kernel_rfl)) k0 bel lt0) trodAll_mk0), rfl, bel.frame _, fun h => by cases h⟩

set_option maxRecDepth 100000 in
theorem lifted (os : Os) (started : os.Started) (H : Type) (enc : TypeId × Value → H) (F : Stop.Interp) :
    ReturnsInHanded {} Try.checked os 5 .any ((Rows.OpenSpec.upto Rows.cellsRightSpec).pre6 enc Try.prog Try.f5 Rows.cellsRightUptoRow.domain false) (((Rows.OpenSpec.upto Rows.cellsRightSpec).at F).post enc Try.prog Try.f5 false true false false) := by
  refine returnsInHanded_of_cond (C := Try.checked) (s := Rows.OpenSpec.upto Rows.cellsRightSpec) (k := Rows.uptoSmall) rfl ownKnobT started (by kernel_rfl) Try.func5
    (OpenSpec.witness (enc := enc) (C := Try.checked) (s := Rows.OpenSpec.upto Rows.cellsRightSpec) (k := Rows.uptoSmall) rfl false ⟨#[], #[.slice none 0 0], []⟩ 8 (by kernel_rfl) (by kernel_rfl) (by kernel_rfl)
      (x := ([.nil], [], [])) (by kernel_rfl) rfl (by kernel_rfl)) ?_
  intro W base args ds gs before hval hW _ hk _
  exact contract H enc W base args ds gs before hval hW hk
theorem over : Rows.cellsRightUptoRow.holds Try.pinned (Rows.OpenSpec.upto Rows.cellsRightSpec) :=
  OpenClaim.holds_of_cond 5 Try.f5 rfl rfl rfl rfl rfl rfl rfl ⟨rfl, rfl, rfl, rfl, rfl⟩ rfl rfl rfl rfl rfl (by kernel_rfl) Try.func5 (by kernel_rfl)
    (of_decide_eq_true (by kernel_rfl)) (by unfold Func.isWrapper; first | (rw [if_pos (by decide +kernel)]; kernel_rfl) | (rw [if_neg (by decide +kernel)]; exact ⟨rfl, rfl⟩))
    (fun os started H enc _ F => lifted os started H enc F)

theorem proved : Rows.CellsRightUptoSaid := over
#print axioms proved
end Go.Proofs.Ytoaeadjihpbhgaa.cellsRight
