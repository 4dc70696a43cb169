/-
  The given statement of CellsOwn: for every input the law returns true, and each argument reads as it did. No condition.
-/
import Derived.Test.YtoaeadjihpbhgaaLawB
import Derived.Test.YtoaeadjihpbhgaaReads
import Derived.Test.YtoaeadjihpbhgaaFrame
import Derived.Test.YtoaeadjihpbhgaaRows
namespace Go.Proofs.Ytoaeadjihpbhgaa.cellsOwn
open Go.ChangeShapes Go.WideShapes Go.ChangeAt Go.RowKit
open Go.ChangeMaps (open_string shut_string)
set_option linter.unusedVariables false

set_option maxRecDepth 100000 in
theorem lifted (os : Os) (started : os.Started) (H : Type) (enc : TypeId × Value → H) :
    ReturnsInHanded {} Try.checked os 4 .any (Rows.cellsOwnSpec.pre6 enc Try.prog Try.f4 Rows.cellsOwnRow.domain false) (Rows.cellsOwnSpec.post enc Try.prog Try.f4 false true false false) := by
  refine returnsInHanded_of_change_sized (C := Try.checked) ownKnobT started (by kernel_rfl) Try.func4
    (ChangeSpec.witness6 (enc := enc) (C := Try.checked) false ⟨#[], #[.slice none 0 0, .slice none 0 0], []⟩ 8 (by kernel_rfl) (by kernel_rfl) (by kernel_rfl) (by kernel_rfl)) ?_
  intro W base args ds gs before hval0 hW hcnd hsz _
  have hval : ∀ (j : Nat) t v, Try.f4.params[j]? = some t → args[j]? = some v → Value.okWide Try.prog W .any base t v := hval0
  have hW' := hW
  obtain ⟨p, q, hA0, hV, rfl, hfz, hnd⟩ := hW
  have hA : DataW.TrodAll enc Try.prog W 0 (fun _ => true) true Try.f4.params.toList args.toList ds p := hA0
  rw [Try.params4] at hA hval
  obtain ⟨v0, vs0, d0, ds0, p0, q0, hargs, rfl, rfl, h0, r0⟩ := trodAll_cons hA
  obtain ⟨v1, vs1, d1, ds1, p1, q1, rfl, rfl, rfl, h1, r1⟩ := trodAll_cons r0
  obtain ⟨rfl, rfl, rfl⟩ := trodAll_nil r1
  obtain rfl : args = #[v0, v1] := by cases args; simp_all
  obtain ⟨rfl, rfl⟩ := trodVars_none hV
  have k0 := h0
  have lt0 : ∀ x ∈ p0, x.block < W.heap.size := by obtain ⟨m, hm⟩ := k0; exact DataW.trod_lt m _ _ _ hm
  obtain ⟨A0, n0, c0, rfl⟩ := okWide_slice Try.underlying26 (hval 0 26 v0 rfl rfl)
  obtain ⟨l0, e0, f0, g0, t0, dd⟩ := open_rd_d (α := Cell) (s := 8) cellE (fun _ => rfl) CellR Try.underlying26 (by kernel_rfl) (by decide) (fun _ _ _ => read_cell) h0
  have q0 : ∀ a ∈ l0, MoreQ a := by
    intro a ha
    rcases dd with ⟨_, hl⟩ | ⟨elems, sp, hd, hdd⟩
    · rw [hl] at ha; cases ha
    · obtain ⟨x, hx, ps, hp, hb⟩ := hdd a ha
      subst hd
      have := sized_inner hsz (j := 0) (t := 26) (e := 40) (by kernel_rfl) rfl Try.underlying26 hx hp Try.underlying40 (i := 1) (f := 9) (by kernel_rfl) hb
      have h2 : a.more.data.toList.length = a.more.size := by rw [Array.length_toList]; rfl
      rw [h2] at this
      unfold MoreQ
      unfold reachBytes at this
      omega
  have k1 := h1
  have lt1 : ∀ x ∈ p1, x.block < W.heap.size := by obtain ⟨m, hm⟩ := k1; exact DataW.trod_lt m _ _ _ hm
  obtain ⟨A1, n1, c1, rfl⟩ := okWide_slice Try.underlying24 (hval 1 24 v1 rfl rfl)
  obtain ⟨l1, e1, f1, g1, t1, q1⟩ := open_rd (α := Op9) (s := 9) opE (fun _ => rfl) (fun _ => True) Try.underlying24 (by kernel_rfl) (by decide) (fun _ _ _ => read_op) h1
  clear hA0 hval0
  refine (cellsOwn_walk W A0 n0 c0 l0 e0 f0 g0 t0 q0 A1 n1 c1 l1 e1 f1 g1 t1 q1).mono fun e W' ⟨he, bel⟩ => ?_
  subst he
  exact ⟨_, rfl, _, _, _, [], _, [], hW', trodAll_mk1 (shut_bool Try.underlying4 _), (trodAll_cons_mk (Below.trod laidOutT (by kernel_rfl) (of_decide_eq_true (by kernel_rfl)) k0 bel lt0) (trodAll_cons_mk (Below.trod laidOutT (by kernel_rfl) (of_decide_eq_true (by kernel_rfl)) k1 bel lt1) trodAll_mk0)), rfl, bel.frame _, fun h => by cases h⟩

theorem over : Rows.cellsOwnRow.holds Try.pinned (OpenSpec.ofChange Rows.cellsOwnSpec) :=
  OpenClaim.holds_of_wide 4 Try.f4 rfl rfl rfl rfl rfl rfl rfl ⟨rfl, rfl, rfl, rfl, rfl⟩ rfl rfl rfl rfl rfl (by kernel_rfl) Try.func4 (by kernel_rfl)
    (of_decide_eq_true (by kernel_rfl)) (by unfold Func.isWrapper; first | (rw [if_pos (by decide +kernel)]; kernel_rfl) | (rw [if_neg (by decide +kernel)]; exact ⟨rfl, rfl⟩))
    (fun os started H enc _ => lifted os started H enc)

theorem proved : Rows.CellsOwnSaid := over
#print axioms proved
end Go.Proofs.Ytoaeadjihpbhgaa.cellsOwn
