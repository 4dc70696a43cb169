/-
  Apart's function, one place. No condition but bounds.
-/
import Derived.Test.YtglonmjacacjaaaClos
import Derived.BigQuiet
namespace Go.Proofs.Ytglonmjacacjaaa
open Go.RowKit Go.Proofs
set_option linter.unusedVariables false
def AInv (w0 : World) (g kk G : Nat) (s : ByteArray) (n : Nat) (l : List Nat) (w : World) : Prop := PInv w0 g G (apF n l) w ∧ Blk w kk 9 #[.string s] ∧ ∀ x ∈ apF n l, x ≤ 400
theorem AInv.drewN {w0 w : World} {g kk G : Nat} {s : ByteArray} {n : Nat} {l : List Nat} (h : AInv w0 g kk G s n l w) (q : Nat) : AInv w0 g kk G s n l (w.drewN q) := ⟨h.1.drewN q, h.2.1.drewN q, h.2.2⟩
theorem apF_le {n p : Nat} {l : List Nat} (h : ∀ x ∈ apF n l, x ≤ 400) (hp : p ≤ 400) : ∀ x ∈ apF n (l ++ [p]), x ≤ 400 := by
  rw [apF_snoc]
  unfold apStep
  split
  · intro x hx
    rcases List.mem_append.1 hx with hx | hx
    · exact h x hx
    · rw [List.mem_singleton] at hx; omega
  · exact h
set_option maxHeartbeats 2000000 in
theorem apart1 (w0 : World) (g kk G p n : Nat) (s : ByteArray) (l : List Nat) (bs : List Int) (w : World) (hg : w0.heap.size ≤ g) (hgG : g ≠ G) (hkk : kk ≠ g) (hs : s.size = n) (hn : n ≤ 400) (h : AInv w0 g kk G s n l w) (hT : Tab w G bs) (hl : l.length ≤ 400) (hp : p ≤ 400) :
    Calls Try.prog 21 #[.int .i64 (p : Int), .pointer (some ⟨g, 0, none⟩), .pointer (some ⟨kk, 0, none⟩)] w fun e w2 => e = .returned (.bool true) ∧ AInv w0 g kk G s n (l ++ [p]) w2 ∧ Tab w2 G bs := by
  obtain ⟨⟨A, c, hB, hown, hb, hne⟩, hK, hle⟩ := h
  have hal := apF_len n l
  have hle' := hide (apF_le hle hp)
  have hsn := hide (apF_snoc n l p)
  have hrd := Rd.of_own hown
  have d1 := hB.cell 0
  have d2 := hB.frozen 0
  have d5 := hK.cell 0
  simp only [List.getElem?_toArray, List.getElem?_cons_zero] at d1 d5
  have hbz := hb.size
  have e7 : ∀ W : World, PInv w0 g G (apF n l) W → Blk W kk 9 #[.string s] → Tab W G bs → ¬ ((apF n l).length = 0 ∨ n + (apF n l).getLastD 0 ≤ p) → AInv w0 g kk G s n (l ++ [p]) W ∧ Tab W G bs := fun W a b t hc => by
    refine ⟨⟨?_, b, hle'.out⟩, t⟩
    rw [hsn.out]; unfold apStep; rw [if_neg hc]; exact a
  have e8 : ∀ W : World, PInv w0 g G (apF n l ++ [p]) W → Blk W kk 9 #[.string s] → Tab W G bs → ((apF n l).length = 0 ∨ n + (apF n l).getLastD 0 ≤ p) → AInv w0 g kk G s n (l ++ [p]) W ∧ Tab W G bs := fun W a b t hc => by
    refine ⟨⟨?_, b, hle'.out⟩, t⟩
    rw [hsn.out]; unfold apStep; rw [if_pos hc]; exact a
  have E7 := hide e7
  have E8 := hide e8
  clear e7 e8
  by_cases h0 : (apF n l).length = 0
  · have hz : (((apF n l).length : Int) == 0) = true := by simp; exact List.eq_nil_of_length_eq_zero h0
    have h0' := hide h0
    clear h0 hle
    go_enter Try.func21, Try.ntmps21
    go_wp2_with fail
    go_quiet (fail)
    go_wp2_with (at_builtin; go_must (refine wpList_append1 Try.sl23 rfl _ _ rfl w0.heap.size (.slice A (apF n l).length c) (apF n l).length ((apF n l).map nI) #[.int .i64 p] (w.drewN nq) 1 rfl rfl rfl hown rfl (one_nI p) (by simp only [maxLen]; omega) (by omega) hbz ?_; intro A1 c1 w2 app; have k1 := app.blk ((hB.drewN nq).alloc _) (World.ownsRow.alloc (w := w.drewN nq) hown _) (by decide); have d3 := k1.cell 0; simp only [List.getElem?_toArray, List.getElem?_cons_zero] at d3; have d4 := k1.frozen 0; have k9 := app.blk ((hK.drewN nq).alloc _) (World.ownsRow.alloc (w := w.drewN nq) hown _) (by decide)))
    go_ret
    have := PInv.next hg hgG (hB.drewN nq) hown (below_drewN' hb nq) hne (hT.drewN nq) app
    exact ⟨rfl, E8.out _ this.1 (k9.far (p := ⟨g, 0, none⟩) hkk _) this.2 (.inl h0'.out)⟩
  · obtain ⟨b, off, x, hA, hbB, hx, c1⟩ := Rd.at1 (f := nI) hrd (k := (apF n l).length - 1) (by omega)
    obtain ⟨N, hN⟩ : ∃ N, (apF n l).length = N + 1 := ⟨(apF n l).length - 1, by omega⟩
    have hx4 : x ≤ 400 := hle x (List.mem_of_getElem? hx)
    have hlast : (apF n l).getLastD 0 = x := by
      rw [List.getLastD_eq_getLast?, List.getLast?_eq_getElem?, hx]; rfl
    have NX : ∀ (W : World) (A1 : Option Addr) (c1 : Nat) (w2 : World), Blk W g 23 #[.slice A (apF n l).length c] → W.ownsRow w0.heap.size 3 1 (.slice A (apF n l).length c) (apF n l).length ((apF n l).map nI) → Below w0.heap.size w0 W → (Value.slice A (apF n l).length c).ownBlock ≠ some G → Tab W G bs →
        App (W.alloc (.cells #[.int .i64 p] 3)) w0.heap.size 3 1 (.slice A (apF n l).length c) (.slice A1 ((apF n l).length + 1) c1) ((apF n l).length + 1) ((apF n l).map nI ++ #[Value.int .i64 p].toList) w2 →
        PInv w0 g G (apF n l ++ [p]) (w2.setCell ⟨g, 0, none⟩ (.slice A1 ((apF n l).length + 1) c1)) ∧ Tab (w2.setCell ⟨g, 0, none⟩ (.slice A1 ((apF n l).length + 1) c1)) G bs :=
      fun W A1 c1 w2 a1 a2 a3 a4 a5 a6 => PInv.next hg hgG a1 a2 a3 a4 a5 a6
    have PX : ∀ W : World, Blk W g 23 #[.slice A (apF n l).length c] → W.ownsRow w0.heap.size 3 1 (.slice A (apF n l).length c) (apF n l).length ((apF n l).map nI) → Below w0.heap.size w0 W → (Value.slice A (apF n l).length c).ownBlock ≠ some G → PInv w0 g G (apF n l) W :=
      fun W a1 a2 a3 a4 => ⟨A, c, a1, a2, a3, a4⟩
    have hnc : N + 1 ≤ c := by
      rcases hown.2 with ⟨e, _⟩ | ⟨g', cap, cur, e, _, _, hc, _⟩
      · injection e with _ e _; omega
      · injection e with _ _ e; omega
    have hz : ((N : Int) + 1 == 0) = false := by simp; omega
    have hw1 : IntKind.i64.wrap (N : Int) = N := IntWalk.i64_in _ (by omega)
    have hw2 : IntKind.i64.wrap ((p : Int) - x) = (p : Int) - x := IntWalk.i64_in _ (by omega)
    rw [hN] at hB hown d1 hne NX PX hal
    rw [hN, Nat.add_sub_cancel] at c1
    subst hA
    unfold nI at c1
    have hN' := hide hN
    have hlast' := hide hlast
    have hx' := hide hx
    have NX' := hide NX
    have PX' := hide PX
    clear hN hlast hx NX PX hle h0 hrd hbB
    by_cases hap : n + x ≤ p
    · have hdec : decide ((n : Int) ≤ (p : Int) - x) = true := by simp; omega
      go_enter Try.func21, Try.ntmps21
      go_wp2_with fail
      go_quiet (fail)
      go_wp2_with (at_builtin; go_must (refine wpList_append1 Try.sl23 rfl _ _ rfl w0.heap.size (.slice (some ⟨b, off, none⟩) (N + 1) c) (N + 1) ((apF n l).map nI) #[.int .i64 p] (w.drewN nq) 1 rfl rfl rfl hown rfl (one_nI p) (by simp only [maxLen]; omega) (by omega) hbz ?_; intro A1 c1 w2 app; have k1 := app.blk ((hB.drewN nq).alloc _) (World.ownsRow.alloc (w := w.drewN nq) hown _) (by decide); have d3 := k1.cell 0; simp only [List.getElem?_toArray, List.getElem?_cons_zero] at d3; have d4 := k1.frozen 0; have k9 := app.blk ((hK.drewN nq).alloc _) (World.ownsRow.alloc (w := w.drewN nq) hown _) (by decide)))
      go_ret
      have := NX'.out _ _ _ _ (hB.drewN nq) hown (below_drewN' hb nq) hne (hT.drewN nq) app
      exact ⟨rfl, E8.out _ this.1 (k9.far (p := ⟨g, 0, none⟩) hkk _) this.2 (.inr (by rw [hlast'.out]; exact hap))⟩
    · have hdec : decide ((n : Int) ≤ (p : Int) - x) = false := by simp; omega
      go_enter Try.func21, Try.ntmps21
      go_wp2_with fail
      go_quiet (fail)
      go_wp2_with fail
      go_ret
      exact ⟨rfl, E7.out _ (PX'.out _ (hB.drewN nq) hown (below_drewN' hb nq) hne) (hK.drewN nq) (hT.drewN nq) (by rw [hlast'.out, hN'.out]; omega)⟩
end Go.Proofs.Ytglonmjacacjaaa
