/-
  The document's Of walked. No condition but bounds.
-/
import Derived.Test.YthbjjhoajecpcaaRest
import Derived.Test.YthbjjhoajecpcaaOfF
namespace Go.Proofs.Ythbjjhoajecpcaa
open Go.RowKit Go.Proofs
set_option linter.unusedVariables false
/-- Behind so many bytes. -/
def OfI (most : Nat) (b : List Int) (a : Nat) (evs : List Ev) (st held : Nat) : Prop :=
  evs.length ≤ 2 * a ∧ a ≤ b.length ∧ if a = b.length then evs = (ofF most b).evs ∧ st = (ofF most b).st ∧ held = (ofF most b).held else evs ++ (ofF most (b.drop a)).evs = (ofF most b).evs ∧ (ofF most (b.drop a)).st = (ofF most b).st ∧ (ofF most (b.drop a)).held = (ofF most b).held
theorem ofI_zero (most : Nat) (b : List Int) : OfI most b 0 [] 0 0 := by
  refine ⟨by simp, by simp, ?_⟩
  split
  · rename_i h
    obtain rfl : b = [] := List.length_eq_zero_iff.1 h.symm
    exact ⟨rfl, rfl, rfl⟩
  · simp
theorem ofI_step {most : Nat} {b : List Int} {a : Nat} {evs : List Ev} {st held : Nat} (h : OfI most b a evs st held) (ha : a < b.length) :
    1 ≤ (restF most (b.drop a)).n ∧ OfI most b (a + (restF most (b.drop a)).n) (evs ++ (restF most (b.drop a)).evs) (restF most (b.drop a)).st (restF most (b.drop a)).held := by
  obtain ⟨h1, h2, h3⟩ := h
  rw [if_neg (by omega)] at h3
  have hne : b.drop a ≠ [] := by
    intro h
    have := congrArg List.length h
    rw [List.length_drop] at this
    simp at this
    omega
  have hr := rest_len most (b.drop a) hne
  rw [List.length_drop] at hr
  have hs := ofF_step most (b.drop a) hne
  rw [List.length_drop] at hs
  refine ⟨hr.1, by rw [List.length_append]; omega, by omega, ?_⟩
  by_cases k : (restF most (b.drop a)).n = b.length - a
  · rw [if_pos k] at hs
    rw [if_pos (by omega), ← h3.1, ← h3.2.1, ← h3.2.2, hs]
    exact ⟨rfl, rfl, rfl⟩
  · rw [if_neg k, List.drop_drop] at hs
    rw [if_neg (by omega), ← h3.1, ← h3.2.1, ← h3.2.2, hs]
    refine ⟨?_, rfl, rfl⟩
    show _ = evs ++ (_ ++ _)
    rw [List.append_assoc]
/-- What Of hands back. -/
def OfPost (most : Nat) (l : List Int) (w : World) (e : Ending) (w' : World) : Prop :=
  ∃ R A c A2 c2, w.heap.size ≤ R ∧ e = .returned (.pointer (some ⟨R, 0, none⟩)) ∧ Blk w' R 36 #[.slice A (ofF most l).evs.length c, .int .i64 (ofF most l).st, .int .i64 (ofF most l).held, .slice A2 l.length c2, .int .i64 most] ∧ EvRow w' w.heap.size (.slice A (ofF most l).evs.length c) (ofF most l).evs.length (ofF most l).evs ∧ Below w.heap.size w w'
set_option maxRecDepth 100000 in
set_option maxHeartbeats 4000000 in
theorem of_any (most : Nat) (b : List Int) (A : Option Addr) (n c : Nat) (w : World) (hb : Rd w w.heap.size 1 A n (b.map b8)) (hc : n ≤ c) (hn : n ≤ 1000) (hm : most ≤ 65536) (hq : ∀ x ∈ b, 0 ≤ x ∧ x ≤ 255) :
    Calls Try.prog 14 #[.slice A n c, .int .i64 most] w (OfPost most b w) := by
  have hbl := hb.len1
  obtain ⟨q, hqq⟩ : ∃ q : Rn, q = ⟨w.heap.size, w.heap.size, A, c, b, most⟩ := ⟨_, rfl⟩
  have HO := hide (show ROk w q by rw [hqq]; exact ⟨by rw [hbl]; exact hb, Nat.le_refl _, Nat.le_refl _, by rw [hbl]; exact hc, by rw [hbl]; exact hn, hm, hq⟩)
  have HQQ := hide hqq
  have HL := hide hbl
  have RE := hide (fun (evs : List Ev) (st held a0 : Nat) (W : World) (hW : RInv w q evs st held W) (hn : evs.length ≤ 2500) (ha : a0 < q.b.length) => rest_any w q evs st held a0 W hW HO.out hn ha)
  clear hb hqq hq hbl
  go_enter Try.func14, Try.ntmps14
  go_wp2_with fail
  go_loopg [6] n (fun g s6 wr => ∃ (a : Nat) (evs : List Ev) (st held : Nat), a + g = n ∧ s6 = .int .i64 a ∧ Hid (OfI most b a evs st held) ∧ Hid (RInv w q evs st held wr))
  case atStart =>
    refine ⟨0, [], 0, 0, by omega, rfl, ofI_zero most b, ?_⟩
    show RInv _ _ _ _ _ _
    rw [HQQ.out]
    refine ⟨⟨none, 0, ?_, EvRow.nil _ _ 0⟩, ?_⟩
    · rw [HL.out]
      exact Blk.new w 36 _
    · exact (Below.refl _ w).alloc (Nat.le_refl _) _
  case round =>
    obtain ⟨a, evs, st, held, ha, rfl, HI, HR⟩ := hrel
    have hlen := HI.out.1
    by_cases hlt : a < n
    · have hs := ofI_step HI.out (by rw [HL.out]; exact hlt)
      have R1 := RE.out evs st held a wr HR.out (by omega) (by rw [HQQ.out]; show a < b.length; rw [HL.out]; exact hlt)
      have e1 : q.R = w.heap.size := by rw [HQQ.out]
      have e2 : q.most = most := by rw [HQQ.out]
      have e3 : q.b = b := by rw [HQQ.out]
      rw [e1, e2, e3] at R1
      obtain ⟨p, hp⟩ : ∃ p, restF most (b.drop a) = p := ⟨_, rfl⟩
      rw [hp] at R1 hs
      obtain ⟨z, hz⟩ : ∃ z, a + p.n = z := ⟨_, rfl⟩
      unfold RPost at R1
      rw [hz] at R1 hs
      have hz2 : z ≤ n := by have := hs.2.2.1; rw [HL.out] at this; exact this
      have hz1 := hs.1
      have HS := hide hs.2
      have R1 := hide R1
      clear hs hp
      go_wp2_with (go_at_call 29; go_must (refine R1.out.mono ?_; rintro e w2 ⟨rfl, hI2⟩; have hI2 := hide hI2))
      go_roundg (n - z)
      case measure => omega
      case rel => exact ⟨z, evs ++ p.evs, p.st, p.held, by omega, rfl, HS.out, hI2.out⟩
    · have hs := HI.out.2.2
      rw [if_pos (by rw [HL.out]; omega)] at hs
      have HS := hide hs
      clear hs
      go_wp2_with fail
      go_ret
      obtain ⟨s1, s2, s3⟩ := HS.out
      subst s1 s2 s3
      obtain ⟨AE, cE, k1, k2⟩ := HR.out.at_
      rw [HQQ.out] at k1 k2
      have kb := HR.out.below
      rw [HQQ.out] at kb
      exact ⟨w.heap.size, AE, cE, A, c, Nat.le_refl _, rfl, k1, k2, kb⟩
end Go.Proofs.Ythbjjhoajecpcaa
