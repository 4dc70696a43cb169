/-
  The walk of All. No condition but bounds.
-/
import Derived.Test.YtailflbhcmgnpaaAt
namespace Go.Proofs.Ytailflbhcmgnpaa
open Go.RowKit Go.Proofs
set_option linter.unusedVariables false
theorem Try.sl46 : SliceOf Try.prog 46 30 2 32 := SliceOf.mk (z := .agg #[.slice none 0 0, .bool false]) (by kernel_rfl) (by kernel_rfl) (by kernel_rfl) (by omega)
theorem one_row (A : Option Addr) (n c : Nat) (b : Bool) : ∀ u ∈ #[Value.slice A n c, .bool b].toList, u.oneCell' = true := by
  intro u hu; simp at hu; rcases hu with rfl | rfl <;> rfl
theorem RowsIn.snoc {ok : Nat → Prop} {w : World} {rows : List (Value × Value)} {L : List Row} {k : Nat} {p : Value × Value} {R : Row} (h : RowsIn ok w rows (L.take k)) (hR : L[k]? = some R) (hv : RowV ok w p R) : RowsIn ok w (rows ++ [p]) (L.take (k + 1)) := by
  rw [take_snoc hR]
  refine ⟨by simp [h.1], fun i S hS => ?_⟩
  rcases Nat.lt_or_ge i (L.take k).length with hi | hi
  · rw [List.getElem?_append_left hi] at hS
    obtain ⟨q, h1, h2⟩ := h.2 i S hS
    exact ⟨q, by rw [List.getElem?_append_left (by rw [h.1]; exact hi)]; exact h1, h2⟩
  · rw [List.getElem?_append_right hi] at hS
    have h0 : i - (L.take k).length = 0 := by
      have := (List.getElem?_eq_some_iff.1 hS).1
      simp at this
      simp
      omega
    rw [h0] at hS
    simp at hS
    subst hS
    exact ⟨p, by rw [List.getElem?_append_right (by rw [h.1]; exact hi), h.1, h0]; rfl, hv⟩
/-- Rows handed back in a slice of the call's own. -/
def RowsPost (ok : Nat → Prop) (L : List Row) (w : World) (e : Ending) (w' : World) : Prop :=
  ∃ A c rows, e = .returned (.slice A L.length c) ∧ w'.ownsRow w.heap.size 30 2 (.slice A L.length c) L.length (flatP rows) ∧ RowsIn ok w' rows L ∧ Below w.heap.size w w'
theorem flatP_snoc (rows : List (Value × Value)) (p : Value × Value) : flatP (rows ++ [p]) = flatP rows ++ [p.1, p.2] := by simp [flatP]
set_option maxHeartbeats 4000000 in
theorem all_any (ok ok' : Nat → Prop) (g : Nat) (S : Option Nat) (L : List Row) (room gone len first : Nat) (rows : List (Value × Value)) (w : World) (h : RingOf ok w g S L room gone len first rows) (hok : ∀ b, w.heap.size ≤ b → ok' b) :
    Calls Try.prog 16 #[.pointer (some ⟨g, 0, none⟩)] w (RowsPost ok' L w) := by
  have hle := h.le
  have hlr := h.ler
  have hrl := h.roomle
  have hgl := h.lt
  have H := hide h
  have SL := hide (fun (i : Nat) (W : World) (hi : i ≤ 1000000) (hW : Below w.heap.size w W) (hf : first ≤ 1000000) => slot_any (slotsA S) len room first L.length gone i g W (h.blk.below hW hgl) hf hi (by omega))
  have OW := hide (fun (v1 v2 : Value) (R : Row) (W : World) (hv : RowV ok w (v1, v2) R) (hW : Below w.heap.size w W) => own_any ok ok' v1 v2 R W (hv.keep (Keep45.below hW)) (fun b hb => hok b (Nat.le_trans hW.size hb)))
  have LN := hide (len_any (slotsA S) len room first L.length gone g w h.blk)
  obtain ⟨n, hn⟩ : ∃ n, L.length = n := ⟨_, rfl⟩
  have HN := hide hn
  have LN' := LN.out
  rw [hn] at LN'
  have LN := hide LN'
  rw [hn] at hle
  clear h LN' hn
  go_enter Try.func16, Try.ntmps16
  go_wp2_with (go_at_call 13; go_must (refine LN.out.mono ?_; rintro e w' ⟨rfl, rfl⟩))
  go_loopg [3, 7] n (fun gg s3 s7 wr => ∃ (k : Nat) (rs : List (Value × Value)), k + gg = n ∧ s7 = .int .i64 k ∧ wr.ownsRow w.heap.size 30 2 s3 k (flatP rs) ∧ Hid (RowsIn ok' wr rs (L.take k)) ∧ Below w.heap.size w wr)
  case atStart => exact ⟨0, [], by omega, rfl, World.ownsRow_nil _ _ _ _, ⟨rfl, fun i R hR => by simp at hR⟩, Below.refl _ _⟩
  case round =>
    obtain ⟨k, rs, hkg, rfl, hown, HR, hb⟩ := hrel
    obtain ⟨A0, c0, rfl⟩ := own_slice hown
    by_cases hlt : k < n
    · obtain ⟨R, hR⟩ : ∃ R, L[k]? = some R := ⟨_, List.getElem?_eq_getElem (by rw [HN.out]; exact hlt)⟩
      obtain ⟨s, p, rfl, hsg, hfl, hix, hp, hv, hs, c1, c2, _, _⟩ := H.out.cells hR
      have hsl := hs.lt
      obtain ⟨v1, v2⟩ := p
      obtain ⟨A, m, c, b, rfl, rfl⟩ := row_form hv
      obtain ⟨d0, _⟩ := blk5 H.out.blk
      have hR' := hide hR
      have OW1 := hide (fun W hW => OW.out _ _ R W hv hW)
      obtain ⟨q, hq⟩ : ∃ q, ix len first k = q := ⟨_, rfl⟩
      have SL1 := fun W hW => SL.out k W (by omega) hW (by omega)
      rw [hq] at c1 c2 hix SL1
      have SL1 := hide SL1
      have hbz := hb.size
      have E0 := hide (show ∀ W, Below w.heap.size w W → W.cell? ⟨g, 0, none⟩ = some (.slice (some ⟨s, 0, none⟩) len len) ∧ W.cell? ⟨s, q * 2, none⟩ = some (.slice A m c) ∧ W.cell? ⟨s, q * 2 + 1, none⟩ = some (.bool b) from
        fun W hW => ⟨(hW.cell (p := ⟨g, 0, none⟩) hgl).trans d0, (hW.cell (p := ⟨s, q * 2, none⟩) hsl).trans c1, (hW.cell (p := ⟨s, q * 2 + 1, none⟩) hsl).trans c2⟩)
      have hB := hide hb
      clear hR hp hv hs hq d0 c1 c2
      have d3 := (E0.out _ hb)
      have e46 := Try.sl46
      go_wp2_with fail
      go_region_held3 (fun W => W.cell? ⟨g, 0, none⟩ = some (.slice (some ⟨s, 0, none⟩) len len) ∧ W.cell? ⟨s, q * 2, none⟩ = some (.slice A m c) ∧ W.cell? ⟨s, q * 2 + 1, none⟩ = some (.bool b))
        (first | (exact d3) | (exact E0.out _ B1) | (exact E0.out _ B3) | go_keep)
        (first | (go_at_call 28; (refine (SL1.out _ hB.out.drew).mono ?_; rintro e w' ⟨rfl, rfl⟩)) | (go_at_call 25; (refine (OW1.out _ hB.out.drew).mono ?_); rintro e w1 ⟨u1, u2, rfl, rv, bb⟩; obtain ⟨A', n', c', b', rfl, rfl⟩ := row_form rv; have B1 := below_in hB.out.drew bb (Nat.le_refl _); have own1 := own_call (w := wr.drew) hown bb; have rv := hide rv; have z1 := B1.size) | (refine step_append1n Try.sl46 (by rfl) _ _ (by rfl) w.heap.size (.slice A0 k c0) k (flatP rs) #[.slice A' n' c', .bool b'] w1 1 (by rfl) (by rfl) rfl own1 rfl (one_row _ _ _ _) (by simp only [maxLen]; omega) (by omega) z1 ?_; intro A3 c3 w3 app; have B3 := app.below (own1.alloc _) (B1.alloc z1 _) (Nat.le_refl _) (by simp; omega)))
      go_wp2_with fail
      have kp1 : Keep45 ok' wr w1 := fun b cs _ hB => (Blk.drew hB).below bb (Blk.lt (Blk.drew hB))
      have kp3 : Keep45 ok' w1 w3 := fun b cs _ hB => app.blk (hB.alloc _) (own1.alloc _) (by decide)
      go_roundg (n - (k + 1))
      case measure => omega
      case rel =>
        refine ⟨k + 1, rs ++ [(.slice A' n' c', .bool b')], by omega, by go_num, ?_, RowsIn.snoc (HR.out.keep (kp1.trans kp3)) hR'.out (rv.out.keep kp3), B3⟩
        rw [flatP_snoc]
        exact app.own
    · obtain rfl : n = k := by omega
      go_wp2_with fail
      go_ret
      have e := HR.out
      rw [List.take_of_length_le (by rw [HN.out]; exact Nat.le_refl _)] at e
      unfold RowsPost
      rw [HN.out]
      exact ⟨A0, c0, rs, rfl, hown, e, hb⟩
theorem all_none (ok : Nat → Prop) (w : World) : Calls Try.prog 16 #[.pointer none] w (RowsPost ok [] w) := by
  have LN := hide (len_none w)
  go_enter Try.func16, Try.ntmps16
  go_wp2_with (go_at_call 13; go_must (refine LN.out.mono ?_; rintro e w' ⟨rfl, rfl⟩))
  refine wp_loop_rounds 1 ?_
  rw [rounds_succ]
  go_wp2
  go_ret
  exact ⟨none, 0, [], rfl, World.ownsRow_nil _ _ _ _, ⟨rfl, fun i R hR => by simp at hR⟩, Below.refl _ _⟩
end Go.Proofs.Ytailflbhcmgnpaa
