/-
  The walk of Clusters: slices of the call's own in a slice of the call's own. No condition but bounds.
-/
import Derived.Test.YtbaapdhfbhnlcaaFit
namespace Go.Proofs.Ytbaapdhfbhnlcaa
open Go.RowKit Go.Proofs
set_option linter.unusedVariables false
theorem Try.sl25 : SliceOf Try.prog 25 21 1 4 := SliceOf.mk (z := .int .i32 0) (by kernel_rfl) (by kernel_rfl) (by kernel_rfl) (by omega)
theorem Try.sl29 : SliceOf Try.prog 29 25 1 24 := SliceOf.mk (z := .slice none 0 0) (by kernel_rfl) (by kernel_rfl) (by kernel_rfl) (by omega)
/-- The clusters that begin below a place. -/
def clF (l : List Int) (k : Nat) : List (List Int) := (bF l k).map fun b => seg l b (endF l b)
theorem clF_end {l : List Int} {a : Nat} (ha : a < l.length) (hb : nb l a = true) : clF l (endF l a) = clF l a ++ [seg l a (endF l a)] := by
  unfold clF; rw [bF_end ha hb, List.map_append]; rfl
theorem clF_len (l : List Int) (k : Nat) : (clF l k).length = (bF l k).length := by unfold clF; simp
/-- Cells that are slices of the call's own, each with its list. -/
def InRows (B : Nat) (w : World) (cells : List Value) (L : List (List Int)) : Prop :=
  cells.length = L.length ∧ ∀ (i : Nat) (s : List Int), L[i]? = some s → ∃ A c, cells[i]? = some (.slice A s.length c) ∧ w.ownsRow B 21 1 (.slice A s.length c) s.length (s.map rn)
theorem InRows.nil (B : Nat) (w : World) : InRows B w [] [] := ⟨rfl, fun i s h => by simp at h⟩
theorem InRows.grown {B : Nat} {w w' : World} {cells : List Value} {L : List (List Int)} {row : Option Nat} (h : InRows B w cells L) (hg : w.grownBy w' row)
    (hr : ∀ v n xs, w.ownsRow B 21 1 v n xs → v.ownBlock = none ∨ v.ownBlock ≠ row) : InRows B w' cells L :=
  ⟨h.1, fun i s hs => by
    obtain ⟨A, c, h1, h2⟩ := h.2 i s hs
    exact ⟨A, c, h1, h2.kept hg (hr _ _ _ h2)⟩⟩
theorem InRows.below {B : Nat} {w w' : World} {cells : List Value} {L : List (List Int)} (h : InRows B w cells L) (hb : Below w.heap.size w w') : InRows B w' cells L :=
  ⟨h.1, fun i s hs => by
    obtain ⟨A, c, h1, h2⟩ := h.2 i s hs
    exact ⟨A, c, h1, own_call h2 hb⟩⟩
theorem InRows.alloc {B : Nat} {w : World} {cells : List Value} {L : List (List Int)} (h : InRows B w cells L) (o : Obj) : InRows B (w.alloc o) cells L :=
  ⟨h.1, fun i s hs => by
    obtain ⟨A, c, h1, h2⟩ := h.2 i s hs
    exact ⟨A, c, h1, h2.alloc o⟩⟩
theorem InRows.snoc {B : Nat} {w : World} {cells : List Value} {L : List (List Int)} {s : List Int} {A : Option Addr} {c : Nat} (h : InRows B w cells L) (ho : w.ownsRow B 21 1 (.slice A s.length c) s.length (s.map rn)) : InRows B w (cells ++ [.slice A s.length c]) (L ++ [s]) := by
  refine ⟨by simp [h.1], fun i t ht => ?_⟩
  rcases Nat.lt_or_ge i L.length with hi | hi
  · rw [List.getElem?_append_left hi] at ht
    obtain ⟨A', c', h1, h2⟩ := h.2 i t ht
    exact ⟨A', c', by rw [List.getElem?_append_left (by rw [h.1]; exact hi)]; exact h1, h2⟩
  · rw [List.getElem?_append_right hi] at ht
    have h0 : i - L.length = 0 := by
      rcases Nat.eq_zero_or_pos (i - L.length) with h | h
      · exact h
      · rw [List.getElem?_singleton] at ht; simp at ht; omega
    rw [h0] at ht
    simp at ht
    subst ht
    exact ⟨A, c, by rw [List.getElem?_append_right (by rw [h.1]; exact hi), h.1, h0]; rfl, ho⟩
/-- The clusters, handed back. -/
def ClPost (L : List (List Int)) (w : World) (e : Ending) (w' : World) : Prop :=
  ∃ A c cells, e = .returned (.slice A L.length c) ∧ Rd w' w'.heap.size 1 A L.length cells ∧
    (∀ (i : Nat) (s : List Int), L[i]? = some s → ∃ A c, cells[i]? = some (.slice A s.length c) ∧ s.length ≤ c ∧ Rd w' w'.heap.size 1 A s.length (s.map rn)) ∧ Below w.heap.size w w'
theorem one_rn (l : List Int) : ∀ u ∈ l.map rn, u.oneCell' = true := by
  intro u hu
  obtain ⟨x, _, rfl⟩ := List.mem_map.1 hu
  rfl
set_option maxHeartbeats 4000000 in
theorem clus_any (l : List Int) (n c : Nat) (A : Option Addr) (w : World) (hl : Rd w w.heap.size 1 A n (l.map rn)) (hn : n ≤ 100000) (hc : n ≤ c) :
    Calls Try.prog 14 #[.slice A n c] w (ClPost (clF l n) w) := by
  have HL := hide hl.len1
  have E := hide (fun i A W h hi => end_any l n c i A W h hn hi)
  go_enter Try.func14, Try.ntmps14
  go_wp2
  go_loopg [3, 4] n (fun g s3 s4 wr => ∃ (a : Nat) (cells : List Value), s4 = .int .i64 a ∧ a + g = n ∧ Hid (a = n ∨ nb l a = true) ∧ wr.ownsRow w.heap.size 25 1 s3 (clF l a).length cells ∧ Hid (InRows w.heap.size wr cells (clF l a)) ∧ Rd wr w.heap.size 1 A n (l.map rn) ∧ Below w.heap.size w wr)
  case atStart => exact ⟨0, [], rfl, by omega, .inr (nb_zero l), World.ownsRow_nil _ _ _ _, InRows.nil _ _, hl, Below.refl _ _⟩
  case round =>
    clear hl
    obtain ⟨a, cells, rfl, hag, HB, hown, HI, hl, hb⟩ := hrel
    obtain ⟨A0, c0, rfl⟩ := own_slice hown
    have hbz := hb.size
    by_cases hlt : a < n
    · have hnb : nb l a = true := by rcases HB.out with h | h; omega; exact h
      have heb := endF_bounds (l := l) (i := a) (by rw [HL.out]; exact hlt)
      rw [HL.out] at heb
      have hcl := clF_end (by rw [HL.out]; exact hlt) hnb
      have hne : endF l a = n ∨ nb l (endF l a) = true := by
        rcases Nat.lt_or_ge (endF l a) l.length with h3 | h3
        · exact .inr (nb_end h3)
        · exact .inl (by rw [HL.out] at h3; omega)
      have hcll := bF_len l a
      rw [← clF_len] at hcll
      obtain ⟨e, he⟩ : ∃ e, endF l a = e := ⟨_, rfl⟩
      have E' := E.out a A wr (hl.more hbz) hlt
      rw [he] at E' heb hcl hne
      have E := hide E'
      have hcl := hide hcl
      have hne := hide hne
      have cu := fun W => cut_lh (P := Try.prog) (a := A) (len := n) (cap := c) Try.underlying25 Try.size21 a e rfl rfl (by omega) (by omega) W
      have hsl : (seg l a e).length = e - a := seg_len (by rw [HL.out]; exact heb.2)
      have HSL := hide hsl
      clear hnb E' he hsl
      go_wp2_with (first
        | (go_at_call 26; go_must (refine E.out.mono ?_; rintro e1 w1 ⟨rfl, b1⟩; have hl1 := hl.below (b1.mono hbz); have hb1 := below_in hb b1 (Nat.le_refl _); have own1 := own_call hown b1; have in1 := hide (HI.out.below b1); have hs1 := rd_seg hl1 (a := a) (e := e) (by omega) heb.2 hc))
        | (at_builtin; (refine wpList_appends Try.sl25 rfl _ _ rfl w.heap.size (.slice none 0 0) 0 [] w1 w.heap.size (cutA A c a 1) (e - a) (c - a) ((seg l a e).map rn) rfl rfl (World.ownsRow_nil _ _ _ _) hs1 (one_rn _) (by simp only [maxLen]; omega) (by omega) hb1.size ?_; intro A2 c2 w2 app2; rw [Nat.zero_add, List.nil_append] at app2; have hB2 : Below w.heap.size w1 w2 := app2.below (World.ownsRow_nil _ _ _ _) (Below.refl _ _) (Nat.le_refl _) hb1.size; have own2 := own1.kept app2.grown (Classical.em _); have in2 := hide (in1.out.grown app2.grown (fun v _ _ _ => Classical.em _)); have hb2 := hb1.trans hB2))
        | (at_builtin; go_must (refine wpList_append1 Try.sl29 rfl _ _ rfl w.heap.size (.slice A0 (clF l a).length c0) (clF l a).length cells #[.slice A2 (e - a) c2] w2 1 rfl rfl rfl own2 rfl (by intro u hu; simp at hu; subst hu; rfl) (by simp only [maxLen]; omega) (by omega) hb2.size ?_; intro A3 c3 w3 app3)))
      have hs3 : e - a = (seg l a e).length := HSL.out.symm
      have i2 := app2.own
      have o3 := app3.own
      rw [hs3] at i2 o3
      have i3 := in2.out.snoc i2
      have k3 := (i3.alloc (.cells #[.slice A2 (e - a) c2] 25)).grown app3.grown (fun v n xs h => own_ne' h (own2.alloc _) (by decide))
      have hB3 : Below w.heap.size w2 w3 := app3.below (own2.alloc _) ((Below.refl _ _).alloc hb2.size _) (Nat.le_refl _) (by have := hb2.size; simp; omega)
      go_roundg (n - e)
      case measure => omega
      case rel =>
        refine ⟨e, cells ++ [.slice A2 (seg l a e).length c2], rfl, by omega, hne.out, ?_, by show InRows _ _ _ _; rw [hcl.out]; exact k3, (hl1.below hB2).below hB3, hb2.trans hB3⟩
        rw [hcl.out, List.length_append]
        exact o3
    · obtain rfl : n = a := by omega
      have hrd := hide (Rd.of_own hown)
      have hcap := hide (own_cap hown).1
      go_wp2
      go_ret
      refine ⟨A0, c0, cells, rfl, hrd.out, fun i s hs => ?_, hb⟩
      obtain ⟨A1, c1, h1, h2⟩ := HI.out.2 i s hs
      exact ⟨A1, c1, h1, (own_cap h2).1, Rd.of_own h2⟩
end Go.Proofs.Ytbaapdhfbhnlcaa
