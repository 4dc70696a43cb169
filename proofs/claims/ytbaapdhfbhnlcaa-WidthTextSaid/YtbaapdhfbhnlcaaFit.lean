/-
  The walks of Fit and of Ranges. No condition but bounds.
-/
import Derived.Test.YtbaapdhfbhnlcaaEnd
namespace Go.Proofs.Ytbaapdhfbhnlcaa
open Go.RowKit Go.Proofs
set_option linter.unusedVariables false
theorem Try.size21 : (Try.prog.info? 21).map (·.size) = some 1 := by kernel_rfl
/-- A part of a slice of runes. -/
theorem rd_seg {w : World} {B n c : Nat} {A : Option Addr} {l : List Int} (h : Rd w B 1 A n (l.map rn)) {a e : Nat} (h1 : a ≤ e) (h2 : e ≤ n) (hc : n ≤ c) : Rd w B 1 (cutA A c a 1) (e - a) ((seg l a e).map rn) := by
  have := h.part h1 h2 hc
  rw [Nat.mul_one, Nat.mul_one, ← List.map_drop, ← List.map_take] at this
  exact this
theorem seg_len {l : List Int} {a e : Nat} (h2 : e ≤ l.length) : (seg l a e).length = e - a := by unfold seg; rw [List.length_take, List.length_drop]; omega
/-- What fits. -/
def Fits (l : List Int) (cols : Int) (r : Nat) : Prop :=
  r ≤ l.length ∧ (r = l.length ∨ nb l r = true) ∧ (cols < 0 → r = 0) ∧ (0 ≤ cols → textF (l.take r) ≤ cols ∧ (r = l.length ∨ cols < textF (l.take (endF l r))))
def FitPost (l : List Int) (cols : Int) (w : World) (e : Ending) (w' : World) : Prop := ∃ r : Nat, e = .returned (.int .i64 r) ∧ Fits l cols r ∧ Below w.heap.size w w'
def FitRel (l : List Int) (cols : Int) (a : Nat) (cv : Int) (g : Nat) : Prop :=
  (0 ≤ cv ∧ cv = cols - textF (l.take a) ∧ a ≤ l.length ∧ (a = l.length ∨ nb l a = true) ∧ g = l.length - a + 1) ∨ (cv < 0 ∧ Fits l cols a ∧ g = 0)
theorem fit_start (l : List Int) (cols : Int) : ∃ g, FitRel l cols 0 cols g := by
  by_cases h : 0 ≤ cols
  · exact ⟨_, .inl ⟨h, by simp [textF], Nat.zero_le _, .inr (nb_zero l), rfl⟩⟩
  · exact ⟨_, .inr ⟨by omega, ⟨Nat.zero_le _, .inr (nb_zero l), fun _ => rfl, fun h2 => absurd h2 h⟩, rfl⟩⟩
theorem fit_step {l : List Int} {cols cv : Int} {a g : Nat} (h : FitRel l cols a cv g) (h0 : 0 ≤ cv) (ha : a < l.length) :
    (0 ≤ cv - textF (seg l a (endF l a)) → FitRel l cols (endF l a) (cv - textF (seg l a (endF l a))) (l.length - endF l a + 1) ∧ l.length - endF l a + 1 < g) ∧
    (cv - textF (seg l a (endF l a)) < 0 → FitRel l cols a (cv - textF (seg l a (endF l a))) 0 ∧ 0 < g) := by
  rcases h with ⟨_, hc, _, hb, hg⟩ | ⟨h1, _⟩
  · obtain ⟨e1, e2⟩ := endF_bounds ha
    have ht := text_seg (l := l) (a := a) (b := endF l a) (by omega)
    have hb' : nb l a = true := by rcases hb with hb | hb; omega; exact hb
    refine ⟨fun h2 => ⟨.inl ⟨h2, by omega, e2, ?_, rfl⟩, by omega⟩, fun h2 => ⟨.inr ⟨h2, ⟨by omega, .inr hb', fun h3 => ?_, fun h3 => ⟨by omega, .inr (by omega)⟩⟩, rfl⟩, by omega⟩⟩
    · rcases Nat.lt_or_ge (endF l a) l.length with h3 | h3
      · exact .inr (nb_end h3)
      · exact .inl (by omega)
    · have := textF_bounds (l.take a)
      omega
  · omega
theorem fit_done {l : List Int} {cols cv : Int} {a g : Nat} (h : FitRel l cols a cv g) (hd : l.length ≤ a ∨ cv < 0) : Fits l cols a := by
  rcases h with ⟨h1, h2, h3, h4, _⟩ | ⟨_, h, _⟩
  · have ha : a = l.length := by omega
    have := textF_bounds (l.take a)
    exact ⟨h3, h4, fun h => by omega, fun _ => ⟨by omega, .inl ha⟩⟩
  · exact h
set_option maxHeartbeats 2000000 in
theorem fit_any (l : List Int) (cols : Int) (n c : Nat) (A : Option Addr) (w : World) (hl : Rd w w.heap.size 1 A n (l.map rn)) (hn : n ≤ 100000) (hc : n ≤ c) (hi : cols ≤ 9223372036854775807) :
    Calls Try.prog 17 #[.int .i64 cols, .slice A n c] w (FitPost l cols w) := by
  have HL := hide hl.len1
  have T := hide (fun l n c A W h hn => text_any l n c A W h hn)
  have E := hide (fun i A W h hi => end_any l n c i A W h hn hi)
  obtain ⟨g0, hg0⟩ := fit_start l cols
  have H0 := hide hg0
  clear hg0
  go_enter Try.func17, Try.ntmps17
  go_wp2
  go_loopg [0, 5] g0 (fun g s0 s5 wr => ∃ (a : Nat) (cv : Int), s5 = .int .i64 a ∧ s0 = .int .i64 cv ∧ a ≤ n ∧ cv ≤ 9223372036854775807 ∧ Hid (FitRel l cols a cv g) ∧ Rd wr wr.heap.size 1 A n (l.map rn) ∧ Below w.heap.size w wr)
  case atStart => exact ⟨0, cols, rfl, rfl, Nat.zero_le _, hi, H0.out, hl, Below.refl _ _⟩
  case round =>
    clear hl
    obtain ⟨a, cv, rfl, rfl, han, hcv, HR, hl, hb⟩ := hrel
    by_cases hlt : a < n
    · by_cases hc0 : 0 ≤ cv
      · have hstep := hide (fit_step HR.out hc0 (by rw [HL.out]; exact hlt))
        have heb := endF_bounds (l := l) (i := a) (by rw [HL.out]; exact hlt)
        rw [HL.out] at heb
        obtain ⟨e, he⟩ : ∃ e, endF l a = e := ⟨_, rfl⟩
        have E' := E.out a A wr hl hlt
        rw [he] at E' heb
        have hseg := rd_seg hl (a := a) (e := e) (by omega) heb.2 hc
        have hst := textF_bounds (seg l a e)
        rw [seg_len (by rw [HL.out]; exact heb.2)] at hst
        obtain ⟨S, hS⟩ : ∃ S, textF (seg l a e) = S := ⟨_, rfl⟩
        have T' := fun W => T.out (seg l a e) (e - a) (c - a) (cutA A c a 1) W
        rw [hS] at T' hst
        have hstep' := hstep.out
        rw [he, hS] at hstep'
        have hstep := hide hstep'
        have cu := fun W => cut_lh (P := Try.prog) (a := A) (len := n) (cap := c) Try.underlying25 Try.size21 a e rfl rfl (by omega) (by omega) W
        have T := hide T'
        have E := hide E'
        clear T' E' he hS hstep'
        by_cases hs : 0 ≤ cv - S
        · go_wp2_with (first
            | (go_at_call 26; go_must (refine E.out.mono ?_; rintro e1 w1 ⟨rfl, b1⟩; have l1 := hseg.below b1))
            | (go_at_call 12; go_must (refine (T.out _ (l1.more b1.size) (by omega)).mono ?_; rintro e2 w2 ⟨rfl, b2⟩)))
          go_roundg (l.length - e + 1)
          case measure => exact (hstep.out.1 hs).2
          case rel => exact ⟨e, cv - S, by go_num, by go_num, heb.2, by omega, (hstep.out.1 hs).1, rd_call (rd_call hl b1) b2, below_in (below_in hb b1 (Nat.le_refl _)) b2 (Nat.le_refl _)⟩
        · have d : decide (0 ≤ cv - S) = false := by simpa using hs
          have d2 : decide (S ≤ cv) = false := by simp; omega
          go_wp2_with (first
            | (go_at_call 26; go_must (refine E.out.mono ?_; rintro e1 w1 ⟨rfl, b1⟩; have l1 := hseg.below b1))
            | (go_at_call 12; go_must (refine (T.out _ (l1.more b1.size) (by omega)).mono ?_; rintro e2 w2 ⟨rfl, b2⟩)))
          go_roundg 0
          case measure => exact (hstep.out.2 (by omega)).2
          case rel => exact ⟨a, cv - S, by go_num, by go_num, han, by omega, (hstep.out.2 (by omega)).1, rd_call (rd_call hl b1) b2, below_in (below_in hb b1 (Nat.le_refl _)) b2 (Nat.le_refl _)⟩
      · have hd := hide (fit_done HR.out (.inr (by omega)))
        have d : decide (0 ≤ cv) = false := by simpa using hc0
        go_wp2_with fail
        go_ret
        exact ⟨a, rfl, hd.out, hb⟩
    · have hd := hide (fit_done HR.out (.inl (by rw [HL.out]; omega)))
      go_wp2_with fail
      go_ret
      exact ⟨a, rfl, hd.out, hb⟩
end Go.Proofs.Ytbaapdhfbhnlcaa
