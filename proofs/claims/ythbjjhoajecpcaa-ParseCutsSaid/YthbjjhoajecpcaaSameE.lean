/-
  The document's Same of equal events walked. No condition but bounds.
-/
import Derived.Test.YthbjjhoajecpcaaSame
namespace Go.Proofs.Ythbjjhoajecpcaa
open Go.RowKit Go.Proofs
set_option linter.unusedVariables false
/-- Events to be read. -/
def EvRd (w : World) (A : Option Addr) (n : Nat) (l : List Ev) : Prop := ∃ xs : List (Ev × Value), xs.map Prod.fst = l ∧ Rd w w.heap.size 8 A n (xs.flatMap evC) ∧ ∀ x ∈ xs, NumsAt w x.2 x.1.nums
theorem EvRow.rd {w : World} {base n c : Nat} {A : Option Addr} {l : List Ev} (h : EvRow w base (.slice A n c) n l) : EvRd w A n l := by
  obtain ⟨xs, h1, h2, h3⟩ := h
  exact ⟨xs, h1, Rd.of_own h2, h3⟩
theorem EvRd.call {w w' : World} {n : Nat} {A : Option Addr} {l : List Ev} (h : EvRd w A n l) (hb : Below w.heap.size w w') : EvRd w' A n l := by
  obtain ⟨xs, h1, h2, h3⟩ := h
  exact ⟨xs, h1, rd_call h2 hb, fun x hx => (h3 x hx).keep (KN.of_below hb)⟩
theorem EvRd.len {w : World} {n : Nat} {A : Option Addr} {l : List Ev} (h : EvRd w A n l) : l.length = n := by
  obtain ⟨xs, rfl, h2, h3⟩ := h
  rw [List.length_map]
  exact h2.len evC_len (by omega)
theorem EvRd.at_ {w : World} {n : Nat} {A : Option Addr} {l : List Ev} (h : EvRd w A n l) {k : Nat} (hk : k < n) :
    ∃ b off e B m c, A = some ⟨b, off, none⟩ ∧ b < w.heap.size ∧ l[k]? = some e ∧ m = e.nums.length ∧ NumsAt w (.slice B m c) e.nums ∧
      w.cell? ⟨b, off + k * 8, none⟩ = some (.int .i64 e.kind) ∧ w.cell? ⟨b, off + k * 8 + 1, none⟩ = some (.int .i32 e.r) ∧ w.cell? ⟨b, off + k * 8 + 2, none⟩ = some (.int .u8 e.byte) ∧ w.cell? ⟨b, off + k * 8 + 3, none⟩ = some (.int .u8 e.pre) ∧
      w.cell? ⟨b, off + k * 8 + 4, none⟩ = some (.slice B m c) ∧ w.cell? ⟨b, off + k * 8 + 5, none⟩ = some (.string (strOfNums e.inter)) ∧ w.cell? ⟨b, off + k * 8 + 6, none⟩ = some (.string (strOfNums e.text)) ∧ w.cell? ⟨b, off + k * 8 + 7, none⟩ = some (.bool e.cut) := by
  obtain ⟨xs, h1, h2, h3⟩ := h
  obtain ⟨b, off, x, e1, hb, hx, hc⟩ := h2.row evC_len (by omega) hk
  obtain ⟨e, v⟩ := x
  have hn := h3 _ (List.mem_of_getElem? hx)
  obtain ⟨B, c, hv, hn2⟩ := id hn
  dsimp only at hv hn
  subst hv
  have he : l[k]? = some e := by rw [← h1, List.getElem?_map, hx]; rfl
  exact ⟨b, off, e, B, _, c, e1, hb, he, rfl, hn, by have := hc 0 _ rfl; simpa using this, by have := hc 1 _ rfl; simpa [Nat.add_assoc] using this, by have := hc 2 _ rfl; simpa [Nat.add_assoc] using this, by have := hc 3 _ rfl; simpa [Nat.add_assoc] using this, by have := hc 4 _ rfl; simpa [Nat.add_assoc] using this, by have := hc 5 _ rfl; simpa [Nat.add_assoc] using this, by have := hc 6 _ rfl; simpa [Nat.add_assoc] using this, by have := hc 7 _ rfl; simpa [Nat.add_assoc] using this⟩
set_option maxRecDepth 100000 in
set_option maxHeartbeats 8000000 in
theorem sameE_any (A A' : Option Addr) (n c c' : Nat) (l : List Ev) (w : World) (h : EvRd w A n l) (h' : EvRd w A' n l) (hn : n ≤ 10000) (hf : ∀ e ∈ l, Few e.nums) :
    Calls Try.prog 15 #[.slice A n c, .slice A' n c'] w fun e w' => e = .returned (.bool true) ∧ Below w.heap.size w w' := by
  have H1 := hide h
  have H2 := hide h'
  have HF := hide hf
  clear h h' hf
  go_enter Try.func15, Try.ntmps15
  go_wp2
  go_loopg [5] n (fun g s5 wr => ∃ k : Nat, k + g = n ∧ s5 = .int .i64 k ∧ Hid (Below w.heap.size w wr))
  case atStart => exact ⟨0, by omega, rfl, Below.refl _ _⟩
  case round =>
    obtain ⟨k, hk, rfl, HB⟩ := hrel
    by_cases hlt : k < n
    · obtain ⟨b, off, e, B, m, d, rfl, hb, he, hm, hN, a0, a1, a2, a3, a4, a5, a6, a7⟩ := (H1.out.call HB.out).at_ hlt
      obtain ⟨b', off', e', B', m', d', rfl, hb', he', hm', hN', b0, b1, b2, b3, b4, b5, b6, b7⟩ := (H2.out.call HB.out).at_ hlt
      obtain rfl : e = e' := by rw [he] at he'; injection he'
      have hfe := HF.out e (List.mem_of_getElem? he)
      have HN := hide hN
      have HN' := hide hN'
      obtain ⟨kd, r, by_, pr, nums, it, tx, ct⟩ := e
      dsimp only at hm hm' a0 a1 a2 a3 a4 a5 a6 a7 b0 b1 b2 b3 b4 b5 b6 b7 HN HN' hfe
      obtain rfl : m = m' := by omega
      have HFE := hide hfe
      obtain ⟨p, hp⟩ : ∃ p, off + k * 8 = p := ⟨_, rfl⟩
      obtain ⟨p', hp'⟩ : ∃ p', off' + k * 8 = p' := ⟨_, rfl⟩
      rw [hp] at a0 a1 a2 a3 a4 a5 a6 a7
      rw [hp'] at b0 b1 b2 b3 b4 b5 b6 b7
      have HP := hide hp
      clear he he' hN hN' hfe hm hm'
      go_upto_region 6 with (fail)
      have hsz := HB.out.size
      go_cut [6, 7] (fun s6 s7 wc => ∃ (g6 g7 : Nat), s6 = .pointer (some ⟨g6, 0, none⟩) ∧ s7 = .pointer (some ⟨g7, 0, none⟩) ∧ Hid (Blk wc g6 41 #[.int .i64 kd, .int .i32 r, .int .u8 by_, .int .u8 pr, .slice B m d, .string (strOfNums it), .string (strOfNums tx), .bool ct]) ∧ Hid (Blk wc g7 41 #[.int .i64 kd, .int .i32 r, .int .u8 by_, .int .u8 pr, .slice B' m d', .string (strOfNums it), .string (strOfNums tx), .bool ct]) ∧ Hid (Below wr.heap.size wr wc))
      case first =>
        clear HN HN' HFE H1 H2 HF HB HP
        go_region_with (fail)
        all_goals
          go_wp2_with fail
          go_meet
          first
            | exact ⟨wr.heap.size, wr.heap.size + 1, rfl, rfl, ((Blk.new wr 41 _).alloc _).drew, (Blk.new' (by simp) 41 _).drew, (((Below.refl _ wr).alloc (Nat.le_refl _) _).alloc (by simp) _).drew⟩
            | exact ⟨wr.heap.size + 1, wr.heap.size, rfl, rfl, (Blk.new' (by simp) 41 _).drew, ((Blk.new wr 41 _).alloc _).drew, (((Below.refl _ wr).alloc (Nat.le_refl _) _).alloc (by simp) _).drew⟩
      case rest =>
        obtain ⟨g6, g7, rfl, rfl, G6, G7, BW⟩ := hcut
        have x0 := G6.out.cell 0
        have x1 := G6.out.cell 1
        have x2 := G6.out.cell 2
        have x3 := G6.out.cell 3
        have x4 := G6.out.cell 4
        have x5 := G6.out.cell 5
        have x6 := G6.out.cell 6
        have x7 := G6.out.cell 7
        have y0 := G7.out.cell 0
        have y1 := G7.out.cell 1
        have y2 := G7.out.cell 2
        have y3 := G7.out.cell 3
        have y4 := G7.out.cell 4
        have y5 := G7.out.cell 5
        have y6 := G7.out.cell 6
        have y7 := G7.out.cell 7
        simp only [List.getElem?_toArray, List.getElem?_cons_succ, List.getElem?_cons_zero] at x0 x1 x2 x3 x4 x5 x6 x7 y0 y1 y2 y3 y4 y5 y6 y7
        have NU := rnums_any B B' m m d d' nums nums wc (HN.out.keep (KN.of_below BW.out)) (HN'.out.keep (KN.of_below BW.out)) HFE.out HFE.out
        rw [show (nums == nums) = true by simp] at NU
        have NU := hide NU
        have HB2 := hide (below_in HB.out BW.out (Nat.le_refl _))
        clear a0 a1 a2 a3 a4 a5 a6 a7 b0 b1 b2 b3 b4 b5 b6 b7
        go_wp2_with (go_at_call 30; go_must (refine NU.out.mono ?_; rintro e w2 ⟨rfl, q, rfl⟩))
        go_roundg (n - (k + 1))
        case measure => omega
        case rel => exact ⟨k + 1, by omega, by first | rfl | simp, below_drewN' HB2.out q⟩
    · go_wp2_with fail
      go_ret
      exact ⟨rfl, HB.out⟩
end Go.Proofs.Ythbjjhoajecpcaa
