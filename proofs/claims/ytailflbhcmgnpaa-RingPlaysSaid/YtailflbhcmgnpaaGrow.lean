/-
  The walk of grow. No condition but bounds.
-/
import Derived.Test.YtailflbhcmgnpaaDrop
namespace Go.Proofs.Ytailflbhcmgnpaa
open Go.RowKit Go.Proofs
set_option linter.unusedVariables false
theorem flatP_replicate (n : Nat) : (madeCells #[.slice none 0 0, .bool false] (n * 2)) = (flatP (List.replicate n (Value.slice none 0 0, Value.bool false))).toArray := by
  apply Array.ext'
  apply List.ext_getElem?
  intro i
  have hz : ∀ j, #[Value.slice none 0 0, .bool false][j % 2]! = if j % 2 = 0 then Value.slice none 0 0 else .bool false := by
    intro j
    have : j % 2 < 2 := Nat.mod_lt _ (by omega)
    match h : j % 2, this with
    | 0, _ => simp
    | 1, _ => simp
  rcases Nat.lt_or_ge i (n * 2) with h | h
  · have hl : i / 2 < n := by omega
    have hr : (List.replicate n (Value.slice none 0 0, Value.bool false))[i / 2]? = some (.slice none 0 0, .bool false) := by rw [List.getElem?_replicate, if_pos hl]
    obtain ⟨e1, e2⟩ := flatP_at hr
    have hi : i = i / 2 * 2 + i % 2 := by omega
    simp only [madeCells, Array.toList_map, List.getElem?_map]
    rw [show (Array.range (n * 2)).toList[i]? = some i by simp [h]]
    simp only [Option.map_some]
    have := hz i
    have hsz : (#[Value.slice none 0 0, Value.bool false] : Array Value).size = 2 := rfl
    rw [hsz, this]
    have h2 : i % 2 = 0 ∨ i % 2 = 1 := by omega
    rcases h2 with h2 | h2
    · rw [if_pos h2, hi, h2, Nat.add_zero, e1]
    · rw [if_neg (by omega), hi, h2, e2]
  · rw [List.getElem?_eq_none (by simp [size_madeCells]; omega), List.getElem?_eq_none (by rw [flatP_len, List.length_replicate]; omega)]
theorem make_rows (n : Nat) (hn : n ≤ 100000) (w : World) : (Instr.makeSlice 46 (.int .i64 (n : Int)) (.int .i64 (n : Int))).run Try.prog w = .ok (.slice (some ⟨w.heap.size, 0, none⟩) n n) (w.alloc (.cells (flatP (List.replicate n (Value.slice none 0 0, Value.bool false))).toArray 30)) := by
  have h : (Try.prog.info? 30).map (fun i => (i.zero, i.size, i.bytes)) = some (some (.agg #[.slice none 0 0, .bool false]), 2, 32) := by kernel_rfl
  obtain ⟨i, hi, h1, h2, h3⟩ := info_parts h
  have := run_make (P := Try.prog) (w := w) 46 30 i _ Try.underlying46 hi h1 .i64 .i64 n n (by omega) (by omega) (by rw [h3]; omega) (by omega)
  rw [this, h2, Int.toNat_natCast, ← flatP_replicate]
  rfl
def GrowPost (ok : Nat → Prop) (g : Nat) (L : List Row) (room gone : Nat) (w : World) (e : Ending) (w' : World) : Prop :=
  e = .returned (.tuple #[]) ∧ ∃ sz rs, RingOf ok w' g (some w.heap.size) L room gone sz 0 rs ∧ L.length < sz ∧ Frm (fun k => k = g) w w' ∧ Keep45 ok w w'
set_option maxHeartbeats 4000000 in
theorem grow_in (ok : Nat → Prop) (g : Nat) (S : Option Nat) (L : List Row) (room gone len first : Nat) (rows : List (Value × Value)) (w : World) (h : RingOf ok w g S L room gone len first rows) (hfull : L.length = len) (hroom : len < room) :
    Calls Try.prog 27 #[.pointer (some ⟨g, 0, none⟩)] w (GrowPost ok g L room gone w) := by
  have hrl := h.roomle
  have hgl := h.lt
  have hB := h.blk
  rw [hfull] at hB
  have H := hide h
  have HF := hide hfull
  have BW := hide hB
  obtain ⟨t, ht⟩ : ∃ t : Int, t = max 4 (2 * (len : Int)) := ⟨_, rfl⟩
  obtain ⟨sz, hsz⟩ : ∃ sz : Nat, (sz : Int) = min (room : Int) t := ⟨(min (room : Int) t).toNat, by omega⟩
  have e1 := fun W => max2_ Try.prog #[3, 3] 3 (k := .i64) ht W
  have e2 := fun W => min2_ Try.prog #[3, 3] 3 (k := .i64) hsz W
  have w1 : IntKind.i64.wrap (2 * (len : Int)) = 2 * len := IntWalk.i64_in _ (by omega)
  have hsl : len < sz := by omega
  have hsr : sz ≤ room := by omega
  have mk := make_rows sz (by omega)
  obtain ⟨d0, d1, d2, d3, d4, f0, f1, f2, f3, f4⟩ := blk5 hB
  have SL := hide (fun (i : Nat) (W : World) (hi : i < len) (hW : Blk W g 62 (ringC (slotsA S) len room first len gone)) => slot_any (slotsA S) len room first len gone i g W hW (by have := h.slots; cases S with
    | none => have := h.nil rfl; omega
    | some s => have := (h.slots s rfl).2; omega) (by omega) (by omega))
  clear h hfull hB ht hsz
  go_enter Try.func27, Try.ntmps27
  go_wp2
  go_quiet (fail)
  clear e1 e2 w1
  go_upto_region 2 with (fail)
  go_name_world W1 hW1
  have b1 : Blk W1 g 62 (ringC (slotsA S) len room first len gone) := by rw [← hW1]; exact (BW.out.drewN nq).alloc _
  have s1 : ∀ s, S = some s → Blk W1 s 30 (flatP rows).toArray := fun s e => by rw [← hW1]; exact ((H.out.slots s e).1.drewN nq).alloc _
  have l1 : Blk W1 w.heap.size 30 (flatP (List.replicate sz (Value.slice none 0 0, Value.bool false))).toArray := by rw [← hW1]; exact Blk.new' rfl 30 _
  have F1 : Frm (fun k => k = g) w W1 := by rw [← hW1]; exact ((Frm.refl _ _).drewN nq).alloc _
  have K1 : Keep45 ok w W1 := by rw [← hW1]; exact (keep45_drewN nq).trans (keep45_alloc _)
  clear hW1 d0 d1 d2 d3 d4 f0 f1 f2 f3 f4 mk
  obtain ⟨d0, d1, d2, d3, d4, f0, f1, f2, f3, f4⟩ := blk5 b1
  have B1 := hide b1
  have S1 := hide s1
  have L1 := hide l1
  have F1 := hide F1
  have K1 := hide K1
  clear b1 s1 l1
  have hql : w.heap.size ≠ g := by omega
  go_wp2
  go_loopg [23] len (fun gg s23 wr => ∃ (k : Nat) (rs : List (Value × Value)), k + gg = len ∧ s23 = .int .i64 k ∧ Hid (rs.length = sz ∧ ∀ i, i < k → rs[i]? = rows[ix len first i]?) ∧ Blk wr w.heap.size 30 (flatP rs).toArray ∧ Blk wr g 62 (ringC (slotsA S) len room first len gone) ∧ Hid (∀ s, S = some s → Blk wr s 30 (flatP rows).toArray) ∧ Frm (fun k => k = g) w wr ∧ Hid (Keep45 ok w wr))
  case atStart => exact ⟨0, _, by omega, rfl, ⟨List.length_replicate, fun i h => by omega⟩, L1.out, B1.out, S1.out, F1.out, K1.out⟩
  case round =>
    clear d0 d1 d2 d3 d4 f0 f1 f2 f3 f4
    obtain ⟨k, rs, hkg, rfl, HR, hl, hb, HS, hF, HK⟩ := hrel
    obtain ⟨d0, d1, d2, d3, d4, f0, f1, f2, f3, f4⟩ := blk5 hb
    by_cases hlt : k < len
    · obtain ⟨R, hR⟩ : ∃ R, L[k]? = some R := ⟨_, List.getElem?_eq_getElem (by rw [HF.out]; exact hlt)⟩
      obtain ⟨s, p, rfl, hsg, hfl, hix, hp, hv, hs, _, _, _, _⟩ := H.out.cells hR
      have hs1 := HS.out s rfl
      have hsq : s ≠ w.heap.size := by have := hs.lt; omega
      obtain ⟨q, hq⟩ : ∃ q, ix len first k = q := ⟨_, rfl⟩
      have SL1 := fun W hW => SL.out k W hlt hW
      rw [hq] at hix hp SL1
      have SL1 := hide SL1
      have HQ := hide hq
      obtain ⟨v1, v2⟩ := p
      obtain ⟨A, m, c, b, rfl, rfl⟩ := row_form hv
      have HP := hide hp
      obtain ⟨c1, c2⟩ := flatP_at hp
      have c1 : wr.cell? ⟨s, q * 2, none⟩ = some (.slice A m c) := by rw [hs1.cell]; simpa using c1
      have c2 : wr.cell? ⟨s, q * 2 + 1, none⟩ = some (.bool b) := by rw [hs1.cell]; simpa using c2
      have hks : k < sz := by omega
      obtain ⟨p0, hp0⟩ : ∃ p0, rs[k]? = some p0 := ⟨_, List.getElem?_eq_getElem (by rw [HR.out.1]; exact hks)⟩
      obtain ⟨c3, c4⟩ := flatP_at hp0
      have c3 : wr.cell? ⟨w.heap.size, k * 2, none⟩ = some p0.1 := by rw [hl.cell]; simpa using c3
      have c4 : wr.cell? ⟨w.heap.size, k * 2 + 1, none⟩ = some p0.2 := by rw [hl.cell]; simpa using c4
      have f5 := hl.frozen (k * 2)
      have f6 := hl.frozen (k * 2 + 1)
      replace d0 : wr.cell? ⟨g, 0, none⟩ = some (.slice (some ⟨s, 0, none⟩) len len) := d0
      have hl := hide hl
      have hs1 := hide hs1
      have hqg : g ≠ w.heap.size := Ne.symm hql
      have hqs : w.heap.size ≠ s := Ne.symm hsq
      have hB := hide hb
      clear hp hp0 hq hR hv hs hb
      go_wp2_with fail
      go_region_held3 (fun W => W.cell? ⟨g, 0, none⟩ = some (.slice (some ⟨s, 0, none⟩) len len) ∧ W.cell? ⟨s, q * 2, none⟩ = some (.slice A m c) ∧ W.cell? ⟨s, q * 2 + 1, none⟩ = some (.bool b))
        (first | (exact ⟨d0, c1, c2⟩) | go_keep) ((go_at_call 28; (refine (SL1.out _ hB.out.drew).mono ?_; rintro e w' ⟨rfl, rfl⟩)))
      go_wp2_with fail
      go_roundg (len - (k + 1))
      case measure => omega
      case rel =>
        refine ⟨k + 1, rs.set k (.slice A m c, .bool b), by omega, by go_num, ⟨by rw [List.length_set]; exact HR.out.1, fun i hi => ?_⟩, slots_set hl.out.drew (by rw [HR.out.1]; exact hks) _ _, (hB.out.drew.far (p := ⟨w.heap.size, _, none⟩) hqg _).far (p := ⟨w.heap.size, _, none⟩) hqg _, fun s' e => ?_, (hF.drew.setCell (p := ⟨w.heap.size, _, none⟩) (fun h => absurd h (Nat.lt_irrefl _)) _).setCell (p := ⟨w.heap.size, _, none⟩) (fun h => absurd h (Nat.lt_irrefl _)) _, ?_⟩
        · by_cases e : i = k
          · subst e
            rw [List.getElem?_set_self (by rw [HR.out.1]; exact hks), HQ.out, HP.out]
          · rw [List.getElem?_set_ne (by omega)]
            exact HR.out.2 i (by omega)
        · injection e with e
          subst e
          exact (hs1.out.drew.far (p := ⟨w.heap.size, _, none⟩) hsq _).far (p := ⟨w.heap.size, _, none⟩) hsq _
        · exact ((HK.out.trans fun b cs _ h => h.drew).trans (keep45_set hl.out.drew (by decide) _ _)).trans (keep45_set (hl.out.drew.set_ _ _) (by decide) _ _)
    · obtain rfl : len = k := by omega
      have hB := hide hb
      clear hb
      go_wp2_with fail
      go_end0
      have kk := ring_first (m := 0) (Blk.set_ hB.out 0 (.slice (some ⟨w.heap.size, 0, none⟩) sz sz))
      refine ⟨rfl, sz, rs, ⟨?_, HR.out.1, by rw [HF.out]; omega, hsr, hrl, (fun e => by cases e), fun s e => ?_, fun i R hR => ?_⟩, by rw [HF.out]; omega, (hF.setCell (p := ⟨g, _, none⟩) (fun _ => rfl) _).setCell (p := ⟨g, _, none⟩) (fun _ => rfl) _, ?_⟩
      · rw [HF.out]; exact kk
      · injection e with e
        subst e
        exact ⟨(hl.far (p := ⟨g, _, none⟩) hql _).far (p := ⟨g, _, none⟩) hql _, by omega⟩
      · have hi := (List.getElem?_eq_some_iff.1 hR).1
        rw [HF.out] at hi
        obtain ⟨p, h1, h2⟩ := H.out.rows i R hR
        refine ⟨p, ?_, h2.keep ((HK.out.trans (keep45_set hB.out (by decide) _ _)).trans (keep45_set (hB.out.set_ _ _) (by decide) _ _))⟩
        rw [show ix sz 0 i = i by unfold ix; rw [if_neg (by omega)]; omega, HR.out.2 i hi]
        exact h1
      · exact (HK.out.trans (keep45_set hB.out (by decide) _ _)).trans (keep45_set (hB.out.set_ _ _) (by decide) _ _)
end Go.Proofs.Ytailflbhcmgnpaa
