/-
  The walk of Fill. No condition but bounds.
-/
import Derived.Test.YtailflbhcmgnpaaClear
namespace Go.Proofs.Ytailflbhcmgnpaa
open Go.RowKit Go.Proofs
set_option linter.unusedVariables false
/-- The last ones of the first k, in so much room. -/
def lastK (room k : Nat) (Rs : List Row) : List Row := (Rs.take k).drop (k - room)
theorem lastK_len {room k : Nat} {Rs : List Row} (h : k ≤ Rs.length) : (lastK room k Rs).length = k - (k - room) := by
  simp [lastK]; omega
theorem lastK_step {room k : Nat} {Rs : List Row} {R : Row} (h : Rs[k]? = some R) (gone : Nat) :
    pL room (lastK room k Rs) R = lastK room (k + 1) Rs ∧ pG room (lastK room k Rs) (gone + (k - room)) = gone + (k + 1 - room) := by
  have hk := (List.getElem?_eq_some_iff.1 h).1
  have hl := lastK_len (room := room) (Nat.le_of_lt hk)
  have ht : Rs.take (k + 1) = Rs.take k ++ [R] := by rw [List.take_add_one, h]; rfl
  have hs : lastK room k Rs ++ [R] = (Rs.take (k + 1)).drop (k - room) := by
    unfold lastK
    rw [ht, List.drop_append_of_le_length (by simp; omega)]
  unfold pL pG
  rw [hl]
  by_cases h1 : k < room
  · rw [if_pos (by omega), if_pos (by omega), hs]
    unfold lastK
    rw [show k - room = 0 by omega, show k + 1 - room = 0 by omega]
    exact ⟨rfl, rfl⟩
  · rw [if_neg (by omega), if_neg (by omega), hs]
    unfold lastK
    rw [← List.drop_one, List.drop_drop, show k + 1 - room = k - room + 1 by omega]
    exact ⟨rfl, by omega⟩
/-- Rows that a slice shows: its block is none of the ring's. -/
structure SlAt (w : World) (sl : Nat) (cur : Array Value) (m : Nat) (Rs : List Row) : Prop where
  blk : Blk w sl 30 cur
  rows : ∀ k R, Rs[k]? = some R → ∃ A n c b, cur[k * 2]? = some (.slice A n c) ∧ cur[k * 2 + 1]? = some (.bool b) ∧ RowV any w (.slice A n c, .bool b) R
theorem SlAt.turn {w w' : World} {sl m g : Nat} {cur : Array Value} {Rs : List Row} {S S' : Option Nat} (h : SlAt w sl cur m Rs) (t : Turn g S S' w w') (hg : sl ≠ g) (hS : S ≠ some sl) : SlAt w' sl cur m Rs :=
  ⟨t.blk h.blk hg hS, fun k R hR => by
    obtain ⟨A, n, c, b, h1, h2, h3⟩ := h.rows k R hR
    exact ⟨A, n, c, b, h1, h2, h3.keep t.keep⟩⟩
set_option maxHeartbeats 4000000 in
theorem fill_t (g : Nat) (S : Option Nat) (L : List Row) (room gone : Nat) (A : Option Addr) (m c : Nat) (Rs : List Row) (w : World) (h : RingAt any w g S L room gone) (hgn : gone ≤ 100000000) (hm : Rs.length = m) (hm2 : m ≤ 1000000)
    (hA : 0 < m → ∃ sl cur, A = some ⟨sl, 0, none⟩ ∧ SlAt w sl cur m Rs ∧ S ≠ some sl) :
    Calls Try.prog 22 #[.pointer (some ⟨g, 0, none⟩), .slice A m c] w fun e w' => ∃ S', e = .returned (.int .i64 (m - room : Nat)) ∧ RingAt any w' g S' (lastK room m Rs) room (gone + (m - room)) ∧ Turn g S S' w w' := by
  obtain ⟨len, first, rows, h1⟩ := h
  have hB := h1.blk
  have hle := h1.le
  have hlr := h1.ler
  have hrl := h1.roomle
  have hgl := h1.lt
  obtain ⟨c0, c1, c2, c3, c4, f0, f1, f2, f3, f4⟩ := blk5 hB
  have HB := hide hB
  have HA := hide hA
  have HM := hide hm
  clear h1 hB hA hm
  have PU := hide (fun (S1 : Option Nat) (L1 : List Row) (gone1 : Nat) (v1 v2 : Value) (R : Row) (W : World) (h : RingAt any W g S1 L1 room gone1) (hv : RowV any W (v1, v2) R) (hg : gone1 ≤ 1000000000) => push_t g S1 L1 room gone1 v1 v2 R W h hv hg)
  go_enter Try.func22, Try.ntmps22
  go_upto_region 5 with fail
  go_name_world W1 hW1
  have t0 : Turn g S none w w := ⟨Frm.refl _ _, (fun s e => by cases e), Keep45.refl _ _⟩
  have b0 : Blk (w.setCell ⟨g, 0, none⟩ (.slice none 0 0)) g 62 (ringC none 0 room first L.length gone) := ring_slots (S' := none) (len' := 0) HB.out
  have b1 := ring_first (m := 0) b0
  have b2 := ring_n (m := 0) b1
  have R1 := hide (show RingAt any W1 g none [] room gone by rw [← hW1]; exact ring_empty (first := 0) hrl b2)
  have T1 := hide (show Turn g S none w W1 by rw [← hW1]; exact turn_set (turn_set (turn_set t0 HB.out 0 _) b0 2 _) b1 3 _)
  clear hW1 t0 b0 b1 b2 c0 c1 c2 c3 c4 f0 f1 f2 f3 f4
  go_wp2_with fail
  go_loopg [25] m (fun gg s25 wr => ∃ (k : Nat) (S' : Option Nat), k + gg = m ∧ s25 = .int .i64 k ∧ Hid (RingAt any wr g S' (lastK room k Rs) room (gone + (k - room))) ∧ Hid (Turn g S S' w wr))
  case atStart => exact ⟨0, none, by omega, rfl, by simpa [lastK] using R1, T1⟩
  case round =>
    obtain ⟨k, S1, hkg, rfl, HR, HT⟩ := hrel
    by_cases hlt : k < m
    · obtain ⟨R, hR⟩ : ∃ R, Rs[k]? = some R := ⟨_, List.getElem?_eq_getElem (by rw [HM.out]; exact hlt)⟩
      obtain ⟨sl, cur, rfl, hs, hS⟩ := HA.out (by omega)
      have hg2 : sl ≠ g := hs.blk.ne_ HB.out (by decide)
      have hs1 := hs.turn HT.out hg2 hS
      obtain ⟨A1, n1, c1, b1, e1, e2, rv⟩ := hs1.rows k R hR
      have c1' : wr.cell? ⟨sl, k * 2, none⟩ = some (.slice A1 n1 c1) := by rw [hs1.blk.cell]; exact e1
      have c2' : wr.cell? ⟨sl, k * 2 + 1, none⟩ = some (.bool b1) := by rw [hs1.blk.cell]; exact e2
      have st := hide (lastK_step (room := room) hR gone)
      have hb : Below wr.heap.size wr (wr.alloc (.cells #[.slice A1 n1 c1, .bool b1] 30)) := (Below.refl _ _).alloc (Nat.le_refl _) _
      have RA : RingAt any (wr.alloc (.cells #[.slice A1 n1 c1, .bool b1] 30)) g S1 (lastK room k Rs) room (gone + (k - room)) := by
        obtain ⟨l, f, r, h⟩ := HR.out
        exact ⟨l, f, r, h.below hb⟩
      have PU1 := hide (PU.out S1 _ _ _ _ R _ RA (rv.keep (Keep45.below hb)) (by omega))
      have HB2 := hide hb
      clear hs hs1 hR e1 e2 rv hb RA
      go_wp2_with (go_at_call 10; go_must (refine PU1.out.mono ?_; rintro e w3 ⟨o1, o2, S3, rfl, ro3, K3, T3⟩))
      have T4 := (HT.out.trans (Turn.of_below HB2.out)).trans T3
      rw [st.out.1, st.out.2] at K3
      go_roundg (m - (k + 1))
      case measure => omega
      case rel => exact ⟨k + 1, S3, by omega, by go_num, hide K3, hide T4⟩
    · obtain rfl : k = m := by omega
      obtain ⟨l, f, r, h⟩ := HR.out
      obtain ⟨q, hq⟩ : ∃ q, gone + (k - room) = q := ⟨_, rfl⟩
      have h4 : wr.cell? ⟨g, 4, none⟩ = some (.int .u64 (gone + (k - room) : Nat)) := h.blk.cell 4
      rw [hq] at h4
      obtain ⟨d, hd⟩ : ∃ d, k - room = d := ⟨_, rfl⟩
      have hqd : (q : Int) - gone = d := by omega
      have hd2 : d ≤ 1000000 := by omega
      have HQ := hide (And.intro hq hd)
      clear h hq hd
      go_wp2_with fail
      go_ret
      rw [HQ.out.2]
      have := HR.out
      rw [HQ.out.2] at this
      exact ⟨S1, rfl, this, HT.out⟩
end Go.Proofs.Ytailflbhcmgnpaa
