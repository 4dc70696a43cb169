/-
  The document's Top, walked. No condition but bounds.
-/
import Derived.Test.YtndnjdocdfjmcaaRefU2
namespace Go.Proofs.Ytndnjdocdfjmcaa
open Go.RowKit Go.Proofs
set_option linter.unusedVariables false
theorem filter_snoc {L : List Ent} {p : Ent → Bool} {i : Nat} {x : Ent} (h : L[i]? = some x) : (L.take (i + 1)).filter p = (L.take i).filter p ++ (if p x = true then [x] else []) := by
  rw [take_snoc h, List.filter_append]
  congr 1
  by_cases hx : p x = true
  · rw [if_pos hx, List.filter_cons_of_pos hx]; rfl
  · rw [if_neg hx, List.filter_cons_of_neg hx]; rfl
theorem filter_full {L : List Ent} {p : Ent → Bool} {i n : Nat} (h : ((L.take i).filter p).length = n) : (L.filter p).take n = (L.take i).filter p := by
  have e : L.filter p = (L.take i).filter p ++ (L.drop i).filter p := by rw [← List.filter_append, List.take_append_drop]
  rw [e, List.take_left' h]
set_option maxRecDepth 100000 in
set_option maxHeartbeats 4000000 in
theorem top_ref {Y base most uses : Nat} {L : List Ent} (w : World) (head : ByteArray) (n : Int) (h : RefL w Y base most uses L) (hl : L.length ≤ 10000) :
    Calls Try.prog 19 #[.pointer (some ⟨Y, 0, none⟩), .string head, .int .i64 n] w (RetSlice 55 3 ((topF (pfxB head) n L).flatMap entE) w) := by
  obtain ⟨A, N, c, h1, h2⟩ := h
  have hln := own_len entE_len (by omega) h2
  have H1 := hide h1
  have H2 := hide h2
  have HL := hide hln
  have hN : N ≤ 10000 := by omega
  obtain ⟨m, hm⟩ : ∃ m : Nat, n.toNat = m := ⟨_, rfl⟩
  have HM := hide hm
  obtain ⟨hs, hhs⟩ : ∃ hs, head.size = hs := ⟨_, rfl⟩
  clear h1 h2 hln hl
  go_enter Try.func19, Try.ntmps19
  go_wp2_with fail
  go_loopg [7, 8, 9] N (fun g s7 s8 s9 wr => ∃ (i k : Nat) (A2 : Option Addr) (c2 : Nat), i + g = N ∧ s8 = .int .i64 i ∧ s7 = .slice A2 k c2 ∧ k ≤ i ∧ k ≤ m ∧ Hid (wr.ownsRow w.heap.size 55 3 (.slice A2 k c2) k (((L.take i).filter (fun e => pfxB head e.text)).flatMap entE)) ∧ Hid (Below w.heap.size w wr))
  case atStart => exact ⟨0, 0, none, 0, by omega, rfl, rfl, Nat.le_refl _, Nat.zero_le _, ⟨rfl, .inl ⟨rfl, rfl⟩⟩, Below.refl _ _⟩
  case round =>
    obtain ⟨i, k, A2, c2, hig, rfl, rfl, hk, hkm, HO, HB⟩ := hrel
    have x2 := (H1.out.below HB.out H1.out.lt).cell 2
    simp at x2
    by_cases hlt : i < N
    · by_cases hkn : (k : Int) < n
      · have d1 : decide ((k : Int) < n) = true := by simpa using hkn
        obtain ⟨b, off, x, rfl, hbB, hx, q0, q1, q2⟩ := ent_at (Rd.of_own (own_call H2.out HB.out)) hlt
        have HD := filter_snoc (p := fun e => pfxB head e.text) hx
        have hzr := HB.out.size
        have hk1 := hide (show k + 1 ≤ m by omega)
        obtain ⟨ts, hts⟩ : ∃ ts, x.text.size = ts := ⟨_, rfl⟩
        have HBP := hide (show pfxB head x.text = (decide (hs ≤ ts) && ((x.text.extract 0 hs).toList == head.toList)) by unfold pfxB; rw [hts, hhs])
        clear hx hkn
        by_cases hle : hs ≤ ts
        · have d3 : decide (hs ≤ ts) = true := by simpa using hle
          have d4 : decide ((hs : Int) ≤ ts) = true := by simp; omega
          cases hB : ((x.text.extract 0 hs).toList == head.toList) with
          | true =>
            rw [if_pos (by rw [HBP.out, d3, hB]; rfl)] at HD
            have HD := hide HD
            go_wp2_with (at_builtin; go_must (refine wpList_append1 Try.sl50 rfl _ _ rfl w.heap.size (.slice A2 k c2) k _ #[.string x.text, .int .i64 x.cnt, .int .i64 x.last] wr 1 rfl rfl rfl HO.out rfl (three_cell rfl rfl rfl) (by simp only [maxLen]; omega) (by omega) hzr ?_; intro A3 c3 w3 app; have O3 := hide (own_snocE x app.own rfl); have B3 := hide (app.below (HO.out.alloc _) (HB.out.alloc hzr _) (Nat.le_refl _) (by simp; omega)); clear app))
            go_roundg (N - (i + 1))
            case measure => omega
            case rel => exact ⟨i + 1, k + 1, A3, c3, by omega, by go_num, rfl, by omega, hk1.out, by rw [HD.out]; exact O3.out, B3.out⟩
          | false =>
            rw [if_neg (by rw [HBP.out, d3, hB]; simp), List.append_nil] at HD
            have HD := hide HD
            go_wp2_with fail
            go_roundg (N - (i + 1))
            case measure => omega
            case rel => exact ⟨i + 1, k, A2, c2, by omega, by go_num, rfl, by omega, hkm, by rw [HD.out]; exact HO.out, HB.out⟩
        · have d3 : decide (hs ≤ ts) = false := by simpa using hle
          have d4 : decide ((hs : Int) ≤ ts) = false := by simp; omega
          rw [if_neg (by rw [HBP.out, d3]; simp), List.append_nil] at HD
          have HD := hide HD
          go_wp2_with fail
          go_roundg (N - (i + 1))
          case measure => omega
          case rel => exact ⟨i + 1, k, A2, c2, by omega, by go_num, rfl, by omega, hkm, by rw [HD.out]; exact HO.out, HB.out⟩
      · have d1 : decide ((k : Int) < n) = false := by simpa using hkn
        have hkm2 : k = m := by omega
        have HF := hide (show topF (pfxB head) n L = (L.take i).filter (fun e => pfxB head e.text) by
          unfold topF
          rw [HM.out]
          exact filter_full (by rw [← hkm2]; exact (own_len entE_len (by omega) HO.out).symm))
        clear hkm2 hkn
        go_wp2_with fail
        go_ret
        rw [HF.out]
        exact ⟨A2, k, c2, rfl, HO.out, HB.out⟩
    · obtain rfl : i = N := by omega
      have HT : L.take i = L := List.take_of_length_le (by rw [HL.out]; exact Nat.le_refl _)
      have HF := hide (show topF (pfxB head) n L = (L.take i).filter (fun e => pfxB head e.text) by
        unfold topF
        rw [HM.out, HT]
        have h9 := own_len entE_len (by omega) HO.out
        rw [HT] at h9
        exact List.take_of_length_le (by rw [← h9]; exact hkm))
      clear HT
      go_wp2_with fail
      go_ret
      rw [HF.out]
      exact ⟨A2, k, c2, rfl, HO.out, HB.out⟩
theorem pfx_empty (t : ByteArray) : pfxB ⟨#[]⟩ t = true := by
  unfold pfxB
  have e : t.extract 0 (⟨#[]⟩ : ByteArray).size = ⟨#[]⟩ := by
    apply data_inj
    show (t.extract 0 0).data.toList = []
    simp
  rw [e]
  have : (⟨#[]⟩ : ByteArray).size = 0 := rfl
  simp [this]
end Go.Proofs.Ytndnjdocdfjmcaa
