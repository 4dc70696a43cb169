/-
  HuntParts, walked. No condition but the arguments' kinds.
-/
import Derived.Test.YtkcmpddefohkeaaLawsD
namespace Go.Proofs.Ytkcmpddefohkeaa
open Go.RowKit Go.Proofs
set_option linter.unusedVariables false
theorem Try.sl39' : SliceOf Try.prog 39 3 1 8 := SliceOf.mk (z := .int .i64 0) (by kernel_rfl) (by kernel_rfl) (by kernel_rfl) (by omega)
theorem ownOf_snoc {hits : List (Nat × Nat)} {k i x y : Nat} (h : hits[k]? = some (x, y)) : ownOf (hits.take (k + 1)) i = ownOf (hits.take k) i ++ (if y = i then [x] else []) := by
  unfold ownOf
  rw [List.take_add_one, h, List.filter_append, List.map_append]
  congr 1
  by_cases e : y = i <;> simp [e]
set_option maxRecDepth 100000 in
set_option maxHeartbeats 4000000 in
theorem huntParts_walk (w : World) (t : ByteArray) (wt : t.size ≤ maxLen) (A : Option Addr) (n c : Nat) (ns : List ByteArray) (hl : ns.length = n) (hnc : n ≤ c) (hcm : c ≤ maxLen) (ha : Rd w w.heap.size 1 A n (ns.map Value.string)) (hq : ∀ x ∈ ns, x.size ≤ maxLen) :
    Calls Try.prog 7 #[.string t, .slice A n c] w fun e w' => e = .returned (.bool true) ∧ Below w.heap.size w w' := by
  have GR := hide (great_any t ns A n c w ha wt hq (Nat.le_trans hnc hcm))
  obtain ⟨G, hG⟩ : ∃ G, greatB t ns = G := ⟨_, rfl⟩
  rw [hG] at GR
  cases G with
  | true =>
    clear ha hq hl hG
    go_enter Try.func7, Try.ntmps7
    go_wp2_with (first
      | (go_at_call 9; go_must (refine (GR.out).mono ?_; rintro e w1 ⟨rfl, b1⟩))
      | (go_at_call 10; go_must (refine (awake_any _).mono ?_; rintro e w2 ⟨rfl, b2⟩)))
    go_ret
    exact ⟨rfl, below_in b1 b2 (Nat.le_refl _)⟩
  | false =>
    obtain ⟨g1, g2, g3⟩ := greatB_false hG
    rw [hl] at g2
    have gs : ∀ x ∈ ns, x.size ≤ 400 := fun x hx => by have := g3 x hx; omega
    have hT4 : (bytesOf plainF t).length ≤ 400 := by rw [bytesOf_len]; omega
    have hLn : (needs ns).length = n := by simp [needs, hl]
    have hlen : (hitsF (bytesOf plainF t) (needs ns)).length ≤ 40000 := by
      have := hitsF_len hT4 (needs ns)
      rw [hLn] at this
      omega
    have AL := hide (fun (W : World) (hb : Below w.heap.size w W) => all_any t ns A n c W ((ha.below hb).more hb.size) (by omega) gs (by omega) hnc)
    have OWN := hide (fun (i : Nat) (hi : i < n) => ownOf_places (bytesOf plainF t) (needs ns) (i := i) (by rw [hLn]; exact hi))
    have SUM := hide (fun (i : Nat) => ownOf_sum (bytesOf plainF t) (needs ns) i)
    have FEW := hide (fun (i : Nat) => byNeedle_len hT4 (needs ns) i)
    have ALL := hide (ownOf_all (bytesOf plainF t) (needs ns))
    rw [hLn] at ALL
    have PL := hide (fun (x : ByteArray) (W : World) (hx : x ∈ ns) (M : Nat) (hM : (placesF (bytesOf plainF t) (bytesOf plainF x)).length = M) => places_any t x W (by omega) (gs x hx) hM)
    have PLE := hide (fun (x : ByteArray) => placesF_le (bytesOf plainF t) (bytesOf plainF x))
    have HT4 := hide hT4
    obtain ⟨hits, hh⟩ : ∃ hits, hitsF (bytesOf plainF t) (needs ns) = hits := ⟨_, rfl⟩
    rw [hh] at AL hlen OWN ALL
    have HA := hide ha
    clear ha hq hl hG hh gs g3 hT4 hLn
    go_enter Try.func7, Try.ntmps7
    go_upto_region 4 with (first
      | (go_at_call 9; go_must (refine (GR.out).mono ?_; rintro e w1 ⟨rfl, b1⟩))
      | (go_at_call 10; go_must (refine (awake_any _).mono ?_; rintro e w2 ⟨rfl, b2⟩; have B2 := hide (below_in b1 b2 (Nat.le_refl _))))
      | (go_at_call 12; go_must (refine (AL.out _ B2.out).mono ?_; rintro e w3 ⟨A0, N, c0, rfl, o3, b3⟩; have R3 := hide (Rd.of_own o3); have HN := hide (own_len hitE_len (by omega) o3); have B3 := hide (below_in B2.out b3 (Nat.le_refl _)); clear o3 b3)))
    have S3 := hide ((HA.out.below B3.out).more B3.out.size)
    have hN4 : N ≤ 40000 := by rw [HN.out]; exact hlen
    clear hlen
    go_wp2
    go_loopg [6, 7] n (fun g s6 s7 wr => ∃ (i m : Nat), i + g = n ∧ s7 = .int .i64 i ∧ s6 = .int .i64 m ∧ Hid ((byNeedle (bytesOf plainF t) (needs ns) i).length = m) ∧ Hid (Below w3.heap.size w3 wr))
    case atStart => exact ⟨0, 0, by omega, rfl, rfl, rfl, Below.refl _ _⟩
    case round =>
      obtain ⟨i, m, hig, rfl, rfl, HM, HB⟩ := hrel
      by_cases hi : i < n
      · go_wp2
        go_loopg [8, 9] N (fun g s8 s9 wx => ∃ (k m2 : Nat) (A2 : Option Addr) (c2 : Nat), k + g = N ∧ m2 ≤ k ∧ s9 = .int .i64 k ∧ s8 = .slice A2 m2 c2 ∧ Hid (wx.ownsRow w3.heap.size 3 1 (.slice A2 m2 c2) m2 ((ownOf (hits.take k) i).map nI)) ∧ Hid (Below w3.heap.size w3 wx))
        case atStart => exact ⟨0, 0, none, 0, by omega, by omega, rfl, rfl, ⟨rfl, .inl ⟨rfl, rfl⟩⟩, HB.out⟩
        case round =>
          clear HB
          obtain ⟨k, m2, A2, c2, hkg, hmk, rfl, rfl, HO, HB⟩ := hrel
          have hz := HB.out.size
          by_cases hk : k < N
          · obtain ⟨b, off, x, y, rfl, hbl, hx, cx, cy⟩ := hits_at (R3.out.below HB.out) hk
            have hsn := ownOf_snoc (i := i) hx
            clear hx
            by_cases hyi : y = i
            · subst hyi
              rw [if_pos rfl] at hsn
              have HS := hide hsn
              clear hsn
              go_wp2_with (at_builtin; go_must (refine wpList_append1 Try.sl39' rfl _ _ rfl w3.heap.size (.slice A2 m2 c2) m2 _ #[.int .i64 x] _ 1 rfl rfl rfl HO.out rfl (by intro u hu; simp at hu; subst hu; rfl) (by simp only [maxLen]; omega) (by omega) hz ?_; intro A3 c3 w4 app))
              go_roundg (N - (k + 1))
              case measure => omega
              case rel => exact ⟨k + 1, m2 + 1, A3, c3, by omega, by omega, by go_num, rfl, by rw [HS.out, List.map_append]; exact app.own, app.below (HO.out.alloc _) (HB.out.alloc hz _) (Nat.le_refl _) (by simp; omega)⟩
            · rw [if_neg hyi, List.append_nil] at hsn
              have HS := hide hsn
              have d1 : ((y : Int) == (i : Int)) = false := by rw [beq_eq_false_iff_ne]; omega
              have d2 : (y == i) = false := by rw [beq_eq_false_iff_ne]; omega
              have HY := hide hyi
              clear hsn hyi
              go_wp2
              go_roundg (N - (k + 1))
              case measure => omega
              case rel => exact ⟨k + 1, m2, A2, c2, by omega, by omega, by go_num, rfl, by rw [HS.out]; exact HO.out, HB.out⟩
          · obtain rfl : k = N := by omega
            obtain ⟨b, off, x, rfl, hbl, hx, cx⟩ := (S3.out.below HB.out).at1 hi
            have ho := HO.out
            rw [List.take_of_length_le (by rw [← HN.out]; exact Nat.le_refl _), OWN.out i hi, nth_needs hx] at ho
            have hM : (placesF (bytesOf plainF t) (bytesOf plainF x)).length = m2 := by have := ho.1; rw [List.length_map] at this; omega
            have PX := hide (PL.out x wr (List.mem_of_getElem? hx) m2 hM)
            have hM4 : m2 ≤ 400 := by rw [← hM]; exact Nat.le_trans (PLE.out x) HT4.out
            have hsum := SUM.out i
            rw [HM.out, nth_needs hx, hM] at hsum
            have hfew := FEW.out i
            rw [HM.out] at hfew
            obtain ⟨m3, hm3⟩ : ∃ m3, m + m2 = m3 := ⟨_, rfl⟩
            have s3 : (m : Int) + m2 = m3 := by omega
            rw [hm3] at hsum
            have HS := hide hsum
            have HO2 := hide ho
            have hm5 : m ≤ 40000 := by omega
            have hm6 : m3 ≤ 50000 := by omega
            clear hx ho hM hsum hfew hm3
            go_wp2_with (first
              | (go_at_call 21; go_must (refine (PX.out).mono ?_; rintro e w5 ⟨A5, c5, rfl, o5, b5⟩; have O5 := hide o5; have Q5 := hide ((Rd.of_own HO2.out).below b5); have B5 := hide (below_in HB.out b5 (Nat.le_refl _)); clear o5 b5))
              | (go_at_call 20; go_must (refine (ints_same _ _ _ _ _ _ _ Q5.out (Rd.of_own O5.out) (by omega)).mono ?_; rintro e w6 ⟨rfl, b6⟩; have B6 := hide (below_in B5.out b6 (Nat.le_refl _)); clear b6)))
            go_roundg (n - (i + 1))
            case measure => omega
            case rel => exact ⟨i + 1, m3, by omega, by go_num, rfl, HS.out, B6.out⟩
      · obtain rfl : i = n := by omega
        have e9 : m = N := by rw [HN.out, ← ALL.out]; exact HM.out.symm
        subst e9
        go_wp2
        go_ret
        exact ⟨rfl, B3.out.trans (HB.out.mono B3.out.size)⟩
end Go.Proofs.Ytkcmpddefohkeaa
