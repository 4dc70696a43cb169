/-
  The walk of each: the places handed to a function. No condition but the strings' lengths.
-/
import Derived.Test.YtkcmpddefohkeaaBorders
import Derived.Test.YtkcmpddefohkeaaPlain
import Derived.Deep.CutBlock
namespace Go.Proofs.Ytkcmpddefohkeaa
open Go.RowKit Go.Proofs
set_option linter.unusedVariables false
theorem placesTo_prefix {T N : List Int} {b : Nat} (h : N.length ≠ 0) (hb : b ≤ T.length + 1 - N.length) : ∃ r, placesF T N = placesTo T N b ++ r := by
  unfold placesF
  rw [if_neg h]
  obtain ⟨d, hd⟩ : ∃ d, T.length + 1 - N.length = b + d := ⟨_, (Nat.add_sub_cancel' hb).symm⟩
  rw [hd]
  unfold placesTo
  rw [List.range_add, List.filter_append]
  exact ⟨_, rfl⟩
theorem placesTo_len {T N : List Int} (b : Nat) : (placesTo T N b).length ≤ b := by
  unfold placesTo
  have := List.length_filter_le (standsB T N) (List.range b)
  simpa using this

set_option maxHeartbeats 2000000 in
theorem each20 (t s : ByteArray) (m n : Nat) (KT : FuncId) (caps : Array Value) (go : Nat → Bool) (Inv : List Nat → World → Prop) (w : World) (ht : t.size = m) (hs : s.size = n) (h1 : m ≤ 400) (h2 : n ≤ 400)
    (hcf : ∀ args w, (callFunc KT args).run Try.prog w = .ok (.enter KT args) w)
    (hI0 : ∀ w1, Below w.heap.size w w1 → Inv [] w1) (hId : ∀ l w1 q, Inv l w1 → Inv l (w1.drewN q))
    (hstep : ∀ bs l (p : Nat) w1, (∀ x ∈ l, go x = true) → Inv l w1 → Tab w1 w.heap.size bs → l.length ≤ 400 → p ≤ 400 →
      Calls Try.prog KT (#[.int .i64 (p : Int)] ++ caps) w1 fun e w2 => e = .returned (.bool (go p)) ∧ Inv (l ++ [p]) w2 ∧ Tab w2 w.heap.size bs) :
    Calls Try.prog 34 #[.string t, .string s, .func (.func 28) #[] #[], .func (.func KT) #[] caps] w fun e w' => e = .returned (.tuple #[]) ∧ Inv (firsts go (placesF (bytesOf plainF t) (bytesOf plainF s))) w' := by
  by_cases h0 : n = 0
  · subst h0
    have hse : s.toList.isEmpty = true := by
      have := bytesOf_len plainF s; rw [bytesOf, List.length_map, hs] at this
      rw [List.eq_nil_of_length_eq_zero this]; rfl
    have hP : placesF (bytesOf plainF t) (bytesOf plainF s) = [] := by unfold placesF; rw [if_pos (by rw [bytesOf_len, hs])]
    have HI := hide (hI0 w (Below.refl _ _))
    have HP := hide hP
    clear hI0 hId hstep hP
    go_enter Try.func34, Try.ntmps34
    go_wp2
    go_step3
    go_wp2
    try rw [Exit.noGoto_ret]
    refine bodyPost_ret (results_none rfl _ _ _) rfl ?_
    refine ⟨rfl, ?_⟩
    rw [HP.out]
    exact HI.out
  · have hse : s.toList.isEmpty = false := by
      cases h : s.toList with
      | nil => have := bytesOf_len plainF s; rw [bytesOf, h] at this; simp at this; omega
      | cons _ _ => rfl
    have HB := hide (borders20 s n w hs (by omega) h2)
    have HI0 := hide hI0
    have HId := hide hId
    have HS := hide hstep
    have HN := hide (show (bytesOf plainF s).length = n by rw [bytesOf_len, hs])
    have HT := hide (show (bytesOf plainF t).length = m by rw [bytesOf_len, ht])
    clear hI0 hId hstep
    go_enter Try.func34, Try.ntmps34
    go_wp2
    go_step3
    go_wp2_with (go_at_call 37; refine HB.out.mono ?_; rintro e w1 ⟨bs, rfl, hT, hIB, hb⟩)
    have HIB := hide hIB
    have HI1 := hide (HI0.out _ hb)
    clear hIB hb HB
    go_step3
    go_wp2
    go_loopg [9, 10] m (fun g s9 s10 wr => ∃ (i k : Nat), i + g = m ∧ s10 = .int .i64 i ∧ s9 = .int .i64 k ∧ Tab wr w.heap.size bs ∧ Hid (Best (bytesOf plainF t) (bytesOf plainF s) i n k) ∧ Hid (Inv (placesTo (bytesOf plainF t) (bytesOf plainF s) (i + 1 - n)) wr) ∧ Hid (∀ x ∈ placesTo (bytesOf plainF t) (bytesOf plainF s) (i + 1 - n), go x = true))
    case atStart =>
      refine ⟨0, 0, by omega, rfl, rfl, hT, best_zero (by omega), ?_, ?_⟩
      · rw [show 0 + 1 - n = 0 by omega]; exact HI1.out
      · rw [show 0 + 1 - n = 0 by omega]; show ∀ x ∈ placesTo _ _ 0, _; simp [placesTo_zero]
    case round =>
      clear hT HI1
      obtain ⟨i, k, hig, rfl, rfl, hT, HBk, HI, HG⟩ := hrel
      have hkn : k < n := HBk.out.2.1
      by_cases hlt : i < m
      · have bi := byte_bounds t (i := i) (by omega)
        have ei := hide (bytesOf_at plainF t (i := i) (by omega))
        go_upto_block 2 with (fail)
        go_cut [9] (fun s9 wc => ∃ (kk : Int) (k : Nat), s9 = .int .i64 kk ∧ kk + 1 = k ∧ Hid (Best (bytesOf plainF t) (bytesOf plainF s) (i + 1) (n + 1) k) ∧ Tab wc w.heap.size bs ∧ Hid (Inv (placesTo (bytesOf plainF t) (bytesOf plainF s) (i + 1 - n)) wc))
        case first =>
          have HC := hide (cand_of_best HBk.out)
          go_wp2_with fail
          go_loopg [9] (k + 1) (fun g2 s9 wx => ∃ (k : Int), (k + 1).toNat = g2 ∧ s9 = .int .i64 k ∧ Hid (Cand (bytesOf plainF t) (bytesOf plainF s) i n k) ∧ Tab wx w.heap.size bs ∧ Hid (Inv (placesTo (bytesOf plainF t) (bytesOf plainF s) (i + 1 - n)) wx))
          case atStart => exact ⟨k, by omega, rfl, HC.out, hT, HI.out⟩
          case round =>
            clear hT HI HC
            obtain ⟨k, hk, rfl, HC, hT, HI⟩ := hrel
            have hkl := cand_lt HC.out
            by_cases hk0 : 0 ≤ k
            · obtain ⟨j, rfl⟩ : ∃ j : Nat, k = j := ⟨k.toNat, by omega⟩
              have hj : j < n := by omega
              have bj := byte_bounds s (i := j) (by omega)
              have ej := hide (bytesOf_at plainF s (i := j) (by omega))
              by_cases heq : (plainF ((t[i]'(by omega)).toNat : Int) == plainF ((s[j]'(by omega)).toNat : Int)) = true
              · have hm : (bytesOf plainF t)[i]? = (bytesOf plainF s)[j]? := by rw [ei.out, ej.out, beq_iff_eq.1 heq]
                have hB := hide (best_hit HC.out (by rw [HT.out]; exact hlt) (by rw [HN.out]; omega) hm)
                clear hm
                go_wp2_with fail
                go_quiet ((go_at_call 28; exact Calls.quiet_of_same (plainF_any _ _ (by omega) (by omega))))
                go_wp2_with fail
                go_meet
                exact ⟨j, j + 1, rfl, by omega, hB.out, hT.drewN nq, HId.out _ _ _ HI.out⟩
              · rw [Bool.not_eq_true] at heq
                have hm : (bytesOf plainF t)[i]? ≠ (bytesOf plainF s)[j]? := by rw [ei.out, ej.out]; intro e; injection e with e; rw [e] at heq; simp at heq
                obtain ⟨b, hbj, hIb⟩ := HIB.out j (by omega)
                have hC := hide (cand_next HC.out hIb hm)
                have hlow := isB_lt hIb
                have c1 := hT.cell hbj
                clear hm hbj hIb
                go_wp2_with fail
                go_quiet ((go_at_call 28; exact Calls.quiet_of_same (plainF_any _ _ (by omega) (by omega))))
                go_wp2_with fail
                go_roundg (b + 1).toNat
                case measure => omega
                case rel => exact ⟨b, rfl, rfl, hC.out, hT.drewN nq, HId.out _ _ _ HI.out⟩
            · obtain rfl : k = -1 := by omega
              have hB := hide (best_miss HC.out (by rw [HT.out]; exact hlt))
              have hk1 : decide ((0 : Int) ≤ -1) = false := rfl
              go_wp2_with fail
              go_quiet (fail)
              go_wp2_with fail
              go_meet
              exact ⟨-1, 0, rfl, by omega, hB.out, hT.drewN nq, HId.out _ _ _ HI.out⟩
        case rest =>
          clear hT HI HBk
          obtain ⟨kk, k, rfl, hkk, HBk, hT, HI⟩ := hcut
          have hk2 : k < n + 1 := HBk.out.2.1
          by_cases hkn2 : n = k
          · obtain rfl := hkn2
            have hS := HBk.out.1
            have hni : n ≤ i + 1 := hS.1
            obtain ⟨p, hp⟩ : ∃ p : Nat, (i : Int) + 1 - n = p := ⟨i + 1 - n, by omega⟩
            have hp' := hide (show i + 1 - n = p by omega)
            have hit := hide (placesTo_hit (by rw [HN.out]; exact hS))
            have HC := hide (HS.out bs _ p wc HG.out HI.out hT (by have := placesTo_len (T := bytesOf plainF t) (N := bytesOf plainF s) (i + 1 - n); omega) (by omega))
            obtain ⟨b, hbn, hIb⟩ := HIB.out n (Nat.le_refl _)
            obtain ⟨j, rfl, hBj⟩ := best_whole (by rw [HN.out]; omega) (by rw [HN.out]; exact hS) (by rw [HN.out]; exact hIb)
            have Hbn := hide hbn
            have HBj := hide hBj
            clear hbn hIb hBj hS hT
            by_cases hgo : go p = true
            · go_wp2_with ((with_reducible refine (HC.out).mono ?_); rintro e w2 ⟨rfl, HI2, hT2⟩; have c1 := hT2.cell Hbn.out; have HI2 := hide HI2)
              go_roundg (m - (i + 1))
              case measure => omega
              case rel =>
                have e : placesTo (bytesOf plainF t) (bytesOf plainF s) (i + 1 + 1 - n) = placesTo (bytesOf plainF t) (bytesOf plainF s) (i + 1 - n) ++ [p] := by
                  have := hit.out
                  rw [HN.out, hp'.out] at this
                  rw [show i + 1 + 1 - n = i + 2 - n by omega, this, hp'.out]
                refine ⟨i + 1, j, by omega, by go_num, rfl, hT2, by have := HBj.out; rwa [HN.out] at this, ?_, ?_⟩
                · rw [e]; exact HI2.out
                · rw [e]
                  show ∀ x ∈ _, _
                  intro x hx
                  rcases List.mem_append.1 hx with hx | hx
                  · exact HG.out x hx
                  · rw [List.mem_singleton] at hx; rw [hx]; exact hgo
            · rw [Bool.not_eq_true] at hgo
              go_wp2_with ((with_reducible refine (HC.out).mono ?_); rintro e w2 ⟨rfl, HI2, hT2⟩; have HI2 := hide HI2)
              rw [Exit.noGoto_normal]
              go_step
              go_end0
              refine ⟨rfl, ?_⟩
              obtain ⟨r, hr⟩ := placesTo_prefix (T := bytesOf plainF t) (N := bytesOf plainF s) (b := i + 2 - n) (by rw [HN.out]; exact h0) (by rw [HN.out, HT.out]; omega)
              have := hit.out
              rw [HN.out, hp'.out] at this
              rw [this, List.append_assoc] at hr
              have HG2 := HG.out
              have HI3 := HI2.out
              rw [hp'.out] at HG2 HI3
              rw [hr, List.singleton_append, firsts_stop HG2 hgo]
              exact HI3
          · have hke : ((k : Int) == (n : Int)) = false := by simp; omega
            go_wp2_with fail
            go_roundg (m - (i + 1))
            case measure => omega
            case rel =>
              have e := placesTo_miss (by rw [HT.out]; exact hlt) (by rw [HN.out]; exact HBk.out) (by rw [HN.out]; omega)
              rw [HN.out] at e
              refine ⟨i + 1, k, by omega, by go_num, rfl, hT, best_less HBk.out (by omega), ?_, ?_⟩
              · rw [show i + 1 + 1 - n = i + 2 - n by omega, e]; exact HI.out
              · rw [show i + 1 + 1 - n = i + 2 - n by omega, e]; exact HG.out
      · obtain rfl : m = i := by omega
        have e : placesF (bytesOf plainF t) (bytesOf plainF s) = placesTo (bytesOf plainF t) (bytesOf plainF s) (m + 1 - n) := by unfold placesF; rw [if_neg (by rw [HN.out]; exact h0), HN.out, HT.out]
        have He := hide e
        clear e
        go_wp2_with fail
        rw [Exit.noGoto_normal]
        go_step
        go_end0
        refine ⟨rfl, ?_⟩
        rw [He.out, firsts_all HG.out]
        exact HI.out

end Go.Proofs.Ytkcmpddefohkeaa
