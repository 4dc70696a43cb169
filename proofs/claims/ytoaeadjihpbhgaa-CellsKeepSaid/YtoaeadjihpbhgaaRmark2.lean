/-
  The document's Mark, walked, where a mark is asked for. No condition but bounds. (printed by gen_rmark.py)
-/
import Derived.Test.YtoaeadjihpbhgaaRmark
namespace Go.Proofs.Ytoaeadjihpbhgaa
open Go.RowKit Go.Proofs
set_option linter.unusedVariables false
theorem mapK_half {X : Nat} {h : Int} {M : ByteArray} (k : Nat) {m : List Cell} {i : Nat} {u : Cell} (hu : m[i]? = some u) : ∃ u', (mapK (mkF X h M) k m)[i]? = some u' ∧ u'.half = u.half := by
  rw [mapK_at, hu]
  refine ⟨_, rfl, ?_⟩
  show (if i < k then mkF X h M i u else u).half = _
  split
  · exact mkF_half _ _ _ _ _
  · rfl
set_option maxRecDepth 100000 in
set_option maxHeartbeats 4000000 in
theorem rmark_yes (l : List Cell) (n c B : Nat) (A : Option Addr) (x r : Int) (w : World) (hl : Rd w B 8 A n (l.flatMap cellE)) (hB : B ≤ w.heap.size) (hn : n ≤ 100000)
    (u : Cell) (X : Nat) (hxX : x = X) (hXn : X < n) (hu : (mendF l)[X]? = some u) (hu0 : u.r ≠ 0) (hw0 : widOf r = 0) (hus : u.more.size ≤ 1000000000000000) :
    Calls Try.prog 27 #[.slice A n c, .int .i64 x, .int .i32 r] w (RetRow (mendF (markIn x r (mendF l))) n w) := by
  subst hxX
  have M1 := hide (rmend_any l n c B A w hl hB hn)
  have RM := hide (fun (l : List Cell) (c : Nat) (A : Option Addr) (W : World) (h : W.ownsRow w.heap.size 40 8 (.slice A n c) n (l.flatMap cellE)) => rmend_any l n c W.heap.size A W (Rd.of_own h) (Nat.le_refl _) hn)
  have hll := hl.len (E := cellE) (fun _ => rfl) (by omega)
  have hml : (mendF l).length = n := by rw [mendF_len]; exact hll
  have HNO := hide (fun (h : 32 < (marked r u).size) => marked_no (l := l) (x := (X : Int)) (r := r) (markIn_no (.inr (.inr ⟨u, by rw [show (X : Int).toNat = X by omega]; exact hu, .inr (.inr h)⟩))))
  have hal := mendF_half l X u hu
  obtain ⟨m, hm0⟩ : ∃ m, mendF l = m := ⟨_, rfl⟩
  have HM := hide (show m.length = n by rw [← hm0]; exact hml)
  rw [hm0] at M1 hu HNO hal ⊢
  have OF := hide (fun W => rof_any r W)
  have PU := hide (fun W => rput_any r W)
  obtain ⟨M, hM⟩ : ∃ M, marked r u = M := ⟨_, rfl⟩
  obtain ⟨ps, hps⟩ : ∃ p, strOfNums (putF r) = p := ⟨_, rfl⟩
  have hpsz : ps.size ≤ 4 := by rw [← hps, strOfNums_size]; exact putF_len r
  have hcs4 : (9223372036854775807 < u.more.size + ps.size) = False := by simp; omega
  have hcs5 : (9223372036854775807 < (u.more.size : Int) + ps.size) = False := by simp; omega
  have hcs : u.more.size + ps.size ≤ 9223372036854775807 := by omega
  have hcat : u.more ++ ps = M := by rw [← hM]; unfold marked; rw [hps]
  have d1 : decide ((X : Int) < 0) = false := by simp
  have d2 : decide (n ≤ X) = false := by simpa using hXn
  have d3 : (u.r == 0) = false := by simpa using hu0
  rw [hw0] at OF
  obtain ⟨hh, hhh⟩ : ∃ hh, u.half = hh := ⟨_, rfl⟩
  have HU := hide hu
  have HH := hide hhh
  have HAL := hide hal
  have HMM := hide hM
  have HPS := hide hps
  have HYES := hide (markIn_yes (x := (X : Int)) (m := m) (u := u) (by omega) (by rw [show (X : Int).toNat = X by omega]; exact hu) hu0 hw0)
  clear hl hll hml hm0 hM hps hhh hu hal hw0 hu0
  go_enter Try.func27, Try.ntmps27
  go_upto_region 2 with (go_at_call 21; go_must (refine (M1.out).mono ?_; rintro e w1 ⟨A1, c1, rfl, o1, h1, b1⟩))
  rcases own_row o1 with ⟨rfl, rfl, rfl⟩ | ⟨g, T, rfl, hb, hr, hnc, hs, hm⟩
  · omega
  · have e8 := hr.eight HU.out
    simp only [List.length_nil, Nat.zero_add] at e8
    obtain ⟨z0, _⟩ := e8
    have HR := hide hr
    have gz := hr.blk.lt
    have HS := hide (And.intro hb (And.intro hnc (And.intro hs hm)))
    have B1 := hide b1
    clear hb hr hnc hs hm o1 b1
    go_upto_region 4 with (go_at_call 42; go_must (refine (OF.out _).mono ?_; rintro e w2 ⟨rfl, b2⟩; have q1 := (HR.out.below b2 gz).eight HU.out; simp only [List.length_nil, Nat.zero_add] at q1; obtain ⟨_, q11, _⟩ := q1; have gz2 := Nat.lt_of_lt_of_le gz b2.size; have B2 := hide b2; clear b2))
    have HX2 := hide (fun (W : World) (hW : Below w2.drew.heap.size w2.drew W) => (show W.cell? ⟨g, X * 8 + 1, none⟩ = some (.string u.more) by have a4 := ((HR.out.below (below_in B2.out.drew hW (Nat.le_refl _)) gz).eight HU.out).2.1; simp only [List.length_nil, Nat.zero_add] at a4; exact a4))
    go_cut [8] (fun s wx => s = .string M ∧ Hid (Below w2.drew.heap.size w2.drew wx))
    case first =>
      go_region_with ((go_at_call 36; (with_reducible refine (PU.out _).mono ?_); rintro e w3 ⟨A3, c3, rfl, rd3, h3, b3⟩; have cc := HX2.out w3 b3; have cv := conv_str (c := c3) rd3; rw [HPS.out] at cv))
      all_goals
        go_wp2
        go_meet
        exact ⟨rfl, b3⟩
    obtain ⟨rfl, HC⟩ := hcut
    have b3 := HC.out
    have BB := hide (below_in B2.out.drew b3 (Nat.le_refl _))
    have R3 := hide (HR.out.below BB.out gz)
    have B3 := hide (below_in B1.out BB.out (Nat.le_refl _))
    clear b3 q11 z0
    have O3 := hide (own_of_row HS.out.1 HS.out.2.1 HS.out.2.2.1 HS.out.2.2.2 HM.out HM.out R3.out)
    by_cases hM : 32 < M.size
    · have d6 : decide (32 < M.size) = true := by simpa using hM
      have d7 : decide ((32 : Int) < M.size) = true := by simp; omega
      have HE := hide (HNO.out (by rw [HMM.out]; exact hM))
      go_wp2
      go_ret
      rw [HE.out]
      exact ⟨some ⟨g, 0, none⟩, c1, rfl, O3.out, h1, B3.out⟩
    · have d6 : decide (32 < M.size) = false := by simpa using hM
      have d7 : decide ((32 : Int) < M.size) = false := by simp; omega
      have HE := hide (show mapK (mkF X hh M) n m = markIn X r m by
        rw [HYES.out (by rw [HMM.out]; omega), show (X : Int).toNat = X by omega, HMM.out, ← mark_map X u M m HAL.out.2, HM.out, HH.out])
      go_wp2
      go_loopg [9] n (fun gg s2 wr => ∃ (k : Nat), k ≤ n ∧ n - k ≤ gg ∧ s2 = .int .i64 k ∧ Hid (RowAt wr g [] (mapK (mkF X hh M) k m) T) ∧ Hid (Below w.heap.size w wr))
      case atStart => exact ⟨0, by omega, by omega, rfl, by rw [mapK_zero]; exact R3.out, B3.out⟩
      case round =>
        obtain ⟨k, hkn, hgk, rfl, HO, HB⟩ := hrel
        by_cases hlt : k < n
        · have d8 : decide (k < n) = true := by simpa using hlt
          obtain ⟨v, hv⟩ : ∃ v, m[k]? = some v := ⟨_, List.getElem?_eq_getElem (by rw [HM.out]; omega)⟩
          obtain ⟨u2, hu2, hu2h⟩ := mapK_half (X := X) (h := hh) (M := M) k HU.out
          rw [HH.out] at hu2h
          have e8 := HO.out.eight hu2
          simp only [List.length_nil, Nat.zero_add] at e8
          obtain ⟨_, _, z2, _⟩ := e8
          rw [hu2h] at z2
          have e8 := HO.out.eight (mapK_cur (mkF X hh M) hv)
          simp only [List.length_nil, Nat.zero_add] at e8
          obtain ⟨_, y1, _⟩ := e8
          have f0 := fun i => HO.out.frozen i
          have gl := HO.out.blk.lt
          have HV := hide hv
          clear hu2 hu2h hv
          by_cases kX : k = X
          · subst kX
            have HF := hide (show mkF k hh M k v = { v with more := M } by unfold mkF; rw [if_pos (.inl rfl)])
            go_wp2
            go_roundg (n - (k + 1))
            case measure => omega
            case rel =>
              refine ⟨k + 1, by omega, by omega, by go_num, ?_, ?_⟩
              · rw [mapK_step _ HV.out, HF.out]
                have := HO.out.set1 (k := k) (i := 1) (c := v) (d := { v with more := M }) (mapK_cur _ HV.out) (by omega) (u := .string M) rfl
                simp only [List.length_nil, Nat.zero_add] at this
                exact this
              · exact HB.out.setCell (p := ⟨g, k * 8 + 1, none⟩) HS.out.1 _
          · have d9 : ((k : Int) == (X : Int)) = false := by rw [beq_eq_false_iff_ne]; omega
            have d9' : (k == X) = false := by rw [beq_eq_false_iff_ne]; exact kX
            by_cases kX1 : k = X + 1
            · have e1 : ((k : Int) == (X : Int) + 1) = true := by rw [beq_iff_eq]; omega
              by_cases ha : hh = 1
              · subst ha
                have HF := hide (show mkF X 1 M k v = { v with more := M } by unfold mkF; rw [if_pos (.inr (.inl ⟨kX1, rfl⟩))])
                clear kX kX1
                go_wp2
                go_roundg (n - (k + 1))
                case measure => omega
                case rel =>
                  refine ⟨k + 1, by omega, by omega, by go_num, ?_, ?_⟩
                  · rw [mapK_step _ HV.out, HF.out]
                    have := HO.out.set1 (k := k) (i := 1) (c := v) (d := { v with more := M }) (mapK_cur _ HV.out) (by omega) (u := .string M) rfl
                    simp only [List.length_nil, Nat.zero_add] at this
                    exact this
                  · exact HB.out.setCell (p := ⟨g, k * 8 + 1, none⟩) HS.out.1 _
              · have e2 : (hh == 1) = false := by simpa using ha
                have e3 : ((k : Int) == (X : Int) - 1) = false := by rw [beq_eq_false_iff_ne]; omega
                have HF := hide (show mkF X hh M k v = v by unfold mkF; rw [if_neg (by omega)])
                clear kX kX1 ha
                go_wp2
                go_roundg (n - (k + 1))
                case measure => omega
                case rel => exact ⟨k + 1, by omega, by omega, by go_num, by rw [mapK_same _ HV.out HF.out]; exact HO.out, HB.out⟩
            · have e1 : ((k : Int) == (X : Int) + 1) = false := by rw [beq_eq_false_iff_ne]; omega
              by_cases kX2 : k + 1 = X
              · have e3 : ((k : Int) == (X : Int) - 1) = true := by rw [beq_iff_eq]; omega
                by_cases ha : hh = 2
                · subst ha
                  have HF := hide (show mkF X 2 M k v = { v with more := M } by unfold mkF; rw [if_pos (.inr (.inr ⟨kX2, rfl⟩))])
                  clear kX kX1 kX2
                  go_wp2
                  go_roundg (n - (k + 1))
                  case measure => omega
                  case rel =>
                    refine ⟨k + 1, by omega, by omega, by go_num, ?_, ?_⟩
                    · rw [mapK_step _ HV.out, HF.out]
                      have := HO.out.set1 (k := k) (i := 1) (c := v) (d := { v with more := M }) (mapK_cur _ HV.out) (by omega) (u := .string M) rfl
                      simp only [List.length_nil, Nat.zero_add] at this
                      exact this
                    · exact HB.out.setCell (p := ⟨g, k * 8 + 1, none⟩) HS.out.1 _
                · have e2 : (hh == 2) = false := by simpa using ha
                  have HF := hide (show mkF X hh M k v = v by unfold mkF; rw [if_neg (by omega)])
                  clear kX kX1 ha kX2
                  go_wp2
                  go_roundg (n - (k + 1))
                  case measure => omega
                  case rel => exact ⟨k + 1, by omega, by omega, by go_num, by rw [mapK_same _ HV.out HF.out]; exact HO.out, HB.out⟩
              · have e3 : ((k : Int) == (X : Int) - 1) = false := by rw [beq_eq_false_iff_ne]; omega
                have HF := hide (show mkF X hh M k v = v by unfold mkF; rw [if_neg (by omega)])
                clear kX kX1 kX2
                go_wp2
                go_roundg (n - (k + 1))
                case measure => omega
                case rel => exact ⟨k + 1, by omega, by omega, by go_num, by rw [mapK_same _ HV.out HF.out]; exact HO.out, HB.out⟩
        · obtain rfl : k = n := by omega
          have d8 : decide (k < k) = false := by simp
          have OW := hide (own_of_row HS.out.1 HS.out.2.1 HS.out.2.2.1 HS.out.2.2.2 HM.out (by rw [mapK_len]; exact HM.out) HO.out)
          have M2 := hide (RM.out _ _ _ wr OW.out)
          go_wp2_with (go_at_call 21; go_must (refine (M2.out).mono ?_; rintro e w4 ⟨A4, c4, rfl, o4, h4, b4⟩))
          go_ret
          rw [← HE.out]
          exact ⟨A4, c4, rfl, own_le o4 HB.out.size, h4, below_in HB.out b4 (Nat.le_refl _)⟩
end Go.Proofs.Ytoaeadjihpbhgaa
