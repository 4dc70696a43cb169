/-
  The document's Begins, walked. No condition but bounds.
-/
import Derived.Test.YthbjjhoajecpcaaRIs
namespace Go.Proofs.Ythbjjhoajecpcaa
open Go.RowKit Go.Proofs
set_option linter.unusedVariables false
theorem Try.sl22q : SliceOf Try.prog 22 5 1 1 := SliceOf.mk (z := .int .u8 0) (by kernel_rfl) (by kernel_rfl) (by kernel_rfl) (by omega)
theorem rone_b8 (l : List Int) : ∀ u ∈ l.map b8, u.oneCell' = true := by
  intro u hu
  obtain ⟨x, _, rfl⟩ := List.mem_map.1 hu
  rfl
/-- A row lies on while another one is appended to. -/
theorem own_app {w w1 : World} {base base' s s' n m : Nat} {e e' : TypeId} {v v1 v1' : Value} {xs zs : List Value} (h : w.ownsRow base e s v n xs) (app : App w base' e' s' v1 v1' m zs w1) (hne : ∀ k, v.ownBlock = some k → v1.ownBlock ≠ some k) : w1.ownsRow base e s v n xs := by
  refine h.kept app.grown ?_
  cases hb : v.ownBlock with
  | none => exact .inl rfl
  | some k => exact .inr (fun e => hne k hb e.symm)
/-- The appended row is another one still. -/
theorem ne_app {w w1 : World} {base base' s s' n m : Nat} {e e' : TypeId} {v v1 v1' : Value} {xs zs : List Value} (h : w.ownsRow base e s v n xs) (app : App w base' e' s' v1 v1' m zs w1) (hne : ∀ k, v.ownBlock = some k → v1.ownBlock ≠ some k) : ∀ k, v.ownBlock = some k → v1'.ownBlock ≠ some k := by
  intro k hk hk'
  rcases app.at_ with h1 | ⟨g, h1, h2⟩
  · rw [h1] at hk'; exact hne k hk hk'
  · rw [h1] at hk'
    injection hk' with hk'
    have := (h.lt k hk).2
    omega
theorem bytes_fill {l : List Int} (hq : ∀ x ∈ l, IsByte x) (m : Nat) {y : Int} (hy : IsByte y) : ∀ x ∈ l ++ List.replicate m y, IsByte x := by
  intro x hx
  rcases List.mem_append.1 hx with h | h
  · exact hq x h
  · rw [(List.mem_replicate.1 h).2]; exact hy
theorem fill_snoc (l : List Int) (m n : Nat) (y : Int) (h : n ≤ m) : (l ++ List.replicate (m - n) y).map b8 ++ [b8 y] = (l ++ List.replicate (m + 1 - n) y).map b8 := by
  rw [show m + 1 - n = (m - n) + 1 by omega, List.replicate_succ']
  simp
set_option maxRecDepth 100000 in
set_option maxHeartbeats 4000000 in
theorem begins_any (l : List Int) (A : Option Addr) (n c B : Nat) (w : World) (hl : Rd w B 1 A n (l.map b8)) (hB : B ≤ w.heap.size) (hq : ∀ x ∈ l, IsByte x) (hn0 : 1 ≤ n) (hn : n ≤ 4) :
    Calls Try.prog 41 #[.slice A n c] w (RetB (begB l) w) := by
  have hlen := hl.len1
  have HS := hide (begs_spec l (by rintro rfl; simp at hlen; omega) (by omega) hq)
  have NU := hide (fun (l : List Int) (A : Option Addr) (n c : Nat) (W : World) (hl : Rd W W.heap.size 1 A n (l.map b8)) (hq : ∀ x ∈ l, IsByte x) (hn : n ≤ 4) => rnumber_any l A n c W.heap.size W hl (Nat.le_refl _) hq hn)
  have hl0 := hide (hl.more hB)
  have HQ := hide hq
  have HL := hide hlen
  have sN : IntKind.i64.wrap ((n : Int) + 1) = (n : Int) + 1 := IntWalk.i64_in _ (by omega)
  clear hl hq hlen
  go_enter Try.func41, Try.ntmps41
  go_wp2
  clear sN
  go_loopg [3] (5 - n) (fun g s3 wr => ∃ (k : Nat), k + g = 6 ∧ n + 1 ≤ k ∧ k ≤ 5 ∧ s3 = .int .i64 k ∧ Hid (begB l = begsF k l) ∧ Hid (Rd wr w.heap.size 1 A n (l.map b8)) ∧ Hid (Below w.heap.size w wr))
  case atStart => exact ⟨n + 1, by omega, by omega, by omega, by go_num, by rw [← HS.out, HL.out]; rfl, hl0.out, Below.refl _ _⟩
  case round =>
    obtain ⟨k, hkg, hnk, hk5, rfl, HB, HR, HW⟩ := hrel
    have zr := HW.out.size
    by_cases hk4 : k ≤ 4
    · have d1 : decide ((k : Int) ≤ 4) = true := by simp; omega
      have d2 : decide (0 < n) = true := by simp; omega
      have hb0 := HB.out
      rw [begsF_step (by omega) hk4] at hb0
      have HB := hide hb0
      clear hb0
      have hr := HR.out
      have on := World.ownsRow_nil wr w.heap.size 5 1
      go_upto_region 6 with (at_builtin; go_must (first
        | (refine wpList_appends Try.sl22q rfl _ _ rfl w.heap.size (.slice none 0 0) 0 [] _ w.heap.size A n c (l.map b8) rfl rfl on hr (rone_b8 l) (by simp only [maxLen]; omega) (by omega) zr ?_; intro A1 c1 w1 app1; have on1 := World.ownsRow_nil w1 w.heap.size 5 1; have b1 := app1.below on (Below.refl _ _) (Nat.le_refl _) zr; have hr1 := hr.below b1; have o1 := app1.own; have z1 := app1.grown.size; clear on)
        | (refine wpList_appends Try.sl22q rfl _ _ rfl w.heap.size (.slice none 0 0) 0 [] _ w.heap.size A n c (l.map b8) rfl rfl on1 hr1 (rone_b8 l) (by simp only [maxLen]; omega) (by omega) (by omega) ?_; intro A2 c2 w2 app2)))
      simp only [Nat.zero_add, List.nil_append] at app1 app2
      have o1 := app1.own
      have o2 := app2.own
      have hne := hide (show ∀ s, (Value.slice A1 n c1).ownBlock = some s → (Value.slice A2 n c2).ownBlock ≠ some s from ne_app (v := .slice A1 n c1) (v1 := .slice none 0 0) (v1' := .slice A2 n c2) o1 app2 (fun _ _ e => by cases e))
      have o1' := own_app o1 app2 (fun _ _ e => by cases e)
      have b2 := hide (HW.out.trans (b1.trans (app2.below on1 (Below.refl _ _) (Nat.le_refl _) (by omega))))
      have e0 : ∀ y : Int, l.map b8 = (l ++ List.replicate (n - n) y).map b8 := fun y => by simp
      rw [e0 128] at o1'
      rw [e0 191] at o2
      clear app1 app2 o1 b1 hr1 z1 on1 hr e0 HW HR
      go_loopg [4, 5] (k - n) (fun g2 s4 s5 wx => ∃ (m : Nat), m + g2 = k ∧ n ≤ m ∧ wx.ownsRow w.heap.size 5 1 s4 m ((l ++ List.replicate (m - n) 128).map b8) ∧ wx.ownsRow w.heap.size 5 1 s5 m ((l ++ List.replicate (m - n) 191).map b8) ∧ Hid (∀ s, s4.ownBlock = some s → s5.ownBlock ≠ some s) ∧ Hid (Below w.heap.size w wx))
      case atStart => exact ⟨n, by omega, Nat.le_refl _, o1', o2, hne.out, b2.out⟩
      case round =>
        clear o1' o2 hne b2
        obtain ⟨m, hmg, hnm, o1, o2, hne, HW⟩ := hrel
        obtain ⟨A1, c1, rfl⟩ := own_slice o1
        obtain ⟨A2, c2, rfl⟩ := own_slice o2
        have zx := HW.out.size
        by_cases hmk : m < k
        · have d3 : decide (m < k) = true := by simpa using hmk
          go_wp2_with (at_builtin; go_must (first
            | (refine wpList_append1 Try.sl22q rfl _ _ rfl w.heap.size (.slice A1 m c1) m _ #[.int .u8 128] _ 1 rfl rfl rfl o1 rfl (rone_b8 [128]) (by simp only [maxLen]; omega) (by omega) zx ?_; intro A3 c3 w3 app3; have o2' := own_app (o2.alloc _) app3 (fun s e => fun e2 => hne.out s e2 e); have ne3 := ne_app (o2.alloc _) app3 (fun s e => fun e2 => hne.out s e2 e); have z3 := app3.grown.size; have zz : w.heap.size ≤ w3.heap.size := (by simp at z3; omega))
            | (refine wpList_append1 Try.sl22q rfl _ _ rfl w.heap.size (.slice A2 m c2) m _ #[.int .u8 191] w3 1 rfl rfl rfl o2' rfl (rone_b8 [191]) (by simp only [maxLen]; omega) (by omega) zz ?_; intro A4 c4 w4 app4)))
          go_roundg (k - (m + 1))
          case measure => omega
          case rel =>
            have hn2 : ∀ s, (Value.slice A3 (m + 1) c3).ownBlock = some s → (Value.slice A2 m c2).ownBlock ≠ some s := fun s e e2 => ne3 s e2 e
            refine ⟨m + 1, by omega, by omega, ?_, ?_, ne_app (app3.own.alloc _) app4 hn2, ?_⟩
            · rw [← fill_snoc l m n 128 hnm]
              exact own_app (app3.own.alloc _) app4 hn2
            · rw [← fill_snoc l m n 191 hnm]
              exact app4.own
            · exact app4.below (o2'.alloc _) ((app3.below (o1.alloc _) (HW.out.alloc zx _) (Nat.le_refl _) (by simp; omega)).alloc zz _) (Nat.le_refl _) (by simp; omega)
        · obtain rfl : m = k := by omega
          have d3 : decide (m < m) = false := by simp
          have hl1 : (l ++ List.replicate (m - n) (128 : Int)).length = m := by have := HL.out; simp; omega
          have hf1 := bytes_fill HQ.out (m - n) (y := 128) ⟨by omega, by omega⟩
          have hf2 := bytes_fill HQ.out (m - n) (y := 191) ⟨by omega, by omega⟩
          obtain ⟨lo, hlo⟩ : ∃ lo, numberF (l ++ List.replicate (m - n) 128) = lo := ⟨_, rfl⟩
          obtain ⟨hi, hhi⟩ : ∃ hi, numberF (l ++ List.replicate (m - n) 191) = hi := ⟨_, rfl⟩
          have N1 := NU.out _ A1 m c1 _ (Rd.of_own o1) hf1 hk4
          rw [hlo] at N1
          have N2 := fun (W : World) (h : Below wr.heap.size wr W) => NU.out _ A2 m c2 W (Rd.of_own (own_call o2 h)) hf2 hk4
          have N1 := hide N1
          rw [hhi] at N2
          have N2 := hide N2
          have HR0 := hide (hl0.out.below HW.out)
          have hm3 : m = 2 ∨ m = 3 ∨ m = 4 := by omega
          clear hf1 hf2 o1 o2 hne hl1
          rcases hm3 with rfl | rfl | rfl
          · have HK := hide (show okAt 2 l = okV 2 lo hi by unfold okAt; rw [HL.out, hlo, hhi])
            have hb0 := HB.out
            rw [HK.out] at hb0
            have HB := hide hb0
            clear hlo hhi hb0
            by_cases h1 : lo < 0 ∨ hi < 0
            · have HO := hide (show begB l = begsF (2 + 1) l by rw [HB.out, show okV 2 lo hi = false by cases h : okV 2 lo hi with | false => rfl | true => have := okV_iff.1 h; omega]; rfl)
              have h1 : lo < 0 ∨ (¬ lo < 0 ∧ hi < 0) := by omega
              rcases h1 with h1 | ⟨h0, h1⟩
              · go_wp2_with (first | (go_at_call 51; (with_reducible refine (N1.out).mono ?_); rintro e w3 ⟨rfl, b3⟩; have N2 := hide (N2.out _ b3)) | (go_at_call 51; (with_reducible refine (N2.out).mono ?_); rintro e w4 ⟨rfl, b4⟩))
                go_roundg (6 - 3)
                case measure => omega
                case rel => exact ⟨3, by omega, by omega, by omega, rfl, HO.out, (HR0.out.below (b3.mono zx)).below (b4.mono (Nat.le_trans zx b3.size)), HW.out.trans ((b3.mono zx).trans (b4.mono (Nat.le_trans zx b3.size)))⟩
              · have h2 : 0 ≤ lo := by omega
                have d6 : decide (lo < 0) = false := by simp; omega
                clear h0
                go_wp2_with (first | (go_at_call 51; (with_reducible refine (N1.out).mono ?_); rintro e w3 ⟨rfl, b3⟩; have N2 := hide (N2.out _ b3)) | (go_at_call 51; (with_reducible refine (N2.out).mono ?_); rintro e w4 ⟨rfl, b4⟩))
                go_roundg (6 - 3)
                case measure => omega
                case rel => exact ⟨3, by omega, by omega, by omega, rfl, HO.out, (HR0.out.below (b3.mono zx)).below (b4.mono (Nat.le_trans zx b3.size)), HW.out.trans ((b3.mono zx).trans (b4.mono (Nat.le_trans zx b3.size)))⟩
            · have h2 : 0 ≤ lo := by omega
              have h3 : 0 ≤ hi := by omega
              have d6 : decide (lo < 0) = false := by simp; omega
              have d7 : decide (hi < 0) = false := by simp; omega
              have HM := hide (show okV 2 lo hi = true ↔ max lo 128 ≤ min hi 2047 ∧ ¬ (55296 ≤ max lo 128 ∧ min hi 2047 ≤ 57343) by rw [okV_iff]; show 0 ≤ lo ∧ 0 ≤ hi ∧ max lo 128 ≤ min hi 2047 ∧ ¬ (55296 ≤ max lo 128 ∧ min hi 2047 ≤ 57343) ↔ _; omega)
              obtain ⟨M, hM⟩ : ∃ M, max lo 128 = M := ⟨_, rfl⟩
              obtain ⟨N, hN⟩ : ∃ N, min hi 2047 = N := ⟨_, rfl⟩
              have e1 := fun W => max2_ Try.prog #[21, 21] 21 (k := .i32) hM.symm W
              have e2 := fun W => min2_ Try.prog #[21, 21] 21 (k := .i32) hN.symm W
              rw [hM, hN] at HM
              have hM1 : 128 ≤ M := by omega
              clear hM hN h1
              go_upto_region 10 with (first | (go_at_call 51; (with_reducible refine (N1.out).mono ?_); rintro e w3 ⟨rfl, b3⟩; have N2 := hide (N2.out _ b3)) | (go_at_call 51; (with_reducible refine (N2.out).mono ?_); rintro e w4 ⟨rfl, b4⟩))
              have b4 := hide (HW.out.trans ((b3.mono zx).trans (b4.mono (Nat.le_trans zx b3.size))))
              go_cut [8, 9] (fun s8 s9 wx => s8 = .int .i32 128 ∧ s9 = .int .i32 2047 ∧ Hid (Below w4.heap.size w4 wx))
              case first =>
                go_region_with (fail)
                all_goals
                  go_wp2
                  go_meet
                  exact ⟨rfl, rfl, (((Below.refl _ _).alloc (Nat.le_refl _) _).alloc (by simp) _).drew⟩
              case rest =>
                obtain ⟨rfl, rfl, HX⟩ := hcut
                have HY := hide (b4.out.trans (HX.out.mono b4.out.size))
                have HR5 := hide (hl0.out.below HY.out)
                by_cases p1 : M ≤ N
                · have q1 : decide (M ≤ N) = true := by simpa using p1
                  by_cases p2 : 55296 ≤ M
                  · have q2 : decide (55296 ≤ M) = true := by simpa using p2
                    by_cases p3 : N ≤ 57343
                    · have q3 : decide (N ≤ 57343) = true := by simpa using p3
                      have HO := hide (show begB l = begsF (2 + 1) l by rw [HB.out, show okV 2 lo hi = false by cases h : okV 2 lo hi with | false => rfl | true => have := HM.out.1 h; omega]; rfl)
                      go_wp2
                      go_roundg (6 - 3)
                      case measure => omega
                      case rel => exact ⟨3, by omega, by omega, by omega, rfl, HO.out, HR5.out, HY.out⟩
                    · have q3 : decide (N ≤ 57343) = false := by simpa using p3
                      have HO := hide (show begB l = true by rw [HB.out, HM.out.2 (by omega)]; rfl)
                      go_wp2
                      go_ret
                      rw [HO.out]
                      exact ⟨rfl, HY.out⟩
                  · have q2 : decide (55296 ≤ M) = false := by simpa using p2
                    have HO := hide (show begB l = true by rw [HB.out, HM.out.2 (by omega)]; rfl)
                    go_wp2
                    go_ret
                    rw [HO.out]
                    exact ⟨rfl, HY.out⟩
                · have q1 : decide (M ≤ N) = false := by simpa using p1
                  have HO := hide (show begB l = begsF (2 + 1) l by rw [HB.out, show okV 2 lo hi = false by cases h : okV 2 lo hi with | false => rfl | true => have := HM.out.1 h; omega]; rfl)
                  go_wp2
                  go_roundg (6 - 3)
                  case measure => omega
                  case rel => exact ⟨3, by omega, by omega, by omega, rfl, HO.out, HR5.out, HY.out⟩
          · have HK := hide (show okAt 3 l = okV 3 lo hi by unfold okAt; rw [HL.out, hlo, hhi])
            have hb0 := HB.out
            rw [HK.out] at hb0
            have HB := hide hb0
            clear hlo hhi hb0
            by_cases h1 : lo < 0 ∨ hi < 0
            · have HO := hide (show begB l = begsF (3 + 1) l by rw [HB.out, show okV 3 lo hi = false by cases h : okV 3 lo hi with | false => rfl | true => have := okV_iff.1 h; omega]; rfl)
              have h1 : lo < 0 ∨ (¬ lo < 0 ∧ hi < 0) := by omega
              rcases h1 with h1 | ⟨h0, h1⟩
              · go_wp2_with (first | (go_at_call 51; (with_reducible refine (N1.out).mono ?_); rintro e w3 ⟨rfl, b3⟩; have N2 := hide (N2.out _ b3)) | (go_at_call 51; (with_reducible refine (N2.out).mono ?_); rintro e w4 ⟨rfl, b4⟩))
                go_roundg (6 - 4)
                case measure => omega
                case rel => exact ⟨4, by omega, by omega, by omega, rfl, HO.out, (HR0.out.below (b3.mono zx)).below (b4.mono (Nat.le_trans zx b3.size)), HW.out.trans ((b3.mono zx).trans (b4.mono (Nat.le_trans zx b3.size)))⟩
              · have h2 : 0 ≤ lo := by omega
                have d6 : decide (lo < 0) = false := by simp; omega
                clear h0
                go_wp2_with (first | (go_at_call 51; (with_reducible refine (N1.out).mono ?_); rintro e w3 ⟨rfl, b3⟩; have N2 := hide (N2.out _ b3)) | (go_at_call 51; (with_reducible refine (N2.out).mono ?_); rintro e w4 ⟨rfl, b4⟩))
                go_roundg (6 - 4)
                case measure => omega
                case rel => exact ⟨4, by omega, by omega, by omega, rfl, HO.out, (HR0.out.below (b3.mono zx)).below (b4.mono (Nat.le_trans zx b3.size)), HW.out.trans ((b3.mono zx).trans (b4.mono (Nat.le_trans zx b3.size)))⟩
            · have h2 : 0 ≤ lo := by omega
              have h3 : 0 ≤ hi := by omega
              have d6 : decide (lo < 0) = false := by simp; omega
              have d7 : decide (hi < 0) = false := by simp; omega
              have HM := hide (show okV 3 lo hi = true ↔ max lo 2048 ≤ min hi 65535 ∧ ¬ (55296 ≤ max lo 2048 ∧ min hi 65535 ≤ 57343) by rw [okV_iff]; show 0 ≤ lo ∧ 0 ≤ hi ∧ max lo 2048 ≤ min hi 65535 ∧ ¬ (55296 ≤ max lo 2048 ∧ min hi 65535 ≤ 57343) ↔ _; omega)
              obtain ⟨M, hM⟩ : ∃ M, max lo 2048 = M := ⟨_, rfl⟩
              obtain ⟨N, hN⟩ : ∃ N, min hi 65535 = N := ⟨_, rfl⟩
              have e1 := fun W => max2_ Try.prog #[21, 21] 21 (k := .i32) hM.symm W
              have e2 := fun W => min2_ Try.prog #[21, 21] 21 (k := .i32) hN.symm W
              rw [hM, hN] at HM
              have hM1 : 2048 ≤ M := by omega
              clear hM hN h1
              go_upto_region 10 with (first | (go_at_call 51; (with_reducible refine (N1.out).mono ?_); rintro e w3 ⟨rfl, b3⟩; have N2 := hide (N2.out _ b3)) | (go_at_call 51; (with_reducible refine (N2.out).mono ?_); rintro e w4 ⟨rfl, b4⟩))
              have b4 := hide (HW.out.trans ((b3.mono zx).trans (b4.mono (Nat.le_trans zx b3.size))))
              go_cut [8, 9] (fun s8 s9 wx => s8 = .int .i32 2048 ∧ s9 = .int .i32 65535 ∧ Hid (Below w4.heap.size w4 wx))
              case first =>
                go_region_with (fail)
                all_goals
                  go_wp2
                  go_meet
                  exact ⟨rfl, rfl, (((Below.refl _ _).alloc (Nat.le_refl _) _).alloc (by simp) _).drew⟩
              case rest =>
                obtain ⟨rfl, rfl, HX⟩ := hcut
                have HY := hide (b4.out.trans (HX.out.mono b4.out.size))
                have HR5 := hide (hl0.out.below HY.out)
                by_cases p1 : M ≤ N
                · have q1 : decide (M ≤ N) = true := by simpa using p1
                  by_cases p2 : 55296 ≤ M
                  · have q2 : decide (55296 ≤ M) = true := by simpa using p2
                    by_cases p3 : N ≤ 57343
                    · have q3 : decide (N ≤ 57343) = true := by simpa using p3
                      have HO := hide (show begB l = begsF (3 + 1) l by rw [HB.out, show okV 3 lo hi = false by cases h : okV 3 lo hi with | false => rfl | true => have := HM.out.1 h; omega]; rfl)
                      go_wp2
                      go_roundg (6 - 4)
                      case measure => omega
                      case rel => exact ⟨4, by omega, by omega, by omega, rfl, HO.out, HR5.out, HY.out⟩
                    · have q3 : decide (N ≤ 57343) = false := by simpa using p3
                      have HO := hide (show begB l = true by rw [HB.out, HM.out.2 (by omega)]; rfl)
                      go_wp2
                      go_ret
                      rw [HO.out]
                      exact ⟨rfl, HY.out⟩
                  · have q2 : decide (55296 ≤ M) = false := by simpa using p2
                    have HO := hide (show begB l = true by rw [HB.out, HM.out.2 (by omega)]; rfl)
                    go_wp2
                    go_ret
                    rw [HO.out]
                    exact ⟨rfl, HY.out⟩
                · have q1 : decide (M ≤ N) = false := by simpa using p1
                  have HO := hide (show begB l = begsF (3 + 1) l by rw [HB.out, show okV 3 lo hi = false by cases h : okV 3 lo hi with | false => rfl | true => have := HM.out.1 h; omega]; rfl)
                  go_wp2
                  go_roundg (6 - 4)
                  case measure => omega
                  case rel => exact ⟨4, by omega, by omega, by omega, rfl, HO.out, HR5.out, HY.out⟩
          · have HK := hide (show okAt 4 l = okV 4 lo hi by unfold okAt; rw [HL.out, hlo, hhi])
            have hb0 := HB.out
            rw [HK.out] at hb0
            have HB := hide hb0
            clear hlo hhi hb0
            by_cases h1 : lo < 0 ∨ hi < 0
            · have HO := hide (show begB l = begsF (4 + 1) l by rw [HB.out, show okV 4 lo hi = false by cases h : okV 4 lo hi with | false => rfl | true => have := okV_iff.1 h; omega]; rfl)
              have h1 : lo < 0 ∨ (¬ lo < 0 ∧ hi < 0) := by omega
              rcases h1 with h1 | ⟨h0, h1⟩
              · go_wp2_with (first | (go_at_call 51; (with_reducible refine (N1.out).mono ?_); rintro e w3 ⟨rfl, b3⟩; have N2 := hide (N2.out _ b3)) | (go_at_call 51; (with_reducible refine (N2.out).mono ?_); rintro e w4 ⟨rfl, b4⟩))
                go_roundg (6 - 5)
                case measure => omega
                case rel => exact ⟨5, by omega, by omega, by omega, rfl, HO.out, (HR0.out.below (b3.mono zx)).below (b4.mono (Nat.le_trans zx b3.size)), HW.out.trans ((b3.mono zx).trans (b4.mono (Nat.le_trans zx b3.size)))⟩
              · have h2 : 0 ≤ lo := by omega
                have d6 : decide (lo < 0) = false := by simp; omega
                clear h0
                go_wp2_with (first | (go_at_call 51; (with_reducible refine (N1.out).mono ?_); rintro e w3 ⟨rfl, b3⟩; have N2 := hide (N2.out _ b3)) | (go_at_call 51; (with_reducible refine (N2.out).mono ?_); rintro e w4 ⟨rfl, b4⟩))
                go_roundg (6 - 5)
                case measure => omega
                case rel => exact ⟨5, by omega, by omega, by omega, rfl, HO.out, (HR0.out.below (b3.mono zx)).below (b4.mono (Nat.le_trans zx b3.size)), HW.out.trans ((b3.mono zx).trans (b4.mono (Nat.le_trans zx b3.size)))⟩
            · have h2 : 0 ≤ lo := by omega
              have h3 : 0 ≤ hi := by omega
              have d6 : decide (lo < 0) = false := by simp; omega
              have d7 : decide (hi < 0) = false := by simp; omega
              have HM := hide (show okV 4 lo hi = true ↔ max lo 65536 ≤ min hi 1114111 ∧ ¬ (55296 ≤ max lo 65536 ∧ min hi 1114111 ≤ 57343) by rw [okV_iff]; show 0 ≤ lo ∧ 0 ≤ hi ∧ max lo 65536 ≤ min hi 1114111 ∧ ¬ (55296 ≤ max lo 65536 ∧ min hi 1114111 ≤ 57343) ↔ _; omega)
              obtain ⟨M, hM⟩ : ∃ M, max lo 65536 = M := ⟨_, rfl⟩
              obtain ⟨N, hN⟩ : ∃ N, min hi 1114111 = N := ⟨_, rfl⟩
              have e1 := fun W => max2_ Try.prog #[21, 21] 21 (k := .i32) hM.symm W
              have e2 := fun W => min2_ Try.prog #[21, 21] 21 (k := .i32) hN.symm W
              rw [hM, hN] at HM
              have hM1 : 65536 ≤ M := by omega
              clear hM hN h1
              go_upto_region 10 with (first | (go_at_call 51; (with_reducible refine (N1.out).mono ?_); rintro e w3 ⟨rfl, b3⟩; have N2 := hide (N2.out _ b3)) | (go_at_call 51; (with_reducible refine (N2.out).mono ?_); rintro e w4 ⟨rfl, b4⟩))
              have b4 := hide (HW.out.trans ((b3.mono zx).trans (b4.mono (Nat.le_trans zx b3.size))))
              go_cut [8, 9] (fun s8 s9 wx => s8 = .int .i32 65536 ∧ s9 = .int .i32 1114111 ∧ Hid (Below w4.heap.size w4 wx))
              case first =>
                go_region_with (fail)
                all_goals
                  go_wp2
                  go_meet
                  exact ⟨rfl, rfl, (((Below.refl _ _).alloc (Nat.le_refl _) _).alloc (by simp) _).drew⟩
              case rest =>
                obtain ⟨rfl, rfl, HX⟩ := hcut
                have HY := hide (b4.out.trans (HX.out.mono b4.out.size))
                have HR5 := hide (hl0.out.below HY.out)
                by_cases p1 : M ≤ N
                · have q1 : decide (M ≤ N) = true := by simpa using p1
                  by_cases p2 : 55296 ≤ M
                  · have q2 : decide (55296 ≤ M) = true := by simpa using p2
                    by_cases p3 : N ≤ 57343
                    · have q3 : decide (N ≤ 57343) = true := by simpa using p3
                      have HO := hide (show begB l = begsF (4 + 1) l by rw [HB.out, show okV 4 lo hi = false by cases h : okV 4 lo hi with | false => rfl | true => have := HM.out.1 h; omega]; rfl)
                      go_wp2
                      go_roundg (6 - 5)
                      case measure => omega
                      case rel => exact ⟨5, by omega, by omega, by omega, rfl, HO.out, HR5.out, HY.out⟩
                    · have q3 : decide (N ≤ 57343) = false := by simpa using p3
                      have HO := hide (show begB l = true by rw [HB.out, HM.out.2 (by omega)]; rfl)
                      go_wp2
                      go_ret
                      rw [HO.out]
                      exact ⟨rfl, HY.out⟩
                  · have q2 : decide (55296 ≤ M) = false := by simpa using p2
                    have HO := hide (show begB l = true by rw [HB.out, HM.out.2 (by omega)]; rfl)
                    go_wp2
                    go_ret
                    rw [HO.out]
                    exact ⟨rfl, HY.out⟩
                · have q1 : decide (M ≤ N) = false := by simpa using p1
                  have HO := hide (show begB l = begsF (4 + 1) l by rw [HB.out, show okV 4 lo hi = false by cases h : okV 4 lo hi with | false => rfl | true => have := HM.out.1 h; omega]; rfl)
                  go_wp2
                  go_roundg (6 - 5)
                  case measure => omega
                  case rel => exact ⟨5, by omega, by omega, by omega, rfl, HO.out, HR5.out, HY.out⟩
    · obtain rfl : k = 5 := by omega
      have HO := hide (show begB l = false by rw [HB.out]; rfl)
      go_wp2
      go_ret
      rw [HO.out]
      exact ⟨rfl, HW.out⟩
end Go.Proofs.Ythbjjhoajecpcaa
