/-
  The document's Parse of numbers walked. No condition but bounds.
-/
import Derived.Test.YthbjjhoajecpcaaPmem
import Derived.Test.YthbjjhoajecpcaaParts
namespace Go.Proofs.Ythbjjhoajecpcaa
open Go.RowKit Go.Proofs
set_option linter.unusedVariables false
theorem Try.u48 : Try.prog.underlying 48 = some (.slice 3) := by kernel_rfl
theorem Try.size3 : (Try.prog.info? 3).map (·.size) = some 1 := by kernel_rfl
theorem Try.u39 : Try.prog.underlying 39 = some (.slice 48) := by kernel_rfl
theorem Try.size48 : (Try.prog.info? 48).map (·.size) = some 1 := by kernel_rfl
/-- The document's groups, somewhere. -/
def NIx (w0 : World) (st : Nst) (v : Value) (wr : World) : Prop := ∃ Bg gO m c gl p1 cl cells, v = .slice (some ⟨gO, 0, none⟩) m c ∧ NI w0.heap.size Bg w0 wr gO m c gl p1 cl cells st
theorem nix_start (w : World) {W w3 : World} (hW : W = (w.alloc (.cells #[.int .i64 (-1)] 3)).alloc (.cells #[.slice (some ⟨w.heap.size, 0, none⟩) 1 1] 48)) : NIx w ⟨[], [], -1⟩ (.slice (some ⟨w.heap.size + 1, 0, none⟩) 1 1) W := by
  subst hW
  have z : (w.alloc (.cells #[.int .i64 (-1)] 3)).heap.size = w.heap.size + 1 := World.size_alloc ..
  refine ⟨w.heap.size, w.heap.size + 1, 1, 1, w.heap.size, 1, 1, [], rfl, ⟨?_, ⟨rfl, fun i l h => by simp at h⟩, ?_, ?_, Nat.le_refl _, by simp; omega, Nat.le_refl _⟩⟩
  · refine ⟨rfl, .inr ⟨w.heap.size + 1, 1, #[.slice (some ⟨w.heap.size, 0, none⟩) 1 1], rfl, by omega, ?_, Nat.le_refl _, by simp [maxLen], rfl, rfl⟩⟩
    have := Blk.new (w.alloc (.cells #[.int .i64 (-1)] 3)) 48 #[.slice (some ⟨w.heap.size, 0, none⟩) 1 1]
    rw [z] at this
    exact this
  · exact ⟨rfl, .inr ⟨w.heap.size, 1, _, rfl, Nat.le_refl _, (Blk.new w 3 #[.int .i64 (-1)]).alloc _, Nat.le_refl _, by simp [maxLen], rfl, rfl⟩⟩
  · exact ((Below.refl _ w).alloc (Nat.le_refl _) _).alloc (by omega) _
set_option maxRecDepth 100000 in
set_option maxHeartbeats 8000000 in
theorem rparse_any (l0 : List Int) (w : World) (N : Nat) (hn : l0.length = N) (hm : N ≤ 1000) (hl : ∀ x ∈ l0, 48 ≤ x ∧ x ≤ 59) : Calls Try.prog 63 #[.string (strOfNums l0)] w (NumsPost (numsF l0) w) := by
  obtain ⟨s, hs⟩ : ∃ s, strOfNums l0 = s := ⟨_, rfl⟩
  have hz : s.size = N := by rw [← hs, strOfNums_size, hn]
  rw [hs]
  have HS := hide hs
  have HL := hide hl
  have HN := hide hn
  have HL0 := hide (show ∀ x ∈ l0, 0 ≤ x ∧ x ≤ 255 from fun x hx => by have := hl x hx; omega)
  have HNF := hide (nums_fold l0 (fun x hx => (hl x hx).1))
  clear hs hl hn
  go_enter Try.func63, Try.ntmps63
  go_wp2_with fail
  go_loopg [4] N (fun g s4 wr => ∃ i : Nat, i + g = N ∧ s4 = .int .i64 i ∧ w = wr)
  case atStart => exact ⟨0, by omega, rfl, rfl⟩
  case round =>
    obtain ⟨i, hi, rfl, rfl⟩ := hrel
    by_cases hlt : i < N
    · obtain ⟨x, hx⟩ : ∃ x, l0[i]? = some x := ⟨_, List.getElem?_eq_getElem (by rw [HN.out]; exact hlt)⟩
      have hsz : i < s.size := by omega
      have hzx := so_get HS.out hx HL0.out hsz
      obtain ⟨hx1, hx2⟩ := HL.out x (List.mem_of_getElem? hx)
      clear hx
      go_wp2_with fail
      go_roundg (N - (i + 1))
      case measure => omega
      case rel => exact ⟨i + 1, by omega, by first | rfl | simp, rfl⟩
    · go_upto_region 7 with (fail)
      have HST := hide (nix_start w (w3 := w) rfl)
      go_name_world W0 hW0
      rw [hW0] at HST
      clear hW0
      go_wp2_with fail
      go_loopg [5, 6] N (fun g s5 s6 wr => ∃ i : Nat, i + g = N ∧ s6 = .int .i64 i ∧ Hid (NIx w (nFold (l0.take i)) s5 wr))
      case atStart => exact ⟨0, by omega, rfl, HST.out⟩
      case round =>
        clear HST hlt
        obtain ⟨i, hi, rfl, HI⟩ := hrel
        obtain ⟨Bg, gO, m, c, gl, p1, cl, cells, rfl, hni⟩ := HI.out
        have hle := hni.len
        obtain ⟨c1, c2, f1, f2, gb1, gb2, gne⟩ := hni.cells_
        have hbase := hni.hBg
        have HNI := hide hni
        have hbd := nFold_len i (l0.take i) (by rw [List.length_take, HN.out]; omega) (fun x hx => (HL.out x (List.mem_of_mem_take hx)).1)
        by_cases hlt : i < N
        · obtain ⟨x, hx⟩ : ∃ x, l0[i]? = some x := ⟨_, List.getElem?_eq_getElem (by rw [HN.out]; exact hlt)⟩
          have hsz : i < s.size := by omega
          have hzx := so_get HS.out hx HL0.out hsz
          obtain ⟨hx1, hx2⟩ := HL.out x (List.mem_of_getElem? hx)
          have HSN := hide (nFold_snoc hx)
          obtain ⟨st, hst⟩ : ∃ st, nFold (l0.take i) = st := ⟨_, rfl⟩
          rw [hst] at hle c1 c2 HNI hbd HSN
          obtain ⟨mm, hmm⟩ : ∃ mm, st.L.length = mm := ⟨_, rfl⟩
          obtain ⟨pp, hpp⟩ : ∃ pp, st.pre.length = pp := ⟨_, rfl⟩
          obtain ⟨v, hv⟩ : ∃ v, st.v = v := ⟨_, rfl⟩
          rw [hmm, hpp] at hle
          rw [hmm] at c1
          rw [hpp, hv] at c2
          rw [hmm, hpp, hv] at hbd
          obtain ⟨hv0, hv1, hmb, hpb⟩ := hbd
          obtain ⟨hm1, hp1⟩ := hle
          have HMM := hide hmm
          have HPP := hide hpp
          have HV := hide hv
          have s1 : (m : Int) - 1 = mm := by omega
          have s2 : IntKind.i64.wrap (mm : Int) = mm := IntWalk.i64_in _ (by omega)
          have s3 : (p1 : Int) - 1 = pp := by omega
          have s4 : IntKind.i64.wrap (pp : Int) = pp := IntWalk.i64_in _ (by omega)
          have hmm2 : mm < m := by omega
          have hpp2 : pp < p1 := by omega
          have hm9 : m ≤ 2000 := by omega
          have hp9 : p1 ≤ 2000 := by omega
          clear hx hst hmm hpp hv hni HI hm1 hp1
          by_cases k59 : x = 59
          · subst k59
            have HX := hide (show nStep st 59 = ⟨st.L ++ [st.pre ++ [st.v]], [], -1⟩ by unfold nStep; rw [if_pos rfl])
            have OW := hide ((HNI.out.out.alloc (.cells #[.int .i64 (-1)] 3)))
            go_wp2_with (at_builtin; go_must (refine wpList_append1 Try.sl39 rfl _ _ rfl w.heap.size (.slice (some ⟨gO, 0, none⟩) m c) m _ #[.slice (some ⟨wr.heap.size, 0, none⟩) 1 1] (wr.alloc (.cells #[.int .i64 (-1)] 3)) 1 rfl rfl (by simp) OW.out rfl (by intro u hu; simp at hu; subst hu; rfl) (by simp only [maxLen]; omega) (by omega) (by have := HNI.out.hB; simp; omega) ?_; intro A3 c3 w3 app))
            obtain ⟨g', rfl, hn'⟩ := HNI.out.group app
            have HN' := hide hn'
            clear hn' app
            go_roundg (N - (i + 1))
            case measure => omega
            case rel =>
              refine ⟨i + 1, by omega, by first | rfl | simp, ?_⟩
              show NIx _ _ _ _
              rw [HSN.out, HX.out]
              exact ⟨_, _, _, _, _, _, _, _, rfl, HN'.out⟩
          · have b59 : (x == 59) = false := by simpa using k59
            by_cases k58 : x = 58
            · subst k58
              have HX := hide (show nStep st 58 = ⟨st.L, st.pre ++ [st.v], -1⟩ by unfold nStep; rw [if_neg (by omega), if_pos rfl])
              have HBg := hide HNI.out.hBg
              go_wp2_with (at_builtin; go_must (refine wpList_append1 Try.sl48 rfl _ _ rfl Bg (.slice (some ⟨gl, 0, none⟩) p1 cl) p1 _ #[.int .i64 (-1)] wr 1 rfl rfl rfl HNI.out.last rfl (by intro u hu; simp at hu; subst hu; rfl) (by simp only [maxLen]; omega) (by omega) hbase ?_; intro A3 c3 w3 app; have MO := HNI.out.more app; rw [HMM.out] at MO; obtain ⟨g', hA', d1, d2, d3, hn'⟩ := MO; subst hA'; have HN' := hide hn'; clear hn' app))
              go_roundg (N - (i + 1))
              case measure => omega
              case rel =>
                refine ⟨i + 1, by omega, by first | rfl | simp, ?_⟩
                show NIx _ _ _ _
                rw [HSN.out, HX.out]
                exact ⟨_, _, _, _, _, _, _, _, rfl, HN'.out⟩
            · have b58 : (x == 58) = false := by simpa using k58
              have e0 : IntKind.i64.wrap x = x := IntWalk.i64_in _ (by omega)
              have hx57 : x ≤ 57 := by omega
              have SE := hide (fun (v' : Int) => HNI.out.set_ v')
              rw [HPP.out] at SE
              by_cases hvn : v < 0
              · have HX := hide (show nStep st x = ⟨st.L, st.pre, x - 48⟩ by
                  unfold nStep digF
                  rw [if_neg k59, if_neg k58, HV.out, if_pos hvn]
                  congr 1
                  omega)
                have e2 : IntKind.i64.wrap (x - 48) = x - 48 := IntWalk.i64_in _ (by omega)
                have e3 : decide (65535 < x - 48) = false := by simp; omega
                go_wp2_with fail
                go_roundg (N - (i + 1))
                case measure => omega
                case rel =>
                  refine ⟨i + 1, by omega, by first | rfl | simp, ?_⟩
                  show NIx _ _ _ _
                  rw [HSN.out, HX.out]
                  exact ⟨_, _, _, _, _, _, _, _, rfl, SE.out (x - 48)⟩
              · have bvn : decide (v < 0) = false := by simpa using hvn
                obtain ⟨z1, hz1⟩ : ∃ z1, 10 * v = z1 := ⟨_, rfl⟩
                obtain ⟨z2, hz2⟩ : ∃ z2, z1 + x = z2 := ⟨_, rfl⟩
                obtain ⟨z3, hz3⟩ : ∃ z3, z2 - 48 = z3 := ⟨_, rfl⟩
                have hz3b : 0 ≤ z3 ∧ z3 ≤ 1000000 := by omega
                obtain ⟨hz3b, hz3c⟩ := hz3b
                have g1 : IntKind.i64.wrap z1 = z1 := IntWalk.i64_in _ (by omega)
                have g2 : IntKind.i64.wrap z2 = z2 := IntWalk.i64_in _ (by omega)
                have g3 : IntKind.i64.wrap z3 = z3 := IntWalk.i64_in _ (by omega)
                by_cases k65 : 65535 < z3
                · have HX := hide (show nStep st x = ⟨st.L, st.pre, 65535⟩ by
                    unfold nStep digF
                    rw [if_neg k59, if_neg k58, HV.out, if_neg hvn]
                    congr 1
                    omega)
                  go_wp2_with fail
                  go_roundg (N - (i + 1))
                  case measure => omega
                  case rel =>
                    refine ⟨i + 1, by omega, by first | rfl | simp, ?_⟩
                    show NIx _ _ _ _
                    rw [HSN.out, HX.out]
                    exact ⟨_, _, _, _, _, _, _, _, rfl, SE.out 65535⟩
                · have b65 : decide (65535 < z3) = false := by simpa using k65
                  have HX := hide (show nStep st x = ⟨st.L, st.pre, z3⟩ by
                    unfold nStep digF
                    rw [if_neg k59, if_neg k58, HV.out, if_neg hvn]
                    congr 1
                    omega)
                  go_wp2_with fail
                  go_roundg (N - (i + 1))
                  case measure => omega
                  case rel =>
                    refine ⟨i + 1, by omega, by first | rfl | simp, ?_⟩
                    show NIx _ _ _ _
                    rw [HSN.out, HX.out]
                    exact ⟨_, _, _, _, _, _, _, _, rfl, SE.out z3⟩
        · have HT := hide (show l0.take i = l0 from List.take_of_length_le (by rw [HN.out]; omega))
          rw [HT.out] at HNI hle hbd
          have HGL := hide (show (groupsOf (nFold l0)).length = m by unfold groupsOf; simp; omega)
          have hm9 : m ≤ 2000 := by omega
          have hrm : True := trivial
          clear c1 c2 f1 f2 hle hbd hni HI
          by_cases h32 : 32 < m
          · have HM := hide (show min 32 m = 32 by omega)
            have a32 : (32 : Int) ≤ c := by
              obtain ⟨_, _, _, hmc, _⟩ := HNI.out.all
              omega
            have e9 : cutA (some (⟨gO, 0, none⟩ : Addr)) c 0 1 = some ⟨gO, 0, none⟩ := cutA_zero _ _ _
            have cu := fun W => cut_h (P := Try.prog) (t := 39) (a := some (⟨gO, 0, none⟩ : Addr)) (len := m) (cap := c) (s := 1) Try.u39 Try.size48 32 (H := 32) rfl (by omega) W
            rw [e9] at cu
            have hMm : 32 ≤ m := by omega
            go_wp2_with fail
            obtain ⟨cur, hcur, hBO, hmc, hall⟩ := HNI.out.all
            have HC := hide hcur
            have HA := hide (show ∀ i, i < 32 → ∃ l u, (groupsOf (nFold l0))[i]? = some l ∧ cur[i]? = some u ∧ IntsC wr u l from fun i hi => by
              obtain ⟨l, hl⟩ : ∃ l, (groupsOf (nFold l0))[i]? = some l := ⟨_, List.getElem?_eq_getElem (by rw [HGL.out]; omega)⟩
              obtain ⟨u, h1, h2⟩ := hall i l hl
              exact ⟨l, u, hl, h1, h2⟩)
            have HBO := hide hBO
            have HBW := hide HNI.out.below
            clear hcur hall hBO hrm
            go_loopg [10] 32 (fun g s10 wr => ∃ (k : Nat) (cs : Array Value), k + g = 32 ∧ s10 = .int .i64 k ∧ Blk wr gO 48 cs ∧ Below w.heap.size w wr ∧ Hid (∀ i, i < 32 → ∃ l u, (groupsOf (nFold l0))[i]? = some l ∧ cs[i]? = some u ∧ IntsC wr u (if i < k then l.take 8 else l)))
            case atStart => exact ⟨0, cur, by omega, rfl, HC.out, HBW.out, fun i hi => by obtain ⟨l, u, h1, h2, h3⟩ := HA.out i hi; exact ⟨l, u, h1, h2, by rw [if_neg (by omega)]; exact h3⟩⟩
            case round =>
              clear HA HBW HC HNI
              obtain ⟨k, cs, hk, rfl, hcs, hbw, HA⟩ := hrel
              have hgl := hcs.lt
              by_cases hlt : k < 32
              · obtain ⟨l, u, h1, h2, h3⟩ := HA.out k hlt
                rw [if_neg (by omega)] at h3
                obtain ⟨gg, cc, cs3, rfl, i2, i3, i4, i5⟩ := id h3
                have c1 := hcs.cell k
                have f1 := hcs.frozen k
                rw [h2] at c1
                have H3 := hide h3
                obtain ⟨L, hL⟩ : ∃ L, l.length = L := ⟨_, rfl⟩
                rw [hL] at c1 i2 H3
                have HL3 := hide hL
                have HCS := hide hcs
                have HBW := hide hbw
                have H1 := hide h1
                have H2 := hide h2
                have hB0 := hbw.size
                clear h1 h2 h3 i4 i5 hL hcs hbw
                by_cases h8 : 8 < L
                · have HN := hide (show ∀ W, Blk W gO 48 (cs.setIfInBounds k (.slice (some ⟨gg, 0, none⟩) 8 cc)) → (∀ g c, Blk wr g 3 c → Blk W g 3 c) → ∀ i, i < 32 → ∃ l u, (groupsOf (nFold l0))[i]? = some l ∧ (cs.setIfInBounds k (.slice (some ⟨gg, 0, none⟩) 8 cc))[i]? = some u ∧ IntsC W u (if i < k + 1 then l.take 8 else l) from fun W hW hk3 i hi => by
                    by_cases hik : i = k
                    · subst hik
                      have hsz : i < cs.size := by
                        have := H2.out
                        exact (Array.getElem?_eq_some_iff.1 this).1
                      exact ⟨l, .slice (some ⟨gg, 0, none⟩) 8 cc, H1.out, by simp [hsz], by rw [if_pos (by omega)]; exact (H3.out.front h8).keep hk3⟩
                    · obtain ⟨l', u, h1, h2, h3⟩ := HA.out i hi
                      refine ⟨l', u, h1, by rw [Array.getElem?_setIfInBounds_ne (by omega)]; exact h2, ?_⟩
                      have e : (i < k + 1) = (i < k) := by simp; omega
                      simp only [e]
                      exact h3.keep hk3)
                  have a8 : (8 : Int) ≤ cc := by omega
                  have e9 : cutA (some (⟨gg, 0, none⟩ : Addr)) cc 0 1 = some ⟨gg, 0, none⟩ := cutA_zero _ _ _
                  have cu := fun W => cut_h (P := Try.prog) (t := 48) (a := some (⟨gg, 0, none⟩ : Addr)) (len := L) (cap := cc) (s := 1) Try.u48 Try.size3 8 (H := 8) rfl (by omega) W
                  rw [e9] at cu
                  go_wp2_with fail
                  go_roundg (32 - (k + 1))
                  case measure => omega
                  case rel =>
                    have hs := HCS.out.set_ k (.slice (some ⟨gg, 0, none⟩) 8 cc)
                    refine ⟨k + 1, _, by omega, by first | rfl | simp, hs, HBW.out.setCell (p := ⟨gO, k, none⟩) HBO.out _, HN.out _ hs (fun g c hb => hb.far (p := ⟨gO, k, none⟩) (hb.ne_ HCS.out (by decide)) _)⟩
                · have b8 : decide (8 < L) = false := by simpa using h8
                  have HN := hide (show ∀ i, i < 32 → ∃ l u, (groupsOf (nFold l0))[i]? = some l ∧ cs[i]? = some u ∧ IntsC wr u (if i < k + 1 then l.take 8 else l) from fun i hi => by
                    by_cases hik : i = k
                    · subst hik
                      refine ⟨l, _, H1.out, H2.out, ?_⟩
                      rw [if_pos (by omega), List.take_of_length_le (by rw [HL3.out]; omega)]
                      rw [HL3.out]
                      exact H3.out
                    · obtain ⟨l', u, h1, h2, h3⟩ := HA.out i hi
                      refine ⟨l', u, h1, h2, ?_⟩
                      have e : (i < k + 1) = (i < k) := by simp; omega
                      simp only [e]
                      exact h3)
                  go_wp2_with fail
                  go_roundg (32 - (k + 1))
                  case measure => omega
                  case rel => exact ⟨k + 1, cs, by omega, by first | rfl | simp, HCS.out, HBW.out, HN.out⟩
              · have hkM : k = 32 := by omega
                have HF := hide (show NumsAt wr (.slice (some ⟨gO, 0, none⟩) 32 c) (numsF l0) by
                  have hlen : (numsF l0).length = 32 := by rw [HNF.out, List.length_map, List.length_take, HGL.out]; exact HM.out
                  refine ⟨_, c, by rw [hlen], fun _ => ⟨gO, cs, rfl, hcs, fun i l hl => ?_⟩⟩
                  have hi : i < 32 := by rw [← hlen]; exact (List.getElem?_eq_some_iff.1 hl).1
                  obtain ⟨l', u, h1, h2, h3⟩ := HA.out i hi
                  rw [if_pos (by omega)] at h3
                  refine ⟨u, h2, ?_⟩
                  rw [HNF.out, List.getElem?_map, List.getElem?_take_of_lt (by have := HM.out; omega), h1] at hl
                  simp at hl
                  rw [← hl]
                  exact h3.at_)
                have HBW := hide hbw
                clear hcs HA hbw
                go_wp2_with fail
                go_ret2
                exact ⟨_, rfl, HF.out, HBW.out⟩
          · have b32 : decide (32 < m) = false := by simpa using h32
            have HM := hide (show min 32 m = m by omega)
            go_wp2_with fail
            obtain ⟨cur, hcur, hBO, hmc, hall⟩ := HNI.out.all
            have HC := hide hcur
            have HA := hide (show ∀ i, i < m → ∃ l u, (groupsOf (nFold l0))[i]? = some l ∧ cur[i]? = some u ∧ IntsC wr u l from fun i hi => by
              obtain ⟨l, hl⟩ : ∃ l, (groupsOf (nFold l0))[i]? = some l := ⟨_, List.getElem?_eq_getElem (by rw [HGL.out]; omega)⟩
              obtain ⟨u, h1, h2⟩ := hall i l hl
              exact ⟨l, u, hl, h1, h2⟩)
            have HBO := hide hBO
            have HBW := hide HNI.out.below
            clear hcur hall hBO hrm
            go_loopg [10] m (fun g s10 wr => ∃ (k : Nat) (cs : Array Value), k + g = m ∧ s10 = .int .i64 k ∧ Blk wr gO 48 cs ∧ Below w.heap.size w wr ∧ Hid (∀ i, i < m → ∃ l u, (groupsOf (nFold l0))[i]? = some l ∧ cs[i]? = some u ∧ IntsC wr u (if i < k then l.take 8 else l)))
            case atStart => exact ⟨0, cur, by omega, rfl, HC.out, HBW.out, fun i hi => by obtain ⟨l, u, h1, h2, h3⟩ := HA.out i hi; exact ⟨l, u, h1, h2, by rw [if_neg (by omega)]; exact h3⟩⟩
            case round =>
              clear HA HBW HC HNI
              obtain ⟨k, cs, hk, rfl, hcs, hbw, HA⟩ := hrel
              have hgl := hcs.lt
              by_cases hlt : k < m
              · obtain ⟨l, u, h1, h2, h3⟩ := HA.out k hlt
                rw [if_neg (by omega)] at h3
                obtain ⟨gg, cc, cs3, rfl, i2, i3, i4, i5⟩ := id h3
                have c1 := hcs.cell k
                have f1 := hcs.frozen k
                rw [h2] at c1
                have H3 := hide h3
                obtain ⟨L, hL⟩ : ∃ L, l.length = L := ⟨_, rfl⟩
                rw [hL] at c1 i2 H3
                have HL3 := hide hL
                have HCS := hide hcs
                have HBW := hide hbw
                have H1 := hide h1
                have H2 := hide h2
                have hB0 := hbw.size
                clear h1 h2 h3 i4 i5 hL hcs hbw
                by_cases h8 : 8 < L
                · have HN := hide (show ∀ W, Blk W gO 48 (cs.setIfInBounds k (.slice (some ⟨gg, 0, none⟩) 8 cc)) → (∀ g c, Blk wr g 3 c → Blk W g 3 c) → ∀ i, i < m → ∃ l u, (groupsOf (nFold l0))[i]? = some l ∧ (cs.setIfInBounds k (.slice (some ⟨gg, 0, none⟩) 8 cc))[i]? = some u ∧ IntsC W u (if i < k + 1 then l.take 8 else l) from fun W hW hk3 i hi => by
                    by_cases hik : i = k
                    · subst hik
                      have hsz : i < cs.size := by
                        have := H2.out
                        exact (Array.getElem?_eq_some_iff.1 this).1
                      exact ⟨l, .slice (some ⟨gg, 0, none⟩) 8 cc, H1.out, by simp [hsz], by rw [if_pos (by omega)]; exact (H3.out.front h8).keep hk3⟩
                    · obtain ⟨l', u, h1, h2, h3⟩ := HA.out i hi
                      refine ⟨l', u, h1, by rw [Array.getElem?_setIfInBounds_ne (by omega)]; exact h2, ?_⟩
                      have e : (i < k + 1) = (i < k) := by simp; omega
                      simp only [e]
                      exact h3.keep hk3)
                  have a8 : (8 : Int) ≤ cc := by omega
                  have e9 : cutA (some (⟨gg, 0, none⟩ : Addr)) cc 0 1 = some ⟨gg, 0, none⟩ := cutA_zero _ _ _
                  have cu := fun W => cut_h (P := Try.prog) (t := 48) (a := some (⟨gg, 0, none⟩ : Addr)) (len := L) (cap := cc) (s := 1) Try.u48 Try.size3 8 (H := 8) rfl (by omega) W
                  rw [e9] at cu
                  go_wp2_with fail
                  go_roundg (m - (k + 1))
                  case measure => omega
                  case rel =>
                    have hs := HCS.out.set_ k (.slice (some ⟨gg, 0, none⟩) 8 cc)
                    refine ⟨k + 1, _, by omega, by first | rfl | simp, hs, HBW.out.setCell (p := ⟨gO, k, none⟩) HBO.out _, HN.out _ hs (fun g c hb => hb.far (p := ⟨gO, k, none⟩) (hb.ne_ HCS.out (by decide)) _)⟩
                · have b8 : decide (8 < L) = false := by simpa using h8
                  have HN := hide (show ∀ i, i < m → ∃ l u, (groupsOf (nFold l0))[i]? = some l ∧ cs[i]? = some u ∧ IntsC wr u (if i < k + 1 then l.take 8 else l) from fun i hi => by
                    by_cases hik : i = k
                    · subst hik
                      refine ⟨l, _, H1.out, H2.out, ?_⟩
                      rw [if_pos (by omega), List.take_of_length_le (by rw [HL3.out]; omega)]
                      rw [HL3.out]
                      exact H3.out
                    · obtain ⟨l', u, h1, h2, h3⟩ := HA.out i hi
                      refine ⟨l', u, h1, h2, ?_⟩
                      have e : (i < k + 1) = (i < k) := by simp; omega
                      simp only [e]
                      exact h3)
                  go_wp2_with fail
                  go_roundg (m - (k + 1))
                  case measure => omega
                  case rel => exact ⟨k + 1, cs, by omega, by first | rfl | simp, HCS.out, HBW.out, HN.out⟩
              · have hkM : k = m := by omega
                have HF := hide (show NumsAt wr (.slice (some ⟨gO, 0, none⟩) m c) (numsF l0) by
                  have hlen : (numsF l0).length = m := by rw [HNF.out, List.length_map, List.length_take, HGL.out]; exact HM.out
                  refine ⟨_, c, by rw [hlen], fun _ => ⟨gO, cs, rfl, hcs, fun i l hl => ?_⟩⟩
                  have hi : i < m := by rw [← hlen]; exact (List.getElem?_eq_some_iff.1 hl).1
                  obtain ⟨l', u, h1, h2, h3⟩ := HA.out i hi
                  rw [if_pos (by omega)] at h3
                  refine ⟨u, h2, ?_⟩
                  rw [HNF.out, List.getElem?_map, List.getElem?_take_of_lt (by have := HM.out; omega), h1] at hl
                  simp at hl
                  rw [← hl]
                  exact h3.at_)
                have HBW := hide hbw
                clear hcs HA hbw
                go_wp2_with fail
                go_ret2
                exact ⟨_, rfl, HF.out, HBW.out⟩
end Go.Proofs.Ythbjjhoajecpcaa
