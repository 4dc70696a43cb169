/-
  The law UtfJoins, walked. No condition but what the arguments' kinds bear.
-/
import Derived.Test.YtlmgglkicdlchaaLawEnds
import Derived.Lib.AppendStr
namespace Go.Proofs.Ytlmgglkicdlchaa
open Go.RowKit Go.Proofs
set_option linter.unusedVariables false
theorem put_nil {r : Int} (h : scalarB r = false) : putF r = [] := by unfold putF; rw [if_pos h]
theorem all_enc : ∀ (l rest : List Int), allF (l.flatMap putF ++ rest) = l.filter scalarB ++ allF rest
  | [], rest => rfl
  | r :: l, rest => by
    rw [List.flatMap_cons, List.append_assoc]
    cases h : scalarB r with
    | true => rw [all_put h, all_enc l rest, List.filter_cons_of_pos h]; rfl
    | false => rw [put_nil h, List.nil_append, all_enc l rest, List.filter_cons_of_neg (by rw [h]; simp)]
theorem enc_bytes (l : List Int) : ∀ x ∈ l.flatMap putF, IsByte x := by
  intro x hx
  obtain ⟨r, _, h⟩ := List.mem_flatMap.1 hx
  exact putF_bytes r x h
theorem put_len (r : Int) : (putF r).length ≤ 4 := by unfold putF; (repeat' split) <;> simp
theorem enc_len : ∀ l : List Int, (l.flatMap putF).length ≤ 4 * l.length
  | [] => by simp
  | r :: l => by
    have := put_len r
    have := enc_len l
    rw [List.flatMap_cons, List.length_append, List.length_cons]
    omega
theorem str_cells {p : List Int} (hq : ∀ x ∈ p, IsByte x) : Go.Lib.strCells (strOfNums p) = p.map b8 := by
  unfold Go.Lib.strCells
  rw [strOfNums_data, List.map_map]
  refine List.map_congr_left fun x hx => ?_
  have hb := hq x hx
  unfold IsByte at hb
  show Value.int .u8 ((UInt8.ofNat x.toNat).toNat : Int) = b8 x
  rw [UInt8.toNat_ofNat']
  unfold b8
  congr 1
  omega
theorem filter_at {f : Int → Bool} : ∀ (l : List Int) (i : Nat) (x : Int), l[i]? = some x → f x = true → (l.filter f)[((l.take i).filter f).length]? = some x
  | [], i, x, h, _ => by simp at h
  | y :: l, 0, x, h, hf => by
    simp at h
    subst h
    simp [hf]
  | y :: l, i + 1, x, h, hf => by
    simp at h
    have ih := filter_at l i x h hf
    rw [List.take_succ_cons]
    cases hy : f y with
    | true => rw [List.filter_cons_of_pos hy, List.filter_cons_of_pos hy, List.length_cons, List.getElem?_cons_succ]; exact ih
    | false => rw [List.filter_cons_of_neg (by rw [hy]; simp), List.filter_cons_of_neg (by rw [hy]; simp)]; exact ih
theorem filter_snoc {f : Int → Bool} {l : List Int} {k : Nat} {x : Int} (h : l[k]? = some x) : ((l.take (k + 1)).filter f) = (l.take k).filter f ++ if f x = true then [x] else [] := by
  rw [take_snoc h, List.filter_append]
  cases hf : f x <;> simp [hf]
theorem filter_le {f : Int → Bool} (l : List Int) (k : Nat) : ((l.take k).filter f).length ≤ (l.filter f).length ∧ ((l.take k).filter f).length ≤ k := by
  constructor
  · have e : l.filter f = (l.take k).filter f ++ (l.drop k).filter f := by rw [← List.filter_append, List.take_append_drop]
    rw [e, List.length_append]; omega
  · have := List.length_filter_le f (l.take k)
    rw [List.length_take] at this
    omega
theorem own_empty (w : World) (e : TypeId) (s : Nat) : (w.alloc (.cells #[] e)).ownsRow w.heap.size e s (.slice (some ⟨w.heap.size, 0, none⟩) 0 0) 0 [] :=
  ⟨by simp, .inr ⟨w.heap.size, 0, #[], rfl, Nat.le_refl _, Blk.new _ _ _, Nat.le_refl _, by simp [maxLen], by simp, by simp⟩⟩
theorem own_mono {w : World} {base base' : Nat} {e : TypeId} {s n : Nat} {v : Value} {xs : List Value} (h : w.ownsRow base e s v n xs) (hb : base' ≤ base) : w.ownsRow base' e s v n xs := by
  refine ⟨h.1, ?_⟩
  rcases h.2 with h2 | ⟨g, cap, cur, e1, h1, rest⟩
  · exact .inl h2
  · exact .inr ⟨g, cap, cur, e1, Nat.le_trans hb h1, rest⟩
theorem str_full {p : List Int} (h : p ≠ []) : (strOfNums p).toList.isEmpty = false ∧ ¬ (strOfNums p).toList = [] := by
  have hl : (strOfNums p).toList.length = p.length := by rw [ByteArray.toList_eq]; exact strOfNums_size p
  have hp : 0 < p.length := List.length_pos_iff.2 h
  have h0 : ¬ (strOfNums p).toList = [] := by intro e; rw [e] at hl; simp at hl; omega
  refine ⟨?_, h0⟩
  cases e : (strOfNums p).toList with
  | nil => exact absurd e h0
  | cons a b => rfl
theorem cut25_l {A : Option Addr} {n c k : Nat} (h : k ≤ n) (w : World) : (Instr.slice 25 (.slice A n c) (some (.int .i64 (k : Int))) none none).run Try.prog w = .ok (.slice (cutA A c k 1) (n - k) (c - k)) w :=
  cut_l (P := Try.prog) (t := 25) (e := 21) (a := A) (len := n) (cap := c) (s := 1) (by kernel_rfl) (by kernel_rfl) (L := (k : Int)) k rfl h w
set_option maxRecDepth 100000 in
set_option maxHeartbeats 4000000 in
theorem utfJoins_walk (w : World) (A : Option Addr) (n c : Nat) (l : List Int) (hl : l.length = n) (hnc : n ≤ c) (hcm : c ≤ maxLen) (hrd : Rd w w.heap.size 1 A n (l.map r32)) (hq : ∀ x ∈ l, True)
    (A' : Option Addr) (n' c' : Nat) (l' : List Int) (hl' : l'.length = n') (hnc' : n' ≤ c') (hcm' : c' ≤ maxLen) (hrd' : Rd w w.heap.size 1 A' n' (l'.map b8)) (hq' : ∀ x ∈ l', IsByte x) :
    Calls Try.prog 9 #[.slice A n c, .slice A' n' c'] w fun e w' => e = .returned (.bool true) ∧ Below w.heap.size w w' := by
  have AW := hide awake_any
  by_cases hbig : 100 < n
  · have d1 : decide (100 < n) = true := by simpa using hbig
    have d2 : decide (100 < (n : Int)) = true := by simp; omega
    clear hrd hq hl hcm hrd' hq' hl' hcm'
    go_enter Try.func9, Try.ntmps9
    go_wp2_with (go_at_call 10; go_must (refine (AW.out _).mono ?_; rintro e w1 ⟨rfl, b1⟩))
    go_ret
    exact ⟨rfl, b1⟩
  · have hn : n ≤ 100 := by omega
    have d1 : decide (100 < n) = false := by simpa using hbig
    have d2 : decide (100 < (n : Int)) = false := by simp; omega
    by_cases hbig' : 100 < n'
    · have d3 : decide (100 < n') = true := by simpa using hbig'
      have d4 : decide (100 < (n' : Int)) = true := by simp; omega
      clear hrd hq hl hcm hrd' hq' hl' hcm'
      go_enter Try.func9, Try.ntmps9
      go_wp2_with (go_at_call 10; go_must (refine (AW.out _).mono ?_; rintro e w1 ⟨rfl, b1⟩))
      go_ret
      exact ⟨rfl, b1⟩
    · have hn' : n' ≤ 100 := by omega
      have d3 : decide (100 < n') = false := by simpa using hbig'
      have d4 : decide (100 < (n' : Int)) = false := by simp; omega
      have HR := hide hrd
      have HL := hide hl
      have HR' := hide hrd'
      have HQ' := hide hq'
      have HL' := hide hl'
      have PU := hide (fun (r : Int) (W : World) => put_any r W)
      obtain ⟨ib, zb, ht, hi, hz, h2, h3, h4, h5⟩ := Try.sl22
      have hz0 : ib.zero = some (.int .u8 0) := by
        have e : (Try.prog.info? 5).map (·.zero) = some (some (.int .u8 0)) := by kernel_rfl
        rw [hi] at e
        simpa using e
      have APS := hide (And.intro ht (And.intro hi (And.intro hz0 (And.intro h2 h3))))
      clear hrd hq hl hcm hbig hrd' hq' hl' hcm' hbig' ht hi hz h2 h3 h4 h5 hz0
      go_enter Try.func9, Try.ntmps9
      go_wp2
      go_loopg [5, 6, 7] n (fun g s5 s6 s7 wr => ∃ (k p m : Nat), k + g = n ∧ s7 = .int .i64 k ∧ s6 = .int .i64 m ∧ p ≤ 4 * k ∧ m ≤ k ∧ Hid (((l.take k).filter scalarB).length = m) ∧ wr.ownsRow w.heap.size 5 1 s5 p (((l.take k).flatMap putF).map b8) ∧ Hid (Below w.heap.size w wr))
      case atStart => exact ⟨0, 0, 0, by omega, rfl, rfl, by omega, by omega, rfl, World.ownsRow_nil _ _ _ _, Below.refl _ _⟩
      case round =>
        obtain ⟨k, p, m, hkg, rfl, rfl, hp, hm, HM, hown, HW⟩ := hrel
        obtain ⟨A0, c0, rfl⟩ := own_slice hown
        have zr := HW.out.size
        by_cases hlt : k < n
        · have d5 : decide (k < n) = true := by simpa using hlt
          obtain ⟨bl, off, x, rfl, hbB, ex, cx⟩ := (HR.out.below HW.out).at1 hlt
          unfold r32 at cx
          have PU1 := PU.out x wr
          have hfs := filter_snoc (f := scalarB) ex
          have hft := flat_take_snoc (f := putF) ex
          have hpl := put_len x
          cases hs : scalarB x with
          | false =>
            rw [put_nil hs] at PU1 hft
            rw [hs, if_neg (by simp), List.append_nil] at hfs
            have PU2 := hide (show Calls Try.prog 21 #[.int .i32 x] wr fun e w' => e = .returned (.string { data := #[] }) ∧ Below wr.heap.size wr w' from PU1)
            have HFT := hide hft
            have HFS := hide hfs
            clear hs hfs hft ex PU1
            go_wp2_with (go_at_call 21; go_must (refine (PU2.out).mono ?_; rintro e w1 ⟨rfl, b1⟩))
            go_roundg (n - (k + 1))
            case measure => omega
            case rel => exact ⟨k + 1, p, m, by omega, by go_num, rfl, by omega, by omega, by rw [HFS.out]; exact HM, by rw [HFT.out, List.append_nil]; exact own_call hown b1, below_in HW.out b1 (Nat.le_refl _)⟩
          | true =>
            have hne := (one_put hs).2.2
            have hqb := putF_bytes x
            rw [hs, if_pos rfl] at hfs
            obtain ⟨q, hqq⟩ : ∃ q, putF x = q := ⟨_, rfl⟩
            obtain ⟨j, hj⟩ : ∃ j, q.length = j := ⟨_, rfl⟩
            rw [hqq] at PU1 hft hpl hne hqb
            obtain ⟨f1, f2⟩ := str_full hne
            have hsz := strOfNums_size q
            have hsc := hide (str_cells hqb)
            rw [hj] at hsz hpl
            obtain ⟨s, hss⟩ : ∃ s, strOfNums q = s := ⟨_, rfl⟩
            unfold RetS at PU1
            rw [hss] at PU1 hsz f1 f2 hsc
            have PU2 := hide PU1
            have HFT := hide hft
            have HFS := hide hfs
            have HSZ := hide hsz
            clear hs hfs hft ex hqq hj hss hne hqb PU1 hsz
            go_wp2_with (first
              | (go_at_call 21; go_must (refine (PU2.out).mono ?_; rintro e w1 ⟨rfl, b1⟩; have o1 := own_call hown b1; have z1 := Nat.le_trans zr b1.size; have HW1 := hide (below_in HW.out b1 (Nat.le_refl _))))
              | (at_builtin; go_must (refine Go.Lib.wpList_append_own_string _ rfl _ _ 22 9 rfl w.heap.size 5 ib APS.out.1 Try.ub9 APS.out.2.1 APS.out.2.2.1 APS.out.2.2.2.1 APS.out.2.2.2.2 (.slice A0 p c0) p (((l.take k).flatMap putF).map b8) rfl o1 s rfl (by rw [HSZ.out]; simp only [maxLen]; omega) (by rw [HSZ.out]; omega) z1 ?_; intro v2 w2 hown2 hgrow hnil; rw [HSZ.out, hsc.out] at hown2; obtain ⟨A2, c2, rfl⟩ := own_slice hown2; have HW2 := hide (HW1.out.grown hgrow z1 (fun i e => (o1.lt i e).1)))))
            go_roundg (n - (k + 1))
            case measure => omega
            case rel => exact ⟨k + 1, p + j, m + 1, by omega, by go_num, by go_num, by omega, by omega, by rw [HFS.out, List.length_append, HM.out]; rfl, by rw [HFT.out, List.map_append]; exact hown2, HW2.out⟩
        · obtain rfl : n = k := by omega
          have d5 : decide (n < n) = false := by simp
          have e0 : l.take n = l := List.take_of_length_le (by rw [HL.out]; exact Nat.le_refl _)
          rw [e0] at hown HM
          have zp := own_len1 hown
          have hel := enc_len l
          rw [HL.out] at hel
          have hall := all_enc l l'
          have HALL := hide hall
          have hal := allF_len n' l' (by rw [HL'.out]; exact Nat.le_refl _)
          rw [HL'.out] at hal
          obtain ⟨mm, hmm⟩ : ∃ mm, (allF l').length = mm := ⟨_, rfl⟩
          rw [hmm] at hal
          obtain ⟨tot, htot⟩ : ∃ tot, m + mm = tot := ⟨_, rfl⟩
          have HTOT := hide (show (l.filter scalarB ++ allF l').length = tot by rw [List.length_append, HM.out, hmm, htot])
          have hsum : (m : Int) + mm = tot := by omega
          have HTT := hide htot
          have htb : tot ≤ 200 := by omega
          have HMM := hide hmm
          have hbq : ∀ x ∈ l.flatMap putF ++ l', IsByte x := by
            intro x hx
            rcases List.mem_append.1 hx with h | h
            · exact enc_bytes l x h
            · exact HQ'.out x h
          have AL1 := hide (fun (A : Option Addr) (c : Nat) (W : World) (h : Rd W W.heap.size 1 A (p + n') ((l.flatMap putF ++ l').map b8)) => show Calls Try.prog 12 #[.slice A (p + n') c] W (RetSlice 21 1 ((l.filter scalarB ++ allF l').map r32) W) by
            have := all_any (l.flatMap putF ++ l') A (p + n') c W h hbq (by omega)
            rwa [hall] at this)
          have AL2 := hide (fun (W : World) (h : Below w.heap.size w W) => show Calls Try.prog 12 #[.slice A' n' c'] W (RetSlice 21 1 ((allF l').map r32) W) from
            all_any l' A' n' c' W ((HR'.out.below h).more h.size) HQ'.out (by omega))
          obtain ⟨ec, hec⟩ : ∃ ec, l.flatMap putF = ec := ⟨_, rfl⟩
          rw [hec] at hown AL1
          have hoe := own_empty wr 5 1
          have hrb := Rd.of_own (hown.alloc (.cells #[] 5))
          have hpp : p ≤ 400 := by omega
          clear hall hal hmm hbq hec zp hel e0 htot
          go_upto_region 16 with (first
            | (at_builtin; go_must (first
                | (refine wpList_appends Try.sl22 rfl _ _ rfl wr.heap.size (.slice (some ⟨wr.heap.size, 0, none⟩) 0 0) 0 [] _ _ A0 p c0 (ec.map b8) rfl rfl hoe hrb (one_b8 ec) (by simp only [maxLen]; omega) (by omega) (by simp) ?_; intro A1 c1 w1 app1; simp only [Nat.zero_add, List.nil_append] at app1; have B1 := hide (app1.below hoe ((Below.refl _ _).alloc (Nat.le_refl _) _) (Nat.le_refl _) (by simp)); have HW1 := hide (below_in HW.out B1.out (Nat.le_refl _)); have o1 := app1.own; have zz1 := B1.out.size)
                | (refine wpList_appends Try.sl22 rfl _ _ rfl wr.heap.size (.slice A1 p c1) p (ec.map b8) _ w.heap.size A' n' c' (l'.map b8) rfl rfl o1 (HR'.out.below HW1.out) (one_b8 l') (by simp only [maxLen]; omega) (by omega) zz1 ?_; intro A2 c2 w2 app2; have o2 := app2.own; rw [← List.map_append] at o2; have HW2 := hide (HW1.out.trans (app2.below o1 (Below.refl _ _) zr (Nat.le_trans zr zz1))); have AL3 := hide (AL1.out A2 c2 w2 (Rd.of_own o2)))))
            | (go_at_call 12; (with_reducible refine (AL3.out).mono ?_); intro e w3 h; obtain ⟨A3, c3, rfl, hown3, hc3, b3⟩ := ret_n h HTOT.out; have HW3 := hide (below_in HW2.out b3 (Nat.le_refl _)); have own3 := hide (own_mono hown3 HW2.out.size); have AL4 := hide (AL2.out w3 HW3.out))
            | (go_at_call 12; (with_reducible refine (AL4.out).mono ?_); intro e w4 h; obtain ⟨A4, c4, rfl, hown4, hc4, b4⟩ := ret_n h HMM.out; have HW4 := hide (below_in HW3.out b4 (Nat.le_refl _)); have own4 := hide (own_mono hown4 HW3.out.size); have own34 := hide (own_call own3.out b4)))
          have HF := hide (filter_le (f := scalarB) l)
          clear hoe hrb o1 o2 hown hown3 hown4 app1 app2 b3 b4 h zr
          go_wp2_with fail
          go_loopg [11, 12] n (fun g s11 s12 wr => ∃ (k j : Nat), k + g = n ∧ s12 = .int .i64 k ∧ s11 = .int .i64 j ∧ j ≤ m ∧ Hid (((l.take k).filter scalarB).length = j) ∧ wr.ownsRow w.heap.size 21 1 (.slice A3 tot c3) tot ((l.filter scalarB ++ allF l').map r32) ∧ wr.ownsRow w.heap.size 21 1 (.slice A4 mm c4) mm ((allF l').map r32) ∧ Hid (Below w.heap.size w wr))
          case atStart => exact ⟨0, 0, by omega, rfl, rfl, by omega, rfl, own34.out, own4.out, HW4.out⟩
          case round =>
            clear hkg own34 own4 HW4 HW HW1 HW2 HW3 AL1 AL2 AL3 AL4 B1 own3
            obtain ⟨k, j, hkg, rfl, rfl, hjm, HJ, hg, hr4, HW⟩ := hrel
            by_cases hlt : k < n
            · have d6 : decide (k < n) = true := by simpa using hlt
              obtain ⟨bl, off, x, rfl, hbB, ex, cx⟩ := (HR.out.below HW.out).at1 hlt
              unfold r32 at cx
              have PU1 := PU.out x wr
              have hfs := filter_snoc (f := scalarB) ex
              cases hs : scalarB x with
              | false =>
                rw [put_nil hs] at PU1
                rw [hs, if_neg (by simp), List.append_nil] at hfs
                have PU2 := hide (show Calls Try.prog 21 #[.int .i32 x] wr fun e w' => e = .returned (.string { data := #[] }) ∧ Below wr.heap.size wr w' from PU1)
                have HFS := hide hfs
                clear hs hfs ex PU1
                go_wp2_with (go_at_call 21; go_must (refine (PU2.out).mono ?_; rintro e w1 ⟨rfl, b1⟩))
                go_roundg (n - (k + 1))
                case measure => omega
                case rel => exact ⟨k + 1, j, by omega, by go_num, rfl, by omega, by rw [HFS.out]; exact HJ, own_call hg b1, own_call hr4 b1, below_in HW.out b1 (Nat.le_refl _)⟩
              | true =>
                have hne := (one_put hs).2.2
                have hfa := filter_at l k x ex hs
                have hfl := (HF.out (k + 1)).1
                rw [hs, if_pos rfl] at hfs
                rw [hfs, List.length_append, HJ.out] at hfl
                have hjm2 : j < m := by have := HM.out; simp at hfl; omega
                rw [HJ.out] at hfa
                have hga : (l.filter scalarB ++ allF l')[j]? = some x := by
                  rw [List.getElem?_append_left (by have := HM.out; omega)]
                  exact hfa
                have hjt : j < tot := by have := HTT.out; omega
                obtain ⟨q, hqq⟩ : ∃ q, putF x = q := ⟨_, rfl⟩
                rw [hqq] at PU1 hne
                obtain ⟨f1, f2⟩ := str_full hne
                obtain ⟨s, hss⟩ : ∃ s, strOfNums q = s := ⟨_, rfl⟩
                unfold RetS at PU1
                rw [hss] at PU1 f1 f2
                have PU2 := hide PU1
                have HFS := hide hfs
                have HGA := hide hga
                have hjtI : (j : Int) < tot := by omega
                have CX := hide (show ∀ W, Below wr.heap.size wr W → W.cell? ⟨bl, off + k, none⟩ = some (.int .i32 x) from fun W hW => ((hW.mono HW.out.size).cell (p := ⟨bl, off + k, none⟩) hbB).trans cx)
                clear hs hfs ex hqq hss hne PU1 hfa hfl hga
                go_upto_region 21 with (go_at_call 21; go_must (refine (PU2.out).mono ?_; rintro e w1 ⟨rfl, b1⟩; have hg1 := own_call hg b1; have hr1 := hide (own_call hr4 b1); have HW1 := hide (below_in HW.out b1 (Nat.le_refl _)); have cx1 := CX.out w1 b1))
                obtain ⟨b3, o3, y, e3, _, ey, cy⟩ := (Rd.of_own hg1).at1 hjt
                rw [HGA.out] at ey
                injection ey with ey
                subst ey e3
                unfold r32 at cy
                have HG1 := hide hg1
                clear hg1 hg hr4
                go_quiet (fail)
                go_wp2
                go_roundg (n - (k + 1))
                case measure => omega
                case rel => exact ⟨k + 1, j + 1, by omega, by go_num, by go_num, by omega, by rw [HFS.out, List.length_append, HJ.out]; rfl, HG1.out, hr1.out, below_drewN' HW1.out _⟩
            · obtain rfl : n = k := by omega
              have d6 : decide (n < n) = false := by simp
              have e0 : l.take n = l := List.take_of_length_le (by rw [HL.out]; exact Nat.le_refl _)
              have hj : j = m := by have := HJ.out; rw [e0, HM.out] at this; omega
              subst hj
              have hjt : j ≤ tot := by have := HTT.out; omega
              have cu := cut25_l (A := A3) (n := tot) (c := c3) hjt
              have hrd : Rd wr wr.heap.size 1 (cutA A3 c3 j 1) (tot - j) ((allF l').map r32) := by
                have := (Rd.of_own hg).cutA (k := j) (cap := c3) hjt hc3
                rw [Nat.mul_one, ← List.map_drop, List.drop_left' HM.out] at this
                exact this
              have SM := hide (same_true (allF l') (cutA A3 c3 j 1) A4 (tot - j) mm (c3 - j) c4 _ _ wr hrd (Rd.of_own hr4) (by have := HTT.out; omega))
              clear hg hr4 hrd e0
              go_wp2_with (first
                | (go_at_call 11; go_must (refine (SM.out).mono ?_; rintro e w1 ⟨rfl, b1⟩; have HW1 := hide (below_in HW.out b1 (Nat.le_refl _))))
                | (go_at_call 10; go_must (refine (AW.out _).mono ?_; rintro e w2 ⟨rfl, b2⟩)))
              go_ret
              exact ⟨rfl, below_in HW1.out b2 (Nat.le_refl _)⟩
end Go.Proofs.Ytlmgglkicdlchaa
