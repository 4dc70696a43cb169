/-
  A ledger's best entries, walked. No condition but bounds.
-/
import Derived.Test.YtndnjdocdfjmcaaPrefix
import Derived.Laws.MakeOwn
namespace Go.Proofs.Ytndnjdocdfjmcaa
open Go.RowKit Go.Proofs
set_option linter.unusedVariables false
theorem made_flat {α : Type} (E : α → List Value) (x : α) (z : Array Value) (s : Nat) (hz : z.toList = E x) (hE : ∀ y, (E y).length = s) (hs : 0 < s) (n : Nat) : (madeCells z (n * s)).toList = (List.replicate n x).flatMap E := by
  have hzs : z.size = s := by rw [← Array.length_toList, hz, hE]
  apply List.ext_getElem?
  intro i
  rcases Nat.lt_or_ge i (n * s) with h | h
  · have hl : i / s < n := Nat.div_lt_of_lt_mul (by rwa [Nat.mul_comm])
    have hm : i % s < s := Nat.mod_lt _ hs
    have hr : (List.replicate n x)[i / s]? = some x := by rw [List.getElem?_replicate, if_pos hl]
    have hf := flat_at hE _ _ _ (i % s) hr hm
    have hi : i / s * s + i % s = i := by rw [Nat.mul_comm]; exact Nat.div_add_mod i s
    rw [hi] at hf
    rw [hf, ← hz]
    simp only [madeCells, Array.toList_map, List.getElem?_map]
    rw [show (Array.range (n * s)).toList[i]? = some i by simp [h]]
    simp only [Option.map_some, hzs]
    rw [Array.getElem?_toList, Array.getElem?_eq_getElem (by rw [hzs]; exact hm), getElem!_pos z (i % s) (by rw [hzs]; exact hm)]
  · rw [List.getElem?_eq_none (by simp [size_madeCells]; omega), List.getElem?_eq_none (by rw [len_flat hE, List.length_replicate]; omega)]
theorem make_ents (n : Nat) (hn : n ≤ 100000) (w : World) : (Instr.makeSlice 35 (.int .i64 (n : Int)) (.int .i64 (n : Int))).run Try.prog w = .ok (.slice (some ⟨w.heap.size, 0, none⟩) n n) (w.alloc (.cells ((List.replicate n zeroE).flatMap entE).toArray 31)) := by
  have h : (Try.prog.info? 31).map (fun i => (i.zero, i.size, i.bytes)) = some (some (.agg #[.string ⟨#[]⟩, .int .i64 0, .int .i64 0]), 3, 32) := by kernel_rfl
  obtain ⟨i, hi, h1, h2, h3⟩ := info_parts h
  have := run_make (P := Try.prog) (w := w) 35 31 i _ Try.underlying35 hi h1 .i64 .i64 n n (by omega) (by omega) (by rw [h3]; omega) (by omega)
  rw [this, h2, Int.toNat_natCast, ← made_flat entE zeroE #[.string ⟨#[]⟩, .int .i64 0, .int .i64 0] 3 rfl (fun _ => rfl) (by omega) n]
  rfl
theorem HeapAt.frm {S : Nat → Prop} {w w' : World} {base H n c : Nat} {A : Option Addr} {l : List Ent} (h : HeapAt w base H A n c l) (hf : Frm S w w') (h1 : ¬ S H) (h2 : ∀ k, RB A k → ¬ S k) : HeapAt w' base H A n c l :=
  ⟨h.blk.frm hf h1, own_frm h.own hf (fun k hk => h2 k (rb_own hk))⟩
theorem rb_lt {w : World} {base H n c k : Nat} {A : Option Addr} {l : List Ent} (h : HeapAt w base H A n c l) (hk : RB A k) : k < w.heap.size := (h.own.lt k (own_rb hk)).2
theorem drop_set {α : Type} {l : List α} {j : Nat} {x : α} (hj : j < l.length) : (l.set j x).drop j = x :: l.drop (j + 1) := by
  rw [List.drop_eq_getElem_cons (by simpa using hj), List.getElem_set_self]
  congr 1
  rw [List.drop_set_of_lt (Nat.lt_succ_self j)]
theorem rb_base {w : World} {base H n c k : Nat} {A : Option Addr} {l : List Ent} (h : HeapAt w base H A n c l) (hk : RB A k) : base ≤ k := (h.own.lt k (own_rb hk)).1
set_option maxRecDepth 100000 in
set_option maxHeartbeats 8000000 in
theorem best_led {X b most uses : Nat} {L : List Ent} (w : World) (n : Nat) (KT : FuncId) (caps : Array Value) (tk : ByteArray → Bool) (hcf : ∀ args w, (callFunc KT args).run Try.prog w = .ok (.enter KT args) w)
    (h : Led w X b most uses L) (hn : 1 ≤ n) (hm2 : most ≤ 10000) (htk : ∀ t W, Below w.heap.size w W → Calls Try.prog KT (#[.string t] ++ caps) W fun e w' => e = .returned (.bool (tk t)) ∧ Below W.heap.size W w') :
    Calls Try.prog 24 #[.pointer (some ⟨X, 0, none⟩), .int .i64 n, .func (.func KT) #[] caps] w (RetSlice 31 3 (((L.filter (fun e => tk e.text)).take n).flatMap entE) w) := by
  have hlt := h.lt
  obtain ⟨hb1, M, hm1, hi1⟩ := h
  have H1 := hide hb1
  have M1 := hide hm1
  have I1 := hide hi1
  have TK := hide htk
  have PW := hide hm1.pw
  have HT := hide (show Tot M from (tot_srt hi1.srt).sub (fun x hx => hi1.perm.mem_iff.1 hx))
  have HND := hide (show M.Nodup from hi1.perm.nodup_iff.2 (srt_nodup hi1.srt))
  have HML := hide (show M.length ≤ 10000 by have := LedM.len (w := w) (b := b) hi1; omega)
  have d0 : decide ((n : Int) < 1) = false := by simp; omega
  have HLT := hide hlt
  clear hb1 hm1 hi1 htk hlt
  go_enter Try.func24, Try.ntmps24
  go_upto_region 4 with (fail)
  go_name_world W0 hW0
  have B0 := hide (show Below w.heap.size w W0 by rw [← hW0]; exact (Below.refl _ _).alloc (Nat.le_refl _) _)
  have V0 := hide (show Blk W0 w.heap.size 67 #[.slice none 0 0] by rw [← hW0]; exact Blk.new _ _ _)
  have M0 := hide (M1.out.below B0.out M1.out.lt)
  have x0 := (H1.out.below B0.out H1.out.lt).cell 0
  simp at x0
  clear hW0
  go_wp2_with (at_range; go_must (refine wpList_range_led rfl _ rfl b M rfl M0.out ?_; intro w1 R1 g1 s1))
  have B1 := hide (B0.out.grown g1 B0.out.size (fun k hk => by cases hk))
  have V1 := hide (V0.out.grown g1 (by simp))
  have hOr : w.heap.size < W0.heap.size := V0.out.lt
  have hrb := hide (show W0.heap.size < w1.heap.size by omega)
  have HS1 := hide s1
  have HB0 := hide B0.out.size
  have P1 := hide (show HeapAt w1 w1.heap.size w.heap.size none 0 0 [] from ⟨V1.out, ⟨rfl, .inl ⟨rfl, rfl⟩⟩⟩)
  clear g1 s1 x0
  go_frame
  go_loopg [9] M.length (fun g s9 wr => ∃ (todo done h : List Ent) (A : Option Addr) (c : Nat), todo.length = g ∧ Hid (RngM wr b W0.heap.size M todo) ∧ Hid (HeapAt wr w1.heap.size w.heap.size A h.length c h) ∧ Hid (HeapOK ltE h h.length) ∧ Hid (h.Perm (topN n (done.filter (fun e => tk e.text)))) ∧ Hid ((done ++ todo).Perm M) ∧ Hid (Below w.heap.size w wr))
  case atStart => exact ⟨M, [], [], none, 0, rfl, R1, P1.out, (fun k a b hk0 hk => absurd hk (Nat.not_lt_zero k)), (by show List.Perm _ _; simp [topN, srtE]), .refl _, B1.out⟩
  case round =>
    clear R1 V1 B1 P1
    obtain ⟨todo, done, h, A, c, hg, HR, HH, HO, HP, HD, HB⟩ := hrel
    go_wp2_with (at_next; go_must (refine wpList_next_led rfl _ rfl b W0.heap.size M todo rfl HR.out ?_ ?_))
    · intro hnil
      subst hnil
      have HD2 := HD.out
      rw [List.append_nil] at HD2
      have hP := HP.out
      rw [topN_all (tk := fun e => tk e.text) (HD2.filter _) I1.out.perm I1.out.srt] at hP
      obtain ⟨T, hT⟩ : ∃ T, (L.filter (fun e => tk e.text)).take n = T := ⟨_, rfl⟩
      have hST : Srt T := by rw [← hT]; exact (I1.out.srt.filter _).sublist (List.take_sublist ..)
      rw [hT] at hP
      have HTT := hide hT
      obtain ⟨k0, hk0⟩ : ∃ k, h.length = k := ⟨_, rfl⟩
      have hTl : T.length = k0 := by rw [← hP.length_eq, hk0]
      have hk2 : k0 ≤ 10000 := by
        have h1 : T.length ≤ L.length := by rw [← hT, List.length_take]; have := List.length_filter_le (fun e : Ent => tk e.text) L; omega
        have h2 := I1.out.len
        omega
      have HH2 := HH.out
      have HO2 := HO.out
      rw [hk0] at HH2 HO2
      have HH2 := hide HH2
      have HO2 := hide HO2
      have HP2 := hide hP
      have HST := hide hST
      have HTL := hide hTl
      have mk := fun W => make_ents k0 (by omega) W
      obtain ⟨cs, hcs⟩ : ∃ cs, ((List.replicate k0 zeroE).flatMap entE).toArray = cs := ⟨_, rfl⟩
      rw [hcs] at mk
      have HC := hide hcs
      have x5 := HH2.out.cell
      have AS := assert31
      clear hcs hT hP hST hTl hk0 HP HO HD2 HH
      go_upto_region 12 with (fail)
      go_name_world W1 hW1
      have D1 := hide (show Below wr.heap.size wr W1 by rw [← hW1]; exact (Below.refl _ _).alloc (Nat.le_refl _) _)
      have O1 := hide (show RowE 31 entE W1 wr.heap.size (List.replicate k0 zeroE) [] from ⟨by rw [← hW1, List.append_nil, HC.out]; exact Blk.new _ _ _⟩)
      have hz1 := hide (show wr.heap.size < W1.heap.size from O1.out.blk.lt)
      have B1 := hide (below_in HB.out D1.out (Nat.le_refl _))
      have H1' := hide (HH2.out.call D1.out)
      have NO := hide (show ∀ k, RB A k → k ≠ wr.heap.size from fun k hk => Nat.ne_of_lt (rb_lt HH2.out hk))
      have NH := hide (show w.heap.size ≠ wr.heap.size from Nat.ne_of_lt HH2.out.blk.lt)
      have hHW := hide HB.out.size
      have x5 := H1'.out.cell
      obtain ⟨O, hO⟩ : ∃ O, wr.heap.size = O := ⟨_, rfl⟩
      rw [hO] at O1 hz1 NO NH hHW
      rw [hO]
      clear hW1 hO
      go_wp2_with fail
      go_loopg [11] k0 (fun g s11 wr => ∃ (k : Nat) (q : Int) (h : List Ent) (c : Nat) (outL : List Ent), k = g ∧ k ≤ k0 ∧ q + 1 = k ∧ s11 = .int .i64 q ∧ Hid (HeapAt wr w1.heap.size w.heap.size A k c h) ∧ Hid (HeapOK ltE h h.length) ∧ Hid (h.Perm (T.take k)) ∧ Hid (RowE 31 entE wr O outL []) ∧ Hid (outL.length = k0) ∧ Hid (outL.drop k = T.drop k) ∧ Hid (Below w.heap.size w wr))
      case atStart =>
        refine ⟨k0, (k0 : Int) - 1, h, c, List.replicate k0 zeroE, rfl, Nat.le_refl _, by omega, by go_num, H1'.out, ?_, ?_, O1.out, by show List.length _ = _; simp, ?_, B1.out⟩
        · have := HO2.out; rwa [← H1'.out.len] at this
        · show h.Perm (T.take k0)
          rw [List.take_of_length_le (by rw [HTL.out]; exact Nat.le_refl _)]; exact HP2.out
        · show List.drop _ _ = _
          rw [List.drop_eq_nil_of_le (by simp), List.drop_eq_nil_of_le (by rw [HTL.out]; exact Nat.le_refl _)]
      case round =>
        clear O1 H1' B1 HO2 HP2 x5
        obtain ⟨k, q, h, c, outL, rfl, hkk, hqk, rfl, HH, HO, HP, HR3, HOL, HDR, HB⟩ := hrel
        cases k with
        | zero =>
          obtain rfl : q = -1 := by omega
          have hfin : outL = T := by have := HDR.out; simpa using this
          have HFN := hide hfin
          clear hfin
          go_wp2_with fail
          go_ret
          rw [HTT.out, ← HFN.out]
          exact ⟨some ⟨O, 0, none⟩, k0, k0, rfl, rowE_own entE_len HR3.out hHW.out HOL.out (Nat.le_refl _) (by rw [List.append_nil, len_flat entE_len, HOL.out]) (by unfold maxLen; omega), HB.out⟩
        | succ j =>
          obtain rfl : q = (j : Int) := by omega
          obtain ⟨x, hx⟩ : ∃ x, T[j]? = some x := ⟨_, List.getElem?_eq_getElem (by rw [HTL.out]; omega)⟩
          have htk : T.take (j + 1) = T.take j ++ [x] := take_snoc hx
          have hpp := HP.out
          rw [htk] at hpp
          have hss : Srt (T.take j ++ [x]) := by rw [← htk]; exact HST.out.sublist (List.take_sublist ..)
          have hhl := HH.out.len
          obtain ⟨r, hr⟩ : ∃ r, h[0]? = some r := ⟨_, List.getElem?_eq_getElem (by omega)⟩
          obtain ⟨e1, e2, e3⟩ := pop_worst HO.out hpp hss hr
          subst e1
          have PO := hide (hpop_any w1.heap.size w.heap.size A (j + 1) c h r wr HH.out HO.out hr (by omega))
          unfold entA at PO
          have E2 := hide e2
          have E3 := hide e3
          have HPL := hide (show (popF ltE h).length = j by rw [popF_len]; omega)
          have hjO := hide (show j < outL.length by rw [HOL.out]; omega)
          obtain ⟨y, hy⟩ : ∃ y, outL[j]? = some y := ⟨_, List.getElem?_eq_getElem hjO.out⟩
          have HY := hide hy
          have HX := hide hx
          have j1 : (0 : Int) ≤ j := by omega
          have j2 : (j : Int) < k0 := by omega
          have j3 : j < k0 := by omega
          clear htk hpp hss hhl hr e2 e3 hy hx
          go_upto_region 17 with (go_at_call 31; go_must (refine (PO.out).mono ?_; rintro e9 w5 ⟨c5, rfl, h5, f5⟩; have H5 := hide h5; have R5 := hide (HR3.out.frm f5 (fun hh => hh.elim (fun e => NH.out e.symm) (fun e => NO.out O e rfl))); have B5 := hide (HB.out.trans (f5.to_below HB.out.size (fun i hi => hi.elim (fun e => by omega) (fun e => by have := rb_base HH.out e; have := hrb.out; have := HB0.out; omega)))); clear h5 f5))
          go_name_world W6 hW6
          have D6 := hide (show Below w5.heap.size w5 W6 by rw [← hW6]; exact (Below.refl _ _).alloc (Nat.le_refl _) _)
          have Y6 := hide (show Blk W6 w5.heap.size 31 (entC r) by rw [← hW6]; exact Blk.new _ _ _)
          have H6 := hide (H5.out.call D6.out)
          have R6 := hide (R5.out.below D6.out R5.out.blk.lt)
          have B6 := hide (below_in B5.out D6.out (Nat.le_refl _))
          have y0 := Y6.out.cell 0
          have y1 := Y6.out.cell 1
          have y2 := Y6.out.cell 2
          have fz := fun i => R6.out.frozen i
          simp at y0 y1 y2
          have o0 : W6.cell? ⟨O, j * 3 + 0, none⟩ = some (.string y.text) := R6.out.at_ entE_len HY.out (i := 0) rfl
          have o1 : W6.cell? ⟨O, j * 3 + 1, none⟩ = some (.int .i64 y.cnt) := R6.out.at_ entE_len HY.out (i := 1) rfl
          have o2 : W6.cell? ⟨O, j * 3 + 2, none⟩ = some (.int .i64 y.last) := R6.out.at_ entE_len HY.out (i := 2) rfl
          simp only [Nat.add_zero] at o0
          clear hW6
          have F7 := hide (three_frm (o := j * 3) (Frm.refl (fun k => k = O) W6) (.string r.text) (.int .i64 r.cnt) (.int .i64 r.last))
          have R7 := hide (R6.out.set3 HY.out r rfl)
          have H7 := hide (H6.out.frm F7.out NH.out NO.out)
          have B7 := hide (B6.out.trans (F7.out.to_below B6.out.size (fun i (e : i = O) => by have := hHW.out; omega)))
          go_wp2_with fail
          go_roundg j
          case measure => omega
          case rel =>
            refine ⟨j, (j : Int) - 1, popF ltE h, c5, outL.set j r, rfl, by omega, by omega, by go_num, ?_, E3.out, E2.out, R7.out, by show List.length _ = _; rw [List.length_set]; exact HOL.out, ?_, B7.out⟩
            · have := H7.out; rwa [HPL.out] at this
            · show List.drop _ _ = _
              rw [drop_set hjO.out, HDR.out]
              have := (List.getElem?_eq_some_iff.1 HX.out)
              rw [List.drop_eq_getElem_cons (i := j) this.1, this.2]
    · intro x e w2 he R2 g2 s2 hen
      have B2 := hide (HB.out.grown g2 HB.out.size (fun k hk => by injection hk with hk; omega))
      have H2 := hide (show HeapAt w2 w1.heap.size w.heap.size A h.length c h from ⟨HH.out.blk.grown g2 (by intro e9; injection e9 with e9; omega), HH.out.own.kept g2 (.inr (by intro e9; have := (HH.out.own.lt _ e9).1; have := hrb.out; omega))⟩)
      have R2 := hide R2
      have HL := hide (del_lt he)
      have HP2 := hide (show ((e :: done) ++ delM todo e.text).Perm M from (List.perm_middle (l₁ := done) (a := e) (l₂ := delM todo e.text)).symm.trans (((del_perm (List.pairwise_append.1 ((HD.out.pairwise_iff (fun h => Ne.symm h)).2 PW.out)).2.1 he).append_left done).trans HD.out))
      clear he g2 s2
      unfold entA at hen
      unfold entA
      go_upto_region 7 with (fail)
      go_name_world W3 hW3
      have D3 := hide (show Below w2.heap.size w2 W3 by rw [← hW3]; exact (Below.refl _ _).alloc (Nat.le_refl _) _)
      have Y3 := hide (show Blk W3 w2.heap.size 31 (entC e) by rw [← hW3]; exact Blk.new _ _ _)
      have R3 := hide (R2.out.below D3.out)
      have H3 := hide (H2.out.call D3.out)
      have B3 := hide (below_in B2.out D3.out (Nat.le_refl _))
      have T3 := hide (TK.out e.text W3 B3.out)
      have y0 := Y3.out.cell 0
      simp at y0
      clear hW3 hen
      have hhl := hide (show h.length ≤ 10000 by
        have h1 := HP.out.length_eq
        have h2 := topN_len n (done.filter (fun e => tk e.text))
        have h3 : (topN n (done.filter (fun e => tk e.text))).length ≤ (done.filter (fun e => tk e.text)).length := by unfold topN; rw [List.length_take, (srtE_perm _).length_eq]; omega
        have h4 : (done.filter (fun e => tk e.text)).length ≤ done.length := List.length_filter_le ..
        have h5 := HD.out.length_eq
        have h6 := HML.out
        rw [List.length_append] at h5
        omega)
      have hhn := hide (show h.length ≤ n by rw [HP.out.length_eq]; exact topN_len _ _)
      cases htk : tk e.text with
      | false =>
        rw [htk] at T3
        have HF := hide (show (e :: done).filter (fun e => tk e.text) = done.filter (fun e => tk e.text) from List.filter_cons_of_neg (by simp [htk]))
        clear htk
        go_wp2_with ((with_reducible refine (T3.out).mono ?_); rintro e9 w4 ⟨rfl, b4⟩; have B4 := hide (below_in B3.out b4 (Nat.le_refl _)); have R4 := hide (R3.out.below b4); have H4 := hide (H3.out.call b4); clear b4)
        go_roundg (delM todo e.text).length
        case measure => have := HL.out; omega
        case rel => exact ⟨delM todo e.text, e :: done, h, A, c, rfl, R4.out, H4.out, HO.out, by rw [HF.out]; exact HP.out, HP2.out, B4.out⟩
      | true =>
        rw [htk] at T3
        have HF := hide (show (e :: done).filter (fun e => tk e.text) = e :: done.filter (fun e => tk e.text) from List.filter_cons_of_pos (by simp [htk]))
        clear htk
        go_upto_region 8 with ((with_reducible refine (T3.out).mono ?_); rintro e9 w4 ⟨rfl, b4⟩; have B4 := hide (below_in B3.out b4 (Nat.le_refl _)); have R4 := hide (R3.out.below b4); have H4 := hide (H3.out.call b4); have Y4 := hide (Y3.out.below b4 Y3.out.lt); have z4 := hide (Nat.le_trans D3.out.size b4.size); clear b4)
        clear y0
        have y0 := Y4.out.cell 0
        have y1 := Y4.out.cell 1
        have y2 := Y4.out.cell 2
        simp at y0 y1 y2
        obtain ⟨p1, p2, p3⟩ := heap_push e HO.out HP.out
        have PU := hide (hpush_any w1.heap.size w.heap.size A h.length c h e w4 H4.out (by have := hhl.out; omega) (by have := R4.out.lt.2; have := HS1.out; omega))
        unfold entA at PU
        obtain ⟨h', hh'⟩ : ∃ h', upF ltE (h ++ [e]) h.length = h' := ⟨_, rfl⟩
        rw [hh'] at PU p1 p2 p3
        obtain ⟨k1, hk1⟩ : ∃ k, h.length + 1 = k := ⟨_, rfl⟩
        rw [hk1] at PU p3
        have NS := hide (fun (k : Nat) (hk : k < w1.heap.size) (hkH : k ≠ w.heap.size) (hh : HS w.heap.size A k) => show False by
          rcases hh with h1 | h1
          · exact hkH h1
          · have := rb_base H4.out h1; omega)
        have nb1 := hide (show b < w1.heap.size by have := HLT.out.2; have := hrb.out; omega)
        have nb2 := hide (show b ≠ w.heap.size by have := HLT.out.2; omega)
        have nr2 := hide (show W0.heap.size ≠ w.heap.size by omega)
        have BS := hide (fun (W : World) (f : Frm (HS w.heap.size A) w4 W) => show Below w.heap.size w W from B4.out.trans (f.to_below B4.out.size (fun i hi => by
          rcases hi with h1 | h1
          · omega
          · have := rb_base H4.out h1; have := hrb.out; omega)))
        have Q1 := hide p1
        have Q2 := hide p2
        have Q3 := hide p3
        have hk2 := hide (show k1 ≤ 90000 by have := hhl.out; omega)
        by_cases hfull : n < k1
        · have d1 : decide ((n : Int) < (k1 : Int)) = true := by simp; omega
          have d2 : decide (n < k1) = true := by simp; omega
          have hsub := hide (show ∀ x ∈ (e :: done.filter (fun e => tk e.text)), x ∈ M from fun x hx => by
            rcases List.mem_cons.1 hx with h3 | h3
            · exact HP2.out.mem_iff.1 (by rw [h3]; simp)
            · exact HD.out.mem_iff.1 (List.mem_append.2 (.inl (List.mem_filter.1 h3).1)))
          have hnd : (e :: done.filter (fun e => tk e.text)).Nodup := by
            have h1 : ((e :: done) ++ delM todo e.text).Nodup := HP2.out.nodup_iff.2 HND.out
            have h2 : (e :: done).Nodup := (List.nodup_append.1 h1).1
            exact h2.sublist ((List.filter_sublist).cons_cons e)
          obtain ⟨r, hr, f1, f2, f3⟩ := push_full e p1 p2 (by have := hhn.out; omega) (HT.out.sub hsub.out) hnd
          have FF1 := hide f1
          have FF2 := hide f2
          have POP := hide (fun (A5 : Option Addr) (c5 : Nat) (W : World) (hW : HeapAt W w1.heap.size w.heap.size A5 k1 c5 h') => hpop_any w1.heap.size w.heap.size A5 k1 c5 h' r W hW Q1.out hr hk2.out)
          clear hnd hr f1 f2 f3 p1 p2 p3 hk1 hh' hfull y0 y1 y2
          have y0 := Y4.out.cell 0
          have y1 := Y4.out.cell 1
          have y2 := Y4.out.cell 2
          simp at y0 y1 y2
          go_wp2_with (first
            | (go_at_call 30; go_must (refine (PU.out).mono ?_; rintro e9 w5 ⟨A5, c5, rfl, h5, f5, r5⟩; have H5 := hide h5; have R5 := hide (R4.out.frm f5 (NS.out b nb1.out nb2.out) (NS.out _ hrb.out nr2.out)); have B5 := hide (BS.out w5 f5); have x5 := h5.cell; have P5 := hide (POP.out A5 c5 w5 h5); have RB5 := hide r5; clear h5 f5 r5))
            | (go_at_call 31; go_must (refine (P5.out).mono ?_; rintro e9 w6 ⟨c6, rfl, h6, f6⟩; have H6 := hide h6; have F6 := hide f6; clear h6 f6)))
          have NS6 := hide (fun (k : Nat) (hk : k < w1.heap.size) (hkH : k ≠ w.heap.size) (hh : HS w.heap.size A5 k) => show False by
            rcases hh with h1 | h1
            · exact hkH h1
            · have := rb_base H5.out h1; omega)
          have R6 := hide (R5.out.frm F6.out (NS6.out b nb1.out nb2.out) (NS6.out _ hrb.out nr2.out))
          have B6 := hide (B5.out.trans (F6.out.to_below B5.out.size (fun i hi => by
            rcases hi with h1 | h1
            · omega
            · have := rb_base H5.out h1; have := hrb.out; omega)))
          go_roundg (delM todo e.text).length
          case measure => have := HL.out; omega
          case rel => exact ⟨delM todo e.text, e :: done, popF ltE h', A5, c6, rfl, R6.out, H6.out, FF2.out, by rw [HF.out]; exact FF1.out, HP2.out, B6.out⟩
        · have d1 : decide ((n : Int) < (k1 : Int)) = false := by simp; omega
          have d2 : decide (n < k1) = false := by simp; omega
          have FF1 := hide (push_fits e p2 (by omega))
          clear p1 p2 hk1 hh' hfull y0 y1 y2
          have y0 := Y4.out.cell 0
          have y1 := Y4.out.cell 1
          have y2 := Y4.out.cell 2
          simp at y0 y1 y2
          clear p3
          go_wp2_with (go_at_call 30; go_must (refine (PU.out).mono ?_; rintro e9 w5 ⟨A5, c5, rfl, h5, f5, r5⟩; have H5 := hide h5; have R5 := hide (R4.out.frm f5 (NS.out b nb1.out nb2.out) (NS.out _ hrb.out nr2.out)); have B5 := hide (BS.out w5 f5); have x5 := h5.cell; clear h5 f5 r5))
          go_roundg (delM todo e.text).length
          case measure => have := HL.out; omega
          case rel => exact ⟨delM todo e.text, e :: done, h', A5, c5, rfl, R5.out, by rw [Q3.out]; exact H5.out, Q1.out, by rw [HF.out]; exact FF1.out, HP2.out, B5.out⟩
end Go.Proofs.Ytndnjdocdfjmcaa
