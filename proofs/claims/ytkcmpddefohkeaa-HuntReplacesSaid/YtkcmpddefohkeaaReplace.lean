/-
  Replace, walked: of a text, its needles and what stands in their places (a function, or none). No condition but bounds.
-/
import Derived.Test.YtkcmpddefohkeaaBuilds
import Derived.Test.YtkcmpddefohkeaaRep
namespace Go.Proofs.Ytkcmpddefohkeaa
open Go.RowKit Go.Proofs
set_option linter.unusedVariables false
theorem own_keeps {w w' : World} {base s n : Nat} {e : TypeId} {v : Value} {xs : List Value} (h : w.ownsRow base e s v n xs) (hk : Keeps w w') (h1 : e ≠ 5) (h2 : e ≠ 61) : w'.ownsRow base e s v n xs := by
  refine ⟨h.1, ?_⟩
  rcases h.2 with h3 | ⟨g, cap, cur, rfl, hb, hg, rest⟩
  · exact .inl h3
  · exact .inr ⟨g, cap, cur, rfl, hb, hk g e cur h1 h2 hg, rest⟩
theorem bis_call {B b : Nat} {bs : List Value} {w w' : World} (h : BIs B b bs w) (hb : Below w.heap.size w w') : BIs B b bs w' := by
  have key : ∀ p, BAt B b p bs w → BAt B b p bs w' := by
    rintro p ⟨h1, v, h2, h3, h4⟩
    have hlt : b < w.heap.size := (show Blk w b 61 _ from h2).lt
    exact ⟨h1, v, (hb.block b hlt).trans h2, own_call h3 hb, h4⟩
  rcases h with h | h
  · exact .inl (key _ h)
  · exact .inr (key _ h)
theorem strCells_app (a b : ByteArray) : Lib.strCells (a ++ b) = Lib.strCells a ++ Lib.strCells b := by
  simp [Lib.strCells, ByteArray.data_append, Array.toList_append]
/-- How long the needles are. -/
def lnF (ns : List ByteArray) (y : Nat) : Nat := (nth (needs ns) y).length
/-- The longest hits. -/
def lgF (t : ByteArray) (ns : List ByteArray) : List (Nat × Nat) := longF (needs ns) (hitsF (bytesOf plainF t) (needs ns))
/-- The text in which others stand in the hits' places. -/
def repF (t : ByteArray) (ns : List ByteArray) (say : Nat → ByteArray) : ByteArray := repTo t (lnF ns) say (lgF t ns) (lgF t ns).length ++ t.extract (endAt (lnF ns) (lgF t ns) (lgF t ns).length) t.size
theorem eqIn_func (w : World) (d : Nat) (KT : FuncId) (caps : Array Value) : (Op.equalIn (d + 1) 42 (.func (.func KT) #[] caps) .nilFunc).run Try.prog w = .ok false w := by
  simp [Op.equalIn, run_underlying Try.underlying42]
theorem eqIn_nil (w : World) (d : Nat) : (Op.equalIn (d + 1) 42 .nilFunc .nilFunc).run Try.prog w = .ok true w := by
  simp [Op.equalIn, run_underlying Try.underlying42]
theorem func_neq (KT : FuncId) (caps : Array Value) (W : World) : (binOp .neq 42 (.func (.func KT) #[] caps) .nilFunc).run Try.prog W = .ok (.bool true) W := by
  simp only [binOp]
  simp [Op.equal, Op.maxDepth, eqIn_func W 9999 KT caps]
theorem nil_neq (W : World) : (binOp .neq 42 .nilFunc .nilFunc).run Try.prog W = .ok (.bool false) W := by
  simp only [binOp]
  simp [Op.equal, Op.maxDepth, eqIn_nil W 9999]
set_option maxRecDepth 100000 in
set_option maxHeartbeats 4000000 in
theorem replace_say (t : ByteArray) (ns : List ByteArray) (A : Option Addr) (n c : Nat) (w : World) (KT : FuncId) (caps : Array Value) (say : Nat → ByteArray) (hr : Rd w w.heap.size 1 A n (ns.map Value.string)) (h1 : t.size ≤ 400) (h2 : ∀ x ∈ ns, x.size ≤ 400) (hn : n ≤ 100) (hnc : n ≤ c)
    (hcf : ∀ args w, (callFunc KT args).run Try.prog w = .ok (.enter KT args) w) (hq : ∀ y, (say y).size ≤ 400)
    (hsay : ∀ (y : Nat) (W : World), y < n → Below w.heap.size w W → Calls Try.prog KT (#[.int .i64 (y : Int)] ++ caps) W fun e w' => e = .returned (.string (say y)) ∧ Below W.heap.size W w') :
    Calls Try.prog 23 #[.string t, .func (.func KT) #[] caps, .slice A n c] w fun e w' => e = .returned (.string (repF t ns say)) ∧ Below w.heap.size w w' := by
  have hln := hr.len1
  have hLn : (needs ns).length = n := by simp [needs, hln]
  obtain ⟨m, hm⟩ : ∃ m, t.size = m := ⟨_, rfl⟩
  have hTm : (bytesOf plainF t).length = m := by rw [bytesOf_len, hm]
  obtain ⟨hN0, hap⟩ := longF_apart (bytesOf plainF t) (needs ns)
  rw [hTm, hLn] at hap
  rw [hTm] at hN0
  change (lgF t ns).length ≤ m at hN0
  change Apart (lnF ns) n m (lgF t ns) at hap
  have LG := hide (fun (W : World) (hb : Below w.heap.size w W) => longest_any t ns A n c W ((hr.below hb).more hb.size) h1 h2 hn hnc)
  change Hid (∀ (W : World), Below w.heap.size w W → Calls Try.prog 18 #[.string t, .slice A n c] W (RetSlice 33 2 ((lgF t ns).flatMap hitE) W)) at LG
  have HF := hide (show repF t ns say = repTo t (lnF ns) say (lgF t ns) (lgF t ns).length ++ t.extract (endAt (lnF ns) (lgF t ns) (lgF t ns).length) t.size from rfl)
  obtain ⟨l, hl⟩ : ∃ l, lgF t ns = l := ⟨_, rfl⟩
  rw [hl] at hap hN0 LG HF
  have AP := hide hap
  have HR := hide hr
  have HM := hide hm
  have H2 := hide h2
  have SZ := hide (fun k => repTo_size (t := t) (ln := lnF ns) (say := say) (l := l) (m := 400) (q := 400) h1 hq k)
  have SAY := hide hsay
  have HQ := hide hq
  rw [hm] at h1
  have WS := hide (fun (bs : List Value) (s : ByteArray) (W : World) (h : BIs w.heap.size w.heap.size bs W) (h1 : bs.length + s.size ≤ 140737488355328) (h2 : w.heap.size ≤ W.heap.size) => writeString_any _ _ bs s W h h1 h2)
  have BF := hide (Lib.fresh_isBuilder 61 5 w)
  have ST := hide (fun (L : List UInt8) (W : World) (h : BIs w.heap.size w.heap.size (Lib.byteCells L) W) (h2 : w.heap.size ≤ W.heap.size) => string_any _ _ L W h h2)
  have BA := hide (show Below w.heap.size w (w.alloc (.cells #[.pointer none, .slice none 0 0] 61)) from (Below.refl _ _).alloc (Nat.le_refl _) _)
  clear hr hTm hLn h2 hap hsay hq hl
  have hne := func_neq KT caps
  go_enter Try.func23, Try.ntmps23
  go_wp2_with (go_at_call 18; go_must (refine (LG.out _ BA.out).mono ?_; rintro e w1 ⟨A1, N1, c1, rfl, o1, b1⟩; have I1 := hide (bis_call BF.out b1); have B1 := hide (below_in BA.out b1 (Nat.le_refl _)); have O1 := hide (own_mono o1 BA.out.size); clear o1 b1))
  have HN1 := hide (own_len hitE_len (by omega) O1.out)
  have hN2 : N1 ≤ m := by rw [HN1.out]; exact hN0
  clear hN0
  go_loopg [8, 15] N1 (fun g s8 s15 wr => ∃ (k e : Nat), k + g = N1 ∧ s15 = .int .i64 k ∧ s8 = .int .i64 e ∧ Hid (endAt (lnF ns) l k = e) ∧ Hid (BIs w.heap.size w.heap.size (Lib.strCells (repTo t (lnF ns) say l k)) wr) ∧ Hid (wr.ownsRow w.heap.size 33 2 (.slice A1 N1 c1) N1 (l.flatMap hitE)) ∧ Hid (Below w.heap.size w wr))
  case atStart => exact ⟨0, 0, by omega, rfl, rfl, rfl, I1.out, O1.out, B1.out⟩
  case round =>
    clear I1 O1 B1
    obtain ⟨k, e, hkg, rfl, rfl, HE, HI, HO, HB⟩ := hrel
    have hzr := HB.out.size
    have hem : e ≤ m := by rw [← HE.out]; exact endAt_le AP.out k
    obtain ⟨acc, hacc⟩ : ∃ acc, repTo t (lnF ns) say l k = acc := ⟨_, rfl⟩
    have haz : acc.size ≤ k * 800 := by rw [← hacc]; exact SZ.out k
    rw [hacc] at HI
    by_cases hlt : k < N1
    · obtain ⟨b, off, x, y, rfl, hbB, hxy, q0, q1⟩ := hits_at (Rd.of_own HO.out) hlt
      obtain ⟨a1, a2, a3⟩ := AP.out k (x, y) hxy
      rw [HE.out] at a1
      simp only at a1 a2 a3
      obtain ⟨nb, noff, s, hA, hnb, hs, cs⟩ := (HR.out).at1 (k := y) a3
      subst hA
      obtain ⟨Z, hZ⟩ : ∃ Z, s.size = Z := ⟨_, rfl⟩
      have hlny : lnF ns y = Z := by unfold lnF; rw [nth_needs hs, bytesOf_len, hZ]
      have HE2 := endAt_succ (ln := lnF ns) hxy
      simp only [hlny] at HE2
      rw [hlny] at a2
      obtain ⟨e2, he2⟩ : ∃ e2, x + Z = e2 := ⟨_, rfl⟩
      rw [he2] at HE2
      have HE2 := hide HE2
      have HR2 := repTo_succ (t := t) (ln := lnF ns) (say := say) hxy
      rw [hacc, HE.out] at HR2
      have HR2 := hide HR2
      have he3 : (x : Int) + Z = e2 := by omega
      rw [he2] at a2
      have he4 : IntKind.i64.wrap (e2 : Int) = e2 := IntWalk.i64_in _ ⟨by omega, by omega⟩
      have hcz : (t.extract e x).size = x - e := by rw [ByteArray.size_extract, hm]; omega
      have hsz := HQ.out y
      have hsz2 : (acc ++ t.extract e x).size ≤ 400000 := by rw [ByteArray.size_append, hcz]; omega
      have x2 : x ≤ m := by omega
      have C5 := hide (fun (W5 : World) (I5 : BIs w.heap.size w.heap.size (Lib.strCells acc) W5) (B5 : Below w.heap.size w W5) => WS.out _ (t.extract e x) W5 I5 (by rw [Lib.strCells_length, hcz]; omega) B5.size)
      have C6 := hide (fun (W5 : World) (I5 : BIs w.heap.size w.heap.size (Lib.strCells (acc ++ t.extract e x)) W5) (B5 : Below w.heap.size w W5) => WS.out _ (say y) W5 I5 (by rw [Lib.strCells_length]; omega) B5.size)
      have SY := hide (fun (W : World) (hW : Below w.heap.size w W) => SAY.out y W a3 hW)
      clear hxy hs hacc hlny hcz hsz hsz2 HE haz
      go_upto_region 6 with (fail)
      go_name_world W5 hW5
      have D5 := hide (show Below wr.heap.size wr W5 by rw [← hW5]; exact (Below.refl _ _).alloc (Nat.le_refl _) _)
      have V5 := hide (show Blk W5 wr.heap.size 33 #[.int .i64 x, .int .i64 y] by rw [← hW5]; exact Blk.new _ _ _)
      have I5 := hide (bis_call HI.out D5.out)
      have O5 := hide (own_call HO.out D5.out)
      have B5 := hide (below_in HB.out D5.out (Nat.le_refl _))
      have v0 := V5.out.cell 0
      have v1 := V5.out.cell 1
      simp at v0 v1
      clear hW5 q0 q1
      have S1 := hide (C5.out W5 I5.out B5.out)
      go_upto_region 8 with (go_at_call 29; go_must (refine (S1.out).mono ?_; rintro e9 w2 ⟨rfl, i2, b2, k2⟩; have I2 := hide (show BIs w.heap.size w.heap.size (Lib.strCells (acc ++ t.extract e x)) w2 from Or.inr (by rw [strCells_app]; exact i2)); have V2 := hide (k2 _ _ _ (by decide) (by decide) V5.out); have O2 := hide (own_keeps O5.out k2 (by decide) (by decide)); have B2 := hide (B5.out.trans b2); clear i2 b2 k2))
      clear v0 v1
      have v0 := V2.out.cell 0
      have v1 := V2.out.cell 1
      simp at v0 v1
      have S2 := hide (SY.out w2 B2.out)
      go_upto_region 9 with (first
        | (go_at_call 29; go_must (refine (S3.out).mono ?_; rintro e9 w4 ⟨rfl, i4, b4, k4⟩; have I4 := hide (show BIs w.heap.size w.heap.size (Lib.strCells (repTo t (lnF ns) say l (k + 1))) w4 from Or.inr (by rw [HR2.out, strCells_app]; exact i4)); have V4 := hide (k4 _ _ _ (by decide) (by decide) V3.out); have O4 := hide (own_keeps O3.out k4 (by decide) (by decide)); have B4 := hide (B3.out.trans b4); clear i4 b4 k4))
        | ((with_reducible refine (S2.out).mono ?_); rintro e9 w3 ⟨rfl, b3⟩; have I3 := hide (bis_call I2.out b3); have V3 := hide (V2.out.below b3 V2.out.lt); have O3 := hide (own_call O2.out b3); have B3 := hide (below_in B2.out b3 (Nat.le_refl _)); have S3 := hide (C6.out w3 I3.out B3.out); clear b3))
      clear v0 v1
      have v0 := V4.out.cell 0
      have v1 := V4.out.cell 1
      simp at v0 v1
      have cs4 := (B4.out.cell (p := ⟨nb, noff + y, none⟩) hnb).trans cs
      go_quiet (fail)
      go_wp2_with fail
      go_roundg (N1 - (k + 1))
      case measure => omega
      case rel => exact ⟨k + 1, e2, by omega, by go_num, rfl, HE2.out, bis_call I4.out (below_drewN' (Below.refl _ _) nq), own_drewN O4.out _, below_drewN' B4.out _⟩
    · obtain rfl : k = N1 := by omega
      have hcz : (t.extract e m).size = m - e := by rw [ByteArray.size_extract, hm]; omega
      have S1 := hide (WS.out _ (t.extract e m) wr HI.out (by rw [Lib.strCells_length, hcz]; omega) hzr)
      rw [← HN1.out, hacc, HE.out, hm] at HF
      obtain ⟨R, hR⟩ : ∃ R, acc ++ t.extract e m = R := ⟨_, rfl⟩
      have HRR := hide hR
      rw [hR] at HF
      have HF := hide HF.out
      have STR := hide (fun (W : World) (h : BIs w.heap.size w.heap.size (Lib.byteCells R.data.toList) W) (h2 : w.heap.size ≤ W.heap.size) => show Calls Try.prog 30 #[.pointer (some ⟨w.heap.size, 0, none⟩)] W fun e w' => e = .returned (.string R) ∧ Below w.heap.size W w' from by have := ST.out R.data.toList W h h2; rwa [Lib.mk_data] at this)
      clear hcz hacc hR
      go_wp2_with (first
        | (go_at_call 29; go_must (refine (S1.out).mono ?_; rintro e9 w2 ⟨rfl, i2, b2, k2⟩; have B2 := hide (HB.out.trans b2); have I2 := hide (show BIs w.heap.size w.heap.size (Lib.byteCells R.data.toList) w2 from Or.inr (by have := i2; rw [← strCells_app, HRR.out] at this; exact this)); have S2 := hide (STR.out w2 I2.out B2.out.size); clear i2 b2 k2))
        | (go_at_call 30; go_must (refine (S2.out).mono ?_; rintro e9 w3 ⟨rfl, b3⟩; have B3 := hide (B2.out.trans b3); clear b3)))
      go_ret
      refine ⟨?_, B3.out⟩
      rw [HF.out]; rfl
end Go.Proofs.Ytkcmpddefohkeaa
