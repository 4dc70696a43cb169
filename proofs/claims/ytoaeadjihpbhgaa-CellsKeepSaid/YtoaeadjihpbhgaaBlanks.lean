/-
  Blanks and Used, walked. No condition but bounds.
-/
import Derived.Test.YtoaeadjihpbhgaaSame
import Derived.Laws.MakeOwn
namespace Go.Proofs.Ytoaeadjihpbhgaa
open Go.RowKit Go.Proofs
set_option linter.unusedVariables false
theorem made_flat {α : Type} (E : α → List Value) (x : α) (z : Array Value) (s : Nat) (hz : z.toList = E x) (hE : ∀ y, (E y).length = s) (hs : 0 < s) (n : Nat) : (madeCells z (n * s)).toList = (List.replicate n x).flatMap E := by
  have hzs : z.size = s := by rw [← Array.length_toList, hz, hE]
  apply List.ext_getElem?
  intro i
  rcases Nat.lt_or_ge i (n * s) with h | h
  · have hl : i / s < n := Nat.div_lt_of_lt_mul (by rwa [Nat.mul_comm])
    have hm : i % s < s := Nat.mod_lt _ hs
    have hr : (List.replicate n x)[i / s]? = some x := by rw [List.getElem?_replicate, if_pos hl]
    have hf := flat_at hE _ _ _ (i % s) hr hm
    have hi : i / s * s + i % s = i := by rw [Nat.mul_comm]; exact Nat.div_add_mod i s
    rw [hi] at hf
    rw [hf, ← hz]
    simp only [madeCells, Array.toList_map, List.getElem?_map]
    rw [show (Array.range (n * s)).toList[i]? = some i by simp [h]]
    simp only [Option.map_some, hzs]
    rw [Array.getElem?_toList, Array.getElem?_eq_getElem (by rw [hzs]; exact hm), getElem!_pos z (i % s) (by rw [hzs]; exact hm)]
  · rw [List.getElem?_eq_none (by simp [size_madeCells]; omega), List.getElem?_eq_none (by rw [len_flat hE, List.length_replicate]; omega)]
theorem make_cells (n : Nat) (hn : n ≤ 100000) (w : World) : (Instr.makeSlice 26 (.int .i64 (n : Int)) (.int .i64 (n : Int))).run Try.prog w = .ok (.slice (some ⟨w.heap.size, 0, none⟩) n n) (w.alloc (.cells ((List.replicate n (blankC 0 0)).flatMap cellE).toArray 40)) := by
  have h : (Try.prog.info? 40).map (fun i => (i.zero, i.size, i.bytes)) = some (some (.agg #[.int .i32 0, .string ByteArray.empty, .int .i64 0, .int .i64 0, .int .i64 0, .int .i64 0, .int .i64 0, .int .i64 0]), 8, 72) := by kernel_rfl
  obtain ⟨i, hi, h1, h2, h3⟩ := info_parts h
  have := run_make (P := Try.prog) (w := w) 26 40 i _ Try.underlying26 hi h1 .i64 .i64 n n (by omega) (by omega) (by rw [h3]; omega) (by omega)
  rw [this, h2, Int.toNat_natCast, ← made_flat cellE (blankC 0 0) #[.int .i32 0, .string ByteArray.empty, .int .i64 0, .int .i64 0, .int .i64 0, .int .i64 0, .int .i64 0, .int .i64 0] 8 rfl (fun _ => rfl) (by omega) n]
  rfl
set_option maxRecDepth 100000 in
set_option maxHeartbeats 2000000 in
theorem blanks_any (n bk bn : Int) (K : Nat) (hK : (K : Int) = max 0 (min n 1000)) (w : World) : Calls Try.prog 9 #[.int .i64 n, .agg #[.int .i64 bk, .int .i64 bn]] w (RetRow (List.replicate K (blankC bk bn)) K w) := by
  obtain ⟨t, ht⟩ : ∃ t : Int, t = min n 1000 := ⟨_, rfl⟩
  rw [← ht] at hK
  have e1 := fun ts W => max2_ Try.prog ts 3 (k := .i64) hK W
  have e2 := fun ts W => min2_ Try.prog ts 3 (k := .i64) ht W
  have hK1 : K ≤ 1000 := by omega
  have mk := fun W => make_cells K (by omega) W
  obtain ⟨cs, hcs⟩ : ∃ cs, ((List.replicate K (blankC 0 0)).flatMap cellE).toArray = cs := ⟨_, rfl⟩
  rw [hcs] at mk
  have HC := hide hcs
  have BL := hide (fun (W : World) => blank_any bk bn W)
  clear ht hK hcs
  go_enter Try.func9, Try.ntmps9
  go_wp2
  go_loopg [13] K (fun gg s2 wr => ∃ (k : Nat), k ≤ K ∧ K - k ≤ gg ∧ s2 = .int .i64 k ∧ Hid (RowAt wr (w.heap.size + 1) [] (wipeK bk bn k (List.replicate K (blankC 0 0))) []) ∧ Hid (Below w.heap.size w wr) ∧ Hid (Blk wr w.heap.size 23 #[.int .i64 bk, .int .i64 bn]))
  case atStart =>
    refine ⟨0, by omega, by omega, rfl, ?_, ((Below.refl _ _).alloc (Nat.le_refl _) _).alloc (by simp) _, (Blk.new _ _ _).alloc _⟩
    unfold wipeK
    rw [← HC.out]
    refine ⟨?_⟩
    simp only [List.replicate_zero, List.nil_append, List.drop_zero, List.append_nil]
    exact Blk.new' (by simp) _ _
  case round =>
    obtain ⟨k, hkn, hgk, rfl, HR, HB, HK⟩ := hrel
    have hgl := HR.out.blk.lt
    have hbl := HK.out.lt
    by_cases hlt : k < K
    · have d1 : decide (k < K) = true := by simpa using hlt
      have b0 := HK.out.cell 0
      have b1 := HK.out.cell 1
      simp at b0 b1
      have hx := wipeK_at bk bn (k := k) (l := List.replicate K (blankC 0 0)) (by simpa using hlt)
      have HX := hide hx
      clear hx
      go_wp2_with (go_at_call 24; go_must (refine (BL.out _).mono ?_; rintro e w1 ⟨rfl, c1⟩; have r1 := HR.out.below c1 hgl; have e8 := r1.eight HX.out; simp only [List.length_nil, Nat.zero_add] at e8; obtain ⟨z0, z1, z2, z3, z4, z5, z6, z7⟩ := e8; have f0 := fun i => r1.frozen i; have gl1 := r1.blk.lt; have R1 := hide r1; have B1 := hide (HK.out.below c1 hbl); have C1 := hide c1; clear c1 r1))
      go_roundg (K - (k + 1))
      case measure => omega
      case rel =>
        refine ⟨k + 1, by omega, by omega, by go_num, ?_, ?_, ?_⟩
        · rw [← wipeK_step bk bn (by simpa using hlt)]
          exact R1.out.set8 HX.out (blankC bk bn) (o := k * 8) (by simp)
        · exact (below_in HB.out C1.out (Nat.le_refl _)).trans ((eight_frm (Frm.refl (fun k => k = w.heap.size + 1) w1) _ _ _ _ _ _ _ _).to_below (Nat.le_trans HB.out.size C1.out.size) (fun i e => by have e : i = w.heap.size + 1 := e; omega))
        · exact B1.out.frm (eight_frm (Frm.refl (fun k => k = w.heap.size + 1) _) _ _ _ _ _ _ _ _) (by show w.heap.size ≠ w.heap.size + 1; omega)
    · obtain rfl : k = K := by omega
      have d1 : decide (k < k) = false := by simp
      have HE := hide (show wipeK bk bn k (List.replicate k (blankC 0 0)) = List.replicate k (blankC bk bn) by unfold wipeK; rw [List.drop_of_length_le (by simp), List.append_nil])
      go_wp2
      go_ret
      refine ⟨_, k, rfl, ?_, Nat.le_refl _, HB.out⟩
      rw [← HE.out]
      exact row_own HR.out (Nat.le_succ _) (by rw [HE.out]; simp) (Nat.le_refl _) (by rw [HE.out, List.append_nil, len_flat (E := cellE) (s := 8) (fun _ => rfl)]; simp) (by unfold maxLen; omega)
set_option maxRecDepth 100000 in
set_option maxHeartbeats 2000000 in
theorem rblanks_any (n bk bn : Int) (K : Nat) (hK : (K : Int) = max 0 (min n 1000)) (w : World) : Calls Try.prog 10 #[.int .i64 n, .agg #[.int .i64 bk, .int .i64 bn]] w (RetRow (List.replicate K (blankC bk bn)) K w) := by
  have hK1 : K ≤ 1000 := by omega
  have BL := hide (fun (W : World) => rblank_any bk bn W)
  have on := hide (World.ownsRow_nil (w.alloc (.cells #[.int .i64 bk, .int .i64 bn] 23)) w.heap.size 40 8)
  have HK0 := hide hK
  clear hK
  go_enter Try.func10, Try.ntmps10
  go_wp2
  go_loopg [5, 6] K (fun gg s2 s3 wr => ∃ (k : Nat) (A2 : Option Addr) (c2 : Nat), k ≤ K ∧ K - k ≤ gg ∧ s2 = .slice A2 k c2 ∧ s3 = .int .i64 k ∧ Hid (wr.ownsRow w.heap.size 40 8 (.slice A2 k c2) k ((List.replicate k (blankC bk bn)).flatMap cellE)) ∧ Hid (Below w.heap.size w wr) ∧ Hid (Blk wr w.heap.size 23 #[.int .i64 bk, .int .i64 bn]))
  case atStart => exact ⟨0, none, 0, by omega, by omega, rfl, rfl, on.out, (Below.refl _ _).alloc (Nat.le_refl _) _, Blk.new _ _ _⟩
  case round =>
    obtain ⟨k, A2, c2, hkn, hgk, rfl, rfl, HO, HB, HK⟩ := hrel
    have hbl := HK.out.lt
    by_cases hlt : k < K
    · have d1 : decide ((k : Int) < n) = true := decide_eq_true (by have := HK0.out; omega)
      have d2 : decide ((k : Int) < 1000) = true := decide_eq_true (by omega)
      have d3 : decide (k < 1000) = true := decide_eq_true (by omega)
      have b0 := HK.out.cell 0
      have b1 := HK.out.cell 1
      simp at b0 b1
      have HR := hide (show List.replicate (k + 1) (blankC bk bn) = List.replicate k (blankC bk bn) ++ [blankC bk bn] by rw [List.replicate_succ'])
      go_wp2_with (first
        | (go_at_call 25; go_must (refine (BL.out _).mono ?_; rintro e w2 ⟨rfl, b2⟩; have O2 := hide (own_call HO.out b2); have B2 := hide (below_in HB.out b2 (Nat.le_refl _)); have K2 := hide (HK.out.below b2 hbl); clear b2))
        | (at_builtin; go_must (refine wpList_append1 Try.sl26 rfl _ _ rfl w.heap.size (.slice A2 k c2) k _ #[.int .i32 0, .string { data := #[] }, .int .i64 0, .int .i64 0, .int .i64 0, .int .i64 bk, .int .i64 bn, .int .i64 0] w2 1 rfl rfl rfl O2.out rfl one8 (by simp only [maxLen]; omega) (by omega) B2.out.size ?_; intro A4 c4 w3 app; have O3 := hide (own_snoc (blankC bk bn) app.own rfl); have B3 := hide (app.below (O2.out.alloc _) (B2.out.alloc B2.out.size _) (Nat.le_refl _) (Nat.le_trans B2.out.size (by simp))); have K3 := hide (app.blk (K2.out.alloc _) (O2.out.alloc _) (by decide)))))
      go_roundg (K - (k + 1))
      case measure => omega
      case rel => exact ⟨k + 1, A4, c4, by omega, by omega, rfl, by go_num, by rw [HR.out]; exact O3.out, B3.out, K3.out⟩
    · obtain rfl : k = K := by omega
      have hend : (n : Int) ≤ k ∨ ((k : Int) < n ∧ k = 1000) := by have := HK0.out; omega
      rcases hend with h1 | ⟨h1, h2⟩
      · have d1 : decide ((k : Int) < n) = false := decide_eq_false (by omega)
        go_wp2
        go_ret
        exact ⟨A2, c2, rfl, HO.out, (own_cap HO.out).1, HB.out⟩
      · have d1 : decide ((k : Int) < n) = true := decide_eq_true h1
        have d2 : decide ((k : Int) < 1000) = false := decide_eq_false (by omega)
        have d3 : decide (k < 1000) = false := decide_eq_false (by omega)
        clear h2
        go_wp2
        go_ret
        exact ⟨A2, c2, rfl, HO.out, (own_cap HO.out).1, HB.out⟩
/-- How much of a row was written. -/
def usedF : List Cell → Nat
  | [] => 0
  | c :: l => if usedF l = 0 then (if c.r = 0 then 0 else 1) else usedF l + 1
theorem usedF_le : ∀ l : List Cell, usedF l ≤ l.length
  | [] => Nat.le_refl _
  | c :: l => by
    have := usedF_le l
    unfold usedF
    simp only [List.length_cons]
    split
    · split <;> omega
    · omega
theorem used_snoc (l : List Cell) (c : Cell) : usedF (l ++ [c]) = if c.r = 0 then usedF l else l.length + 1 := by
  induction l with
  | nil => simp [usedF]
  | cons d l ih =>
    rw [List.cons_append, usedF, ih, usedF]
    by_cases h : c.r = 0
    · simp [h]
    · simp [h]
theorem used_take_same {l : List Cell} {k : Nat} {x : Cell} (hx : l[k]? = some x) (h : x.r = 0) : usedF (l.take (k + 1)) = usedF (l.take k) := by rw [take_snoc hx, used_snoc, if_pos h]
theorem used_take_new {l : List Cell} {k : Nat} {x : Cell} (hx : l[k]? = some x) (h : ¬ x.r = 0) : usedF (l.take (k + 1)) = k + 1 := by
  have := (List.getElem?_eq_some_iff.1 hx).1
  rw [take_snoc hx, used_snoc, if_neg h, List.length_take]; congr 1; omega
set_option maxRecDepth 100000 in
set_option maxHeartbeats 2000000 in
theorem rused_any (l : List Cell) (n c B : Nat) (A : Option Addr) (w : World) (hl : Rd w B 8 A n (l.flatMap cellE)) (hB : B ≤ w.heap.size) (hn : n ≤ 100000) :
    Calls Try.prog 16 #[.slice A n c] w fun e w' => e = .returned (.int .i64 (usedF l)) ∧ w = w' := by
  have hll := hl.len (E := cellE) (fun _ => rfl) (by omega)
  have HL := hide hl
  have HLL := hide hll
  clear hl hll
  go_enter Try.func16, Try.ntmps16
  go_wp2
  go_loop [3, 4] (fun s3 s4 => ∃ (k u : Nat), k ≤ n ∧ s3 = .int .i64 u ∧ s4 = .int .i64 k ∧ Hid (usedF (l.take k) = u)) (fun _ i => n - (intOf i).toNat)
  case atStart => exact ⟨0, 0, by omega, rfl, rfl, show usedF (l.take 0) = 0 by simp [usedF]⟩
  case round =>
    obtain ⟨k, u, hkn, rfl, rfl, HU⟩ := hrel
    by_cases hlt : k < n
    · have d1 : decide (k < n) = true := by simpa using hlt
      obtain ⟨b, off, x, rfl, hb, hx, x0, _⟩ := HL.out.eight hlt
      have HX := hide hx
      clear hx
      by_cases h0 : x.r = 0
      · have d2 : (x.r == 0) = true := by simpa using h0
        have d3 : (x.r != 0) = false := by simpa using h0
        have HE := hide (used_take_same HX.out h0)
        clear h0
        go_wp2
        go_round
        case rel => exact ⟨k + 1, u, by omega, rfl, by go_num, by rw [HE.out]; exact HU.out⟩
        case measure => simp [intOf]; omega
      · have d2 : (x.r == 0) = false := by simpa using h0
        have d3 : (x.r != 0) = true := by simpa using h0
        have HE := hide (used_take_new HX.out h0)
        clear h0
        go_wp2
        go_round
        case rel => exact ⟨k + 1, k + 1, by omega, by go_num, by go_num, HE.out⟩
        case measure => simp [intOf]; omega
    · obtain rfl : k = n := by omega
      have d1 : decide (k < k) = false := by simp
      have HE := hide (show usedF l = u by rw [← HU.out, List.take_of_length_le (by rw [HLL.out]; exact Nat.le_refl _)])
      go_wp2
      go_ret
      exact ⟨ret_int (by rw [HE.out]), rfl⟩
set_option maxRecDepth 100000 in
set_option maxHeartbeats 2000000 in
theorem used_any (l : List Cell) (n c B : Nat) (A : Option Addr) (w : World) (hl : Rd w B 8 A n (l.flatMap cellE)) (hB : B ≤ w.heap.size) (hn : n ≤ 100000) :
    Calls Try.prog 15 #[.slice A n c] w fun e w' => e = .returned (.int .i64 (usedF l)) ∧ w = w' := by
  have hll := hl.len (E := cellE) (fun _ => rfl) (by omega)
  have HL := hide hl
  have HLL := hide hll
  clear hl hll
  go_enter Try.func15, Try.ntmps15
  go_wp2
  go_loop [3] (fun s3 => ∃ (k : Nat), k ≤ n ∧ s3 = .int .i64 k ∧ Hid (usedF l = usedF (l.take k))) (fun i => (intOf i).toNat)
  case atStart => exact ⟨n, by omega, rfl, by rw [List.take_of_length_le (by rw [HLL.out]; exact Nat.le_refl _)]; exact rfl⟩
  case round =>
    obtain ⟨k, hkn, rfl, HU⟩ := hrel
    by_cases hlt : 0 < k
    · have d1 : decide (0 < k) = true := by simpa using hlt
      obtain ⟨q, hq⟩ : ∃ q : Nat, k - 1 = q := ⟨_, rfl⟩
      have hqi : (k : Int) - 1 = q := by omega
      have hqn : q < n := by omega
      obtain ⟨b, off, x, rfl, hb, hx, x0, _⟩ := HL.out.eight hqn
      have hkq : k = q + 1 := by omega
      have HX := hide hx
      have HQ := hide hkq
      clear hx hq hkq
      by_cases h0 : x.r = 0
      · have d2 : (x.r == 0) = true := by simpa using h0
        have HE := hide (used_take_same HX.out h0)
        clear h0
        go_wp2
        go_round
        case rel => exact ⟨q, by omega, rfl, by rw [HU.out, HQ.out, HE.out]; exact rfl⟩
        case measure => simp [intOf]; have := HQ.out; omega
      · have d2 : (x.r == 0) = false := by simpa using h0
        have HE := hide (used_take_new HX.out h0)
        clear h0
        go_wp2
        go_ret
        exact ⟨ret_int (by rw [HU.out, HQ.out, HE.out]), rfl⟩
    · obtain rfl : k = 0 := by omega
      have d1 : decide (0 < 0) = false := by simp
      go_wp2
      go_ret
      exact ⟨ret_int (by rw [HU.out]; simp [usedF]), rfl⟩
end Go.Proofs.Ytoaeadjihpbhgaa
