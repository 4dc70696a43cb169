/-
  The law UtfPuts, walked. No condition but what the arguments' kinds bear.
-/
import Derived.Test.YtlmgglkicdlchaaLawsA
import Derived.Lib.ConvBytes
namespace Go.Proofs.Ytlmgglkicdlchaa
open Go.RowKit Go.Proofs
set_option linter.unusedVariables false
theorem below_bytes (w : World) (s : ByteArray) : Below w.heap.size w (Go.Lib.bytesWorld w 5 s) :=
  ⟨rfl, rfl, rfl, by rw [Go.Lib.bytesWorld_size]; omega, fun j hj => Go.Lib.bytesWorld_at_old w 5 s j hj⟩
theorem str_byte {l : List Int} (hq : ∀ x ∈ l, IsByte x) {j : Nat} {x : Int} (hx : l[j]? = some x) : ((strOfNums l).data.toList.getD j 0).toNat = x.toNat ∧ 0 ≤ x := by
  have hb := hq x (List.mem_of_getElem? hx)
  unfold IsByte at hb
  rw [strOfNums_data]
  simp only [List.getD_eq_getElem?_getD, List.getElem?_map, hx, Option.map_some, Option.getD_some]
  refine ⟨?_, hb.1⟩
  rw [UInt8.toNat_ofNat']
  omega
/-- A string's bytes as a slice. -/
theorem conv_bytes (l : List Int) (hq : ∀ x ∈ l, IsByte x) (W : World) : ∃ cap W', (convert 9 22 (.string (strOfNums l))).run Try.prog W = .ok (.slice (some ⟨W.heap.size, 0, none⟩) l.length cap) W' ∧ Rd W' W'.heap.size 1 (some ⟨W.heap.size, 0, none⟩) l.length (l.map b8) ∧ Below W.heap.size W W' := by
  have h := Go.Lib.run_convert_string_bytes (P := Try.prog) W 9 22 5 (strOfNums l) Try.ub9 Try.ub22 Try.ub5
  rw [strOfNums_size] at h
  refine ⟨_, _, h, ⟨by simp, fun _ => ⟨W.heap.size, 0, rfl, by rw [Go.Lib.bytesWorld_size]; omega, fun j u hu => ?_⟩⟩, below_bytes _ _⟩
  rw [List.getElem?_map] at hu
  cases hx : l[j]? with
  | none => rw [hx] at hu; cases hu
  | some x =>
    rw [hx] at hu
    have hj := (List.getElem?_eq_some_iff.1 hx).1
    obtain ⟨h1, h2⟩ := str_byte hq hx
    have := Go.Lib.bytesWorld_cell W 5 (strOfNums l) j (by rw [strOfNums_size]; exact hj)
    rw [h1] at this
    rw [Nat.zero_add, this]
    injection hu with hu
    rw [← hu]
    show some (Value.int .u8 (x.toNat : Int)) = some (b8 x)
    rw [Int.toNat_of_nonneg h2]
    rfl
theorem one_put {r : Int} (h : scalarB r = true) : isB (putF r) = true ∧ numF (putF r) = r ∧ putF r ≠ [] := by
  obtain ⟨b0, b1, b2⟩ := scalarB_bd h
  have hb := putF_bytes r
  by_cases a1 : r ≤ 127
  · have e := put1 ⟨b0, a1⟩
    have hs : sizeF r = 1 := size1.2 (by omega)
    rw [e]
    refine ⟨by simp [isB, hs], ?_, by simp⟩
    show headF r = r
    unfold headF
    rw [if_neg (by omega), if_neg (by omega), if_neg (by omega)]
  · by_cases a2 : r ≤ 2047
    · have e := put2 (r := r) ⟨by omega, a2⟩
      rw [e]
      have hs : sizeF (192 + r / 64) = 2 := size2.2 (by omega)
      have hi : inB (192 + r / 64) (128 + r % 64) = true := inB_iff.2 (by omega)
      refine ⟨by simp [isB, hs, hi], ?_, by simp⟩
      show headF _ * 64 + (_ - 128) = r
      unfold headF
      rw [if_pos hs]
      omega
    · by_cases a3 : r ≤ 65535
      · have e := put3 (r := r) ⟨by omega, a3⟩ b2
        rw [e]
        have hs : sizeF (224 + r / 64 / 64) = 3 := size3.2 (by omega)
        have hi : inB (224 + r / 64 / 64) (128 + r / 64 % 64) = true := inB_iff.2 (by omega)
        have ht : tailB (128 + r % 64) = true := tailB_iff.2 (by omega)
        refine ⟨by simp [isB, hs, hi, ht], ?_, by simp⟩
        show (headF _ * 64 + (_ - 128)) * 64 + (_ - 128) = r
        unfold headF
        rw [if_neg (by omega), if_pos hs]
        omega
      · have e := put4 (r := r) ⟨by omega, b1⟩
        rw [e]
        have hs : sizeF (240 + r / 64 / 64 / 64) = 4 := size4.2 (by omega)
        have hi : inB (240 + r / 64 / 64 / 64) (128 + r / 64 / 64 % 64) = true := inB_iff.2 (by omega)
        have ht : tailB (128 + r / 64 % 64) = true := tailB_iff.2 (by omega)
        have ht2 : tailB (128 + r % 64) = true := tailB_iff.2 (by omega)
        refine ⟨by simp [isB, hs, hi, ht, ht2], ?_, by simp⟩
        show ((headF _ * 64 + (_ - 128)) * 64 + (_ - 128)) * 64 + (_ - 128) = r
        unfold headF
        rw [if_neg (by omega), if_neg (by omega), if_pos hs]
        omega
/-- A scalar's bytes are read as it, whatever stands behind them. -/
theorem all_put {r : Int} (h : scalarB r = true) (rest : List Int) : allF (putF r ++ rest) = r :: allF rest := by
  obtain ⟨h1, h2, h3⟩ := one_put h
  have := chunk_all h3 (one_is h1 rest)
  rw [h2] at this
  exact this
set_option maxRecDepth 100000 in
set_option maxHeartbeats 4000000 in
theorem utfPuts_walk (w : World) (r : Int) (hr : (Lit.int .i32 r).wf = true) :
    Calls Try.prog 8 #[.int .i32 r] w fun e w' => e = .returned (.bool true) ∧ Below w.heap.size w w' := by
  have AW := hide awake_any
  have PU := hide (fun (W : World) => put_any r W)
  have SC := hide (fun (W : World) => scalar_any r W)
  cases hs : scalarB r with
  | false =>
    rw [hs] at SC
    have hp : putF r = [] := by unfold putF; rw [if_pos hs]
    rw [hp] at PU
    have PU := hide (show ∀ W, Calls Try.prog 21 #[.int .i32 r] W fun e w' => e = .returned (.string { data := #[] }) ∧ Below W.heap.size W w' from PU.out)
    clear hs hp hr
    go_enter Try.func8, Try.ntmps8
    go_wp2_with (first
      | (go_at_call 21; go_must (refine (PU.out _).mono ?_; rintro e w1 ⟨rfl, b1⟩))
      | (go_at_call 22; go_must (refine (SC.out _).mono ?_; rintro e w2 ⟨rfl, rfl⟩))
      | (go_at_call 10; go_must (refine (AW.out _).mono ?_; rintro e w4 ⟨rfl, b4⟩)))
    go_ret
    exact ⟨rfl, below_in b1 b4 (Nat.le_refl _)⟩
  | true =>
    rw [hs] at SC
    have RP := hide (fun (W : World) => rput_any r W)
    have ha := all_put hs []
    rw [List.append_nil, allF_nil] at ha
    have hq := putF_bytes r
    have h4 : (putF r).length ≤ 4 := by unfold putF; (repeat' split) <;> simp
    obtain ⟨p, hp⟩ : ∃ p, putF r = p := ⟨_, rfl⟩
    obtain ⟨n, hn⟩ : ∃ n, p.length = n := ⟨_, rfl⟩
    rw [hp] at PU RP ha hq h4
    rw [hn] at h4
    have CV := hide (fun W => conv_bytes p hq W)
    have AL := hide (fun (A : Option Addr) (c : Nat) (W : World) (h : Rd W W.heap.size 1 A n (p.map b8)) => show Calls Try.prog 12 #[.slice A n c] W (RetSlice 21 1 ([r].map r32) W) by
      have := all_any p A n c W h hq (by omega)
      rwa [ha] at this)
    unfold RetRd at RP
    rw [hn] at RP CV
    have R1 := hide (fun W g hg => rd_lit r32 [r] (n := 1) (cs := #[.int .i32 r]) rfl rfl W 21 g hg)
    clear hs hp hr ha hq hn
    go_enter Try.func8, Try.ntmps8
    go_wp2_with (first
      | (go_at_call 21; go_must (refine (PU.out _).mono ?_; rintro e w1 ⟨rfl, b1⟩; have b1 := hide b1))
      | (go_at_call 22; go_must (refine (SC.out _).mono ?_; rintro e w2 ⟨rfl, rfl⟩))
      | (go_at_call 23; go_must (refine (RP.out _).mono ?_; rintro e w3 ⟨A3, c3, rfl, rd3, _, b3⟩; have b3 := hide (below_in b1.out b3 (Nat.le_refl _)); have cv1 := conv_str (c := c3) rd3; obtain ⟨cap, w4, cv2, rd4, b4⟩ := CV.out w3; have b4 := hide (below_in b3.out b4 (Nat.le_refl _)); have AL4 := hide (AL.out _ cap w4 rd4)))
      | (go_at_call 12; go_must (refine (AL4.out).mono ?_; intro e w5 h; obtain ⟨B5, k5, rfl, hown5, _, b5⟩ := ret_n (n := 1) h rfl; have b5 := hide (below_in b4.out b5 (Nat.le_refl _))))
      | (go_at_call 11; go_must (refine (same_true [r] _ _ 1 1 _ _ _ _ _ ((Rd.of_own hown5).alloc (Nat.le_refl _) _) (R1.out w5 _ (by simp)) (by omega)).mono ?_; rintro e w6 ⟨rfl, b6⟩; have b6 := hide (below_in (b5.out.alloc b5.out.size _) b6 (Nat.le_refl _))))
      | (go_at_call 10; go_must (refine (AW.out _).mono ?_; rintro e w7 ⟨rfl, b7⟩)))
    go_ret
    exact ⟨rfl, below_in b6.out b7 (Nat.le_refl _)⟩
end Go.Proofs.Ytlmgglkicdlchaa
