/-
  made, walked: both ledgers, with texts used. No condition but bounds.
-/
import Derived.Test.YtndnjdocdfjmcaaAwake
import Derived.OpenShut
namespace Go.Proofs.Ytndnjdocdfjmcaa
open Go.RowKit Go.Proofs
set_option linter.unusedVariables false
theorem Led.map_ne {w : World} {X b most uses g t : Nat} {cs : Array Value} {L : List Ent} (h : Led w X b most uses L) (hg : Blk w g t cs) : g ≠ b := by
  obtain ⟨h1, M, ⟨D, ⟨es, clock, h2, _⟩, _⟩, _⟩ := h
  rintro rfl
  unfold Blk at hg
  rw [hg] at h2
  cases h2
theorem own_map {w : World} {X b most uses base n : Nat} {v : Value} {xs : List Value} {L : List Ent} (h : Led w X b most uses L) (ho : w.ownsRow base 55 3 v n xs) : v.ownBlock ≠ some b := by
  intro e
  rcases ho.2 with ⟨rfl, _⟩ | ⟨g, cap, cur, rfl, _, hg, _⟩
  · cases e
  · injection e with e
    exact h.map_ne (g := g) hg e
/-- Both ledgers hold the same. -/
structure Both (w : World) (B X b Y most uses : Nat) (L : List Ent) : Prop where
  led : Led w X b most uses L
  ref : RefL w Y B most uses L
  hX : B ≤ X
  hb : B ≤ b
  hY : B ≤ Y
  hB : B ≤ w.heap.size
section
variable {w w' : World} {B X b Y most uses uses' : Nat} {L L' : List Ent}
theorem Both.call (h : Both w B X b Y most uses L) (hb : Below w.heap.size w w') : Both w' B X b Y most uses L := ⟨h.led.call hb, h.ref.call hb, h.hX, h.hb, h.hY, Nat.le_trans h.hB hb.size⟩
theorem ref_keep (h : RefL w Y B most uses L') (hl : Led w X b most uses' L) (hf : Frm (LS X b) w w') : RefL w' Y B most uses L' := by
  obtain ⟨A, n, c, h3, h4⟩ := h
  refine ⟨A, n, c, h3.frm hf ?_, own_frm h4 hf ?_⟩
  · rintro (e | e)
    · exact h3.ne_ hl.blk (by decide) e
    · exact hl.map_ne h3 e
  · rintro k hk (e | e)
    · subst e; exact own_ne h4 hl.blk (by decide) hk.symm
    · subst e; exact own_map hl h4 hk
theorem led_keep (h : Led w X b most uses L) (hr : RefL w Y B most uses' L') (hf : Frm (fun k => k = Y) w w') : Led w' X b most uses L := by
  obtain ⟨A, n, c, h3, h4⟩ := hr
  exact h.frm hf (h.blk.ne_ h3 (by decide)) (fun e => h.map_ne h3 e.symm)
theorem Both.below (h : Both w B X b Y most uses L) (hf : Frm (LS X b) w w') : Below B w w' := ls_below hf h.hB h.hX h.hb
theorem Both.below2 (h : Both w B X b Y most uses L) (hf : Frm (fun k => k = Y) w w') (hw : B ≤ w.heap.size) : Below B w w' := hf.to_below hw (fun i (e : i = Y) => by have := h.hY; omega)
end
set_option maxHeartbeats 1000000 in
theorem ruse_empty (Y : Nat) (w : World) : Calls Try.prog 26 #[.pointer (some ⟨Y, 0, none⟩), .string ⟨#[]⟩] w fun e w' => e = .returned (.tuple #[]) ∧ w' = w := by
  go_enter Try.func26, Try.ntmps26
  go_wp2
  exact bodyPost_ret (results_none rfl _ _ _) rfl ⟨rfl, rfl⟩
/-- Both ledgers handed back. -/
def MadePost (most : Nat) (w : World) (e : Ending) (w' : World) : Prop :=
  ∃ X b Y uses L, e = .returned (.tuple #[.pointer (some ⟨X, 0, none⟩), .pointer (some ⟨Y, 0, none⟩)]) ∧ Both w' w.heap.size X b Y most uses L ∧ uses ≤ 100 ∧ Below w.heap.size w w'
set_option maxRecDepth 100000 in
set_option maxHeartbeats 8000000 in
theorem made_any (m : Nat) (hm : m ≤ 255) (A : Option Addr) (n c : Nat) (ls : List ByteArray) (w : World) (hr : Rd w w.heap.size 1 A n (ls.map Value.string)) (hq : ∀ x ∈ ls, x.size ≤ maxLen) (hn : n ≤ 100) :
    Calls Try.prog 17 #[.int .u8 m, .slice A n c] w (MadePost (1 + m % 20) w) := by
  obtain ⟨k0, hk0⟩ : ∃ k0, 1 + m % 20 = k0 := ⟨_, rfl⟩
  have hk1 : (m : Int) % 20 = ((m % 20 : Nat) : Int) := by omega
  have hk2 : 1 ≤ k0 ∧ k0 ≤ 20 := by omega
  obtain ⟨r0, hr0⟩ : ∃ r0, m % 20 = r0 := ⟨_, rfl⟩
  rw [hr0] at hk0 hk1
  have hk3 : (1 : Int) + r0 = k0 := by omega
  have hk4 : (m : Int).tmod 20 = r0 := by rw [Int.tmod_eq_emod_of_nonneg (by omega)]; exact hk1
  have hk5 : IntKind.i64.wrap (k0 : Int) = k0 := IntWalk.i64_in _ ⟨by omega, by omega⟩
  have hk6 : IntKind.i64.wrap (r0 : Int) = r0 := IntWalk.i64_in _ ⟨by omega, by omega⟩
  have N1 := hide (new_any k0 w hk2.1 (by omega))
  have HR := hide hr
  have HQ := hide hq
  rw [hr0, hk0]
  clear hr hq hr0 hk0
  go_enter Try.func17, Try.ntmps17
  go_upto_region 7 with (go_at_call 11; go_must (refine (N1.out).mono ?_; rintro e w1 ⟨rfl, l1, b1⟩; have L1 := hide l1; have B1 := hide b1; clear l1 b1))
  go_name_world W0 hW0
  have D0 := hide (show Below w1.heap.size w1 W0 by rw [← hW0]; exact (Below.refl _ _).alloc (Nat.le_refl _) _)
  have Y0 := hide (show Blk W0 w1.heap.size 53 #[.int .i64 k0, .int .i64 0, .slice none 0 0] by rw [← hW0]; exact Blk.new _ _ _)
  have B0 := hide (below_in B1.out D0.out (Nat.le_refl _))
  have BO := hide (show Both W0 w.heap.size (w.heap.size + 1) w.heap.size w1.heap.size k0 0 [] from ⟨L1.out.call D0.out, ⟨none, 0, 0, Y0.out, ⟨rfl, .inl ⟨rfl, rfl⟩⟩⟩, by omega, Nat.le_refl _, B1.out.size, B0.out.size⟩)
  obtain ⟨X, hX⟩ : ∃ X, w.heap.size + 1 = X := ⟨_, rfl⟩
  obtain ⟨Y, hY⟩ : ∃ Y, w1.heap.size = Y := ⟨_, rfl⟩
  rw [hX, hY] at BO
  rw [hX, hY]
  have HX := hide hX
  clear hW0 hX hY Y0 D0
  go_loopg [10, 11] n (fun g s10 s11 wr => ∃ (i uses : Nat) (L : List Ent), i + g = n ∧ s10 = .int .i64 i ∧ uses ≤ i ∧ Hid (Both wr w.heap.size X w.heap.size Y k0 uses L) ∧ Hid (Below w.heap.size w wr))
  case atStart => exact ⟨0, 0, [], by omega, rfl, Nat.le_refl _, BO.out, B0.out⟩
  case round =>
    clear BO B0
    obtain ⟨i, uses, L, hig, rfl, hui, BO, HB⟩ := hrel
    by_cases hlt : i < n
    · obtain ⟨b1, off, x, rfl, hb1, hx, cx⟩ := (HR.out).at1 hlt
      have hxs := hide (HQ.out x (List.mem_of_getElem? hx))
      have cx0 := hide cx
      have cx1 := (HB.out.cell (p := ⟨b1, off + i, none⟩) hb1).trans cx
      clear hx cx
      by_cases hx0 : x.size = 0
      · obtain rfl : x = ⟨#[]⟩ := data_inj (by show x.data.toList = []; exact List.eq_nil_of_length_eq_zero (by simpa using hx0))
        have UE := hide (fun (W : World) => use_empty (some ⟨X, 0, none⟩) W)
        have RE := hide (fun (W : World) => ruse_empty Y W)
        have z0 : (⟨#[]⟩ : ByteArray).size = 0 := rfl
        clear hx0
        go_wp2_with (first
          | (go_at_call 12; go_must (refine (UE.out _).mono ?_; rintro e w2 ⟨rfl, rfl⟩))
          | (go_at_call 26; go_must (refine (RE.out _).mono ?_; rintro e w3 ⟨rfl, rfl⟩)))
        go_roundg (n - (i + 1))
        case measure => omega
        case rel => exact ⟨i + 1, uses, L, by omega, by go_num, by omega, BO.out, HB.out⟩
      · obtain ⟨k1, hk⟩ : ∃ k1, x.size = k1 := ⟨_, rfl⟩
        have hpos : 0 < x.size := by omega
        have d1 : decide ((0 : Int) < k1) = true := by simp; omega
        have d2 : decide (0 < k1) = true := by simp; omega
        have hne := hide (show x ≠ ⟨#[]⟩ from fun e => hx0 (by rw [e]; rfl))
        have hlen := hide (show L.length ≤ 20 by obtain ⟨_, M, _, hi⟩ := BO.out.led; have := hi.len; omega)
        by_cases hc : (x[0]'hpos).toNat = 45
        · have hc1 : (((x[0]'hpos).toNat : Int) == 45) = true := by simp [hc]
          have hc2 : ((x[0]'hpos).toNat == 45) = true := by simp [hc]
          obtain ⟨t', ht'⟩ : ∃ t', x.extract 1 k1 = t' := ⟨_, rfl⟩
          have hts : t'.size ≤ maxLen := by rw [← ht', ByteArray.size_extract]; have := hxs.out; omega
          have C1 := hide (forget_led wr t' hts BO.out.led)
          have C2 := hide (fun (W : World) (hR : RefL W Y w.heap.size k0 uses L) (hB : w.heap.size ≤ W.heap.size) => drop_ref W t' hR hB (by have := hlen.out; omega))
          have i1 : (1 : Int) ≤ k1 := by omega
          clear hx0 hc hts
          go_wp2_with (first
            | (go_at_call 20; go_must (refine (C1.out).mono ?_; rintro e w2 ⟨rfl, l2, f2⟩; have L2 := hide l2; have F2 := hide f2; have R2 := hide (ref_keep BO.out.ref BO.out.led f2); have B2 := hide (HB.out.trans (BO.out.below f2)); have cx2 := (B2.out.cell (p := ⟨b1, off + i, none⟩) hb1).trans cx0.out; have D2 := hide (C2.out w2 R2.out B2.out.size); clear l2 f2))
            | (go_at_call 21; go_must (refine (D2.out).mono ?_; rintro e w3 ⟨⟨bb, rfl⟩, r3, f3⟩; have R3 := hide r3; have F3 := hide f3; clear r3 f3)))
          go_roundg (n - (i + 1))
          case measure => omega
          case rel => exact ⟨i + 1, uses, delM L t', by omega, by go_num, by omega, ⟨led_keep L2.out R2.out F3.out, R3.out, BO.out.hX, BO.out.hb, BO.out.hY, Nat.le_trans B2.out.size F3.out.size⟩, B2.out.trans (F3.out.to_below B2.out.size (fun i (e : i = Y) => by have := BO.out.hY; omega))⟩
        · have hc1 : (((x[0]'hpos).toNat : Int) == 45) = false := by rw [beq_eq_false_iff_ne]; omega
          have hc2 : ((x[0]'hpos).toNat == 45) = false := by rw [beq_eq_false_iff_ne]; omega
          have C1 := hide (use_led wr x hxs.out hne.out BO.out.led (by omega) (by omega) (by omega))
          have C2 := hide (fun (W : World) (hR : RefL W Y w.heap.size k0 uses L) (hB : w.heap.size ≤ W.heap.size) => use_ref W x hne.out hR BO.out.hY hB (by obtain ⟨_, M, _, hi⟩ := BO.out.led; exact hi.pw) (by obtain ⟨_, M, _, hi⟩ := BO.out.led; exact fun y hy => by have := hi.cnt y hy; omega) (by obtain ⟨_, M, _, hi⟩ := BO.out.led; exact hi.len) (by omega) (by omega) (by omega))
          clear hx0 hc
          go_wp2_with (first
            | (go_at_call 12; go_must (refine (C1.out).mono ?_; rintro e w2 ⟨rfl, l2, f2⟩; have L2 := hide l2; have F2 := hide f2; have R2 := hide (ref_keep BO.out.ref BO.out.led f2); have B2 := hide (HB.out.trans (BO.out.below f2)); have cx2 := (B2.out.cell (p := ⟨b1, off + i, none⟩) hb1).trans cx0.out; have D2 := hide (C2.out w2 R2.out B2.out.size); clear l2 f2))
            | (go_at_call 26; go_must (refine (D2.out).mono ?_; rintro e w3 ⟨rfl, r3, f3⟩; have R3 := hide r3; have F3 := hide f3; clear r3 f3)))
          go_roundg (n - (i + 1))
          case measure => omega
          case rel => exact ⟨i + 1, uses + 1, useL k0 uses L x, by omega, by go_num, by omega, ⟨led_keep L2.out R2.out F3.out, R3.out, BO.out.hX, BO.out.hb, BO.out.hY, Nat.le_trans B2.out.size F3.out.size⟩, B2.out.trans (F3.out.to_below B2.out.size (fun i (e : i = Y) => by have := BO.out.hY; omega))⟩
    · obtain rfl : i = n := by omega
      go_wp2
      go_ret2
      exact ⟨X, w.heap.size, Y, uses, L, rfl, BO.out, by omega, HB.out⟩
end Go.Proofs.Ytndnjdocdfjmcaa
