/-
  A ledger's Use, walked. No condition but bounds.
-/
import Derived.Test.YtndnjdocdfjmcaaUse
namespace Go.Proofs.Ytndnjdocdfjmcaa
open Go.RowKit Go.Proofs
set_option linter.unusedVariables false
theorem LedM.len {w : World} {b most uses : Nat} {M L : List Ent} (h : RankInv most uses M L) : M.length ≤ most := by rw [h.perm.length_eq]; exact h.len
set_option maxRecDepth 100000 in
set_option maxHeartbeats 4000000 in
theorem use_led {X b most uses : Nat} {L : List Ent} (w : World) (t : ByteArray) (ht : t.size ≤ maxLen) (h0 : t ≠ ⟨#[]⟩) (h : Led w X b most uses L) (hm : 1 ≤ most) (hm2 : most ≤ 10000) (hu : uses ≤ 100000) :
    Calls Try.prog 12 #[.pointer (some ⟨X, 0, none⟩), .string t] w fun e w' => e = .returned (.tuple #[]) ∧ Led w' X b most (uses + 1) (useL most uses L t) ∧ Frm (LS X b) w w' := by
  have hs1 := str_ne h0
  have hs2 : t.toList.isEmpty = false := by
    cases hl : t.toList with
    | nil => rw [ByteArray.toList_eq] at hl; exact absurd (data_inj (b := ⟨#[]⟩) (by rw [hl])) h0
    | cons _ _ => rfl
  have hs3 : (t.toList == []) = false := by rw [beq_eq_false_iff_ne]; intro e; rw [e] at hs2; cases hs2
  have hne := h.ne
  have hlt := h.lt
  obtain ⟨hb1, M, hm1, hi1⟩ := h
  obtain ⟨e0, he0⟩ : ∃ e, (lk M t).getD zeroE = e := ⟨_, rfl⟩
  have hc0 : e0.cnt ≤ uses := by
    rw [← he0]
    cases hl : lk M t with
    | none => exact Nat.zero_le _
    | some x => exact hi1.cnt x (hi1.perm.mem_iff.1 (lk_some hl).1)
  have H1 := hide hb1
  have M1 := hide hm1
  have I1 := hide hi1
  have HE := hide he0
  obtain ⟨u1, hu1⟩ : ∃ u, uses + 1 = u := ⟨_, rfl⟩
  obtain ⟨c1, hc1⟩ : ∃ c, e0.cnt + 1 = c := ⟨_, rfl⟩
  have hu2 : (uses : Int) + 1 = u1 := by omega
  have hu3 : IntKind.i64.wrap (u1 : Int) = u1 := IntWalk.i64_in _ ⟨by omega, by omega⟩
  have hc2 : (e0.cnt : Int) + 1 = c1 := by omega
  have hc3 : IntKind.i64.wrap (c1 : Int) = c1 := IntWalk.i64_in _ ⟨by omega, by omega⟩
  have x0 := hb1.cell 0
  have x1 := hb1.cell 1
  have x2 := hb1.cell 2
  have fz := fun i => hb1.frozen i
  simp at x0 x1 x2
  have HLT := hide hlt
  have HNE := hide hne
  have HU := hide hu1
  have HC := hide hc1
  have F1 := hide (show Frm (LS X b) w (w.setCell ⟨X, 2, none⟩ (.int .i64 u1)) from (Frm.refl _ w).setCell (p := ⟨X, 2, none⟩) (fun _ => .inl rfl) _)
  have X1 := hide (show Blk (w.setCell ⟨X, 2, none⟩ (.int .i64 u1)) X 62 #[.map (some b), .int .i64 most, .int .i64 u1] from hb1.set_ 2 _)
  have L1 := hide (show LedM (w.setCell ⟨X, 2, none⟩ (.int .i64 u1)) b M from hm1.same (Below.heap_setCell _ _ _ _ (Ne.symm hne)))
  have lk1 := led_look L1.out ht
  rw [he0] at lk1
  unfold entA at lk1
  clear h0 hb1 hm1 hi1 he0 hlt hne hc0 hu hu1 hc1
  go_enter Try.func12, Try.ntmps12
  go_upto_region 3 with (fail)
  go_name_world W3 hW3
  have D3 := hide (show Below (w.setCell ⟨X, 2, none⟩ (.int .i64 u1)).heap.size (w.setCell ⟨X, 2, none⟩ (.int .i64 u1)) W3 by rw [← hW3]; exact (Below.refl _ _).alloc (Nat.le_refl _) _)
  have E3 := hide (show Blk W3 w.heap.size 31 (entC e0) by rw [← hW3]; exact Blk.new' (by simp [World.setCell]) _ _)
  have X3 := hide (X1.out.below D3.out X1.out.lt)
  have L3 := hide (L1.out.below D3.out L1.out.lt)
  have F3 := hide (frm_call F1.out D3.out)
  have x0 := X3.out.cell 0
  have x1 := X3.out.cell 1
  have x2 := X3.out.cell 2
  have e1 := E3.out.cell 1
  simp at x0 x1 x2 e1
  clear hW3 lk1 fz
  go_still_tail 14, (by kernel_rfl)
  obtain ⟨W4, hW4⟩ : ∃ W4, W4 = W3.drew := ⟨_, rfl⟩
  change wpList _ _ _ _ _ W3.drew
  rw [← hW4]
  have X4 := hide (show Blk W4 X 62 #[.map (some b), .int .i64 most, .int .i64 u1] by rw [hW4]; exact X3.out)
  have L4 := hide (show LedM W4 b M by rw [hW4]; exact L3.out)
  have F4 := hide (show Frm (LS X b) w W4 by rw [hW4]; exact F3.out.drew)
  clear hW4
  have hml := hide (LedM.len (w := w) (b := b) I1.out)
  go_wp2_with (at_mapUpdate; go_must (refine wpList_store_led rfl _ _ _ rfl b M ⟨t, c1, u1⟩ rfl L4.out (by have := hml.out; unfold maxLen; omega) rfl rfl ht ?_; intro w5 L5 t5))
  have X5 := hide (X4.out.grown t5.grown (fun e => HNE.out (by injection e)))
  have F5 := hide (F4.out.trans (turned_frm (X := X) t5) (fun k _ e => e))
  have L5 := hide L5
  obtain ⟨k1, hk1⟩ : ∃ k, (delM M t).length + 1 = k := ⟨_, rfl⟩
  have hk2 : k1 ≤ most + 1 := by have := hml.out; have := del_len (L := M) (t := t); omega
  have hlen := fun (n : Nat) (ty : TypeId) => led_len (w := w5.drewN n) (L5.out.same rfl) ty
  rw [show ((⟨t, c1, u1⟩ : Ent) :: delM M t).length = k1 from hk1] at hlen
  have hlen0 := fun (ty : TypeId) => led_len L5.out ty
  rw [show ((⟨t, c1, u1⟩ : Ent) :: delM M t).length = k1 from hk1] at hlen0
  have x0 := X5.out.cell 0
  have x1 := X5.out.cell 1
  simp at x0 x1
  clear t5 x2 e1
  by_cases hfit : most < k1
  · have d1 : decide ((most : Int) < (k1 : Int)) = true := by simp; omega
    have d2 : decide (most < k1) = true := by simp; omega
    have HF := hide (show most < (delM M t).length + 1 by rw [hk1]; exact hfit)
    have WO := hide (fun (W : World) (hX : Blk W X 62 #[.map (some b), .int .i64 most, .int .i64 u1]) (hL : LedM W b (⟨t, c1, u1⟩ :: delM M t)) => worst_any X b most u1 (⟨t, c1, u1⟩ :: delM M t) t W hX hL ((tot_srt (I1.out.drop t).srt).sub (fun x hx => by
        obtain ⟨h1, h2⟩ := List.mem_filter.1 hx
        rcases List.mem_cons.1 h1 with h3 | h3
        · rw [h3] at h2; simp at h2
        · exact (I1.out.drop t).perm.mem_iff.1 h3)) (by
        have : 0 < (delM M t).length := by have := HF.out; omega
        obtain ⟨x, hx⟩ := List.exists_mem_of_length_pos this
        exact ⟨x, List.mem_cons_of_mem _ hx, by have := (List.mem_filter.1 hx).2; simpa using this⟩))
    clear hk1 hfit hk2
    go_quiet (fail)
    go_upto_region 5 with (fail)
    go_name_world W6 hW6
    have X6 := hide (show Blk W6 X 62 #[.map (some b), .int .i64 most, .int .i64 u1] by rw [← hW6]; exact X5.out.drewN _)
    have L6 := hide (show LedM W6 b (⟨t, c1, u1⟩ :: delM M t) by rw [← hW6]; exact L5.out.same rfl)
    have F6 := hide (show Frm (LS X b) w W6 by rw [← hW6]; exact F5.out.drewN _)
    have x0 := X6.out.cell 0
    simp at x0
    clear hW6 hlen hlen0
    have C6 := hide (WO.out W6.drew X6.out (L6.out.same rfl))
    have HSZ := hide (show ∀ x ∈ ((⟨t, c1, u1⟩ : Ent) :: delM M t), x.text.size ≤ maxLen from fun x hx => by
      rcases List.mem_cons.1 hx with h3 | h3
      · rw [h3]; exact ht
      · exact I1.out.size x (I1.out.perm.mem_iff.1 (List.mem_filter.1 h3).1))
    go_region_held3 (fun W => W.cell? ⟨X, 0, none⟩ = some (.map (some b)))
      (first | (exact x0) | (exact x9) | (exact x8) | go_keep)
      (first
        | (go_at_call 23; (refine (C6.out).mono ?_); rintro e9 w8 ⟨⟨o, rfl, ho⟩, b8⟩; have HO := hide ho; have X8 := hide (X6.out.below (w := W6.drew) b8 X6.out.lt); have x8 := X8.out.cell 0; simp at x8; have L8 := hide ((L6.out.same (w' := W6.drew) rfl).below b8 L6.out.lt); have F8 := hide (frm_call F6.out.drew b8); clear ho b8)
        | (refine step_delete_led (by rfl) _ _ (by rfl) b (⟨t, c1, u1⟩ :: delM M t) o.text (by rfl) L8.out (by rfl) (HSZ.out o HO.out.1) ?_; intro w9 M9 t9; have M9 := hide M9; have F9 := hide (F8.out.trans (turned_frm (X := X) t9) (fun k _ e => e)); have H9 := hide (X8.out.grown t9.grown (fun e => HNE.out (by injection e))); have x9 := H9.out.cell 0; simp at x9; clear t9))
    go_end0
    refine ⟨rfl, ⟨by rw [HU.out]; exact H9.out, _, M9.out, ?_⟩, F9.out⟩
    have := use_full I1.out ht hm HF.out (w := o) (by rw [HE.out, HC.out, HU.out]; exact HO.out)
    rw [HE.out, HC.out, HU.out] at this
    rw [HU.out]
    exact this
  · have d1 : decide ((most : Int) < (k1 : Int)) = false := by simp; omega
    have d2 : decide (most < k1) = false := by simp; omega
    have HF := hide (show (delM M t).length + 1 ≤ most by rw [hk1]; omega)
    clear hk1 hfit hk2
    go_quiet (fail)
    go_wp2
    go_end0
    refine ⟨rfl, ⟨by rw [HU.out]; exact X5.out.drewN _, _, L5.out.same rfl, ?_⟩, F5.out.drewN _⟩
    have := use_fits I1.out ht HF.out
    rw [HE.out, HC.out, HU.out] at this
    rw [HU.out]
    exact this
end Go.Proofs.Ytndnjdocdfjmcaa
