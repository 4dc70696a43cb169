/-
  A ledger in memory; the worst text of all but one, walked. No condition but bounds.
-/
import Derived.Test.YtndnjdocdfjmcaaLedOps
import Derived.Test.YtndnjdocdfjmcaaTopL
namespace Go.Proofs.Ytndnjdocdfjmcaa
open Go.RowKit Go.Proofs
set_option linter.unusedVariables false
/-- The worst one so far, or none so far. -/
def WorstTo (done : List Ent) (but : ByteArray) (fb : Bool) (out : Ent) : Prop :=
  (fb = false ∧ out = zeroE ∧ ∀ x ∈ done, x.text = but) ∨ (fb = true ∧ IsWorst done but out)
theorem worst_skip {done : List Ent} {but : ByteArray} {fb : Bool} {out e : Ent} (h : WorstTo done but fb out) (he : e.text = but) : WorstTo (e :: done) but fb out := by
  rcases h with ⟨h1, h2, h3⟩ | ⟨h1, h2, h3, h4⟩
  · refine .inl ⟨h1, h2, fun x hx => ?_⟩
    rcases List.mem_cons.1 hx with rfl | hx
    · exact he
    · exact h3 x hx
  · refine .inr ⟨h1, List.mem_cons_of_mem _ h2, h3, fun x hx ht hne => ?_⟩
    rcases List.mem_cons.1 hx with rfl | hx
    · exact absurd he ht
    · exact h4 x hx ht hne
theorem worst_first {done : List Ent} {but : ByteArray} {out e : Ent} (h : WorstTo done but false out) (he : e.text ≠ but) : WorstTo (e :: done) but true e := by
  rcases h with ⟨h1, h2, h3⟩ | ⟨h1, _⟩
  · refine .inr ⟨rfl, List.mem_cons_self .., he, fun x hx ht hne => ?_⟩
    rcases List.mem_cons.1 hx with rfl | hx
    · exact absurd rfl hne
    · exact absurd (h3 x hx) ht
  · cases h1
theorem worst_new {done : List Ent} {but : ByteArray} {out e : Ent} (h : WorstTo done but true out) (he : e.text ≠ but) (hb : betB out e = true) : WorstTo (e :: done) but true e := by
  rcases h with ⟨h1, _⟩ | ⟨h1, h2, h3, h4⟩
  · cases h1
  · refine .inr ⟨rfl, List.mem_cons_self .., he, fun x hx ht hne => ?_⟩
    rcases List.mem_cons.1 hx with rfl | hx
    · exact absurd rfl hne
    · by_cases hxo : x = out
      · rw [hxo]; exact hb
      · exact bet_trans (h4 x hx ht hxo) hb
theorem worst_keep {done : List Ent} {but : ByteArray} {out e : Ent} (h : WorstTo done but true out) (he : betB e out = true) : WorstTo (e :: done) but true out := by
  rcases h with ⟨h1, _⟩ | ⟨h1, h2, h3, h4⟩
  · cases h1
  · refine .inr ⟨rfl, List.mem_cons_of_mem _ h2, h3, fun x hx ht hne => ?_⟩
    rcases List.mem_cons.1 hx with rfl | hx
    · exact he
    · exact h4 x hx ht hne
theorem worst_perm {done M : List Ent} {but : ByteArray} {out : Ent} (h : IsWorst done but out) (hp : done.Perm M) : IsWorst M but out :=
  ⟨hp.mem_iff.1 h.1, h.2.1, fun x hx ht hne => h.2.2 x (hp.mem_iff.2 hx) ht hne⟩
theorem del_perm {todo : List Ent} {e : Ent} (hp : todo.Pairwise (fun a b => a.text ≠ b.text)) (he : e ∈ todo) : (e :: delM todo e.text).Perm todo := by
  induction todo with
  | nil => cases he
  | cons x r ih =>
    obtain ⟨h1, h2⟩ := List.pairwise_cons.1 hp
    by_cases hx : x.text = e.text
    · have hxe : x = e := by
        rcases List.mem_cons.1 he with h | h
        · exact h.symm
        · exact absurd hx (h1 e h)
      subst hxe
      have : delM (x :: r) x.text = r := by
        unfold delM
        rw [List.filter_cons_of_neg (by simp)]
        exact List.filter_eq_self.2 fun y hy => by simpa using (fun h => h1 y hy h.symm)
      rw [this]
    · have her : e ∈ r := by
        rcases List.mem_cons.1 he with h | h
        · exact absurd (by rw [h]) hx
        · exact h
      have : delM (x :: r) e.text = x :: delM r e.text := by
        unfold delM
        rw [List.filter_cons_of_pos (by simpa using hx)]
      rw [this]
      exact (List.Perm.swap ..).trans ((ih h2 her).cons x)
theorem del_lt {todo : List Ent} {e : Ent} (he : e ∈ todo) : (delM todo e.text).length < todo.length := by
  rcases Nat.lt_or_ge (delM todo e.text).length todo.length with h3 | h3
  · exact h3
  · have : delM todo e.text = todo := List.filter_eq_self.2 (List.length_filter_eq_length_iff.1 (Nat.le_antisymm del_len h3))
    rw [← this] at he
    have := (List.mem_filter.1 he).2
    simp at this
theorem str_ne {a b : ByteArray} (h : a ≠ b) : (a.toList == b.toList) = false := by
  rw [beq_eq_false_iff_ne, ByteArray.toList_eq, ByteArray.toList_eq]
  exact fun e => h (data_inj e)
theorem str_eq {a b : ByteArray} (h : a = b) : (a.toList == b.toList) = true := by subst h; simp
theorem RngM.below {w w' : World} {b r : Nat} {M todo : List Ent} (h : RngM w b r M todo) (hb : Below w.heap.size w w') : RngM w' b r M todo := h.same (hb.block b h.lt.1) (hb.block r h.lt.2)
theorem RngM.frm {S : Nat → Prop} {w w' : World} {b r : Nat} {M todo : List Ent} (h : RngM w b r M todo) (hf : Frm S w w') (hb : ¬ S b) (hr : ¬ S r) : RngM w' b r M todo := h.same (hf.block b h.lt.1 hb) (hf.block r h.lt.2 hr)
theorem blk_three {g : Nat} {t : TypeId} {w : World} {v0 v1 v2 : Value} (h : Blk w g t #[v0, v1, v2]) (a b c : Value) : Blk (((w.setCell ⟨g, 0, none⟩ a).setCell ⟨g, 1, none⟩ b).setCell ⟨g, 2, none⟩ c) g t #[a, b, c] := ((h.set_ 0 a).set_ 1 b).set_ 2 c
theorem frm_three {g : Nat} {w : World} (a b c : Value) : Frm (fun k => k = g) w (((w.setCell ⟨g, 0, none⟩ a).setCell ⟨g, 1, none⟩ b).setCell ⟨g, 2, none⟩ c) := three_frm (o := 0) (Frm.refl (fun k => k = g) w) a b c
abbrev entC (e : Ent) : Array Value := #[.string e.text, .int .i64 e.cnt, .int .i64 e.last]
set_option maxRecDepth 100000 in
set_option maxHeartbeats 4000000 in
theorem worst_any (X b : Nat) (most uses : Nat) (M : List Ent) (but : ByteArray) (w : World) (hX : Blk w X 62 #[.map (some b), .int .i64 most, .int .i64 uses]) (hM : LedM w b M) (hT : Tot (delM M but)) (hex : ∃ x ∈ M, x.text ≠ but) :
    Calls Try.prog 23 #[.pointer (some ⟨X, 0, none⟩), .string but] w fun e w' => (∃ o, e = .returned (.string o.text) ∧ IsWorst M but o) ∧ Below w.heap.size w w' := by
  have HX := hide hX
  have HM := hide hM
  have HT := hide hT
  have HE := hide hex
  have PW := hide hM.pw
  have x0 := hX.cell 0
  simp at x0
  have hXl := hX.lt
  clear hX hM hT hex
  have z31 := zero31
  unfold zeroE at z31
  go_enter Try.func23, Try.ntmps23
  go_upto_region 3 with (fail)
  go_name_world W0 hW0
  have B0 := hide (show Below w.heap.size w W0 by rw [← hW0]; exact (Below.refl _ _).alloc (Nat.le_refl _) _)
  have V0 := hide (show Blk W0 w.heap.size 31 (entC zeroE) by rw [← hW0]; exact Blk.new _ _ _)
  have M0 := hide (HM.out.below B0.out HM.out.lt)
  have x0 := (HX.out.below B0.out HX.out.lt).cell 0
  simp at x0
  clear hW0
  go_wp2_with (at_range; go_must (refine wpList_range_led rfl _ rfl b M rfl M0.out ?_; intro w1 R1 g1 s1))
  have B1 := hide (B0.out.grown g1 B0.out.size (fun k hk => by cases hk))
  have V1 := hide (V0.out.grown g1 (by simp))
  have hOr : w.heap.size < W0.heap.size := V0.out.lt
  have hW0 := B0.out.size
  clear g1 s1 x0
  go_frame
  go_loopg [6] M.length (fun g s6 wr => ∃ (todo done : List Ent) (fb : Bool) (out : Ent), todo.length = g ∧ s6 = .bool fb ∧ Hid (RngM wr b W0.heap.size M todo) ∧ Hid (Blk wr w.heap.size 31 (entC out)) ∧ Hid (WorstTo done but fb out) ∧ Hid ((done ++ todo).Perm M) ∧ Hid (Below w.heap.size w wr))
  case atStart => exact ⟨M, [], false, zeroE, rfl, rfl, R1, V1.out, .inl ⟨rfl, rfl, fun x hx => by cases hx⟩, .refl _, B1.out⟩
  case round =>
    clear R1 V1 B1
    obtain ⟨todo, done, fb, out, hg, rfl, HR, HV, HWo, HP, HB⟩ := hrel
    go_wp2_with (at_next; go_must (refine wpList_next_led rfl _ rfl b W0.heap.size M todo rfl HR.out ?_ ?_))
    · intro hnil
      subst hnil
      have v0 := HV.out.cell 0
      simp at v0
      have HP2 := HP.out
      rw [List.append_nil] at HP2
      have HFIN := hide (show IsWorst M but out by
        rcases HWo.out with ⟨_, _, h3⟩ | ⟨_, h⟩
        · obtain ⟨x, hx, hne⟩ := HE.out
          exact absurd (h3 x (HP2.mem_iff.2 hx)) hne
        · exact worst_perm h HP2)
      clear HP2
      go_wp2
      go_ret
      exact ⟨⟨out, rfl, HFIN.out⟩, HB.out⟩
    · intro x e w2 he R2 g2 s2 hen
      have B2 := hide (HB.out.grown g2 HB.out.size (fun k hk => by injection hk with hk; omega))
      have V2 := hide (HV.out.grown g2 (by intro e9; injection e9 with e9; omega))
      have R2 := hide R2
      have HL := hide (del_lt he)
      have HP2 := hide (show ((e :: done) ++ delM todo e.text).Perm M from (List.perm_middle (l₁ := done) (a := e) (l₂ := delM todo e.text)).symm.trans (((del_perm (List.pairwise_append.1 ((HP.out.pairwise_iff (fun h => Ne.symm h)).2 PW.out)).2.1 he).append_left done).trans HP.out))
      have HET := hide he
      have HEM := hide (show e ∈ M from HP.out.mem_iff.1 (List.mem_append.2 (.inr he)))
      clear he g2 s2
      unfold entA at hen
      unfold entA
      go_upto_region 6 with (fail)
      go_name_world W3 hW3
      have D3 := hide (show Below w2.heap.size w2 W3 by rw [← hW3]; exact (Below.refl _ _).alloc (Nat.le_refl _) _)
      have Y3 := hide (show Blk W3 w2.heap.size 31 (entC e) by rw [← hW3]; exact Blk.new _ _ _)
      have V3 := hide (V2.out.below D3.out V2.out.lt)
      have R3 := hide (R2.out.below D3.out)
      have B3 := hide (below_in B2.out D3.out (Nat.le_refl _))
      have v0 := V3.out.cell 0
      have v1 := V3.out.cell 1
      have v2 := V3.out.cell 2
      have y0 := Y3.out.cell 0
      have y1 := Y3.out.cell 1
      have y2 := Y3.out.cell 2
      have hlt2 := V2.out.lt
      have HB3 := hide (show w.heap.size ≤ W3.heap.size from B3.out.size)
      have NB := hide (show ¬ b = w.heap.size from fun e9 => by have := HM.out.lt; omega)
      simp at v0 v1 v2 y0 y1 y2
      clear hW3 hen
      by_cases hbut : e.text = but
      · have st := str_eq hbut
        have HW2 := hide (worst_skip HWo.out hbut)
        clear hbut
        go_wp2
        go_roundg (delM todo e.text).length
        case measure => have := HL.out; omega
        case rel => exact ⟨delM todo e.text, e :: done, fb, out, rfl, rfl, R3.out, V3.out, HW2.out, HP2.out, B3.out⟩
      · have st := str_ne hbut
        have HN := hide hbut
        clear hbut
        cases fb with
        | false =>
          have HW2 := hide (worst_first HWo.out HN.out)
          have F3 := hide (frm_three (g := w.heap.size) (w := W3) (.string e.text) (.int .i64 e.cnt) (.int .i64 e.last))
          have V4 := hide (blk_three V3.out (.string e.text) (.int .i64 e.cnt) (.int .i64 e.last))
          have R4 := hide (R3.out.frm F3.out (by have := R3.out.lt; exact NB.out) (by omega))
          have B4 := hide (B3.out.trans (F3.out.to_below HB3.out (fun i (e : i = w.heap.size) => by omega)))
          have fz := fun i => V3.out.frozen i
          go_wp2_with (fail)
          go_roundg (delM todo e.text).length
          case measure => have := HL.out; omega
          case rel => exact ⟨delM todo e.text, e :: done, true, e, rfl, rfl, R4.out, V4.out, HW2.out, HP2.out, B4.out⟩
        | true =>
          have hne : e ≠ out := fun e9 => by
            rcases HWo.out with ⟨h, _⟩ | ⟨_, h, _⟩
            · cases h
            · have h1 := (List.pairwise_append.1 ((HP.out.pairwise_iff (fun h => Ne.symm h)).2 PW.out)).2.2 out h e HET.out
              exact h1 (by rw [e9])
          have hout : out ∈ delM M but := by
            rcases HWo.out with ⟨h, _⟩ | ⟨_, h, h2, _⟩
            · cases h
            · exact List.mem_filter.2 ⟨HP.out.mem_iff.1 (List.mem_append.2 (.inl h)), by simpa using h2⟩
          have hee : e ∈ delM M but := List.mem_filter.2 ⟨HEM.out, by simpa using HN.out⟩
          have htot := HT.out out hout e hee (Ne.symm hne)
          have BT := hide (fun (W : World) => better_any out e W)
          cases hbt : betB out e with
          | true =>
            rw [hbt] at BT
            have HW2 := hide (worst_new HWo.out HN.out hbt)
            clear hbt htot hne hout hee
            unfold entA at BT
            go_wp2_with (go_at_call 29; go_must (refine (BT.out _).mono ?_; rintro e9 w4 ⟨rfl, b4⟩; have V4 := hide (V3.out.below b4 V3.out.lt); have Y4 := hide (Y3.out.below b4 Y3.out.lt); have R4 := hide (R3.out.below b4); have B4 := hide (below_in B3.out b4 (Nat.le_refl _)); have z4 := b4.size; clear b4; have p0 := Y4.out.cell 0; have p1 := Y4.out.cell 1; have p2 := Y4.out.cell 2; have fz := fun i => V4.out.frozen i; have o0 := V4.out.cell 0; have o1 := V4.out.cell 1; have o2 := V4.out.cell 2; simp at p0 p1 p2 o0 o1 o2))
            have F3 := hide (frm_three (g := w.heap.size) (w := w4) (.string e.text) (.int .i64 e.cnt) (.int .i64 e.last))
            have V5 := hide (blk_three V4.out (.string e.text) (.int .i64 e.cnt) (.int .i64 e.last))
            have R5 := hide (R4.out.frm F3.out NB.out (by omega))
            have B5 := hide (B4.out.trans (F3.out.to_below B4.out.size (fun i (e : i = w.heap.size) => by omega)))
            go_roundg (delM todo e.text).length
            case measure => have := HL.out; omega
            case rel => exact ⟨delM todo e.text, e :: done, true, e, rfl, rfl, R5.out, V5.out, HW2.out, HP2.out, B5.out⟩
          | false =>
            rw [hbt] at BT htot
            have HW2 := hide (worst_keep HWo.out (htot.resolve_left (by simp)))
            clear hbt htot hne hout hee
            unfold entA at BT
            go_wp2_with (go_at_call 29; go_must (refine (BT.out _).mono ?_; rintro e9 w4 ⟨rfl, b4⟩; have V4 := hide (V3.out.below b4 V3.out.lt); have Y4 := hide (Y3.out.below b4 Y3.out.lt); have R4 := hide (R3.out.below b4); have B4 := hide (below_in B3.out b4 (Nat.le_refl _)); have z4 := b4.size; clear b4; have p0 := Y4.out.cell 0; have p1 := Y4.out.cell 1; have p2 := Y4.out.cell 2; have fz := fun i => V4.out.frozen i; have o0 := V4.out.cell 0; have o1 := V4.out.cell 1; have o2 := V4.out.cell 2; simp at p0 p1 p2 o0 o1 o2))
            go_roundg (delM todo e.text).length
            case measure => have := HL.out; omega
            case rel => exact ⟨delM todo e.text, e :: done, true, out, rfl, rfl, R4.out, V4.out, HW2.out, HP2.out, B4.out⟩
end Go.Proofs.Ytndnjdocdfjmcaa
