/-
  Next where a hit comes, walked. No condition but bounds.
-/
import Derived.Test.YtkcmpddefohkeaaHunt
import Derived.StillTailTactics
namespace Go.Proofs.Ytkcmpddefohkeaa
open Go.RowKit Go.Proofs
set_option linter.unusedVariables false
/-- What is left of a stream. -/
theorem SOk.tail {w : World} {s : Strm} (h : SOk w s) {t : List Nat} (ht : s.ps = hdOf s :: t) (h1 : 1 < s.n) {D : Option Addr} (hD : cutA s.A s.c 1 1 = D) : SOk w { A := D, n := s.n - 1, c := s.c - 1, ps := t, which := s.which } := by
  obtain ⟨h2, h3, h4, b, off, cs, h5, h6, h7⟩ := h
  refine ⟨?_, by show 0 < s.n - 1; omega, by show s.n - 1 ≤ s.c - 1; omega, b, off + 1, cs, ?_, h6, fun j p hp => ?_⟩
  · show t.length = s.n - 1
    rw [ht] at h2
    simp at h2
    omega
  · show D = _
    rw [← hD, h5]
    unfold cutA
    rw [if_neg (by omega)]
    have e : Addr.add ⟨b, off, none⟩ (1 * 1) = ⟨b, off + 1, none⟩ := by unfold Addr.add; split <;> simp_all
    rw [Option.map_some, e]
  · rw [show off + 1 + j = off + (j + 1) by omega]
    exact h7 (j + 1) p (by rw [ht, List.getElem?_cons_succ]; exact hp)
theorem HeapAt.left {w : World} {base H : Nat} {left : Int} {A : Option Addr} {n c : Nat} {l : List Strm} (h : HeapAt w base H left A n c l) (x : Int) : HeapAt (w.setCell ⟨H, 1, none⟩ (.int .i64 x)) base H x A n c l ∧ KeepT w (w.setCell ⟨H, 1, none⟩ (.int .i64 x)) := by
  have kk := (KeepT.refl w).set h.blk (.inl rfl) 1 (.int .i64 x)
  refine ⟨⟨?_, own_far (p := ⟨H, 1, none⟩) h.own (own_ne h.own h.blk (by decide)) _, fun s hs => (h.ok s hs).keep kk, h.hb⟩, kk⟩
  have := h.blk.set_ 1 (.int .i64 x)
  simpa using this
theorem SOk.far {w : World} {s : Strm} (h : SOk w s) {V t : Nat} {cs0 : Array Value} (hV : Blk w V t cs0) (ht : t ≠ 3) (i : Nat) (u : Value) : SOk (w.setCell ⟨V, i, none⟩ u) s := by
  obtain ⟨h1, h2, h3, b, off, cs, h4, h5, h6⟩ := h
  exact ⟨h1, h2, h3, b, off, cs, h4, h5.far (p := ⟨V, i, none⟩) (h5.ne_ hV (Ne.symm ht)) u, h6⟩
theorem HeapAt.far {w : World} {base H : Nat} {left : Int} {A : Option Addr} {n c : Nat} {l : List Strm} (h : HeapAt w base H left A n c l) {V : Nat} {cs0 : Array Value} (hV : Blk w V 33 cs0) (i : Nat) (u : Value) : HeapAt (w.setCell ⟨V, i, none⟩ u) base H left A n c l :=
  ⟨h.blk.far (p := ⟨V, i, none⟩) (h.blk.ne_ hV (by decide)) u, own_far (p := ⟨V, i, none⟩) h.own (own_ne h.own hV (by decide)) u, fun s hs => (h.ok s hs).far hV (by decide) i u, h.hb⟩
/-- The result's variable is written. -/
theorem next_fin {w W : World} {base H V : Nat} {left : Int} {A : Option Addr} {n c : Nat} {l : List Strm} {a b x y : Value} (hV : V = w.heap.size) (h : HeapAt W base H left A n c l) (hk : KeepT w W) (hb : Below base w W) (hbw : base ≤ w.heap.size) (hv : Blk W V 33 #[a, b]) :
    HeapAt ((W.setCell ⟨V, 0, none⟩ x).setCell ⟨V, 1, none⟩ y) base H left A n c l ∧ KeepT w ((W.setCell ⟨V, 0, none⟩ x).setCell ⟨V, 1, none⟩ y) ∧ Below base w ((W.setCell ⟨V, 0, none⟩ x).setCell ⟨V, 1, none⟩ y) := by
  subst hV
  have v1 : Blk (W.setCell ⟨w.heap.size, 0, none⟩ x) w.heap.size 33 _ := hv.set_ 0 x
  refine ⟨(h.far hv 0 x).far v1 1 y, fun g t cs h1 h2 hg => ?_, (hb.setCell (p := ⟨w.heap.size, 0, none⟩) hbw x).setCell (p := ⟨w.heap.size, 1, none⟩) hbw y⟩
  have hne : g ≠ w.heap.size := Nat.ne_of_lt hg.lt
  exact ((hk g t cs h1 h2 hg).far (p := ⟨w.heap.size, 0, none⟩) hne x).far (p := ⟨w.heap.size, 1, none⟩) hne y
set_option maxRecDepth 100000 in
set_option maxHeartbeats 4000000 in
theorem next_some (base H : Nat) (L : List (Nat × Nat)) (h : Nat × Nat) (w : World) (hh : HuntAt w base H (h :: L)) (hbw : base ≤ w.heap.size) (hL : L.length ≤ 80000) : Calls Try.prog 16 #[.pointer (some ⟨H, 0, none⟩)] w (NextPost base H h true L w) := by
  obtain ⟨A, n, c, l, hp, ho, hs, hperm, hsort⟩ := hh
  have hln := hp.len
  have hle : l.length ≤ (h :: L).length := by have := strms_le hp.ok; rwa [hperm.length_eq] at this
  have hl0 : 0 < l.length := by
    cases l with
    | nil => have := hperm.length_eq; simp at this
    | cons => simp
  obtain ⟨r, hr⟩ : ∃ r, l[0]? = some r := ⟨_, List.getElem?_eq_getElem hl0⟩
  have hrl := List.mem_of_getElem? hr
  have hrok := hp.ok r hrl
  obtain ⟨t, ht⟩ := head_in hrok
  obtain ⟨L', e, hstep⟩ := hunt_step hp.ok ho hs hperm hsort hr ht
  obtain ⟨rfl, rfl⟩ : h = (hdOf r, r.which) ∧ L = L' := by injection e with e1 e2; exact ⟨e1, e2⟩
  have hpop := pop_heap ordS ho hr
  have hsP : ∀ s ∈ popF ltS l, s.ps.Pairwise (· < ·) := fun s hs' => hs s (hpop.2.1.mem_iff.1 (List.mem_cons_of_mem _ hs'))
  have hst : t.Pairwise (· < ·) := by have := hs r hrl; rw [ht] at this; exact (List.pairwise_cons.1 this).2
  have hrlen : r.n = t.length + 1 := by have := hrok.len; rw [ht] at this; simpa using this.symm
  -- the world with the result's variable
  obtain ⟨w0, hw0⟩ : ∃ w0, w.alloc (.cells #[.int .i64 0, .int .i64 0] 33) = w0 := ⟨_, rfl⟩
  have b0 : Below w.heap.size w w0 := by rw [← hw0]; exact (Below.refl _ _).alloc (Nat.le_refl _) _
  have hp0 := hp.call b0
  have hb0 := Nat.le_trans hbw b0.size
  obtain ⟨ll, hll⟩ : ∃ ll : Int, ((((hdOf r, r.which) :: L).length : Nat) : Int) = ll := ⟨_, rfl⟩
  have hl1 : ll - 1 = (L.length : Int) := by rw [← hll]; simp
  rw [hll] at hp hp0
  have PO := hide (hpop_any base H ll A n c l r w0 hp0 ho hr (by simp at hle; omega) hb0)
  have hPn : (popF ltS l).length ≤ 80000 := by rw [popF_len]; simp at hle; omega
  have HB0 := hide b0
  have V0 := hide (show Blk w0 w.heap.size 33 #[.int .i64 0, .int .i64 0] by rw [← hw0]; exact Blk.new _ _ _)
  have c0 := hp.cell
  have c0' := hp0.cell
  have hHl := hp.blk.lt
  have AS := assert53
  have hnpos : 0 < n := by omega
  have dn : ((n : Int) == 0) = false := by rw [beq_eq_false_iff_ne]; omega
  have dn' : (n == 0) = false := by rw [beq_eq_false_iff_ne]; omega
  have HF := hide (And.intro hpop.1 (And.intro hsP (And.intro hst (And.intro hrlen (And.intro hstep (And.intro hsort (And.intro hrok ht)))))))
  have hrpos := hrok.pos
  have hrcap := hrok.cap
  clear hp hp0 ho hs hperm hsort hr hrl hrok ht hstep e hpop hsP hst hrlen hln hle hl0 b0 hll
  go_enter Try.func16, Try.ntmps16
  go_upto_region 3 with (fail)
  clear hw0
  clear c0
  go_upto_region 6 with (go_at_call 26; go_must (refine (PO.out).mono ?_; rintro e w1 ⟨A1, c1, rfl, h1, k1, b1⟩; have H1 := hide h1; have K1 := hide k1; have B1 := hide b1; clear h1 k1 b1))
  go_name_world W6 hW6
  have B6 := hide (show Below w1.heap.size w1 W6 by rw [← hW6]; exact (Below.refl _ _).alloc (Nat.le_refl _) _)
  have X6 : Blk W6 w1.heap.size 53 #[.slice r.A r.n r.c, .int .i64 r.which] := by rw [← hW6]; exact Blk.new _ _ _
  have hW6s : W6.heap.size = w1.heap.size + 1 := by rw [← hW6]; simp
  obtain ⟨pb, po, hA, hpl, pc⟩ := ((HF.out.2.2.2.2.2.2.1.keep ((KeepT.refl w).call HB0.out)).keep (K1.out.trans ((KeepT.refl w1).call B6.out))).head
  have x0 := X6.cell 0
  have x1 := X6.cell 1
  simp at x0 x1
  rw [hA] at x0
  obtain ⟨hd, hhd⟩ : ∃ hd, hdOf r = hd := ⟨_, rfl⟩
  rw [hhd] at pc
  have X6 := hide X6
  have HS6 := hide hW6s
  have HHD := hide hhd
  have HA := hide hA
  have zX := X6.out.lt
  clear hW6 hW6s hhd hA
  have hcapr : 1 ≤ r.c := by omega
  obtain ⟨m1, hm1⟩ : ∃ m1, r.n - 1 = m1 := ⟨_, rfl⟩
  obtain ⟨c9, hc9⟩ : ∃ c9, r.c - 1 = c9 := ⟨_, rfl⟩
  obtain ⟨D, hD⟩ : ∃ D, cutA r.A r.c 1 1 = D := ⟨_, rfl⟩
  have sl := fun V => cut_l (P := Try.prog) (t := 39) (a := r.A) (len := r.n) (cap := r.c) (s := 1) (e := 3) (by kernel_rfl) (by kernel_rfl) 1 (L := 1) rfl (by omega) V
  rw [hD, hm1, hc9, HA.out] at sl
  have HD := hide (And.intro hD (And.intro hm1 hc9))
  clear hD hm1 hc9
  go_region
  go_upto_region 7 with (fail)
  go_name_world W7 hW7
  have Y7 := hide (show Blk W7 W6.heap.size 33 #[.int .i64 hd, .int .i64 r.which] by rw [← hW7]; exact (Blk.new _ _ _).drew)
  have X7 := hide (show Blk W7 w1.heap.size 53 #[.slice (some ⟨pb, po, none⟩) r.n r.c, .int .i64 r.which] by rw [← hW7, ← HA.out]; exact (X6.out.alloc _).drew)
  have B7 := hide (show Below w1.heap.size w1 W7 by rw [← hW7]; exact (B6.out.alloc B6.out.size _).drew)
  clear hW7 x0 x1 pc
  have x0 := X7.out.cell 0
  have x1 := X7.out.cell 1
  have xf := X7.out.frozen 0
  simp at x0 x1
  go_upto_region 8 with (fail)
  go_name_world W8 hW8
  have Y8 := hide (show Blk W8 W6.heap.size 33 #[.int .i64 hd, .int .i64 r.which] by rw [← hW8]; exact Y7.out.far (p := ⟨w1.heap.size, 0, none⟩) (by have := HS6.out; show W6.heap.size ≠ w1.heap.size; omega) _)
  have X8 := hide (show Blk W8 w1.heap.size 53 #[.slice D m1 c9, .int .i64 r.which] by rw [← hW8]; have := X7.out.set_ 0 (.slice D m1 c9); simpa using this)
  have B8 := hide (show Below w1.heap.size w1 W8 by rw [← hW8]; exact B7.out.setCell (p := ⟨w1.heap.size, 0, none⟩) (Nat.le_refl _) _)
  clear hW8 x0 x1 xf
  have x0 := X8.out.cell 0
  have x1 := X8.out.cell 1
  simp at x0 x1
  have H8 := hide (H1.out.call B8.out)
  have K8 := hide (K1.out.call B8.out)
  have V8 := hide (K8.out _ _ _ (by decide) (by decide) V0.out)
  have hb8 : base ≤ W8.heap.size := Nat.le_trans hb0 (Nat.le_trans B1.out.size B8.out.size)
  have BB8 := hide (show Below base w W8 from (below_in ((HB0.out.mono hbw).trans B1.out) B8.out hbw))
  have KK8 := hide (show KeepT w W8 from ((KeepT.refl w).call HB0.out).trans K8.out)
  have z6 : W6.heap.size < W8.heap.size := Y8.out.lt
  by_cases hm0 : m1 = 0
  · have d1 : decide (0 < m1) = false := by simp [hm0]
    have HM0 := hide hm0
    clear hm0
    have q1 := H8.out.blk.cell 1
    have qf := H8.out.blk.frozen 1
    simp at q1
    have H9 := hide (H8.out.left (L.length : Int))
    go_upto_region 11 with (fail)
    go_name_world W9 hW9
    have H9 := hide (show HeapAt W9 base H (L.length : Int) A1 (popF ltS l).length c1 (popF ltS l) ∧ KeepT W8 W9 by rw [← hW9]; exact H9.out)
    have B9 := hide (show Below base w W9 by rw [← hW9]; exact BB8.out.setCell (p := ⟨H, 1, none⟩) H8.out.hb _)
    clear hW9 q1 qf
    have Y9 := hide (H9.out.2 _ _ _ (by decide) (by decide) Y8.out)
    have V9 := hide (H9.out.2 _ _ _ (by decide) (by decide) V8.out)
    have y0 := Y9.out.cell 0
    have y1 := Y9.out.cell 1
    have v0 := V9.out.cell 0
    have v1 := V9.out.cell 1
    have vf := fun i => V9.out.frozen i
    simp at y0 y1 v0 v1
    have hvl := V9.out.lt
    have FIN := hide (next_fin (x := .int .i64 hd) (y := .int .i64 r.which) rfl H9.out.1 (KK8.out.trans H9.out.2) B9.out hbw V9.out)
    have HHU := hide (show ∀ W, HeapAt W base H (L.length : Int) A1 (popF ltS l).length c1 (popF ltS l) → HuntAt W base H L from fun W hW => ⟨A1, _, c1, _, hW, HF.out.1, HF.out.2.1, by
      have h5 := HF.out.2.2.2.2.1
      have h6 : t = [] := List.eq_nil_of_length_eq_zero (by have h7 := HF.out.2.2.2.1; have h8 := HD.out.2.1; have h9 := HM0.out; omega)
      rw [h6] at h5
      exact h5, (List.pairwise_cons.1 HF.out.2.2.2.2.2.1).2⟩)
    go_wp2
    refine bodyPost_ret (v := .tuple #[.agg #[.int .i64 hd, .int .i64 r.which], .bool true]) (by simp [results, Try.results16, go_sem, v0, v1]) rfl ?_
    refine ⟨by rw [HHD.out], HHU.out _ FIN.out.1, FIN.out.2.1, FIN.out.2.2⟩
  · have d1 : decide (0 < m1) = true := by simp; omega
    have hr' := hide (HF.out.2.2.2.2.2.2.1.tail HF.out.2.2.2.2.2.2.2 (by have h8 := HD.out.2.1; omega) HD.out.1)
    rw [HD.out.2.1, HD.out.2.2] at hr'
    have PU := hide (fun (W : World) (hW : HeapAt W base H ll A1 (popF ltS l).length c1 (popF ltS l)) (hk : KeepT w W) (hbW : base ≤ W.heap.size) => hpush_any base H ll A1 (popF ltS l).length c1 (popF ltS l) { A := D, n := m1, c := c9, ps := t, which := r.which } W hW (hr'.out.keep hk) (by omega) hbW)
    have HNE := hide hm0
    clear hm0
    go_upto_region 9 with (fail)
    go_still_tail 6, (by kernel_rfl)
    obtain ⟨W9, hW9⟩ : ∃ W9, W9 = W8.drew := ⟨_, rfl⟩
    have P9 := hide (PU.out W9 (by rw [hW9]; exact H8.out.call (Below.refl _ W8).drew) (by rw [hW9]; exact KK8.out.call (Below.refl _ W8).drew) (by rw [hW9]; exact hb8))
    have BB9 := hide (show Below base w W9 by rw [hW9]; exact BB8.out.drew)
    have KK9 := hide (show KeepT w W9 by rw [hW9]; exact KK8.out.call (Below.refl _ W8).drew)
    have V9 := hide (show Blk W9 w.heap.size 33 _ by rw [hW9]; exact V8.out.drew)
    have Y9 := hide (show Blk W9 W6.heap.size 33 _ by rw [hW9]; exact Y8.out.drew)
    change wpList _ _ _ _ _ W8.drew
    rw [← hW9]
    clear hW9
    go_upto_region 10 with (go_at_call 25; go_must (refine (P9.out).mono ?_; rintro e w3 ⟨A3, c3, rfl, h3, k3, b3⟩; have H3 := hide h3; have K3 := hide (KK9.out.trans k3); have V3 := hide (k3 _ _ _ (by decide) (by decide) V9.out); have Y3 := hide (k3 _ _ _ (by decide) (by decide) Y9.out); have B3 := hide (BB9.out.trans b3); clear h3 k3 b3))
    have q1 := H3.out.blk.cell 1
    have qf := H3.out.blk.frozen 1
    simp at q1
    have H4 := hide (H3.out.left (L.length : Int))
    go_upto_region 11 with (fail)
    go_name_world W4 hW4
    have H4 := hide (show HeapAt W4 base H (L.length : Int) A3 _ c3 _ ∧ KeepT w3 W4 by rw [← hW4]; exact H4.out)
    have B4 := hide (show Below base w W4 by rw [← hW4]; exact B3.out.setCell (p := ⟨H, 1, none⟩) H3.out.hb _)
    clear hW4 q1 qf
    have Y4 := hide (H4.out.2 _ _ _ (by decide) (by decide) Y3.out)
    have V4 := hide (H4.out.2 _ _ _ (by decide) (by decide) V3.out)
    have y0 := Y4.out.cell 0
    have y1 := Y4.out.cell 1
    have v0 := V4.out.cell 0
    have v1 := V4.out.cell 1
    have vf := fun i => V4.out.frozen i
    simp at y0 y1 v0 v1
    have hvl := V4.out.lt
    have FIN := hide (next_fin (x := .int .i64 hd) (y := .int .i64 r.which) rfl H4.out.1 (K3.out.trans H4.out.2) B4.out hbw V4.out)
    have HHU := hide (show ∀ W, HeapAt W base H (L.length : Int) A3 ((popF ltS l).length + 1) c3 (upF ltS (popF ltS l ++ [{ A := D, n := m1, c := c9, ps := t, which := r.which }]) (popF ltS l).length) → HuntAt W base H L from fun W hW => ⟨A3, _, c3, _, hW, by
      have := push_heap ordS HF.out.1 { A := D, n := m1, c := c9, ps := t, which := r.which }
      rw [upF_len, List.length_append]
      exact this.1, by
      have := push_heap ordS HF.out.1 { A := D, n := m1, c := c9, ps := t, which := r.which }
      intro s hs
      rcases List.mem_append.1 (this.2.mem_iff.1 hs) with hs | hs
      · exact HF.out.2.1 s hs
      · rw [List.mem_singleton] at hs; subst hs; exact HF.out.2.2.1, by
      have := push_heap ordS HF.out.1 { A := D, n := m1, c := c9, ps := t, which := r.which }
      refine (this.2.flatMap_right hitsOf).trans ?_
      rw [List.flatMap_append]
      refine List.Perm.trans ?_ HF.out.2.2.2.2.1
      have e : [({ A := D, n := m1, c := c9, ps := t, which := r.which } : Strm)].flatMap hitsOf = t.map (fun p => (p, r.which)) := by simp [hitsOf]
      rw [e]
      exact List.perm_append_comm, (List.pairwise_cons.1 HF.out.2.2.2.2.2.1).2⟩)
    go_wp2
    refine bodyPost_ret (v := .tuple #[.agg #[.int .i64 hd, .int .i64 r.which], .bool true]) (by simp [results, Try.results16, go_sem, v0, v1]) rfl ?_
    refine ⟨by rw [HHD.out], HHU.out _ FIN.out.1, FIN.out.2.1, FIN.out.2.2⟩
end Go.Proofs.Ytkcmpddefohkeaa
