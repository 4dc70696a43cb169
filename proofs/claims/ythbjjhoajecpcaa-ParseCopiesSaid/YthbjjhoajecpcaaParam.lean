/-
  param.Parse walked: the numbers of a head. No condition but bounds.
-/
import Derived.Test.YthbjjhoajecpcaaHeadF
namespace Go.Proofs.Ythbjjhoajecpcaa
open Go.RowKit Go.Proofs
set_option linter.unusedVariables false
/-- A number's cell. -/
def iC (x : Int) : Value := .int .i64 x
theorem one_iC (l : List Int) : ∀ u ∈ l.map iC, u.oneCell' = true := by
  intro u hu
  obtain ⟨x, _, rfl⟩ := List.mem_map.1 hu
  rfl
theorem Try.sl48 : SliceOf Try.prog 48 3 1 8 := SliceOf.mk (z := .int .i64 0) (by kernel_rfl) (by kernel_rfl) (by kernel_rfl) (by omega)
theorem Try.sl39 : SliceOf Try.prog 39 48 1 24 := SliceOf.mk (z := .slice none 0 0) (by kernel_rfl) (by kernel_rfl) (by kernel_rfl) (by omega)
/-- Numbers of a slice value, in a block of their own. -/
def IntsAt (w : World) (v : Value) (l : List Int) : Prop := ∃ A c, v = .slice A l.length c ∧ (l ≠ [] → ∃ g cs, A = some ⟨g, 0, none⟩ ∧ Blk w g 3 cs ∧ ∀ (i : Nat) (x : Int), l[i]? = some x → cs[i]? = some (iC x))
/-- Rows of numbers. -/
def NumsAt (w : World) (v : Value) (ll : List (List Int)) : Prop := ∃ A c, v = .slice A ll.length c ∧ (ll ≠ [] → ∃ g cs, A = some ⟨g, 0, none⟩ ∧ Blk w g 48 cs ∧ ∀ (i : Nat) (l : List Int), ll[i]? = some l → ∃ u, cs[i]? = some u ∧ IntsAt w u l)
/-- Blocks of numbers stay. -/
def KN (w w' : World) : Prop := ∀ g t cs, (t = 3 ∨ t = 48) → Blk w g t cs → Blk w' g t cs
section
variable {w w' w'' : World} {v : Value} {l : List Int} {ll : List (List Int)}
theorem KN.refl (w : World) : KN w w := fun _ _ _ _ h => h
theorem KN.trans (h : KN w w') (k : KN w' w'') : KN w w'' := fun g t cs ht hb => k g t cs ht (h g t cs ht hb)
theorem KN.of_below (hb : Below w.heap.size w w') : KN w w' := fun g t cs _ h => h.below hb h.lt
theorem IntsAt.keep (h : IntsAt w v l) (hk : KN w w') : IntsAt w' v l := by
  obtain ⟨A, c, e, h⟩ := h
  exact ⟨A, c, e, fun hne => by obtain ⟨g, cs, h1, h2, h3⟩ := h hne; exact ⟨g, cs, h1, hk g 3 cs (.inl rfl) h2, h3⟩⟩
theorem NumsAt.keep (h : NumsAt w v ll) (hk : KN w w') : NumsAt w' v ll := by
  obtain ⟨A, c, e, h⟩ := h
  exact ⟨A, c, e, fun hne => by
    obtain ⟨g, cs, h1, h2, h3⟩ := h hne
    exact ⟨g, cs, h1, hk g 48 cs (.inr rfl) h2, fun i l hl => by obtain ⟨u, k1, k2⟩ := h3 i l hl; exact ⟨u, k1, k2.keep hk⟩⟩⟩
theorem nums_none (w : World) (c : Nat) : NumsAt w (.slice none 0 c) [] := ⟨none, c, rfl, fun h => absurd rfl h⟩
theorem ints_own {base c : Nat} {A : Option Addr} (h : w.ownsRow base 3 1 (.slice A l.length c) l.length (l.map iC)) : IntsAt w (.slice A l.length c) l := by
  refine ⟨A, c, rfl, fun hne => ?_⟩
  have hl : 0 < l.length := by cases l with | nil => exact absurd rfl hne | cons _ _ => simp
  rcases h.2 with ⟨e, h0⟩ | ⟨g, cap, cur, e, hb, hh, hnc, hm, hs, ht⟩
  · omega
  · injection e with e1 e2 e3
    refine ⟨g, cur, e1, hh, fun i x hx => ?_⟩
    have hi : i < l.length := (List.getElem?_eq_some_iff.1 hx).1
    have := congrArg (fun z => z[i]?) ht
    simp only [Nat.mul_one] at this
    rw [List.getElem?_take_of_lt hi, List.getElem?_map, hx] at this
    simpa using this
end
/-- Cells that are numbers' slices, each in its own block. -/
def IRows (w : World) (cells : List Value) (L : List (List Int)) : Prop := cells.length = L.length ∧ ∀ (i : Nat) (s : List Int), L[i]? = some s → ∃ u, cells[i]? = some u ∧ IntsAt w u s
section
variable {w w' w'' : World} {v : Value} {L : List (List Int)} {cells : List Value}
theorem IRows.nil (w : World) : IRows w [] [] := ⟨rfl, fun i s h => by simp at h⟩
theorem IRows.snoc {s : List Int} {u : Value} (h : IRows w cells L) (ho : IntsAt w u s) : IRows w (cells ++ [u]) (L ++ [s]) := by
  refine ⟨by simp [h.1], fun i t ht => ?_⟩
  rcases Nat.lt_or_ge i L.length with hi | hi
  · rw [List.getElem?_append_left hi] at ht
    obtain ⟨u', h1, h2⟩ := h.2 i t ht
    exact ⟨u', by rw [List.getElem?_append_left (by rw [h.1]; exact hi)]; exact h1, h2⟩
  · rw [List.getElem?_append_right hi] at ht
    have h0 : i - L.length = 0 := by
      rcases Nat.eq_zero_or_pos (i - L.length) with h | h
      · exact h
      · rw [List.getElem?_singleton] at ht; simp at ht; omega
    rw [h0] at ht
    simp at ht
    subst ht
    exact ⟨u, by rw [List.getElem?_append_right (by rw [h.1]; exact hi), h.1, h0]; rfl, ho⟩
/-- Only rows' own blocks of numbers (type 3) count. -/
theorem IRows.keep3 (h : IRows w cells L) (hk : ∀ g cs, Blk w g 3 cs → Blk w' g 3 cs) : IRows w' cells L :=
  ⟨h.1, fun i s hs => by
    obtain ⟨u, h1, A, c, e, h2⟩ := h.2 i s hs
    exact ⟨u, h1, A, c, e, fun hne => by obtain ⟨g, cs, k1, k2, k3⟩ := h2 hne; exact ⟨g, cs, k1, hk g cs k2, k3⟩⟩⟩
theorem nums_own {base c : Nat} {A : Option Addr} (h : w.ownsRow base 48 1 (.slice A L.length c) L.length cells) (hr : IRows w cells L) : NumsAt w (.slice A L.length c) L := by
  refine ⟨A, c, rfl, fun hne => ?_⟩
  have hl : 0 < L.length := by cases L with | nil => exact absurd rfl hne | cons _ _ => simp
  rcases h.2 with ⟨e, h0⟩ | ⟨g, cap, cur, e, hb, hh, hnc, hm, hs, ht⟩
  · omega
  · injection e with e1 e2 e3
    refine ⟨g, cur, e1, hh, fun i x hx => ?_⟩
    have hi : i < L.length := (List.getElem?_eq_some_iff.1 hx).1
    obtain ⟨u, h1, h2⟩ := hr.2 i x hx
    refine ⟨u, ?_, h2⟩
    have := congrArg (fun z => z[i]?) ht
    simp only [Nat.mul_one] at this
    rw [List.getElem?_take_of_lt hi, h1] at this
    simpa using this
end
/-! ### each -/
set_option maxHeartbeats 2000000 in
theorem peach_any (l : List Int) (c : Int) (most : Nat) (KT : FuncId) (caps : Array Value) (Inv : List (List Int) → World → Prop) (w : World) (hn : l.length ≤ 1000000) (hl : ∀ x ∈ l, 0 ≤ x ∧ x ≤ 255) (h0 : 0 ≤ c) (h1 : c ≤ 255) (hm : most ≤ 100)
    (hcf : ∀ args w, (callFunc KT args).run Try.prog w = .ok (.enter KT args) w)
    (hI0 : Inv [] w) (hId : ∀ ps W q, Inv ps W → Inv ps (W.drewN q))
    (hstep : ∀ (ps : List (List Int)) (p : List Int) W, Inv ps W → ps.length < most → p.length ≤ l.length → (∀ x ∈ p, x ∈ l ∧ x ≠ c) →
      Calls Try.prog KT (#[.string (strOfNums p)] ++ caps) W fun e W' => e = .returned (.tuple #[]) ∧ Inv (ps ++ [p]) W') :
    Calls Try.prog 55 #[.string (strOfNums l), .string (strOfNums [c]), .int .i64 most, .func (.func KT) #[] caps] w fun e w' => e = .returned (.tuple #[]) ∧ Inv ((splitF c l).take most) w' := by
  have HI0 := hide hI0
  have HId := hide hId
  have HS := hide hstep
  have HL := hide hl
  clear hI0 hId hstep hl
  go_enter Try.func55, Try.ntmps55
  go_wp2
  go_loopg [0, 8] most (fun g s0 s8 wr => ∃ (k : Nat) (l' : List Int) (ps : List (List Int)), k + g = most ∧ s8 = .int .i64 k ∧ s0 = .string (strOfNums l') ∧ ps.length = k ∧ l'.length ≤ l.length ∧ Hid (splitF c l = ps ++ splitF c l') ∧ Hid (∀ x ∈ l', x ∈ l) ∧ Hid (Inv ps wr))
  case atStart => exact ⟨0, l, [], by omega, rfl, rfl, rfl, Nat.le_refl _, rfl, fun x h => h, HI0.out⟩
  case round =>
    obtain ⟨k, l', ps, hk, rfl, rfl, hps, hll, HSP, HM, HI⟩ := hrel
    by_cases hlt : k < most
    · have CU := hide (cut_any l' c wr (by omega) (fun x hx => HL.out x (HM.out x hx)) h0 h1)
      have hnot := cut_not (c := c) l'
      obtain ⟨p, hp⟩ : ∃ p, (cutF c l').1 = p := ⟨_, rfl⟩
      obtain ⟨r, hr⟩ : ∃ r, (cutF c l').2.1 = r := ⟨_, rfl⟩
      have hsp := split_cut (c := c) l'
      have hpl : p.length ≤ l'.length ∧ r.length ≤ l'.length ∧ ∀ x ∈ r, x ∈ l' := by
        cases hh : (cutF c l').2.2 with
        | true =>
          have := cut_hit hh
          rw [hp, hr] at this
          have e := congrArg List.length this
          simp at e
          refine ⟨by omega, by omega, fun x hx => ?_⟩
          rw [this]; simp [hx]
        | false =>
          have := cut_miss hh
          rw [hp, hr] at this
          refine ⟨by rw [this.1]; exact Nat.le_refl _, by rw [this.2]; simp, fun x hx => ?_⟩
          rw [this.2] at hx; cases hx
      have ST := hide (fun q => HS.out ps p (wr.drewN q) (HId.out _ _ q HI.out) (by omega) (by omega) (fun x hx => ⟨HM.out x (hnot x (by rw [hp]; exact hx)).1, (hnot x (by rw [hp]; exact hx)).2⟩))
      unfold CutPost at CU
      rw [hp] at CU hsp
      rw [hr] at CU hsp
      obtain ⟨hl1, hl2, hl3⟩ := hpl
      have hl3 := hide hl3
      have hw : IntKind.i64.wrap ((k : Int) + 1) = k + 1 := IntWalk.i64_in _ (by omega)
      clear hnot hp hr
      cases hh : (cutF c l').2.2 with
      | true =>
        rw [hh] at CU hsp
        have hsp := hide hsp
        clear hh
        go_wp2_with (first
          | (go_at_call 67; go_must (refine CU.out.mono ?_; rintro e w1 ⟨rfl, q, rfl⟩))
          | (refine (ST.out _).mono ?_; rintro e w2 ⟨rfl, hI⟩; have hI := hide hI))
        go_roundg (most - (k + 1))
        case measure => omega
        case rel =>
          refine ⟨k + 1, r, ps ++ [p], by omega, by simp, rfl, by simp [hps], by omega, ?_, fun x hx => HM.out x (hl3.out x hx), hI.out⟩
          show _ = _
          rw [HSP.out, hsp.out]
          simp
      | false =>
        rw [hh] at CU hsp
        have HF := hide (show (splitF c l).take most = ps ++ [p] by
          rw [HSP.out, hsp]
          simp only [Bool.false_eq_true, if_false]
          exact List.take_of_length_le (by simp; omega))
        clear hh hsp
        go_wp2_with (first
          | (go_at_call 67; go_must (refine CU.out.mono ?_; rintro e w1 ⟨rfl, q, rfl⟩))
          | (refine (ST.out _).mono ?_; rintro e w2 ⟨rfl, hI⟩; have hI := hide hI))
        refine bodyPost_ret (results_none rfl _ _ _) rfl ⟨rfl, ?_⟩
        rw [HF.out]
        exact hI.out
    · have HF := hide (show (splitF c l).take most = ps by rw [HSP.out]; exact List.take_left' (by omega))
      go_wp2
      go_end0
      rw [HF.out]
      exact ⟨rfl, HI.out⟩
end Go.Proofs.Ythbjjhoajecpcaa
