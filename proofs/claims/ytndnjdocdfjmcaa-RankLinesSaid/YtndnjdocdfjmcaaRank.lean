/-
  The plain law of a ledger: entries in order, the best first; a text used, a text dropped, the best ones. No program in sight.
-/
import Derived.Test.YtndnjdocdfjmcaaLed
namespace Go.Proofs.Ytndnjdocdfjmcaa
set_option linter.unusedVariables false
abbrev Srt (l : List Ent) : Prop := l.Pairwise (fun a b => betB a b = true)
theorem bet_irr (a : Ent) : betB a a = false := ordE.irr a
theorem bet_asym {a b : Ent} (h : betB a b = true) : betB b a = false := ordE.asym b a h
theorem bet_trans {a b c : Ent} (h1 : betB a b = true) (h2 : betB b c = true) : betB a c = true := by
  unfold betB at *
  split at h1 <;> split at h2 <;> split <;> simp_all <;> omega
theorem bet_ne {a b : Ent} (h : betB a b = true) : a ≠ b := by
  rintro rfl
  rw [bet_irr] at h; cases h
/-- An entry put in its place. -/
def insE (e : Ent) : List Ent → List Ent
  | [] => [e]
  | x :: r => if betB x e = true then x :: insE e r else e :: x :: r
theorem insE_perm (e : Ent) : ∀ l, (insE e l).Perm (e :: l)
  | [] => .refl _
  | x :: r => by
    unfold insE
    split
    · exact ((insE_perm e r).cons x).trans (.swap ..)
    · exact .refl _
theorem insE_len (e : Ent) (l : List Ent) : (insE e l).length = l.length + 1 := (insE_perm e l).length_eq
theorem insE_mem {e x : Ent} {l : List Ent} : x ∈ insE e l ↔ x = e ∨ x ∈ l := by rw [(insE_perm e l).mem_iff, List.mem_cons]
theorem insE_srt {e : Ent} : ∀ {l : List Ent}, Srt l → (∀ x ∈ l, betB x e = true ∨ betB e x = true) → Srt (insE e l)
  | [], _, _ => List.pairwise_singleton _ _
  | x :: r, h, ht => by
    obtain ⟨h1, h2⟩ := List.pairwise_cons.1 h
    unfold insE
    split
    · rename_i hx
      refine List.pairwise_cons.2 ⟨fun y hy => ?_, insE_srt h2 (fun y hy => ht y (List.mem_cons_of_mem _ hy))⟩
      rcases insE_mem.1 hy with rfl | hy
      · exact hx
      · exact h1 y hy
    · rename_i hx
      have hex : betB e x = true := (ht x (List.mem_cons_self ..)).resolve_left hx
      refine List.pairwise_cons.2 ⟨fun y hy => ?_, h⟩
      rcases List.mem_cons.1 hy with rfl | hy
      · exact hex
      · exact bet_trans hex (h1 y hy)
theorem take_insE (e : Ent) : ∀ (l : List Ent) (n : Nat), (insE e l).take n = (insE e (l.take n)).take n
  | [], n => by simp
  | x :: r, 0 => rfl
  | x :: r, m + 1 => by
    rw [List.take_succ_cons]
    unfold insE
    split
    · rw [List.take_succ_cons, List.take_succ_cons, take_insE e r m]
    · rw [List.take_succ_cons, List.take_succ_cons]
      congr 1
      cases m with
      | zero => rfl
      | succ k => rw [List.take_succ_cons, List.take_succ_cons, List.take_take, Nat.min_eq_left (Nat.le_succ k)]
theorem srt_unique : ∀ {a b : List Ent}, Srt a → Srt b → a.Perm b → a = b
  | [], b, _, _, h => (List.nil_perm.1 h).symm
  | x :: a, b, ha, hb, h => by
    cases b with
    | nil => exact absurd h.length_eq (by simp)
    | cons y b =>
      obtain ⟨a1, a2⟩ := List.pairwise_cons.1 ha
      obtain ⟨b1, b2⟩ := List.pairwise_cons.1 hb
      have hxy : x = y := by
        rcases List.mem_cons.1 (h.mem_iff.1 (List.mem_cons_self ..)) with h1 | h1
        · exact h1
        · rcases List.mem_cons.1 (h.mem_iff.2 (List.mem_cons_self (a := y) (l := b))) with h2 | h2
          · exact h2.symm
          · have := bet_asym (a1 y h2)
            rw [b1 x h1] at this; cases this
      subst hxy
      rw [srt_unique a2 b2 (List.perm_cons x |>.1 h)]
theorem worst_last {T : List Ent} {w r : Ent} (h : Srt (T ++ [w])) (hr : r ∈ T ++ [w]) (hw : ∀ a ∈ T ++ [w], ltE a r = false) : r = w := by
  rcases List.mem_append.1 hr with h1 | h1
  · have := (List.pairwise_append.1 h).2.2 r h1 w (by simp)
    have h2 := hw w (by simp)
    unfold ltE at h2
    rw [this] at h2; cases h2
  · simpa using h1
/-- Entries put in order. -/
def srtE : List Ent → List Ent
  | [] => []
  | e :: l => insE e (srtE l)
theorem srtE_perm : ∀ l, (srtE l).Perm l
  | [] => .refl _
  | e :: l => (insE_perm e _).trans ((srtE_perm l).cons e)
/-- Any two are one, or one is better. -/
def Tot (l : List Ent) : Prop := ∀ a ∈ l, ∀ b ∈ l, a ≠ b → betB a b = true ∨ betB b a = true
theorem tot_srt {l : List Ent} (h : Srt l) : Tot l := by
  induction l with
  | nil => intro a ha; cases ha
  | cons x l ih =>
    obtain ⟨h1, h2⟩ := List.pairwise_cons.1 h
    intro a ha b hb hne
    rcases List.mem_cons.1 ha with ea | ha
    · rcases List.mem_cons.1 hb with eb | hb
      · exact absurd (ea.trans eb.symm) hne
      · exact .inl (ea ▸ h1 b hb)
    · rcases List.mem_cons.1 hb with eb | hb
      · exact .inr (eb ▸ h1 a ha)
      · exact ih h2 a ha b hb hne
theorem Tot.sub {l m : List Ent} (h : Tot l) (hs : ∀ x ∈ m, x ∈ l) : Tot m := fun a ha b hb hne => h a (hs a ha) b (hs b hb) hne
theorem srtE_srt : ∀ {l : List Ent}, Tot l → l.Nodup → Srt (srtE l)
  | [], _, _ => .nil
  | e :: l, ht, hn => by
    obtain ⟨h1, h2⟩ := List.nodup_cons.1 hn
    refine insE_srt (srtE_srt (ht.sub fun x hx => List.mem_cons_of_mem _ hx) h2) (fun x hx => ?_)
    have hxl := (srtE_perm l).mem_iff.1 hx
    exact ht x (List.mem_cons_of_mem _ hxl) e (List.mem_cons_self ..) (fun e' => h1 (e' ▸ hxl))
theorem srt_nodup {l : List Ent} (h : Srt l) : l.Nodup := h.imp (fun h => bet_ne h)
/-- A text used. -/
def useL (most uses : Nat) (L : List Ent) (t : ByteArray) : List Ent :=
  insE ⟨t, ((lk L t).getD zeroE).cnt + 1, uses + 1⟩ (if (delM L t).length = most then (delM L t).take (most - 1) else delM L t)
/-- A ledger's entries, in any order M and in their order L. -/
structure RankInv (most uses : Nat) (M L : List Ent) : Prop where
  perm : M.Perm L
  srt : Srt L
  pw : L.Pairwise (fun a b => a.text ≠ b.text)
  len : L.length ≤ most
  last : ∀ x ∈ L, x.last ≤ uses
  cnt : ∀ x ∈ L, x.cnt ≤ uses
  size : ∀ x ∈ L, x.text.size ≤ maxLen
theorem lk_perm {M L : List Ent} (h : M.Perm L) (hp : L.Pairwise (fun a b => a.text ≠ b.text)) (t : ByteArray) : lk M t = lk L t := by
  cases hm : lk M t with
  | none =>
    cases hl : lk L t with
    | none => rfl
    | some e =>
      obtain ⟨h1, h2⟩ := lk_some hl
      exact absurd h2 (lk_none hm e (h.mem_iff.2 h1))
  | some e =>
    obtain ⟨h1, h2⟩ := lk_some hm
    rw [← h2, lk_mem hp (h.mem_iff.1 h1)]
theorem del_len {L : List Ent} {t : ByteArray} : (delM L t).length ≤ L.length := List.length_filter_le ..
theorem RankInv.drop {most uses : Nat} {M L : List Ent} (h : RankInv most uses M L) (t : ByteArray) : RankInv most uses (delM M t) (delM L t) :=
  ⟨h.perm.filter _, h.srt.filter _, h.pw.filter _, Nat.le_trans del_len h.len, fun x hx => h.last x (List.mem_filter.1 hx).1, fun x hx => h.cnt x (List.mem_filter.1 hx).1, fun x hx => h.size x (List.mem_filter.1 hx).1⟩
theorem del_same {M : List Ent} {t : ByteArray} (h : lk M t = none) : delM M t = M := List.filter_eq_self.2 fun e he => by simpa using lk_none h e he
theorem del_gone {M : List Ent} {t : ByteArray} (h : (lk M t).isSome = true) : (delM M t).length < M.length := by
  obtain ⟨e, he⟩ := Option.isSome_iff_exists.1 h
  obtain ⟨h1, h2⟩ := lk_some he
  rcases Nat.lt_or_ge (delM M t).length M.length with h3 | h3
  · exact h3
  · have : delM M t = M := List.filter_eq_self.2 (List.length_filter_eq_length_iff.1 (Nat.le_antisymm del_len h3))
    rw [← this] at h1
    have := (List.mem_filter.1 h1).2
    rw [h2] at this
    simp at this
/-- The worst one of all but one. -/
def IsWorst (M : List Ent) (but : ByteArray) (w : Ent) : Prop := w ∈ M ∧ w.text ≠ but ∧ ∀ x ∈ M, x.text ≠ but → x ≠ w → betB x w = true
section
variable {most uses : Nat} {M L : List Ent} {t : ByteArray}
theorem use_new (h : RankInv most uses M L) (ht : t.size ≤ maxLen) {K : List Ent} (hK : K.Sublist (delM L t)) (hl : K.length + 1 ≤ most) :
    RankInv most (uses + 1) (⟨t, ((lk L t).getD zeroE).cnt + 1, uses + 1⟩ :: K) (insE ⟨t, ((lk L t).getD zeroE).cnt + 1, uses + 1⟩ K) := by
  have hD := h.drop t
  have mem : ∀ x ∈ K, x ∈ delM L t := fun x hx => hK.subset hx
  have hc : ((lk L t).getD zeroE).cnt ≤ uses := by
    cases hl : lk L t with
    | none => exact Nat.zero_le _
    | some e => exact h.cnt e (lk_some hl).1
  refine ⟨(insE_perm _ _).symm, insE_srt (hD.srt.sublist hK) (fun x hx => ?_), ?_, by rw [insE_len]; exact hl, ?_, ?_, ?_⟩
  · have h1 := hD.last x (mem x hx)
    unfold betB
    by_cases hcc : x.cnt = ((lk L t).getD zeroE).cnt + 1
    · right; rw [if_pos hcc.symm]; simp; omega
    · rcases Nat.lt_or_ge x.cnt (((lk L t).getD zeroE).cnt + 1) with h2 | h2
      · right; rw [if_neg (Ne.symm hcc)]; simp; omega
      · left; rw [if_neg hcc]; simp; omega
  · refine ((insE_perm _ _).pairwise_iff (fun h => Ne.symm h)).2 (List.pairwise_cons.2 ⟨fun x hx => ?_, hD.pw.sublist hK⟩)
    have := (List.mem_filter.1 (mem x hx)).2
    simp at this
    exact fun e => this e.symm
  · intro x hx
    rcases insE_mem.1 hx with rfl | hx
    · exact Nat.le_refl _
    · exact Nat.le_succ_of_le (hD.last x (mem x hx))
  · intro x hx
    rcases insE_mem.1 hx with rfl | hx
    · exact Nat.succ_le_succ hc
    · exact Nat.le_succ_of_le (hD.cnt x (mem x hx))
  · intro x hx
    rcases insE_mem.1 hx with rfl | hx
    · exact ht
    · exact hD.size x (mem x hx)
theorem RankInv.perm_left {M' : List Ent} (h : RankInv most uses M L) (hp : M'.Perm M) : RankInv most uses M' L := ⟨hp.trans h.perm, h.srt, h.pw, h.len, h.last, h.cnt, h.size⟩
/-- A text used where there is room. -/
theorem use_fits (h : RankInv most uses M L) (ht : t.size ≤ maxLen) (hf : (delM M t).length + 1 ≤ most) :
    RankInv most (uses + 1) (⟨t, ((lk M t).getD zeroE).cnt + 1, uses + 1⟩ :: delM M t) (useL most uses L t) := by
  have hp : (delM M t).Perm (delM L t) := h.perm.filter _
  have hle := hp.length_eq
  unfold useL
  rw [if_neg (by omega), lk_perm h.perm h.pw]
  exact (use_new h ht (List.Sublist.refl _) (by omega)).perm_left (hp.cons _)
/-- .. where there is none, the worst one of the others goes. -/
theorem use_full (h : RankInv most uses M L) (ht : t.size ≤ maxLen) (hm : 1 ≤ most) (hf : most < (delM M t).length + 1) {w : Ent} (hw : IsWorst (⟨t, ((lk M t).getD zeroE).cnt + 1, uses + 1⟩ :: delM M t) t w) :
    RankInv most (uses + 1) (delM (⟨t, ((lk M t).getD zeroE).cnt + 1, uses + 1⟩ :: delM M t) w.text) (useL most uses L t) := by
  have hp : (delM M t).Perm (delM L t) := h.perm.filter _
  have hle := hp.length_eq
  have hD := h.drop t
  have hlen : (delM L t).length = most := by have := hD.len; omega
  unfold useL
  rw [if_pos hlen, lk_perm h.perm h.pw]
  rw [lk_perm h.perm h.pw] at hw
  obtain ⟨T, l, hTl⟩ : ∃ T l, delM L t = T ++ [l] := by
    rcases List.eq_nil_or_concat (delM L t) with h1 | ⟨T, l, h1⟩
    · rw [h1] at hlen; simp at hlen; omega
    · exact ⟨T, l, by rw [h1, List.concat_eq_append]⟩
  have hT : (delM L t).take (most - 1) = T := by
    rw [hTl, List.take_append_of_le_length (by rw [hTl] at hlen; simp at hlen; omega), List.take_of_length_le (by rw [hTl] at hlen; simp at hlen; omega)]
  have hS := hD.srt
  rw [hTl] at hS
  obtain ⟨w1, w2, w3⟩ := hw
  have hwm : w ∈ delM L t := by
    rcases List.mem_cons.1 w1 with rfl | h1
    · exact absurd rfl w2
    · exact hp.mem_iff.1 h1
  have hlm : l ∈ delM L t := by rw [hTl]; simp
  have hlt : l.text ≠ t := by have := (List.mem_filter.1 hlm).2; simpa using this
  have hwl : w = l := by
    rw [hTl] at hwm
    rcases List.mem_append.1 hwm with h1 | h1
    · have h2 := (List.pairwise_append.1 hS).2.2 w h1 l (by simp)
      have h3 := w3 l (List.mem_cons_of_mem _ (hp.mem_iff.2 hlm)) hlt (bet_ne h2).symm
      rw [bet_asym h2] at h3; cases h3
    · simpa using h1
  subst hwl
  rw [hT]
  refine (use_new h ht (K := T) (by rw [hTl]; exact List.sublist_append_left ..) (by rw [hTl] at hlen; simp at hlen; omega)).perm_left ?_
  have e1 : delM (⟨t, ((lk L t).getD zeroE).cnt + 1, uses + 1⟩ :: delM M t) w.text = ⟨t, ((lk L t).getD zeroE).cnt + 1, uses + 1⟩ :: delM (delM M t) w.text := by
    unfold delM
    rw [List.filter_cons_of_pos (by simpa using fun e => hlt e.symm)]
  rw [e1]
  refine List.Perm.cons _ ?_
  have h1 : (delM (delM M t) w.text).Perm (delM (delM L t) w.text) := hp.filter _
  refine h1.trans ?_
  rw [hTl]
  have hpw := hD.pw
  rw [hTl] at hpw
  have : delM (T ++ [w]) w.text = T := by
    unfold delM
    rw [List.filter_append, List.filter_eq_self.2, List.filter_cons_of_neg (by simp)]
    · simp
    · intro x hx
      have := (List.pairwise_append.1 hpw).2.2 x hx w (by simp)
      simpa using this
  rw [this]
end
end Go.Proofs.Ytndnjdocdfjmcaa
