/-
  The plain law: what the parser makes of any bytes, step by step, is the document's answer. No program in sight.
-/
import Derived.Test.YthbjjhoajecpcaaOfF
namespace Go.Proofs.Ythbjjhoajecpcaa
set_option linter.unusedVariables false
/-- Events, where one is, how many bytes are held. -/
abbrev Tri := List Ev × Nat × Nat
def res (s : Ps) (l : List Int) : Tri := ((allM s l).1, (allM s l).2.state, heldM (allM s l).2)
def docR (most : Nat) (l : List Int) : Tri := ((ofF most l).evs, (ofF most l).st, (ofF most l).held)
def preT (e : List Ev) (r : Tri) : Tri := (e ++ r.1, r.2)
/-- What a part's end comes to, with what stands behind it. -/
def cont (most : Nat) (l : List Int) (o : Out) : Tri := if o.n = l.length then (o.evs, o.st, o.held) else preT o.evs (docR most (l.drop o.n))
theorem preT_nil (r : Tri) : preT [] r = r := rfl
theorem preT_app (a b : List Ev) (r : Tri) : preT (a ++ b) r = preT a (preT b r) := by simp [preT]
theorem res_nil (s : Ps) : res s [] = ([], s.state, heldM s) := rfl
theorem res_cons (s : Ps) (c : Int) (l : List Int) : res s (c :: l) = preT (stepM s c).1 (res (stepM s c).2 l) := rfl
theorem docR_nil (most : Nat) : docR most [] = ([], 0, 0) := rfl
theorem docR_step (most : Nat) (l : List Int) (h : l ≠ []) : docR most l = cont most l (restF most l) := by
  unfold docR cont
  rw [ofF_step most l h]
  split
  · rfl
  · rfl
theorem cont_more (most : Nat) (c : Int) (l : List Int) (o : Out) (e : List Ev) : cont most (c :: l) (o.more e 1) = preT e (cont most l o) := by
  unfold cont Out.more
  simp only [List.length_cons]
  by_cases h : o.n = l.length
  · rw [if_pos (by omega), if_pos h]; rfl
  · rw [if_neg (by omega), if_neg h, show 1 + o.n = o.n + 1 from Nat.add_comm _ _, List.drop_succ_cons, preT_app]
theorem cont_mores (most : Nat) (a l : List Int) (o : Out) (e : List Ev) : cont most (a ++ l) (o.more e a.length) = preT e (cont most l o) := by
  unfold cont Out.more
  simp only [List.length_append]
  by_cases h : o.n = l.length
  · rw [if_pos (by omega), if_pos h]; rfl
  · rw [if_neg (by omega), if_neg h, preT_app, ← List.drop_drop, List.drop_left]
theorem cont_zero (most : Nat) (c : Int) (l : List Int) (st : Nat) : cont most (c :: l) ⟨[], st, 0, 0⟩ = docR most (c :: l) := by
  unfold cont
  rw [if_neg (by simp)]
  rfl
theorem cont_nil (most : Nat) (e : List Ev) (st h : Nat) : cont most [] ⟨e, st, h, 0⟩ = (e, st, h) := by simp [cont]
theorem cont_one (most : Nat) (c : Int) (l : List Int) (e : List Ev) : cont most (c :: l) ⟨e, 0, 0, 1⟩ = preT e (docR most l) := by
  unfold cont
  split
  · rename_i h
    cases l with
    | nil => simp [docR_nil, preT]
    | cons _ _ => simp at h
  · rfl
/-- The law for all shorter bytes. -/
def IHn (most N : Nat) : Prop := ∀ l, l.length ≤ N → (∀ x ∈ l, 0 ≤ x ∧ x ≤ 255) → res (newM most) l = docR most l
theorem IHn.mono {most N M : Nat} (h : IHn most N) (hm : M ≤ N) : IHn most M := fun l hl => h l (Nat.le_trans hl hm)
/-- A state that has just been entered. -/
def S (most st : Nat) : Ps := ⟨0, [], [], [], 0, false, false, most, st, []⟩
theorem enter_S {s : Ps} {most : Nat} (h1 : s.most = most) (h2 : s.dec = []) (st : Nat) : enterM s st = S most st := by subst h1; unfold enterM S; rw [h2]
theorem newM_S (most : Nat) : newM most = S most 0 := rfl
theorem set_dec {s : Ps} (h : s.dec = []) : { s with dec := [] } = s := by cases s; simp only at h; subst h; rfl
theorem step_cs {s : Ps} {most : Nat} (h1 : s.most = most) (h2 : s.dec = []) {c : Int} (h : c = 24 ∨ c = 26) : stepM s c = ([execE c], S most 0) := by
  unfold stepM
  rw [if_pos h, h2, set_dec h2]
  simp [endF, printsM, enter_S h1 h2]
theorem step_esc {s : Ps} {most : Nat} (h1 : s.most = most) (h2 : s.dec = []) : stepM s 27 = (endsM s, S most 1) := by
  unfold stepM
  rw [if_neg (by omega), if_pos rfl, h2, set_dec h2]
  simp [endF, printsM, enter_S h1 h2]
theorem step_in {s : Ps} {c : Int} (hc : stopB c = false) (h0 : s.state ≠ 0) (h4 : s.state ≠ 4) (h5 : s.state ≠ 5) (h3 : s.state = 3 → s.last = 0) : stepM s c = inHeadM s c := by
  unfold stopB at hc
  simp at hc
  unfold stepM
  rw [if_neg (by omega), if_neg (by omega), if_neg h0, if_neg ?_]
  rintro (h | h | ⟨h, k⟩)
  · exact h4 h
  · exact h5 h
  · exact k (h3 h)
theorem step_str {s : Ps} {c : Int} (hc : stopB c = false) (h : s.state = 4 ∨ s.state = 5 ∨ s.state = 3 ∧ ¬ s.last = 0) : stepM s c = inStringM s c := by
  unfold stopB at hc
  simp at hc
  unfold stepM
  rw [if_neg (by omega), if_neg (by omega), if_neg (by omega), if_pos h]
theorem step_rest {most : Nat} {c : Int} (hc : stopB c = false) : stepM (newM most) c = printsM { newM most with dec := (stepF [] c).2 } (stepF [] c).1 := by
  unfold stopB at hc
  simp at hc
  unfold stepM
  rw [if_neg (by omega), if_neg (by omega), if_pos (show (newM most).state = 0 from rfl)]
  rfl
theorem ends_none {s : Ps} (h4 : s.state ≠ 4) (h3 : s.state = 3 → s.last = 0) : endsM s = [] := by
  unfold endsM
  rw [if_neg h4, if_neg (fun h => h.2.1 (h3 h.1))]
/-- What ends a head: as at rest. -/
theorem abort {s : Ps} {most : Nat} (h1 : s.most = most) (h2 : s.dec = []) (h0 : s.state ≠ 0) (h4 : s.state ≠ 4) (h5 : s.state ≠ 5) (h3 : s.state = 3 → s.last = 0) {c : Int} (h : 128 ≤ c ∨ stopB c = true) : stepM s c = stepM (newM most) c := by
  by_cases hc : stopB c = true
  · by_cases k : c = 24 ∨ c = 26
    · rw [step_cs h1 h2 k, step_cs (s := newM most) (most := most) rfl rfl k]
    · have : c = 27 := by unfold stopB at hc; simp at hc; omega
      subst this
      rw [step_esc h1 h2, step_esc (s := newM most) (most := most) rfl rfl, ends_none h4 h3]
      rfl
  · have hc : stopB c = false := by simpa using hc
    have k : 128 ≤ c := h.resolve_right (by rw [hc]; simp)
    rw [step_in hc h0 h4 h5 h3, step_rest hc]
    unfold inHeadM
    rw [if_pos k, h2, enter_S h1 h2]
    rfl
theorem abort_res {s : Ps} {most : Nat} (h1 : s.most = most) (h2 : s.dec = []) (h0 : s.state ≠ 0) (h4 : s.state ≠ 4) (h5 : s.state ≠ 5) (h3 : s.state = 3 → s.last = 0) {c : Int} {l : List Int} {N : Nat} (ih : IHn most N) (hN : (c :: l).length ≤ N) (hb : ∀ x ∈ c :: l, 0 ≤ x ∧ x ≤ 255) (h : 128 ≤ c ∨ stopB c = true) (st : Nat) :
    res s (c :: l) = cont most (c :: l) ⟨[], st, 0, 0⟩ := by
  rw [cont_zero, ← ih _ hN hb, res_cons, res_cons, abort h1 h2 h0 h4 h5 h3 h]
/-! ### a payload -/
theorem cut_snoc (most : Nat) (t : List Int) (c : Int) : (cutT most (t ++ [c])) = if most ≤ t.length then ((cutT most t).1, true) else (t ++ [c], false) := by
  unfold cutT
  rw [List.length_append, List.length_singleton]
  by_cases h : most ≤ t.length
  · rw [if_pos (by omega), if_pos h]
    by_cases h2 : most < t.length
    · rw [if_pos h2, List.take_append_of_le_length (by omega)]
    · rw [if_neg h2, List.take_append_of_le_length (by omega), List.take_of_length_le (by omega)]
  · rw [if_neg (by omega), if_neg h]
theorem cutT_len (most : Nat) (t : List Int) : (cutT most t).1.length ≤ most ∧ ((cutT most t).2 = true → (cutT most t).1.length = most) ∧ ((cutT most t).2 = false → (cutT most t).1 = t ∧ t.length ≤ most) := by
  unfold cutT
  split
  · simp; omega
  · simp; omega
/-- A state with a payload so far. -/
def withT (s : Ps) (t : List Int) : Ps := { s with text := (cutT s.most t).1, cut := (cutT s.most t).2 }
theorem put_T (s : Ps) (t : List Int) (c : Int) : putM (withT s t) c = withT s (t ++ [c]) := by
  unfold putM withT
  rw [cut_snoc]
  have := cutT_len s.most t
  simp only
  by_cases h : s.most ≤ t.length
  · rw [if_pos h]
    have hl : s.most ≤ (cutT s.most t).1.length := by
      cases hc : (cutT s.most t).2 with
      | true => rw [this.2.1 hc]; omega
      | false => rw [(this.2.2 hc).1]; exact h
    rw [if_pos hl]
  · rw [if_neg h]
    have e : cutT s.most t = (t, false) := by unfold cutT; rw [if_neg (by omega)]
    rw [e, if_neg h]
theorem withT_nil {s : Ps} (h1 : s.text = []) (h2 : s.cut = false) : withT s [] = s := by
  unfold withT cutT
  rw [if_neg (by simp)]
  cases s
  simp only at h1 h2
  subst h1 h2
  rfl
/-- A command: its payload. -/
theorem cmd_law (most N : Nat) (ih : IHn most N) : ∀ (l t : List Int), l.length ≤ N → (∀ x ∈ l, 0 ≤ x ∧ x ≤ 255) → res (withT (S most 4) t) l = cont most l (cmdF most t l)
  | [], t, _, _ => by
    rw [res_nil, cmdF, cont_nil]
    simp [withT, S, heldM, sizeM]
  | c :: l, t, hN, hb => by
    have hl : l.length ≤ N := by simp at hN; omega
    have hbl : ∀ x ∈ l, 0 ≤ x ∧ x ≤ 255 := fun x hx => hb x (List.mem_cons_of_mem _ hx)
    rw [cmdF]
    by_cases h1 : c = 24 ∨ c = 26
    · rw [if_pos h1, cont_zero, ← ih _ hN hb, res_cons, res_cons, step_cs (most := most) rfl rfl h1, step_cs (s := newM most) (most := most) rfl rfl h1]
    · rw [if_neg h1]
      by_cases h2 : c = 7 ∨ c = 27
      · rw [if_pos h2]
        by_cases h7 : c = 7
        · subst h7
          rw [if_pos rfl, cont_one, ← ih l hl hbl, res_cons, step_str (by decide) (.inl rfl)]
          unfold inStringM
          rw [if_neg (by simp [withT, S]), if_neg (by simp [withT, S]), if_pos rfl]
          rfl
        · have h27 : c = 27 := by omega
          subst h27
          rw [if_neg (by omega)]
          unfold cont
          rw [if_neg (by simp), List.drop_zero, ← ih _ hN hb, res_cons, res_cons, step_esc (most := most) rfl rfl, step_esc (s := newM most) (most := most) rfl rfl]
          rfl
      · rw [if_neg h2]
        have hs : stopB c = false := by unfold stopB; simp; omega
        by_cases h3 : 32 ≤ c ∧ ¬ c = 127
        · rw [if_pos h3, cont_more, ← cmd_law most N ih l (t ++ [c]) hl hbl, res_cons, step_str hs (.inl rfl)]
          unfold inStringM
          rw [if_neg (by simp [withT, S]), if_neg (by simp [withT, S]), if_neg (by omega), if_pos h3, put_T]
        · rw [if_neg h3, cont_more, ← cmd_law most N ih l t hl hbl, res_cons, step_str hs (.inl rfl)]
          unfold inStringM
          rw [if_neg (by simp [withT, S]), if_neg (by simp [withT, S]), if_neg (by omega), if_neg h3]
/-- Nothing is kept. -/
theorem idle_law (most N : Nat) (ih : IHn most N) : ∀ (l : List Int), l.length ≤ N → (∀ x ∈ l, 0 ≤ x ∧ x ≤ 255) → res (S most 5) l = cont most l ⟨[], 5, 0, skipN l⟩
  | [], _, _ => rfl
  | c :: l, hN, hb => by
    have hl : l.length ≤ N := by simp at hN; omega
    have hbl : ∀ x ∈ l, 0 ≤ x ∧ x ≤ 255 := fun x hx => hb x (List.mem_cons_of_mem _ hx)
    cases hs : stopB c with
    | true =>
      have e : skipN (c :: l) = 0 := by simp [skipN, hs]
      rw [e, cont_zero, ← ih _ hN hb, res_cons, res_cons]
      by_cases k : c = 24 ∨ c = 26
      · rw [step_cs (most := most) rfl rfl k, step_cs (s := newM most) (most := most) rfl rfl k]
      · have : c = 27 := by unfold stopB at hs; simp at hs; omega
        subst this
        rw [step_esc (most := most) rfl rfl, step_esc (s := newM most) (most := most) rfl rfl]
        rfl
    | false =>
      have e : (⟨[], 5, 0, skipN (c :: l)⟩ : Out) = (⟨[], 5, 0, skipN l⟩ : Out).more [] 1 := by simp [skipN, hs, Out.more]
      rw [e, cont_more, ← idle_law most N ih l hl hbl, res_cons, step_str hs (.inr (.inl rfl))]
      rfl
/-! ### a head -/
/-- What a head's bytes make of a state. -/
def hS (most st : Nat) (p : Parts) : Ps := if p.ok = true then { S most st with pre := p.pre, head := p.head, inter := p.inter } else { S most st with wrong := true }
theorem headN_le : ∀ s, headN s ≤ s.length
  | [] => by simp [headN]
  | c :: s => by have := headN_le s; unfold headN; split <;> simp <;> omega
theorem headN_snoc (x : Int) : ∀ s, headN (s ++ [x]) = if headN s = s.length ∧ isH x = true then s.length + 1 else headN s
  | [] => by simp [headN]
  | c :: s => by
    have ih := headN_snoc x s
    have := headN_le s
    rw [List.cons_append]
    unfold headN
    by_cases h : isH c = true
    · rw [if_pos h, if_pos h, ih]
      by_cases h2 : headN s = s.length ∧ isH x = true
      · rw [if_pos h2, if_pos ⟨by simp; omega, h2.2⟩]
        simp; omega
      · rw [if_neg h2, if_neg (by simp only [List.length_cons]; rintro ⟨a, b⟩; exact h2 ⟨by omega, b⟩)]
    · rw [if_neg h, if_neg h, if_neg (by simp)]
/-- How one byte more turns a head's parts. -/
def moreP (p : Parts) (c : Int) : Parts :=
  if p.ok = true then (if c < 48 then ⟨p.pre, p.head, p.inter ++ [c], decide (p.inter.length + 1 ≤ 2)⟩ else if c < 60 ∧ p.inter = [] then ⟨p.pre, p.head ++ [c], [], decide (p.head.length + 1 ≤ 256)⟩ else ⟨0, [], [], false⟩) else ⟨0, [], [], false⟩
theorem moreP_S {most st : Nat} (p : Parts) (c : Int) (h1 : p.ok = true → p.inter.length ≤ 2 ∧ p.head.length ≤ 256) (hc : ¬ 60 ≤ c ∨ ¬ (p.pre = 0 ∧ p.head = [] ∧ p.inter = [])) :
    (if c < 48 then betweenM (hS most st p) c else numberM (hS most st p) c) = hS most st (moreP p c) := by
  obtain ⟨pre, head, inter, ok⟩ := p
  cases ok with
  | false =>
    unfold moreP hS betweenM numberM
    simp [S]
  | true =>
    have h1 := h1 rfl
    simp only at h1 hc
    unfold moreP hS
    simp only [if_true]
    by_cases k : c < 48
    · rw [if_pos k, if_pos k]
      unfold betweenM
      simp only [S]
      by_cases k2 : inter.length = 2
      · rw [if_pos k2]
        simp [k2, spoilM]
      · rw [if_neg k2]
        have : inter.length + 1 ≤ 2 := by omega
        simp [this]
    · rw [if_neg k, if_neg k]
      unfold numberM
      simp only [S]
      by_cases k2 : c < 60 ∧ inter = []
      · obtain ⟨k2, rfl⟩ := k2
        have hc60 : ¬ 60 ≤ c := by omega
        by_cases k3 : head.length = 256
        · simp [k3, spoilM, hc60, k2]
        · have : head.length + 1 ≤ 256 := by omega
          have h255 : head.length ≤ 255 := by omega
          simp [k2, hc60, k3, h255]
      · have hA : ¬ (60 ≤ c ∧ pre = 0 ∧ head.length = 0 ∧ inter.length = 0) := by
          rintro ⟨a, b, d, e⟩
          rcases hc with hc | hc
          · exact hc a
          · exact hc ⟨b, List.length_eq_zero_iff.1 d, List.length_eq_zero_iff.1 e⟩
        have hB : 60 ≤ c ∨ 0 < inter.length ∨ head.length = 256 := by
          by_cases hi : inter = []
          · exact .inl (by have : ¬ c < 60 := fun h => k2 ⟨h, hi⟩; omega)
          · exact .inr (.inl (List.length_pos_iff.2 hi))
        rw [if_neg k2, if_neg (show ¬ (false = true) by simp), if_neg hA, if_pos hB]
        simp [spoilM]
theorem parts1_ok {pre : Int} {s : List Int} (h : (parts1 pre s).ok = true) : (parts1 pre s).inter.length ≤ 2 ∧ (parts1 pre s).head.length ≤ 256 := by
  have := headN_le s
  unfold parts1 at h ⊢
  split at h
  · simp at h
  · rename_i k
    rw [if_neg k]
    simp at h
    simp; omega
theorem partsF_hi {c : Int} (s : List Int) (k : 60 ≤ c) : partsF (c :: s) = parts1 c s := by simp [partsF, k]
theorem partsF_lo {c : Int} (s : List Int) (k : ¬ 60 ≤ c) : partsF (c :: s) = parts1 0 (c :: s) := by simp [partsF, k]
theorem parts_ok {s : List Int} (h : (partsF s).ok = true) : (partsF s).inter.length ≤ 2 ∧ (partsF s).head.length ≤ 256 := by
  cases s with
  | nil => exact parts1_ok h
  | cons c s =>
    by_cases k : 60 ≤ c
    · rw [partsF_hi s k] at h ⊢; exact parts1_ok h
    · rw [partsF_lo s k] at h ⊢; exact parts1_ok h
/-- Parts that are no parts are all alike. -/
def Eqv (p q : Parts) : Prop := (p.ok = false ∧ q.ok = false) ∨ p = q
theorem Eqv.S {p q : Parts} (h : Eqv p q) (most st : Nat) : hS most st p = hS most st q := by
  rcases h with ⟨a, b⟩ | rfl
  · unfold hS; rw [a, b]; rfl
  · rfl
theorem parts1_snoc (pre : Int) (s : List Int) (c : Int) (h0 : 32 ≤ c) (h1 : c < 64) : Eqv (parts1 pre (s ++ [c])) (moreP (parts1 pre s) c) := by
  have hle := headN_le s
  have hsn := headN_snoc c s
  unfold parts1
  by_cases hall : headN s = s.length
  · have hd : s.drop (headN s) = [] := by rw [hall]; simp
    have ht : s.take (headN s) = s := by rw [hall]; simp
    by_cases hc : isH c = true
    · rw [if_pos ⟨hall, hc⟩] at hsn
      rw [hsn, hd, ht]
      unfold isH at hc
      simp at hc
      have e1 : (s ++ [c]).drop (s.length + 1) = [] := List.drop_of_length_le (by simp)
      have e2 : (s ++ [c]).take (s.length + 1) = s ++ [c] := List.take_of_length_le (by simp)
      rw [e1, e2]
      unfold moreP
      simp only [List.any_nil, Bool.false_eq_true, if_false, List.length_append, List.length_singleton]
      rw [hall]
      by_cases hk : s.length ≤ 256
      · right
        simp only [hk, decide_true, Nat.sub_self, Nat.zero_le, Bool.and_self, if_true]
        rw [if_neg (by omega), if_pos ⟨by omega, trivial⟩]
        simp
      · left
        have : ¬ s.length + 1 ≤ 256 := by omega
        simp [hk]
        omega
    · rw [if_neg (fun h => hc h.2)] at hsn
      rw [hsn, hd, ht, hall]
      unfold isH at hc
      simp at hc
      have e1 : (s ++ [c]).drop s.length = [c] := by simp
      have e2 : (s ++ [c]).take s.length = s := by simp
      rw [e1, e2]
      unfold moreP
      by_cases hk : c < 48
      · have h47 : ¬ 47 < c := by omega
        by_cases hs : s.length ≤ 256
        · right
          simp [h47, hk, hs]
        · left
          simp [h47, hs]
      · have h47 : 47 < c := by omega
        left
        have h60 : ¬ c < 60 := by omega
        simp only [List.any_cons, List.any_nil, h47, decide_true, Bool.or_false, if_true, if_neg hk, h60, false_and, if_false, true_and]
        simp
  · rw [if_neg (fun h => hall h.1)] at hsn
    rw [hsn]
    have e1 : (s ++ [c]).drop (headN s) = s.drop (headN s) ++ [c] := List.drop_append_of_le_length hle
    have e2 : (s ++ [c]).take (headN s) = s.take (headN s) := List.take_append_of_le_length hle
    rw [e1, e2, List.any_append]
    have hne : s.drop (headN s) ≠ [] := by
      intro h
      have := congrArg List.length h
      rw [List.length_drop] at this
      simp at this
      omega
    obtain ⟨d, hd⟩ : ∃ d, s.drop (headN s) = d := ⟨_, rfl⟩
    have hdl : s.length - headN s = d.length := by rw [← hd, List.length_drop]
    rw [hd] at hne ⊢
    have e3 : (s ++ [c]).length - headN s = d.length + 1 := by rw [List.length_append, List.length_singleton]; omega
    rw [e3, hdl]
    cases ha : d.any (fun c => decide (47 < c)) with
    | true =>
      left
      simp [moreP]
    | false =>
      unfold moreP
      by_cases hk : c < 48
      · have h47 : ¬ 47 < c := by omega
        by_cases h256 : headN s ≤ 256
        · by_cases h2 : d.length ≤ 2
          · right
            simp [h47, h256, h2, hk]
          · left
            simp [h47, h256, h2]
            omega
        · left
          simp [h47, h256]
      · have h47 : 47 < c := by omega
        left
        have : ¬ (c < 60 ∧ d = []) := fun h => hne h.2
        simp [h47, hk, hne]
theorem Eqv.more {p q : Parts} (h : Eqv p q) (c : Int) : Eqv (moreP p c) (moreP q c) := by
  rcases h with ⟨a, b⟩ | rfl
  · left; unfold moreP; rw [a, b]; simp
  · right; rfl
/-- One byte more of a head. -/
theorem parts_S (most st : Nat) (s : List Int) (c : Int) (h0 : 32 ≤ c) (h1 : c < 64) : (if c < 48 then betweenM (hS most st (partsF s)) c else numberM (hS most st (partsF s)) c) = hS most st (partsF (s ++ [c])) := by
  cases s with
  | nil =>
    by_cases k : 60 ≤ c
    · rw [if_neg (by omega)]
      show numberM (hS most st (parts1 0 [])) c = hS most st (partsF [c])
      rw [partsF_hi [] k]
      simp [parts1, hS, headN, numberM, S, k]
    · have e : partsF ([] ++ [c]) = parts1 0 ([] ++ [c]) := partsF_lo [] k
      rw [moreP_S _ _ parts_ok (.inl k), e]
      exact ((parts1_snoc 0 [] c h0 h1).S most st).symm
  | cons x s =>
    have hx : (partsF (x :: s)).ok = true → ¬ ((partsF (x :: s)).pre = 0 ∧ (partsF (x :: s)).head = [] ∧ (partsF (x :: s)).inter = []) := by
      intro hok
      by_cases k : 60 ≤ x
      · rw [partsF_hi s k] at hok ⊢
        unfold parts1 at hok ⊢
        split
        · rename_i h; rw [if_pos h] at hok; simp at hok
        · intro h
          have := h.1
          simp only at this
          omega
      · rw [partsF_lo s k] at hok ⊢
        unfold parts1 at hok ⊢
        split
        · rename_i h; rw [if_pos h] at hok; simp at hok
        · rintro ⟨_, h2, h3⟩
          simp only at h2 h3
          have := congrArg List.length (List.take_append_drop (headN (x :: s)) (x :: s))
          rw [h2, h3] at this
          simp at this
    by_cases hok : (partsF (x :: s)).ok = true
    · rw [moreP_S _ _ parts_ok (.inr (hx hok))]
      refine (Eqv.S ?_ most st).symm
      rw [List.cons_append]
      by_cases k : 60 ≤ x
      · rw [partsF_hi _ k, partsF_hi _ k]; exact parts1_snoc x s c h0 h1
      · rw [partsF_lo _ k, partsF_lo _ k]; exact parts1_snoc 0 (x :: s) c h0 h1
    · have hf : (partsF (x :: s)).ok = false := by simpa using hok
      have e : hS most st (partsF (x :: s)) = { S most st with wrong := true } := by unfold hS; rw [hf]; rfl
      have e2 : (partsF (x :: s ++ [c])).ok = false := by
        have key : Eqv (partsF (x :: s ++ [c])) (moreP (partsF (x :: s)) c) := by
          rw [List.cons_append]
          by_cases k : 60 ≤ x
          · rw [partsF_hi _ k, partsF_hi _ k]; exact parts1_snoc x s c h0 h1
          · rw [partsF_lo _ k, partsF_lo _ k]; exact parts1_snoc 0 (x :: s) c h0 h1
        rcases key with ⟨a, _⟩ | a
        · exact a
        · rw [a]; unfold moreP; rw [hf]; rfl
      rw [e]
      have e3 : hS most st (partsF (x :: s ++ [c])) = { S most st with wrong := true } := by unfold hS; rw [e2]; rfl
      rw [e3]
      unfold betweenM numberM
      simp [S]
theorem hS_most {most st : Nat} (p : Parts) : (hS most st p).most = most ∧ (hS most st p).dec = [] ∧ (hS most st p).state = st ∧ (hS most st p).last = 0 ∧ (hS most st p).text = [] ∧ (hS most st p).cut = false ∧ (hS most st p).wrong = !p.ok := by
  unfold hS
  split
  · rename_i h; simp [S, h]
  · rename_i h; simp [S, h]
/-- A payload's state. -/
def pS (most : Nat) (p : Parts) (last : Int) (t : List Int) : Ps := if p.ok = true then withT { hS most 3 p with last := last } t else { hS most 3 p with last := last }
theorem skip_split : ∀ l, skipN l = l.length ∨ ∃ c r, l = l.take (skipN l) ++ c :: r ∧ stopB c = true ∧ l[skipN l]? = some c
  | [] => .inl rfl
  | c :: l => by
    cases hs : stopB c with
    | true => exact .inr ⟨c, l, by simp [skipN, hs], hs, by simp [skipN, hs]⟩
    | false =>
      have e : skipN (c :: l) = skipN l + 1 := by simp [skipN, hs, Nat.add_comm]
      rw [e]
      rcases skip_split l with h | ⟨d, r, h1, h2, h3⟩
      · left; simp [h]
      · right
        refine ⟨d, r, ?_, h2, by simpa using h3⟩
        rw [List.take_succ_cons, List.cons_append, ← h1]
theorem pS_put {most : Nat} {p : Parts} {last : Int} (hl : last ≠ 0) (t : List Int) {c : Int} (hs : stopB c = false) : stepM (pS most p last t) c = ([], pS most p last (t ++ [c])) := by
  have hh := hS_most (most := most) (st := 3) p
  cases ho : p.ok with
  | true =>
    have e : ∀ t, pS most p last t = withT { hS most 3 p with last := last } t := fun t => by unfold pS; rw [ho]; rfl
    rw [e, e, step_str (s := withT { hS most 3 p with last := last } t) hs (.inr (.inr ⟨hh.2.2.1, hl⟩))]
    unfold inStringM
    rw [if_pos ⟨hh.2.2.1, by show (hS most 3 p).wrong = false; rw [hh.2.2.2.2.2.2, ho]; rfl⟩, put_T]
  | false =>
    have e : ∀ t, pS most p last t = { hS most 3 p with last := last } := fun t => by unfold pS; rw [ho]; rfl
    rw [e, e, step_str (s := { hS most 3 p with last := last }) hs (.inr (.inr ⟨hh.2.2.1, hl⟩))]
    unfold inStringM
    rw [if_neg ?_, if_pos ?_]
    · show ¬ (hS most 3 p).state = 4
      rw [hh.2.2.1]; decide
    · rintro ⟨_, h⟩
      have h : (hS most 3 p).wrong = false := h
      rw [hh.2.2.2.2.2.2, ho] at h
      cases h
theorem pS_facts {most : Nat} {p : Parts} {last : Int} {t : List Int} : (pS most p last t).most = most ∧ (pS most p last t).dec = [] ∧ (pS most p last t).state = 3 := by
  have hh := hS_most (most := most) (st := 3) p
  unfold pS
  split
  · exact ⟨hh.1, hh.2.1, hh.2.2.1⟩
  · exact ⟨hh.1, hh.2.1, hh.2.2.1⟩
/-- Bytes of a payload up to one that stops, or the end. -/
theorem pS_all {most : Nat} {p : Parts} {last : Int} (hl : last ≠ 0) : ∀ (a r : List Int) (t : List Int), (∀ x ∈ a, stopB x = false) → res (pS most p last t) (a ++ r) = res (pS most p last (t ++ a)) r
  | [], r, t, _ => by simp
  | c :: a, r, t, h => by
    rw [List.cons_append, res_cons, pS_put hl t (h c (by simp)), preT_nil, pS_all hl a r _ (fun x hx => h x (List.mem_cons_of_mem _ hx))]
    simp
theorem skip_not : ∀ l : List Int, ∀ x ∈ l.take (skipN l), stopB x = false
  | [], x, h => by simp at h
  | c :: l, x, h => by
    cases hs : stopB c with
    | true =>
      have e : skipN (c :: l) = 0 := by simp [skipN, hs]
      rw [e] at h; simp at h
    | false =>
      have e : skipN (c :: l) = skipN l + 1 := by simp [skipN, hs, Nat.add_comm]
      rw [e, List.take_succ_cons] at h
      rcases List.mem_cons.1 h with h | h
      · rw [h]; exact hs
      · exact skip_not l x h
theorem pay_law (most N : Nat) (ih : IHn most N) (s : List Int) (last : Int) (hl : last ≠ 0) (l : List Int) (hN : l.length ≤ N) (hb : ∀ x ∈ l, 0 ≤ x ∧ x ≤ 255) : res (pS most (partsF s) last []) l = cont most l (payF most s last l) := by
  have hh := hS_most (most := most) (st := 3) (partsF s)
  rcases skip_split l with h | ⟨c, r, h1, h2, h3⟩
  · have e : l = l ++ [] := by simp
    have ht : l.take (skipN l) = l := by rw [h]; simp
    have hp := pS_all (most := most) (p := partsF s) hl l [] [] (by have := skip_not l; rw [ht] at this; exact this)
    rw [List.append_nil, List.nil_append] at hp
    rw [hp, res_nil]
    unfold payF
    rw [if_pos h, ht]
    unfold cont
    rw [if_pos h]
    refine Prod.ext rfl (Prod.ext pS_facts.2.2 ?_)
    show heldM _ = _
    unfold pS
    cases ho : (partsF s).ok with
    | true =>
      rw [if_pos rfl, if_pos rfl]
      unfold heldM sizeM withT hS
      rw [ho]
      simp [S]
    | false =>
      rw [if_neg (by simp), if_neg (by simp)]
      unfold heldM sizeM hS
      rw [ho]
      simp [S]
  · obtain ⟨k, hk⟩ : ∃ k, skipN l = k := ⟨_, rfl⟩
    obtain ⟨a, ha⟩ : ∃ a, l.take k = a := ⟨_, rfl⟩
    have hne : ¬ skipN l = l.length := by
      intro e
      rw [e] at h3
      simp at h3
    have hp := pS_all (most := most) (p := partsF s) hl a (c :: r) [] (by rw [← ha, ← hk]; exact skip_not l)
    have hal : a.length = k := by
      rw [← ha, List.length_take]
      have := skip_le l
      omega
    rw [hk, ha] at h1
    have hrb : ∀ x ∈ c :: r, 0 ≤ x ∧ x ≤ 255 := fun x hx => hb x (by rw [h1]; exact List.mem_append_right _ hx)
    have hrl : (c :: r).length ≤ N := by rw [h1, List.length_append] at hN; omega
    have hd : l.drop k = c :: r := by rw [h1, ← hal]; simp
    rw [List.nil_append] at hp
    have hc : ∀ e : List Ev, cont most l ⟨e, 0, 0, k⟩ = preT e (docR most (c :: r)) := by
      intro e
      unfold cont
      rw [if_neg (by rw [← hk]; exact hne), hd]
    unfold payF
    rw [if_neg hne, h3, hk, ha]
    have hres : res (pS most (partsF s) last []) l = res (pS most (partsF s) last a) (c :: r) := by rw [← hp, ← h1]
    rw [hres, res_cons]
    by_cases k1 : c = 24 ∨ c = 26
    · rw [if_neg (by rintro ⟨_, h⟩; injection h with h; omega), hc, preT_nil, ← ih _ hrl hrb, res_cons, step_cs pS_facts.1 pS_facts.2.1 k1, step_cs (s := newM most) (most := most) rfl rfl k1]
    · have h27 : c = 27 := by unfold stopB at h2; simp at h2; omega
      subst h27
      rw [step_esc pS_facts.1 pS_facts.2.1]
      unfold endsM
      rw [if_neg (by rw [pS_facts.2.2]; decide)]
      cases ho : (partsF s).ok with
      | true =>
        rw [if_pos ?_, if_pos ⟨rfl, rfl⟩, hc, ← ih _ hrl hrb, res_cons, step_esc (s := newM most) (most := most) rfl rfl]
        · refine congrArg (fun e => preT [e] _) ?_
          unfold pS wholeM withT hS
          rw [ho]
          rfl
        · refine ⟨pS_facts.2.2, ?_, ?_⟩
          · unfold pS; rw [ho]; exact hl
          · unfold pS; rw [ho]; show (hS most 3 (partsF s)).wrong = false; rw [hh.2.2.2.2.2.2, ho]; rfl
      | false =>
        rw [if_neg ?_, if_neg (by simp), hc, preT_nil, preT_nil, ← ih _ hrl hrb, res_cons, step_esc (s := newM most) (most := most) rfl rfl]
        · rfl
        · rintro ⟨_, _, h⟩
          unfold pS at h
          rw [ho] at h
          have h : (hS most 3 (partsF s)).wrong = false := h
          rw [hh.2.2.2.2.2.2, ho] at h
          cases h
/-- A sequence, or a device string ahead of its last byte. -/
theorem seq_law (most N : Nat) (ih : IHn most N) (dev : Bool) : ∀ (l s : List Int), l.length ≤ N → (∀ x ∈ l, 0 ≤ x ∧ x ≤ 255) → res (hS most (if dev = true then 3 else 2) (partsF s)) l = cont most l (seqF most dev s l)
  | [], s, _, _ => by
    have hh := hS_most (most := most) (st := if dev = true then 3 else 2) (partsF s)
    rw [res_nil, seqF, cont_nil]
    refine Prod.ext rfl (Prod.ext hh.2.2.1 ?_)
    show heldM _ = _
    unfold heldM sizeM hS
    cases ho : (partsF s).ok <;> simp [S]
  | c :: l, s, hN, hb => by
    obtain ⟨st, hst⟩ : ∃ st, (if dev = true then 3 else 2) = st := ⟨_, rfl⟩
    have hh := hS_most (most := most) (st := st) (partsF s)
    have hl : l.length ≤ N := by simp at hN; omega
    have hbl : ∀ x ∈ l, 0 ≤ x ∧ x ≤ 255 := fun x hx => hb x (List.mem_cons_of_mem _ hx)
    have st23 : st = 2 ∧ dev = false ∨ st = 3 ∧ dev = true := by cases dev <;> simp at hst <;> simp [← hst]
    have i1 := seq_law most N ih dev l s hl hbl
    have i2 := seq_law most N ih dev l (s ++ [c]) hl hbl
    rw [hst] at i1 i2 ⊢
    rw [seqF]
    by_cases k1 : 128 ≤ c ∨ stopB c = true
    · rw [if_pos k1]
      refine abort_res hh.1 hh.2.1 ?_ ?_ ?_ (fun _ => hh.2.2.2.1) ih hN hb k1 0
      all_goals rw [hh.2.2.1]; omega
    · have hs : stopB c = false := by simpa using (not_or.1 k1).2
      have k1 : ¬ 128 ≤ c := (not_or.1 k1).1
      rw [if_neg (by rw [hs]; simp; omega), res_cons, step_in hs (by rw [hh.2.2.1]; omega) (by rw [hh.2.2.1]; omega) (by rw [hh.2.2.1]; omega) (fun _ => hh.2.2.2.1)]
      unfold inHeadM
      rw [if_neg k1, hh.2.2.1]
      have hd : (c = 127 ∨ c < 32 ∧ st = 3) ↔ (c = 127 ∨ c < 32 ∧ dev = true) := by
        rcases st23 with ⟨a, b⟩ | ⟨a, b⟩ <;> simp [a, b]
      by_cases k2 : c = 127 ∨ c < 32 ∧ dev = true
      · rw [if_pos (hd.2 k2), if_pos k2, cont_more, ← i1]
      · rw [if_neg (fun h => k2 (hd.1 h)), if_neg k2]
        by_cases k3 : c < 32
        · rw [if_pos k3, if_pos k3, cont_more, ← i1]
        · rw [if_neg k3, if_neg k3, if_neg (by omega)]
          by_cases k4 : c < 64
          · have hp := parts_S most st s c (by omega) k4
            rw [if_pos k4, cont_more, ← i2, ← hp]
            unfold inSequenceM
            by_cases k5 : c < 48
            · rw [if_pos k5, if_pos k5]
            · rw [if_neg k5, if_pos k4, if_neg k5]
          · rw [if_neg k4]
            unfold inSequenceM
            rw [if_neg (show ¬ c < 48 by omega), if_neg k4]
            rcases st23 with ⟨rfl, rfl⟩ | ⟨rfl, rfl⟩
            · rw [if_neg (show ¬ (hS most 2 (partsF s)).state = 3 by rw [hh.2.2.1]; decide), if_neg (show ¬ (false = true) by simp), cont_one, ← ih l hl hbl, enter_S hh.1 hh.2.1, hh.2.2.2.2.2.2, newM_S]
              cases ho : (partsF s).ok with
              | true =>
                simp only [Bool.not_true, if_true]
                refine congrArg (fun e => preT [e] _) ?_
                unfold wholeM hS
                rw [ho]
                rfl
              | false => rfl
            · rw [if_pos hh.2.2.1, if_pos rfl, cont_more, ← pay_law most N ih s c (by omega) l hl hbl]
              refine congrArg (fun x => preT [] (res x l)) ?_
              unfold pS
              cases ho : (partsF s).ok with
              | true =>
                show { hS most 3 (partsF s) with last := c } = withT { hS most 3 (partsF s) with last := c } []
                exact (withT_nil (s := { hS most 3 (partsF s) with last := c }) hh.2.2.2.2.1 hh.2.2.2.2.2.1).symm
              | false => rfl
theorem hS_nil (most st : Nat) : hS most st (partsF []) = S most st := by simp [hS, partsF, parts1, headN, S]
/-- An escape's last byte, with nothing ahead of it. -/
theorem last_law (most N : Nat) (ih : IHn most N) {s : Ps} (h1 : s.most = most) (h2 : s.dec = []) (h3 : s.inter = []) (h4 : s.wrong = false) (c : Int) (l : List Int) (hN : l.length ≤ N) (hb : ∀ x ∈ l, 0 ≤ x ∧ x ≤ 255) :
    preT (finalM s c).1 (res (finalM s c).2 l) = cont most l (lastF most c l) := by
  have e0 : s.inter.length = 0 := by rw [h3]; rfl
  unfold finalM lastF
  simp only [e0, h4, true_and, enter_S h1 h2]
  by_cases k1 : c = 91
  · rw [if_pos k1, if_pos k1, ← seq_law most N ih false l [] hN hb, hS_nil]; rfl
  · rw [if_neg k1, if_neg k1]
    by_cases k2 : c = 93
    · rw [if_pos k2, if_neg (by omega), if_pos k2, ← cmd_law most N ih l [] hN hb, withT_nil rfl rfl]; rfl
    · rw [if_neg k2]
      by_cases k3 : c = 80
      · rw [if_pos k3, if_pos k3, ← seq_law most N ih true l [] hN hb, hS_nil]; rfl
      · rw [if_neg k3, if_neg k3, if_neg k2]
        by_cases k4 : c = 88 ∨ c = 94 ∨ c = 95
        · rw [if_pos k4, if_pos k4, ← idle_law most N ih l hN hb]; rfl
        · rw [if_neg k4, if_neg k4, ← newM_S, ih l hN hb]
          unfold cont escM
          rw [h4, h3]
          simp only [if_true, List.drop_zero]
          split
          · rename_i h
            have : l = [] := by simpa using h.symm
            subst this
            rfl
          · rfl
/-- What an escape's bytes make of its state. -/
def eS (most : Nat) (i : List Int) : Ps := if i.length ≤ 2 then { S most 1 with inter := i } else { S most 1 with wrong := true }
theorem eS_facts (most : Nat) (i : List Int) : (eS most i).most = most ∧ (eS most i).dec = [] ∧ (eS most i).state = 1 ∧ (eS most i).last = 0 := by
  unfold eS
  split <;> simp [S]
theorem eS_more (most : Nat) (i : List Int) (c : Int) : betweenM (eS most i) c = eS most (i ++ [c]) := by
  unfold eS betweenM
  rw [List.length_append, List.length_singleton]
  by_cases h : i.length ≤ 2
  · rw [if_pos h]
    simp only [S]
    by_cases h2 : i.length = 2
    · rw [if_pos h2, if_neg (by omega)]; rfl
    · rw [if_neg h2, if_pos (by omega)]; rfl
  · rw [if_neg h, if_neg (show ¬ i.length + 1 ≤ 2 by omega)]
    simp [S]
theorem esc_law (most N : Nat) (ih : IHn most N) : ∀ (l i : List Int), l.length ≤ N → (∀ x ∈ l, 0 ≤ x ∧ x ≤ 255) → res (eS most i) l = cont most l (escF most i l)
  | [], i, _, _ => by
    have hh := eS_facts most i
    rw [res_nil, escF, cont_nil]
    refine Prod.ext rfl (Prod.ext hh.2.2.1 ?_)
    show heldM _ = _
    unfold heldM sizeM eS
    by_cases h : i.length ≤ 2
    · rw [if_pos h, if_pos h]; simp [S]
    · rw [if_neg h, if_neg h]; simp [S]
  | c :: l, i, hN, hb => by
    have hh := eS_facts most i
    have hl : l.length ≤ N := by simp at hN; omega
    have hbl : ∀ x ∈ l, 0 ≤ x ∧ x ≤ 255 := fun x hx => hb x (List.mem_cons_of_mem _ hx)
    have i1 := esc_law most N ih l i hl hbl
    have i2 := esc_law most N ih l (i ++ [c]) hl hbl
    rw [escF]
    by_cases k1 : 128 ≤ c ∨ stopB c = true
    · rw [if_pos k1]
      refine abort_res hh.1 hh.2.1 ?_ ?_ ?_ (fun _ => hh.2.2.2) ih hN hb k1 0
      all_goals rw [hh.2.2.1]; decide
    · have hs : stopB c = false := by simpa using (not_or.1 k1).2
      have k1 : ¬ 128 ≤ c := (not_or.1 k1).1
      rw [if_neg (by rw [hs]; simp; omega), res_cons, step_in hs (by rw [hh.2.2.1]; decide) (by rw [hh.2.2.1]; decide) (by rw [hh.2.2.1]; decide) (fun _ => hh.2.2.2)]
      unfold inHeadM
      rw [if_neg k1, hh.2.2.1]
      by_cases k3 : c < 32
      · rw [if_neg (show ¬ (c = 127 ∨ c < 32 ∧ 1 = 3) by omega), if_pos k3, if_pos k3, cont_more, ← i1]
      · by_cases k2 : c = 127
        · rw [if_pos (show c = 127 ∨ c < 32 ∧ 1 = 3 from .inl k2), if_neg k3, if_pos k2, cont_more, ← i1]
        · rw [if_neg (show ¬ (c = 127 ∨ c < 32 ∧ 1 = 3) by omega), if_neg k3, if_neg k3, if_pos rfl, if_neg k2]
          unfold inEscapeM
          by_cases k4 : c < 48
          · rw [if_pos k4, if_pos k4, cont_more, ← i2, eS_more]
          · rw [if_neg k4, if_neg k4]
            by_cases k5 : i = []
            · subst k5
              rw [if_pos rfl, cont_more, preT_nil]
              exact last_law most N ih hh.1 hh.2.1 rfl rfl c l hl hbl
            · rw [if_neg k5, cont_one, ← ih l hl hbl]
              unfold eS
              by_cases k6 : i.length ≤ 2
              · have hp := List.length_pos_iff.2 k5
                rw [if_pos k6, if_pos k6]
                unfold finalM escM
                simp only [S]
                rw [if_neg (by omega), if_neg (by omega), if_neg (by omega), if_neg (by omega)]
                rfl
              · rw [if_neg k6, if_neg k6]
                unfold finalM escM
                simp [S, enterM, newM]
end Go.Proofs.Ythbjjhoajecpcaa
