/-
  The document's parser as a plain function, and its Run in memory; add, stops, cut walked. No condition but bounds.
-/
import Derived.Test.YthbjjhoajecpcaaPrints
import Derived.Deep.RegionLaw
namespace Go.Proofs.Ythbjjhoajecpcaa
open Go.RowKit Go.Proofs
set_option linter.unusedVariables false
/-- What a part of the bytes comes to: events, where one is, how many are held, how many bytes it took. -/
structure Out where
  evs : List Ev
  st : Nat
  held : Nat
  n : Nat
/-- .. behind events and bytes ahead of it. -/
def Out.more (e : List Ev) (k : Nat) (o : Out) : Out := ⟨e ++ o.evs, o.st, o.held, k + o.n⟩
def stopB (c : Int) : Bool := c == 24 || c == 26 || c == 27
/-- How many bytes stand ahead of one that stops. -/
def skipN : List Int → Nat
  | [] => 0
  | c :: l => if stopB c = true then 0 else 1 + skipN l
def isH (c : Int) : Bool := decide (48 ≤ c) && decide (c ≤ 59)
/-- A head's parts. -/
structure Parts where
  pre : Int
  head : List Int
  inter : List Int
  ok : Bool
def headN : List Int → Nat
  | [] => 0
  | c :: l => if isH c = true then 1 + headN l else 0
def parts1 (pre : Int) (s : List Int) : Parts :=
  if (s.drop (headN s)).any (fun c => decide (47 < c)) = true then ⟨0, [], [], false⟩
  else ⟨pre, s.take (headN s), s.drop (headN s), decide (headN s ≤ 256) && decide (s.length - headN s ≤ 2)⟩
def partsF : List Int → Parts
  | [] => parts1 0 []
  | c :: s => if 60 ≤ c then parts1 c s else parts1 0 (c :: s)
def cutT (most : Nat) (s : List Int) : List Int × Bool := if most < s.length then (s.take most, true) else (s, false)
def cmdF (most : Nat) (s : List Int) : List Int → Out
  | [] => ⟨[], 4, (cutT most s).1.length, 0⟩
  | c :: l => if c = 24 ∨ c = 26 then ⟨[], 0, 0, 0⟩ else if c = 7 ∨ c = 27 then ⟨[⟨4, 0, 0, 0, [], [], (cutT most s).1, (cutT most s).2⟩], 0, 0, if c = 7 then 1 else 0⟩
    else if 32 ≤ c ∧ ¬ c = 127 then (cmdF most (s ++ [c]) l).more [] 1 else (cmdF most s l).more [] 1
def payF (most : Nat) (s : List Int) (last : Int) (l : List Int) : Out :=
  if skipN l = l.length then ⟨[], 3, if (partsF s).ok = true then (partsF s).head.length + (partsF s).inter.length + (cutT most (l.take (skipN l))).1.length else 0, skipN l⟩
  else if (partsF s).ok = true ∧ l[skipN l]? = some 27 then ⟨[⟨5, 0, last, (partsF s).pre, numsF (partsF s).head, (partsF s).inter, (cutT most (l.take (skipN l))).1, (cutT most (l.take (skipN l))).2⟩], 0, 0, skipN l⟩
  else ⟨[], 0, 0, skipN l⟩
def seqF (most : Nat) (dev : Bool) (s : List Int) : List Int → Out
  | [] => ⟨[], if dev = true then 3 else 2, if (partsF s).ok = true then (partsF s).head.length + (partsF s).inter.length else 0, 0⟩
  | c :: l => if 128 ≤ c ∨ stopB c = true then ⟨[], 0, 0, 0⟩
    else if c = 127 ∨ c < 32 ∧ dev = true then (seqF most dev s l).more [] 1
    else if c < 32 then (seqF most dev s l).more [execE c] 1
    else if c < 64 then (seqF most dev (s ++ [c]) l).more [] 1
    else if dev = true then (payF most s c l).more [] 1
    else ⟨if (partsF s).ok = true then [⟨3, 0, c, (partsF s).pre, numsF (partsF s).head, (partsF s).inter, [], false⟩] else [], 0, 0, 1⟩
def lastF (most : Nat) (c : Int) (l : List Int) : Out :=
  if c = 91 then seqF most false [] l else if c = 80 then seqF most true [] l else if c = 93 then cmdF most [] l
  else if c = 88 ∨ c = 94 ∨ c = 95 then ⟨[], 5, 0, skipN l⟩ else ⟨[⟨2, 0, c, 0, [], [], [], false⟩], 0, 0, 0⟩
def escF (most : Nat) (i : List Int) : List Int → Out
  | [] => ⟨[], 1, if i.length ≤ 2 then i.length else 0, 0⟩
  | c :: l => if 128 ≤ c ∨ stopB c = true then ⟨[], 0, 0, 0⟩
    else if c < 32 then (escF most i l).more [execE c] 1
    else if c = 127 then (escF most i l).more [] 1
    else if c < 48 then (escF most (i ++ [c]) l).more [] 1
    else if i = [] then (lastF most c l).more [] 1
    else ⟨if i.length ≤ 2 then [⟨2, 0, c, 0, [], i, [], false⟩] else [], 0, 0, 1⟩
def restF (most : Nat) : List Int → Out
  | [] => ⟨[], 0, 0, 0⟩
  | c :: l => if c = 27 then (escF most [] l).more [] 1 else if c < 32 then ⟨[execE c], 0, 0, 1⟩
    else if (oneF (c :: l)).2 = (c :: l).length ∧ begB (c :: l) = true then ⟨[], 0, (oneF (c :: l)).2, (c :: l).length⟩
    else if (oneF (c :: l)).1 = 127 then ⟨[], 0, 0, (oneF (c :: l)).2⟩
    else if 128 ≤ (oneF (c :: l)).1 ∧ (oneF (c :: l)).1 ≤ 159 then (lastF most ((oneF (c :: l)).1 - 64) ((c :: l).drop (oneF (c :: l)).2)).more [] (oneF (c :: l)).2
    else ⟨[printE (oneF (c :: l)).1], 0, 0, (oneF (c :: l)).2⟩
/-! ### how many bytes, how many events -/
theorem skip_le : ∀ l, skipN l ≤ l.length
  | [] => by simp [skipN]
  | c :: l => by have := skip_le l; unfold skipN; split <;> simp <;> omega
theorem one_le (b : List Int) (h : b ≠ []) : (oneF b).2 ≤ b.length := by
  have hb : 1 ≤ b.length := by cases b with | nil => exact absurd rfl h | cons _ _ => simp
  unfold oneF
  split
  · show begN b ≤ b.length
    unfold begN
    split
    · rw [List.length_take]; omega
    · split
      · rw [List.length_take]; omega
      · omega
  · show wholeN b ≤ b.length
    rename_i hw
    have key : ∀ k, isB (b.take k) = true → (b.take k).length = k ∨ (b.take k).length < k := fun k _ => by rw [List.length_take]; omega
    have cut : ∀ k, b.length < k → b.take k = b := fun k hk => List.take_of_length_le (by omega)
    by_cases e1 : isB (b.take 1) = true
    · have : wholeN b = 1 := by unfold wholeN; rw [if_pos e1]
      omega
    · by_cases e2 : isB (b.take 2) = true
      · have : wholeN b = 2 := by unfold wholeN; rw [if_neg e1, if_pos e2]
        rcases Nat.lt_or_ge b.length 2 with h2 | h2
        · exact absurd (by rw [cut 2 h2] at e2; rw [show b.take 1 = b from List.take_of_length_le (by omega)]; exact e2) e1
        · omega
      · by_cases e3 : isB (b.take 3) = true
        · have : wholeN b = 3 := by unfold wholeN; rw [if_neg e1, if_neg e2, if_pos e3]
          rcases Nat.lt_or_ge b.length 3 with h2 | h2
          · exact absurd (by rw [cut 3 h2] at e3; rw [show b.take 2 = b from List.take_of_length_le (by omega)]; exact e3) e2
          · omega
        · by_cases e4 : isB (b.take 4) = true
          · have : wholeN b = 4 := by unfold wholeN; rw [if_neg e1, if_neg e2, if_neg e3, if_pos e4]
            rcases Nat.lt_or_ge b.length 4 with h2 | h2
            · exact absurd (by rw [cut 4 h2] at e4; rw [show b.take 3 = b from List.take_of_length_le (by omega)]; exact e4) e3
            · omega
          · have : wholeN b = 0 := by unfold wholeN; rw [if_neg e1, if_neg e2, if_neg e3, if_neg e4]
            omega
theorem cmd_len (most : Nat) : ∀ (l s : List Int), (cmdF most s l).n ≤ l.length ∧ (cmdF most s l).evs.length ≤ (cmdF most s l).n + 1
  | [], s => by simp [cmdF]
  | c :: l, s => by
    have h1 := cmd_len most l (s ++ [c])
    have h2 := cmd_len most l s
    unfold cmdF
    split
    · simp
    · split
      · simp; split <;> omega
      · split
        · simp [Out.more]; omega
        · simp [Out.more]; omega
theorem pay_len (most : Nat) (s : List Int) (last : Int) (l : List Int) : (payF most s last l).n ≤ l.length ∧ (payF most s last l).evs.length ≤ (payF most s last l).n + 1 := by
  have := skip_le l
  unfold payF
  (repeat' split) <;> simp <;> omega
theorem seq_len (most : Nat) (dev : Bool) : ∀ (l s : List Int), (seqF most dev s l).n ≤ l.length ∧ (seqF most dev s l).evs.length ≤ (seqF most dev s l).n + 1
  | [], s => by simp [seqF]
  | c :: l, s => by
    have h1 := seq_len most dev l (s ++ [c])
    have h2 := seq_len most dev l s
    have h3 := pay_len most s c l
    unfold seqF
    split
    · simp
    · split
      · simp [Out.more]; omega
      · split
        · simp [Out.more]; omega
        · split
          · simp [Out.more]; omega
          · split
            · simp [Out.more]; omega
            · split <;> simp
theorem last_len (most : Nat) (c : Int) (l : List Int) : (lastF most c l).n ≤ l.length ∧ (lastF most c l).evs.length ≤ (lastF most c l).n + 1 := by
  have h1 := seq_len most false l []
  have h2 := seq_len most true l []
  have h3 := cmd_len most l []
  have h4 := skip_le l
  unfold lastF
  (repeat' split)
  · exact h1
  · exact h2
  · exact h3
  · simp; omega
  · simp
theorem esc_len (most : Nat) : ∀ (l i : List Int), (escF most i l).n ≤ l.length ∧ (escF most i l).evs.length ≤ (escF most i l).n + 1
  | [], i => by simp [escF]
  | c :: l, i => by
    have h1 := esc_len most l (i ++ [c])
    have h2 := esc_len most l i
    have h3 := last_len most c l
    unfold escF
    split
    · simp
    · split
      · simp [Out.more]; omega
      · split
        · simp [Out.more]; omega
        · split
          · simp [Out.more]; omega
          · split
            · simp [Out.more]; omega
            · split <;> simp
theorem rest_len (most : Nat) (l : List Int) (h : l ≠ []) : 1 ≤ (restF most l).n ∧ (restF most l).n ≤ l.length ∧ (restF most l).evs.length ≤ 2 * (restF most l).n := by
  cases l with
  | nil => exact absurd rfl h
  | cons c l =>
    have h1 := esc_len most l []
    have h2 := one_le (c :: l) h
    have h3 := one_pos (c :: l)
    have h4 := last_len most ((oneF (c :: l)).1 - 64) ((c :: l).drop (oneF (c :: l)).2)
    rw [List.length_drop] at h4
    simp only [restF]
    split
    · simp [Out.more]; omega
    · split
      · simp
      · split
        · simp
        · split
          · simp only [List.length_nil]; omega
          · split
            · simp only [Out.more, List.nil_append]; omega
            · simp only [List.length_cons, List.length_nil] at h2 ⊢; omega
/-! ### a Run in memory -/
/-- What doesn't turn: the bytes, and where they lie. -/
structure Rn where
  B : Nat
  R : Nat
  A : Option Addr
  c : Nat
  b : List Int
  most : Nat
structure RInv (w0 : World) (q : Rn) (evs : List Ev) (st held : Nat) (w : World) : Prop where
  at_ : ∃ A c, Blk w q.R 36 #[.slice A evs.length c, .int .i64 st, .int .i64 held, .slice q.A q.b.length q.c, .int .i64 q.most] ∧ EvRow w q.B (.slice A evs.length c) evs.length evs
  below : Below q.B w0 w
/-- What holds ahead of it all. -/
structure ROk (w0 : World) (q : Rn) : Prop where
  bytes : Rd w0 q.B 1 q.A q.b.length (q.b.map b8)
  size : q.B ≤ w0.heap.size
  own : q.B ≤ q.R
  cap : q.b.length ≤ q.c
  len : q.b.length ≤ 1000
  most : q.most ≤ 65536
  low : ∀ x ∈ q.b, 0 ≤ x ∧ x ≤ 255
section
variable {w0 w w' : World} {q : Rn} {evs : List Ev} {st held : Nat}
theorem RInv.call (h : RInv w0 q evs st held w) (hs : q.B ≤ w0.heap.size) (hb : Below w.heap.size w w') : RInv w0 q evs st held w' := by
  obtain ⟨A, c, h1, h2⟩ := h.at_
  exact ⟨⟨A, c, h1.below hb h1.lt, h2.call hb⟩, h.below.trans (hb.mono (Nat.le_trans hs h.below.size))⟩
theorem RInv.cells (h : RInv w0 q evs st held w) (ho : ROk w0 q) : (∃ A c, w.cell? ⟨q.R, 0, none⟩ = some (.slice A evs.length c)) ∧ w.cell? ⟨q.R, 1, none⟩ = some (.int .i64 st) ∧ w.cell? ⟨q.R, 2, none⟩ = some (.int .i64 held) ∧ w.cell? ⟨q.R, 3, none⟩ = some (.slice q.A q.b.length q.c) ∧ w.cell? ⟨q.R, 4, none⟩ = some (.int .i64 q.most) ∧ (∀ i, w.frozen? ⟨q.R, i, none⟩ = false) ∧ q.R < w.heap.size ∧ Rd w q.B 1 q.A q.b.length (q.b.map b8) ∧ q.B ≤ w.heap.size := by
  obtain ⟨A, c, h1, h2⟩ := h.at_
  exact ⟨⟨A, c, h1.cell 0⟩, h1.cell 1, h1.cell 2, h1.cell 3, h1.cell 4, fun i => h1.frozen i, h1.lt, ho.bytes.below h.below, Nat.le_trans ho.size h.below.size⟩
theorem RInv.setSt (h : RInv w0 q evs st held w) (ho : q.B ≤ q.R) (k : Nat) : RInv w0 q evs k held (w.setCell ⟨q.R, 1, none⟩ (.int .i64 k)) := by
  obtain ⟨A, c, h1, xs, e1, e2, e3⟩ := h.at_
  have hb := h1.set_ 1 (.int .i64 k)
  simp only [List.setIfInBounds_toArray, List.set_cons_zero, List.set_cons_succ] at hb
  refine ⟨⟨A, c, hb, xs, e1, own_far (p := ⟨q.R, 1, none⟩) e2 (own_ne e2 h1 (by decide)) _, fun x hx => (e3 x hx).keep (fun g t cs ht hg => hg.far (p := ⟨q.R, 1, none⟩) (hg.ne_ h1 (by rcases ht with rfl | rfl <;> decide)) _)⟩, h.below.setCell (p := ⟨q.R, 1, none⟩) ho _⟩
theorem RInv.setHeld (h : RInv w0 q evs st held w) (ho : q.B ≤ q.R) (k : Nat) : RInv w0 q evs st k (w.setCell ⟨q.R, 2, none⟩ (.int .i64 k)) := by
  obtain ⟨A, c, h1, xs, e1, e2, e3⟩ := h.at_
  have hb := h1.set_ 2 (.int .i64 k)
  simp only [List.setIfInBounds_toArray, List.set_cons_zero, List.set_cons_succ] at hb
  refine ⟨⟨A, c, hb, xs, e1, own_far (p := ⟨q.R, 2, none⟩) e2 (own_ne e2 h1 (by decide)) _, fun x hx => (e3 x hx).keep (fun g t cs ht hg => hg.far (p := ⟨q.R, 2, none⟩) (hg.ne_ h1 (by rcases ht with rfl | rfl <;> decide)) _)⟩, h.below.setCell (p := ⟨q.R, 2, none⟩) ho _⟩
end
theorem stops_any (c : Int) (w : World) : Calls Try.prog 49 #[.int .u8 c] w fun e w' => e = .returned (.bool (stopB c)) ∧ w' = w := by
  by_cases k1 : c = 24
  · subst k1
    go_enter Try.func49, Try.ntmps49
    go_wp2
    go_ret
    exact ⟨rfl, rfl⟩
  · by_cases k2 : c = 26
    · subst k2
      go_enter Try.func49, Try.ntmps49
      go_wp2
      go_ret
      exact ⟨rfl, rfl⟩
    · have b1 : (c == 24) = false := by simpa using k1
      have b2 : (c == 26) = false := by simpa using k2
      have HS := hide (show stopB c = (c == 27) by unfold stopB; rw [b1, b2]; rfl)
      go_enter Try.func49, Try.ntmps49
      go_wp2
      go_ret
      exact ⟨ret_bool HS.out.symm, rfl⟩
end Go.Proofs.Ythbjjhoajecpcaa
