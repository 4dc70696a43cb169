/-
  A parser in memory; enter, spoil, State, Held, walked. No condition but bounds.
-/
import Derived.Test.YthbjjhoajecpcaaStep
namespace Go.Proofs.Ythbjjhoajecpcaa
open Go.RowKit Go.Proofs
set_option linter.unusedVariables false
/-- What a parser is. -/
structure Ps where
  pre : Int
  head : List Int
  inter : List Int
  text : List Int
  last : Int
  wrong : Bool
  cut : Bool
  most : Nat
  state : Nat
  dec : List Int
/-- Where its three rows lie. -/
structure Rows3 where
  A1 : Option Addr
  c1 : Nat
  A2 : Option Addr
  c2 : Nat
  A3 : Option Addr
  c3 : Nat
def pcOf (s : Ps) (r : Rows3) : Pc := ⟨.int .u8 s.pre, .slice r.A1 s.head.length r.c1, .slice r.A2 s.inter.length r.c2, .slice r.A3 s.text.length r.c3, .int .u8 s.last, .bool s.wrong, .bool s.cut, .int .i64 s.most, .int .i64 s.state⟩
/-- The row's block. -/
def RB (A : Option Addr) (k : Nat) : Prop := (Value.slice A 0 0).ownBlock = some k
theorem rb_own {A : Option Addr} {n c k : Nat} (h : (Value.slice A n c).ownBlock = some k) : RB A k := by cases A <;> exact h
theorem own_rb {A : Option Addr} {n c k : Nat} (h : RB A k) : (Value.slice A n c).ownBlock = some k := by cases A <;> exact h
theorem rb_none {k : Nat} (h : RB none k) : False := by cases h
/-- A parser at block P. -/
structure PIn (w : World) (P : Nat) (s : Ps) (r : Rows3) : Prop where
  dec : DecAt w P (pcOf s r) s.dec
  head : w.ownsRow 0 5 1 (.slice r.A1 s.head.length r.c1) s.head.length (s.head.map b8)
  inter : w.ownsRow 0 5 1 (.slice r.A2 s.inter.length r.c2) s.inter.length (s.inter.map b8)
  text : w.ownsRow 0 5 1 (.slice r.A3 s.text.length r.c3) s.text.length (s.text.map b8)
  a12 : ∀ k, RB r.A1 k → RB r.A2 k → False
  a13 : ∀ k, RB r.A1 k → RB r.A3 k → False
  a23 : ∀ k, RB r.A2 k → RB r.A3 k → False
/-- A parser's blocks. -/
def PS (P : Nat) (r : Rows3) (k : Nat) : Prop := k = P ∨ RB r.A1 k ∨ RB r.A2 k ∨ RB r.A3 k
/-- A parser, changed; nothing else has turned. -/
def PPost (P : Nat) (r : Rows3) (s' : Ps) (w w' : World) : Prop := ∃ r', PIn w' P s' r' ∧ Frm (PS P r) w w' ∧ ∀ k, PS P r' k → PS P r k ∨ w.heap.size ≤ k
section
variable {w w' w'' : World} {P : Nat} {s s' s'' : Ps} {r : Rows3} {S : Nat → Prop}
theorem frm_call (h : Frm S w w') (hb : Below w'.heap.size w' w'') : Frm S w w'' :=
  h.trans (Frm.of_below (S := fun k => w'.heap.size ≤ k) hb fun _ _ h => h) (fun i hi hle => absurd (Nat.lt_of_lt_of_le hi h.size) (Nat.not_lt.2 hle))
theorem call_frm (hb : Below w.heap.size w w') : Frm S w w' := frm_call (Frm.refl S w) hb
theorem DecAt.frm' {p : Pc} {t : List Int} {g : Nat} (h : DecAt w g p t) (hf : Frm S w w') (hg : ¬ S g) : DecAt w' g p t := by
  obtain ⟨n, need, have_, lo, hi, h1, h2⟩ := h
  exact ⟨n, need, have_, lo, hi, h1.frm hf hg, h2⟩
theorem DecAt.blk {p : Pc} {t : List Int} {g : Nat} (h : DecAt w g p t) : ∃ cs, Blk w g 56 cs := by
  obtain ⟨n, need, have_, lo, hi, h1, h2⟩ := h
  exact ⟨_, h1⟩
theorem PIn.call (h : PIn w P s r) (hb : Below w.heap.size w w') : PIn w' P s r := by
  obtain ⟨cs, hc⟩ := h.dec.blk
  have hl := hc.lt
  refine ⟨h.dec.frm' (S := fun k => w.heap.size ≤ k) (Frm.of_below hb fun _ _ h => h) (by omega), own_call h.head hb, own_call h.inter hb, own_call h.text hb, h.a12, h.a13, h.a23⟩
theorem PIn.frm (h : PIn w P s r) (hf : Frm S w w') (hS : ∀ k, PS P r k → ¬ S k) : PIn w' P s r :=
  ⟨h.dec.frm' hf (hS P (.inl rfl)), own_frm h.head hf (fun k hk => hS k (.inr (.inl (rb_own hk)))), own_frm h.inter hf (fun k hk => hS k (.inr (.inr (.inl (rb_own hk))))), own_frm h.text hf (fun k hk => hS k (.inr (.inr (.inr (rb_own hk))))), h.a12, h.a13, h.a23⟩
theorem PPost.refl (h : PIn w P s r) : PPost P r s w w := ⟨r, h, Frm.refl _ _, fun k hk => .inl hk⟩
theorem PPost.of_call (h : PIn w P s r) (hb : Below w.heap.size w w') : PPost P r s w w' := ⟨r, h.call hb, call_frm hb, fun k hk => .inl hk⟩
theorem PPost.call (h : PPost P r s' w w') (hb : Below w'.heap.size w' w'') : PPost P r s' w w'' := by
  obtain ⟨r', h1, h2, h3⟩ := h
  exact ⟨r', h1.call hb, frm_call h2 hb, h3⟩
theorem PPost.trans {r' : Rows3} (h2 : Frm (PS P r) w w') (h3 : ∀ k, PS P r' k → PS P r k ∨ w.heap.size ≤ k) (h : PPost P r' s'' w' w'') : PPost P r s'' w w'' := by
  obtain ⟨r2, k1, k2, k3⟩ := h
  refine ⟨r2, k1, h2.trans k2 (fun k hk e => (h3 k e).elim id (fun hle => absurd hk (Nat.not_lt.2 hle))), fun k hk => ?_⟩
  rcases k3 k hk with h | h
  · exact h3 k h
  · exact .inr (Nat.le_trans h2.size h)
/-- Blocks of other kinds stay. -/
theorem PIn.keep (h : PIn w P s r) (hf : Frm (PS P r) w w') {g t : Nat} {cs : Array Value} (h1 : t ≠ 5) (h2 : t ≠ 56) (hb : Blk w g t cs) : Blk w' g t cs := by
  refine hb.frm hf ?_
  obtain ⟨cs', hc⟩ := h.dec.blk
  rintro (e | e | e | e)
  · exact hb.ne_ hc h2 e
  · exact own_ne h.head hb (Ne.symm h1) (own_rb e).symm
  · exact own_ne h.inter hb (Ne.symm h1) (own_rb e).symm
  · exact own_ne h.text hb (Ne.symm h1) (own_rb e).symm
end
/-- Entered anew. -/
def enterM (s : Ps) (st : Nat) : Ps := ⟨0, [], [], [], 0, false, false, s.most, st, s.dec⟩
def spoilM (s : Ps) : Ps := ⟨0, [], [], [], 0, true, false, s.most, s.state, s.dec⟩
def R0 : Rows3 := ⟨none, 0, none, 0, none, 0⟩
theorem own_nil5 (w : World) : w.ownsRow 0 5 1 (.slice none 0 0) 0 [] := ⟨rfl, .inl ⟨rfl, rfl⟩⟩
theorem ps_r0 {P : Nat} {r : Rows3} {k : Nat} (h : PS P R0 k) : PS P r k := by
  rcases h with h | h | h | h
  · exact .inl h
  · exact (rb_none h).elim
  · exact (rb_none h).elim
  · exact (rb_none h).elim
theorem seven_frm {w0 w : World} {P : Nat} (h : Frm (fun k => k = P) w0 w) (a b c d e f g : Value) : Frm (fun k => k = P) w0 (((((((w.setCell ⟨P, 0, none⟩ a).setCell ⟨P, 1, none⟩ b).setCell ⟨P, 2, none⟩ c).setCell ⟨P, 3, none⟩ d).setCell ⟨P, 4, none⟩ e).setCell ⟨P, 5, none⟩ f).setCell ⟨P, 6, none⟩ g) :=
  g_frm (g_frm (g_frm (g_frm (g_frm (g_frm (g_frm h a) b) c) d) e) f) g
set_option maxHeartbeats 2000000 in
theorem enter_any (P : Nat) (s : Ps) (r : Rows3) (st : Nat) (w : World) (h : PIn w P s r) : Calls Try.prog 22 #[.pointer (some ⟨P, 0, none⟩), .int .i64 st] w fun e w' => e = .returned (.tuple #[]) ∧ PPost P r (enterM s st) w w' := by
  obtain ⟨⟨n, need, have_, lo, hi, hB, hR⟩, _, _, _, _, _, _⟩ := h
  have HB := hide hB
  have HR := hide hR
  have c0 := hB.cell 0
  have c1 := hB.cell 1
  have c2 := hB.cell 2
  have c3 := hB.cell 3
  have c4 := hB.cell 4
  have c5 := hB.cell 5
  have c6 := hB.cell 6
  have c8 := hB.cell 8
  have fz := fun i => hB.frozen i
  unfold decC at c0 c1 c2 c3 c4 c5 c6 c8
  simp only [List.getElem?_toArray, List.getElem?_cons_succ, List.getElem?_cons_zero] at c0 c1 c2 c3 c4 c5 c6 c8
  clear hB hR
  go_enter Try.func22, Try.ntmps22
  go_wp2
  go_end0
  refine ⟨rfl, R0, ⟨⟨n, need, have_, lo, hi, ?_, HR.out⟩, own_nil5 _, own_nil5 _, own_nil5 _, fun k hk => (rb_none hk).elim, fun k hk => (rb_none hk).elim, fun k hk => (rb_none hk).elim⟩, (seven_frm (g_frm (Frm.refl (fun k => k = P) w) _) _ _ _ _ _ _ _).mono (fun k _ e => .inl e), fun k hk => .inl (ps_r0 hk)⟩
  have hh := (((((((HB.out.set_ 8 (.int .i64 st)).set_ 0 (.int .u8 0)).set_ 1 (.slice none 0 0)).set_ 2 (.slice none 0 0)).set_ 3 (.slice none 0 0)).set_ 4 (.int .u8 0)).set_ 5 (.bool false)).set_ 6 (.bool false)
  simp only [decC, List.setIfInBounds_toArray, List.set_cons_zero, List.set_cons_succ] at hh
  exact hh
set_option maxHeartbeats 2000000 in
theorem spoil_any (P : Nat) (s : Ps) (r : Rows3) (w : World) (h : PIn w P s r) : Calls Try.prog 59 #[.pointer (some ⟨P, 0, none⟩)] w fun e w' => e = .returned (.tuple #[]) ∧ PPost P r (spoilM s) w w' := by
  obtain ⟨⟨n, need, have_, lo, hi, hB, hR⟩, _, _, _, _, _, _⟩ := h
  have HB := hide hB
  have HR := hide hR
  have c0 := hB.cell 0
  have c1 := hB.cell 1
  have c2 := hB.cell 2
  have c3 := hB.cell 3
  have c4 := hB.cell 4
  have c5 := hB.cell 5
  have c6 := hB.cell 6
  have fz := fun i => hB.frozen i
  unfold decC at c0 c1 c2 c3 c4 c5 c6
  simp only [List.getElem?_toArray, List.getElem?_cons_succ, List.getElem?_cons_zero] at c0 c1 c2 c3 c4 c5 c6
  clear hB hR
  go_enter Try.func59, Try.ntmps59
  go_wp2
  go_end0
  refine ⟨rfl, R0, ⟨⟨n, need, have_, lo, hi, ?_, HR.out⟩, own_nil5 _, own_nil5 _, own_nil5 _, fun k hk => (rb_none hk).elim, fun k hk => (rb_none hk).elim, fun k hk => (rb_none hk).elim⟩, (seven_frm (Frm.refl (fun k => k = P) w) _ _ _ _ _ _ _).mono (fun k _ e => .inl e), fun k hk => .inl (ps_r0 hk)⟩
  have hh := ((((((HB.out.set_ 0 (.int .u8 0)).set_ 1 (.slice none 0 0)).set_ 2 (.slice none 0 0)).set_ 3 (.slice none 0 0)).set_ 4 (.int .u8 0)).set_ 5 (.bool true)).set_ 6 (.bool false)
  simp only [decC, List.setIfInBounds_toArray, List.set_cons_zero, List.set_cons_succ] at hh
  exact hh
theorem Try.sl22 : SliceOf Try.prog 22 5 1 1 := SliceOf.mk (z := .int .u8 0) (by kernel_rfl) (by kernel_rfl) (by kernel_rfl) (by omega)
section
variable {w w3 : World} {P : Nat} {s : Ps} {r : Rows3} {A' : Option Addr} {c' : Nat} {c : Int}
theorem app_rb {A : Option Addr} {n cc : Nat} {xs : List Value} {W W3 : World} (app : App W 0 5 1 (.slice A n cc) (.slice A' (n + 1) c') (n + 1) xs W3) {k : Nat} (hk : RB A' k) : RB A k ∨ W.heap.size ≤ k := by
  have h1 := own_rb (n := n + 1) (c := c') hk
  rcases app.at_ with h | ⟨g, h, hg⟩
  · rw [h] at h1
    exact .inl (rb_own h1)
  · rw [h] at h1
    injection h1 with h1
    subst h1
    exact .inr hg
theorem app_inter (h : PIn w P s r) (app : App (w.alloc (.cells #[.int .u8 c] 5)) 0 5 1 (.slice r.A2 s.inter.length r.c2) (.slice A' (s.inter.length + 1) c') (s.inter.length + 1) (s.inter.map b8 ++ #[Value.int .u8 c].toList) w3) :
    PPost P r { s with inter := s.inter ++ [c] } w (w3.setCell ⟨P, 2, none⟩ (.slice A' (s.inter.length + 1) c')) := by
  obtain ⟨n, need, have_, lo, hi, hB, hR⟩ := h.dec
  have hB3 := app.blk (hB.alloc (.cells #[.int .u8 c] 5)) (h.inter.alloc _) (by decide)
  have hlt : ∀ {A : Option Addr} {m cc : Nat} {xs : List Value}, w.ownsRow 0 5 1 (.slice A m cc) m xs → ∀ k, RB A k → k < w.heap.size := fun ho k hk => (ho.lt k (own_rb hk)).2
  have hsz : (w.alloc (.cells #[.int .u8 c] 5)).heap.size = w.heap.size + 1 := World.size_alloc ..
  have fr : Frm (fun k => RB r.A2 k) w w3 := app.frm ((Frm.refl _ w).alloc _) (fun k hk _ => rb_own hk)
  have o1 := own_far (p := ⟨P, 2, none⟩) (own_frm h.head fr (fun k hk e => h.a12 k (rb_own hk) e)) (own_ne (own_frm h.head fr (fun k hk e => h.a12 k (rb_own hk) e)) hB3 (by decide)) (.slice A' (s.inter.length + 1) c')
  have o3 := own_far (p := ⟨P, 2, none⟩) (own_frm h.text fr (fun k hk e => h.a23 k e (rb_own hk))) (own_ne (own_frm h.text fr (fun k hk e => h.a23 k e (rb_own hk))) hB3 (by decide)) (.slice A' (s.inter.length + 1) c')
  have o2 := own_far (p := ⟨P, 2, none⟩) app.own (own_ne app.own hB3 (by decide)) (.slice A' (s.inter.length + 1) c')
  refine ⟨{ r with A2 := A', c2 := c' }, ⟨⟨n, need, have_, lo, hi, ?_, hR⟩, o1, ?_, o3, ?_, h.a13, ?_⟩, ?_, ?_⟩
  · have := hB3.set_ 2 (.slice A' (s.inter.length + 1) c')
    simp only [decC, List.setIfInBounds_toArray, List.set_cons_zero, List.set_cons_succ] at this
    have e : s.inter.length + 1 = (s.inter ++ [c]).length := by simp
    rw [e] at this ⊢
    exact this
  · have e : s.inter.length + 1 = (s.inter ++ [c]).length := by simp
    have e2 : s.inter.map b8 ++ #[Value.int .u8 c].toList = (s.inter ++ [c]).map b8 := by simp [b8]
    rw [e2, e] at o2
    rw [e]
    exact o2
  · intro k h1 h2
    rcases app_rb app h2 with e | e
    · exact h.a12 k h1 e
    · have := hlt h.head k h1; omega
  · intro k h2 h3
    rcases app_rb app h2 with e | e
    · exact h.a23 k e h3
    · have := hlt h.text k h3; omega
  · exact (fr.mono (fun k _ e => .inr (.inr (.inl e)))).setCell (p := ⟨P, 2, none⟩) (fun _ => .inl rfl) _
  · rintro k (e | e | e | e)
    · exact .inl (.inl e)
    · exact .inl (.inr (.inl e))
    · rcases app_rb app e with e | e
      · exact .inl (.inr (.inr (.inl e)))
      · exact .inr (by omega)
    · exact .inl (.inr (.inr (.inr e)))
end
end Go.Proofs.Ythbjjhoajecpcaa
