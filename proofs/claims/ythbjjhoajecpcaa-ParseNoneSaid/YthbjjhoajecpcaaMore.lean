/-
  More words for memory: what a call leaves of rows, slices that are handed back to be read. No condition.
-/
import Derived.Test.YthbjjhoajecpcaaBase
import Derived.Laws.BytesArg
import Derived.Laws.IdiomStrings
namespace Go.Proofs.Ythbjjhoajecpcaa
open Go.RowKit
theorem below_in {B : Nat} {w w1 w2 : World} (h : Below B w w1) (h2 : Below w1.heap.size w1 w2) (hB : B ≤ w.heap.size) : Below B w w2 := h.trans (h2.mono (Nat.le_trans hB h.size))
theorem own_call {w w' : World} {base s n : Nat} {e : TypeId} {v : Value} {xs : List Value} (h : w.ownsRow base e s v n xs) (hb : Below w.heap.size w w') : w'.ownsRow base e s v n xs :=
  own_frm h (Frm.of_below (S := fun k => w.heap.size ≤ k) hb fun _ _ h => h) fun _ hk hle => own_new h hle hk.symm
theorem own_drewN {w : World} {base s n : Nat} {e : TypeId} {v : Value} {xs : List Value} (h : w.ownsRow base e s v n xs) (q : Nat) : (w.drewN q).ownsRow base e s v n xs := h
theorem rd_call {w w' : World} {s n : Nat} {A : Option Addr} {xs : List Value} (h : Rd w w.heap.size s A n xs) (hb : Below w.heap.size w w') : Rd w' w'.heap.size s A n xs := (h.below hb).more hb.size
/-- A call that hands back a slice of one-celled elements, to be read; below the call's own nothing has turned. -/
def RetRd {α : Type} (f : α → Value) (l : List α) (w : World) (en : Ending) (w' : World) : Prop :=
  ∃ A c, en = .returned (.slice A l.length c) ∧ Rd w' w'.heap.size 1 A l.length (l.map f) ∧ l.length ≤ c ∧ Below w.heap.size w w'
theorem own_cap {w : World} {base s n m c : Nat} {e : TypeId} {A : Option Addr} {xs : List Value} (h : w.ownsRow base e s (.slice A m c) n xs) : m ≤ c ∧ m = n := by
  rcases h.2 with ⟨e, h0⟩ | ⟨g, cap, cur, e, _, _, hc, _⟩
  · injection e with _ e1 e2
    omega
  · injection e with _ e1 e2
    omega
theorem RetSlice.rd {α : Type} {f : α → Value} {l : List α} {e : TypeId} {w w' : World} {en : Ending} (h : RetSlice e 1 (l.map f) w en w') : RetRd f l w en w' := by
  obtain ⟨A, N, c, rfl, hown, hb⟩ := h
  obtain rfl : N = l.length := own_len1 hown
  exact ⟨A, c, rfl, Rd.of_own hown, (own_cap hown).1, hb⟩
/-- A slice of one-celled elements just built. -/
theorem rd_built {α : Type} (f : α → Value) (l : List α) (w : World) (e : TypeId) : Rd (w.alloc (.cells (l.map f).toArray e)) (w.heap.size + 1) 1 (some ⟨w.heap.size, 0, none⟩) l.length (l.map f) := by
  have := rd_news (w := w) (e := e) (cs := (l.map f).toArray) (n := l.length) (s := 1) (by simp)
  simpa using this
/-- In a region that draws its order, behind a call: no draw is outermost. -/
theorem step_append1n {P : Program} {t e : TypeId} {size bytes : Nat} (hS : SliceOf P t e size bytes) {ops : Array Oper} {o : Oper} {a : Act} {K : Act → World → Prop} {Q : Exit → Act → World → Prop} {E : Prop} (hgd : o.guard = none) (s x : Operand)
    (ho : o.op = .call { callee := .builtin .append, args := #[s, x], argTypes := #[t, t] }) (base : Nat) (v : Value) (n : Nat) (xs : List Value) (cs : Array Value) (w : World) (c : Nat) {g : Nat}
    (hs : a.eval s = v) (hx : a.eval x = .slice (some ⟨g, 0, none⟩) 1 c) (hg : g = w.heap.size) (hown : w.ownsRow base e size v n xs) (hcs : cs.size = size) (h1 : ∀ u ∈ cs.toList, u.oneCell' = true)
    (hn : n + 1 ≤ maxLen) (hby : (n + 1) * bytes ≤ 140737488355328) (hbase : base ≤ w.heap.size)
    (h : ∀ A' c' w', App (w.alloc (.cells cs e)) base e size v (.slice A' (n + 1) c') (n + 1) (xs ++ cs.toList) w' → K (a.put o.dst (.slice A' (n + 1) c')) w') :
    if Region.wanted o (yielded ops a.tmps) = true then Oper.wp P o a (w.alloc (.cells cs e)) K Q else E := by
  have hw : Region.wanted o (yielded ops a.tmps) = true := by simp [Region.wanted, hgd]
  rw [if_pos hw]
  exact wp_append1 hS s x ho base v n xs cs w c hs hx hg hown hcs h1 hn hby hbase h
/-- A byte's cell. -/
def b8 (x : Int) : Value := .int .u8 x
/-- A slice of bytes as a string. -/
theorem run_bytes_str {P : Program} {w : World} {B n c : Nat} {A : Option Addr} {l : List Int} (src dst e : TypeId) (hs : P.underlying src = some (.slice e)) (he : P.underlying e = some (.int .u8)) (hd : P.underlying dst = some .string) (h : Rd w B 1 A n (l.map b8)) :
    (convert src dst (.slice A n c)).run P w = .ok (.string (strOfNums l)) w := by
  have hl : l.length = n := h.len1
  rcases Nat.eq_zero_or_pos n with h0 | h0
  · subst h0
    have hl0 : l = [] := List.eq_nil_of_length_eq_zero hl
    subst hl0
    cases A with
    | none => exact run_convert_bytes_nil w src e hs he 0 c dst hd
    | some a => exact run_convert_bytes_back w src dst e a c [] hs he hd (fun j hj => by simp at hj)
  · obtain ⟨b, off, rfl, _, hc⟩ := h.2 h0
    exact run_convert_bytes_arg w src e hs he b off n c l hl (fun i hi => by
      refine hc i _ ?_
      rw [List.getElem?_map, List.getElem?_eq_getElem (by omega)]
      simp [b8, List.getD_eq_getElem?_getD, List.getElem?_eq_getElem (show i < l.length by omega)]) dst hd
end Go.Proofs.Ythbjjhoajecpcaa
