/-
  What a law's arguments read as: plain numbers, slices, aggregates; and that they read so behind the call. Words for the rows' steps. No condition.
-/
import Derived.Test.YthbjjhoajecpcaaBase
import Derived.Test.YthbjjhoajecpcaaChecked
import Derived.ProofKit
import Derived.OpenShut
import Derived.ShutString
import Derived.ChangeOld
import Derived.Deep.Slices
namespace Go.Proofs.Ythbjjhoajecpcaa
open Go.ChangeShapes Go.WideShapes Go.ChangeAt Go.RowKit Go.Deep

theorem ownKnobT : ownKnob Try.prog.godebug = none := by kernel_rfl
theorem laidOutT : laidOutB Try.prog = true := by kernel_rfl

section
variable {H : Type} {enc : TypeId × Value → H} {P : Program} {w : World} {base : Nat} {spare : Nat → Bool} {held : Bool}
theorem drop_split (cs : List Value) (a b : Nat) : cs.drop a = (cs.drop a).take b ++ cs.drop (a + b) := by
  rw [← List.drop_drop, List.take_append_drop]
/-- The cells of a struct's field. -/
theorem field_read {fs : Array Field} {cs : List Value} {xs : List (DataW H × List MemPlace)} {n : Nat} (hx : xs.length = fs.size)
    (hf : ∀ (i : Nat) (f : Field), fs[i]? = some f → DataW.trod enc P w base spare held n f.type ((cs.drop f.offset).take (P.cellsOf f.type)) = xs[i]?)
    (i : Nat) (f : Field) (h : fs[i]? = some f) {o s : Nat} {t : TypeId} (ho : f.offset = o) (ht : f.type = t) (hs : P.cellsOf t = s) : ∃ y, DataW.trod enc P w base spare held n t ((cs.drop o).take s) = some y := by
  subst ho ht hs
  have hi : i < xs.length := by rw [hx]; exact (Array.getElem?_eq_some_iff.1 h).1
  exact ⟨xs[i], by rw [hf i f h, List.getElem?_eq_getElem hi]⟩
theorem elem_read {cs : List Value} {xs : List (DataW H × List MemPlace)} {n m : Nat} {e : TypeId} (hx : xs.length = m)
    (hf : ∀ (i : Nat), i < m → DataW.trod enc P w base spare held n e ((cs.drop (i * P.cellsOf e)).take (P.cellsOf e)) = xs[i]?)
    (i : Nat) (h : i < m) {o s : Nat} (hs : P.cellsOf e = s) (ho : i * s = o) : ∃ y, DataW.trod enc P w base spare held n e ((cs.drop o).take s) = some y := by
  subst hs ho
  exact ⟨xs[i]'(by omega), by rw [hf i h, List.getElem?_eq_getElem (by omega)]⟩

/-- A slice that came in, its elements told by 'hsh'. -/
theorem open_rd {t e : TypeId} {s : Nat} {α : Type} [Inhabited α] (E : α → List Value) (hE : ∀ x, (E x).length = s) (Q : α → Prop) (ht : P.underlying t = some (.slice e)) (hC : P.cellsOf e = s) (hs : 0 < s)
    (hsh : ∀ n cs x, DataW.trod enc P w base spare held n e cs = some x → ∃ a, cs = E a ∧ Q a)
    {A : Option Addr} {len cap : Nat} {d : DataW H} {p : List MemPlace} (h : DataW.Trod enc P w base spare held t (.slice A len cap) d p) :
    ∃ l : List α, l.length = len ∧ len ≤ cap ∧ cap ≤ maxLen ∧ Rd w w.heap.size s A len (l.flatMap E) ∧ ∀ a ∈ l, Q a := by
  obtain ⟨fuel, hf⟩ := h
  rcases open_slice ht hf with ⟨hcs, _⟩ | ⟨a, len', cap', m, n, D, Pl, hcs, _, hl, hm, hmm, _, hi⟩
  · simp [Value.cells] at hcs
    obtain ⟨rfl, rfl, rfl⟩ := hcs
    exact ⟨[], rfl, Nat.le_refl _, by simp [maxLen], Rd.nil, by simp⟩
  · simp [Value.cells] at hcs
    obtain ⟨rfl, rfl, rfl⟩ := hcs
    rw [hC] at hi
    have hmle : len ≤ m := by rw [hmm]; split <;> omega
    obtain ⟨F, hF⟩ := choose_lt (α := α) (p := fun i x => Q x ∧ ∀ j u, (E x)[j]? = some u → w.cell? (a.add (i * s + j)) = some u) (n := len) (fun i hil => by
      obtain ⟨cs', hc, ht'⟩ := hi i (by omega)
      obtain ⟨x, rfl, hQ⟩ := hsh n _ _ ht'
      obtain ⟨_, _, hat⟩ := World.cells?_some hc
      refine ⟨x, hQ, fun j u hu => ?_⟩
      have hj : j < s := by
        have := (List.getElem?_eq_some_iff.1 hu).1
        rwa [hE] at this
      have := hat j hj
      rw [hu] at this
      rw [← Go.Deep.add_add]
      exact this)
    refine ⟨(List.range len).map F, by simp, hl, hm, ⟨by rw [len_flat hE]; simp, fun hn => ?_⟩, ?_⟩
    · have h0 : 0 < (E (F 0)).length := by rw [hE]; exact hs
      have hc0 := (hF 0 hn).2 0 _ (List.getElem?_eq_getElem h0)
      rw [Nat.zero_mul, Nat.add_zero] at hc0
      have e0 : a.add 0 = a := by simp [Addr.add]
      rw [e0] at hc0
      have hspot := World.cell?_spot hc0
      have hlt := World.block_lt_of_cell? w _ hc0
      obtain ⟨b, off, spot⟩ := a
      simp only at hspot hlt
      subst hspot
      refine ⟨b, off, rfl, hlt, fun j u hu => ?_⟩
      have hjl : j < len * s := by
        have := (List.getElem?_eq_some_iff.1 hu).1
        rw [len_flat hE, List.length_map, List.length_range] at this
        exact this
      have hk : j / s < len := Nat.div_lt_of_lt_mul (by rwa [Nat.mul_comm])
      have hjd : j / s * s + j % s = j := by rw [Nat.mul_comm]; exact Nat.div_add_mod j s
      have hfa := flat_at hE ((List.range len).map F) (j / s) (F (j / s)) (j % s) (by rw [List.getElem?_map, List.getElem?_range hk]; rfl) (Nat.mod_lt _ hs)
      rw [hjd, hu] at hfa
      have := (hF (j / s) hk).2 (j % s) u hfa.symm
      rw [hjd] at this
      have e1 : (⟨b, off, none⟩ : Addr).add j = ⟨b, off + j, none⟩ := by unfold Addr.add; split <;> simp_all
      rwa [e1] at this
    · intro x hx
      obtain ⟨i, hi', rfl⟩ := List.mem_map.1 hx
      exact (hF i (List.mem_range.1 hi')).1
theorem flat_one {α β : Type} (f : α → β) : ∀ l : List α, l.flatMap (fun a => [f a]) = l.map f
  | [] => rfl
  | x :: l => by rw [List.flatMap_cons, List.map_cons, flat_one f l]; rfl
/-- Elements of one cell. -/
theorem open_rd1 {t e : TypeId} {α : Type} [Inhabited α] (f : α → Value) (Q : α → Prop) (ht : P.underlying t = some (.slice e)) (hC : P.cellsOf e = 1)
    (hsh : ∀ n cs x, DataW.trod enc P w base spare held n e cs = some x → ∃ a, cs = [f a] ∧ Q a)
    {A : Option Addr} {len cap : Nat} {d : DataW H} {p : List MemPlace} (h : DataW.Trod enc P w base spare held t (.slice A len cap) d p) :
    ∃ l : List α, l.length = len ∧ len ≤ cap ∧ cap ≤ maxLen ∧ Rd w w.heap.size 1 A len (l.map f) ∧ ∀ a ∈ l, Q a := by
  obtain ⟨l, h1, h2, h3, h4, h5⟩ := open_rd (fun a => [f a]) (s := 1) (fun _ => rfl) Q ht hC (by omega) hsh h
  exact ⟨l, h1, h2, h3, by rw [flat_one] at h4; exact h4, h5⟩
/-- An aggregate by value. -/
theorem open_agg {t : TypeId} {fs : Array Field} {r : Reach} {b0 : Nat} {v : Value} {α : Type} (E : α → List Value) (Q : α → Prop) (ht : P.underlying t = some (.struct fs)) (hv : Value.okWide P w r b0 t v)
    (hsh : ∀ n cs x, DataW.trod enc P w base spare held n t cs = some x → ∃ a, cs = E a ∧ Q a) {d : DataW H} {p : List MemPlace} (h : DataW.Trod enc P w base spare held t v d p) : ∃ a, v = .agg (E a).toArray ∧ Q a := by
  obtain ⟨cs, rfl, _⟩ := okWide_struct ht hv
  obtain ⟨fuel, hf⟩ := h
  obtain ⟨a, he, hq⟩ := hsh fuel _ _ hf
  refine ⟨a, ?_, hq⟩
  congr 1
  simp [Value.cells] at he
  rw [← he]
theorem read_int {k : IntKind} {t : TypeId} (ht : P.underlying t = some (.int k)) {n : Nat} {cs : List Value} {x : DataW H × List MemPlace} (h : DataW.trod enc P w base spare held n t cs = some x) : ∃ a : Int, cs = [.int k a] ∧ (Lit.int k a).wf = true := by
  obtain ⟨a, h1, _, h2⟩ := DataW.trod_int ht h
  exact ⟨a, h1, h2⟩
theorem read_bool {t : TypeId} (ht : P.underlying t = some .bool) {n : Nat} {cs : List Value} {x : DataW H × List MemPlace} (h : DataW.trod enc P w base spare held n t cs = some x) : ∃ a : Bool, cs = [.bool a] ∧ True := by
  obtain ⟨a, h1, _⟩ := DataW.trod_bool ht h
  exact ⟨a, h1, trivial⟩
theorem read_string {t : TypeId} (ht : P.underlying t = some .string) {n : Nat} {cs : List Value} {x : DataW H × List MemPlace} (h : DataW.trod enc P w base spare held n t cs = some x) : ∃ a : ByteArray, cs = [.string a] ∧ a.size ≤ maxLen := by
  obtain ⟨a, h1, _, h2⟩ := DataW.trod_string ht h
  exact ⟨a, h1, h2⟩
end
end Go.Proofs.Ythbjjhoajecpcaa
