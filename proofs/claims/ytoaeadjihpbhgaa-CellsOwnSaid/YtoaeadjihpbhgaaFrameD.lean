/-
  What a law's slice reads as, element by element with its datum; what the form's own reach and a bulk say of a string inside. No condition.
-/
import Derived.Test.YtoaeadjihpbhgaaFrame
import Derived.SizedLaws
namespace Go.Proofs.Ytoaeadjihpbhgaa
open Go.ChangeShapes Go.WideShapes Go.ChangeAt Go.RowKit Go.Deep
section
variable {H : Type} {enc : TypeId × Value → H} {P : Program} {w : World} {base : Nat} {spare : Nat → Bool} {held : Bool}
/-- A slice that came in, its elements and what they read as told by 'hsh'. -/
theorem open_rd_d {t e : TypeId} {s : Nat} {α : Type} [Inhabited α] (E : α → List Value) (hE : ∀ x, (E x).length = s) (R : DataW H → α → Prop) (ht : P.underlying t = some (.slice e)) (hC : P.cellsOf e = s) (hs : 0 < s)
    (hsh : ∀ n cs x, DataW.trod enc P w base spare held n e cs = some x → ∃ a, cs = E a ∧ R x.1 a)
    {A : Option Addr} {len cap : Nat} {d : DataW H} {p : List MemPlace} (h : DataW.Trod enc P w base spare held t (.slice A len cap) d p) :
    ∃ l : List α, l.length = len ∧ len ≤ cap ∧ cap ≤ maxLen ∧ Rd w w.heap.size s A len (l.flatMap E) ∧ ((d = .nil ∧ l = []) ∨ ∃ elems sp, d = .slice elems sp ∧ ∀ a ∈ l, ∃ x ∈ elems, R x a) := by
  obtain ⟨fuel, hf⟩ := h
  rcases open_slice ht hf with ⟨hcs, hx0⟩ | ⟨a, len', cap', m, n, D, Pl, hcs, _, hl, hm, hmm, hx0, hi⟩
  · simp [Value.cells] at hcs
    obtain ⟨rfl, rfl, rfl⟩ := hcs
    injection hx0 with hd0 _
    exact ⟨[], rfl, Nat.le_refl _, by simp [maxLen], Rd.nil, .inl ⟨hd0, rfl⟩⟩
  · simp [Value.cells] at hcs
    obtain ⟨rfl, rfl, rfl⟩ := hcs
    rw [hC] at hi
    have hmle : len ≤ m := by rw [hmm]; split <;> omega
    obtain ⟨F, hF⟩ := choose_lt (α := α) (p := fun i x => R (D i) x ∧ ∀ j u, (E x)[j]? = some u → w.cell? (a.add (i * s + j)) = some u) (n := len) (fun i hil => by
      obtain ⟨cs', hc, ht'⟩ := hi i (by omega)
      obtain ⟨x, rfl, hQ⟩ := hsh n _ _ ht'
      obtain ⟨_, _, hat⟩ := World.cells?_some hc
      refine ⟨x, hQ, fun j u hu => ?_⟩
      have hj : j < s := by
        have := (List.getElem?_eq_some_iff.1 hu).1
        rwa [hE] at this
      have := hat j hj
      rw [hu] at this
      rw [← Go.Deep.add_add]
      exact this)
    refine ⟨(List.range len).map F, by simp, hl, hm, ⟨by rw [len_flat hE]; simp, fun hn => ?_⟩, ?_⟩
    · have h0 : 0 < (E (F 0)).length := by rw [hE]; exact hs
      have hc0 := (hF 0 hn).2 0 _ (List.getElem?_eq_getElem h0)
      rw [Nat.zero_mul, Nat.add_zero] at hc0
      have e0 : a.add 0 = a := by simp [Addr.add]
      rw [e0] at hc0
      have hspot := World.cell?_spot hc0
      have hlt := World.block_lt_of_cell? w _ hc0
      obtain ⟨b, off, spot⟩ := a
      simp only at hspot hlt
      subst hspot
      refine ⟨b, off, rfl, hlt, fun j u hu => ?_⟩
      have hjl : j < len * s := by
        have := (List.getElem?_eq_some_iff.1 hu).1
        rw [len_flat hE, List.length_map, List.length_range] at this
        exact this
      have hk : j / s < len := Nat.div_lt_of_lt_mul (by rwa [Nat.mul_comm])
      have hjd : j / s * s + j % s = j := by rw [Nat.mul_comm]; exact Nat.div_add_mod j s
      have hfa := flat_at hE ((List.range len).map F) (j / s) (F (j / s)) (j % s) (by rw [List.getElem?_map, List.getElem?_range hk]; rfl) (Nat.mod_lt _ hs)
      rw [hjd, hu] at hfa
      have := (hF (j / s) hk).2 (j % s) u hfa.symm
      rw [hjd] at this
      have e1 : (⟨b, off, none⟩ : Addr).add j = ⟨b, off + j, none⟩ := by unfold Addr.add; split <;> simp_all
      rwa [e1] at this
    · injection hx0 with hd0 _
      refine .inr ⟨_, _, hd0, fun x hx => ?_⟩
      obtain ⟨i, hi', rfl⟩ := List.mem_map.1 hx
      exact ⟨D i, List.mem_map.2 ⟨i, hi', rfl⟩, (hF i (List.mem_range.1 hi')).1⟩

theorem weights_all_mem {e : TypeId} {n : Nat} : ∀ {elems : List (DataW H)} {x : DataW H}, x ∈ elems → n ∈ x.weights P e → n ∈ DataW.weightsAll P e elems
  | y :: r, x, h, hn => by
    unfold DataW.weightsAll
    rcases List.mem_cons.1 h with rfl | h
    · exact List.mem_append.2 (.inl hn)
    · exact List.mem_append.2 (.inr (weights_all_mem h hn))
/-- A string inside an element of a slice among the arguments is within the form's reach. -/
theorem sized_inner {ts : List TypeId} {ds : List (DataW H)} (h : (DataW.weightsEach P ts ds).all (· ≤ reachBytes) = true) {j : Nat} {t e : TypeId} {elems sp : List (DataW H)} (ht : ts[j]? = some t) (hd : ds[j]? = some (.slice elems sp)) (hu : P.underlying t = some (.slice e))
    {x : DataW H} (hx : x ∈ elems) {ps : List (DataW H)} (hp : x = .agg ps) {fs : Array Field} (he : P.underlying e = some (.struct fs)) {i : Nat} {f : TypeId} (hf : (fs.toList.map (·.type))[i]? = some f) {bytes : List UInt8} (hb : ps[i]? = some (.lit (.string bytes))) :
    bytes.length ≤ reachBytes := by
  subst hp
  have h1 : bytes.length ∈ (DataW.agg ps).weights P e := by
    simp only [DataW.weights, he]
    exact DataW.weights_mem_each hf hb _ (by simp [DataW.weights])
  have h2 : bytes.length ∈ (DataW.slice elems sp).weights P t := by
    simp only [DataW.weights, hu]
    exact List.mem_cons.2 (.inr (List.mem_append.2 (.inl (weights_all_mem hx h1))))
  have := List.all_eq_true.1 h _ (DataW.weights_mem_each ht hd _ h2)
  simpa using this
end
end Go.Proofs.Ytoaeadjihpbhgaa
