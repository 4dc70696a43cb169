/-
  A map of entries in memory, and laws of it at the operations: look-up, store, delete, len, range. No condition but bounds.
-/
import Derived.Test.YtndnjdocdfjmcaaPopH
import Derived.Maps.RangeWalk
namespace Go.Proofs.Ytndnjdocdfjmcaa
open Go.RowKit Go.Proofs
open Go.Maps (Keyed)
set_option linter.unusedVariables false
/-- How an entry is written down. -/
def entD (e : Ent) : DataW Unit := .agg [.lit (.string e.text.data.toList), .lit (.int .i64 e.cnt), .lit (.int .i64 e.last)]
theorem data_inj {a b : ByteArray} (h : a.data.toList = b.data.toList) : a = b := by
  cases a; cases b
  simp only [ByteArray.mk.injEq]
  exact Array.toList_inj.1 h
theorem entD_inj {a b : Ent} (h : entD a = entD b) : a = b := by
  obtain ⟨ta, ca, la⟩ := a
  obtain ⟨tb, cb, lb⟩ := b
  unfold entD at h
  simp only [DataW.agg.injEq, List.cons.injEq, DataW.lit.injEq, Lit.string.injEq, Lit.int.injEq, true_and, and_true] at h
  obtain ⟨h1, h2, h3⟩ := h
  rw [data_inj h1, Int.ofNat.inj h2, Int.ofNat.inj h3]
theorem entA_inj {a b : Ent} (h : entA a = entA b) : a = b := by
  obtain ⟨ta, ca, la⟩ := a
  obtain ⟨tb, cb, lb⟩ := b
  unfold entA at h
  simp only [Value.agg.injEq, Array.mk.injEq, List.cons.injEq, Value.string.injEq, Value.int.injEq, true_and, and_true] at h
  obtain ⟨h1, h2, h3⟩ := h
  rw [h1, Int.ofNat.inj h2, Int.ofNat.inj h3]
open Classical in
noncomputable def entR (v : Value) : Option (DataW Unit × List MemPlace) := if h : ∃ e : Ent, v = entA e then some (entD h.choose, []) else none
theorem entR_mk (e : Ent) : entR (entA e) = some (entD e, []) := by
  unfold entR
  have h : ∃ e' : Ent, entA e = entA e' := ⟨e, rfl⟩
  rw [dif_pos h, ← entA_inj h.choose_spec]
theorem entR_inv {v : Value} {y : DataW Unit × List MemPlace} (h : entR v = some y) : ∃ e, v = entA e ∧ y = (entD e, []) := by
  unfold entR at h
  split at h
  · rename_i hx
    injection h with h
    exact ⟨hx.choose, hx.choose_spec, h.symm⟩
  · cases h
def keyL (t : ByteArray) : Lit := .string t.data.toList
theorem keyL_inj {a b : ByteArray} (h : keyL a = keyL b) : a = b := by
  unfold keyL at h
  injection h with h
  exact data_inj h
theorem keyL_same (a b : ByteArray) : (keyL a).sameKey (keyL b) = decide (a = b) := by
  show (a.data.toList == b.data.toList) = _
  by_cases h : a = b
  · subst h; simp
  · have : (a.data.toList == b.data.toList) = false := by rw [beq_eq_false_iff_ne]; exact fun e => h (data_inj e)
    rw [this]; simp [h]
def encE (e : Ent) : Lit × DataW Unit := (keyL e.text, entD e)
/-- What is told of a text. -/
def lk (M : List Ent) (t : ByteArray) : Option Ent := M.find? (fun e => decide (e.text = t))
def delM (M : List Ent) (t : ByteArray) : List Ent := M.filter (fun e => !decide (e.text = t))
def zeroE : Ent := ⟨⟨#[]⟩, 0, 0⟩
/-- Is a map's reading that of the entries? -/
def MapIs (D : DataW Unit) (M : List Ent) : Prop := ∃ L, D = .map L ∧ L.Perm (M.map encE) ∧ M.Pairwise (fun a b => a.text ≠ b.text)
theorem lk_some {M : List Ent} {t : ByteArray} {e : Ent} (h : lk M t = some e) : e ∈ M ∧ e.text = t :=
  ⟨List.mem_of_find?_eq_some h, by have := List.find?_some h; simpa using this⟩
theorem lk_none {M : List Ent} {t : ByteArray} (h : lk M t = none) : ∀ e ∈ M, e.text ≠ t := by
  intro e he
  have := List.find?_eq_none.1 h e he
  simpa using this
theorem text_inj {M : List Ent} (h : M.Pairwise (fun a b => a.text ≠ b.text)) {a b : Ent} (ha : a ∈ M) (hb : b ∈ M) (e : a.text = b.text) : a = b := by
  induction M with
  | nil => cases ha
  | cons x M ih =>
    obtain ⟨h1, h2⟩ := List.pairwise_cons.1 h
    rcases List.mem_cons.1 ha with ea | ha'
    · rcases List.mem_cons.1 hb with eb | hb'
      · rw [ea, eb]
      · subst ea; exact absurd e (h1 b hb')
    · rcases List.mem_cons.1 hb with eb | hb'
      · subst eb; exact absurd e.symm (h1 a ha')
      · exact ih h2 ha' hb'
theorem lk_mem {M : List Ent} (h : M.Pairwise (fun a b => a.text ≠ b.text)) {e : Ent} (he : e ∈ M) : lk M e.text = some e := by
  cases hl : lk M e.text with
  | none => exact absurd rfl (lk_none hl e he)
  | some x =>
    obtain ⟨h1, h2⟩ := lk_some hl
    rw [text_inj h h1 he h2]
theorem MapIs.at_ {D : DataW Unit} {M : List Ent} (h : MapIs D M) (t : ByteArray) (z : DataW Unit) : D.atKey (keyL t) z = match lk M t with | some e => entD e | none => z := by
  obtain ⟨L, rfl, hp, hM⟩ := h
  unfold DataW.atKey
  simp only
  cases hf : L.find? (fun p => p.1.sameKey (keyL t)) with
  | none =>
    have hn := List.find?_eq_none.1 hf
    cases hl : lk M t with
    | none => rfl
    | some e =>
      obtain ⟨h1, h2⟩ := lk_some hl
      have := hn (encE e) (hp.mem_iff.2 (List.mem_map.2 ⟨e, h1, rfl⟩))
      rw [show (encE e).1 = keyL e.text from rfl, keyL_same, h2] at this
      simp at this
  | some p =>
    have h1 := List.mem_of_find?_eq_some hf
    have h2 := List.find?_some hf
    obtain ⟨e, he, rfl⟩ := List.mem_map.1 (hp.mem_iff.1 h1)
    rw [show (encE e).1 = keyL e.text from rfl, keyL_same] at h2
    have h3 : e.text = t := by simpa using h2
    subst h3
    rw [lk_mem hM he]
    rfl
theorem MapIs.has {D : DataW Unit} {M : List Ent} (h : MapIs D M) (t : ByteArray) : Maps.has D (keyL t) = (lk M t).isSome := by
  obtain ⟨L, rfl, hp, hM⟩ := h
  rw [Maps.has_eq]
  cases hl : lk M t with
  | none =>
    rw [Option.isSome_none, List.any_eq_false]
    intro p hpm
    obtain ⟨e, he, rfl⟩ := List.mem_map.1 (hp.mem_iff.1 hpm)
    rw [show (encE e).1 = keyL e.text from rfl, keyL_same]
    simpa using lk_none hl e he
  | some e =>
    obtain ⟨h1, h2⟩ := lk_some hl
    rw [Option.isSome_some, List.any_eq_true]
    exact ⟨encE e, hp.mem_iff.2 (List.mem_map.2 ⟨e, h1, rfl⟩), by rw [show (encE e).1 = keyL e.text from rfl, keyL_same, h2]; simp⟩
theorem MapIs.size {D : DataW Unit} {M : List Ent} (h : MapIs D M) : Maps.size D = M.length := by
  obtain ⟨L, rfl, hp, _⟩ := h
  rw [Maps.size_eq, hp.length_eq, List.length_map]
theorem filter_enc (M : List Ent) (t : ByteArray) : (M.map encE).filter (ChangeMaps.notKey (keyL t)) = (delM M t).map encE := by
  unfold delM
  rw [List.filter_map]
  congr 1
  apply List.filter_congr
  intro e _
  show (!(keyL e.text).sameKey (keyL t)) = _
  rw [keyL_same]
theorem del_pw {M : List Ent} (h : M.Pairwise (fun a b => a.text ≠ b.text)) (t : ByteArray) : (delM M t).Pairwise (fun a b => a.text ≠ b.text) := h.filter _
theorem MapIs.del {D : DataW Unit} {M : List Ent} (h : MapIs D M) (t : ByteArray) : MapIs (D.del (keyL t)) (delM M t) := by
  obtain ⟨L, rfl, hp, hM⟩ := h
  refine ⟨_, DataW.del_eq _ _, ?_, del_pw hM t⟩
  unfold ChangeMaps.delKey
  rw [← filter_enc]
  exact hp.filter _
theorem MapIs.put {D : DataW Unit} {M : List Ent} (h : MapIs D M) (e : Ent) : MapIs (D.put (keyL e.text) (entD e)) (e :: delM M e.text) := by
  obtain ⟨L, rfl, hp, hM⟩ := h
  refine ⟨_, DataW.put_eq _ _ _, ?_, List.pairwise_cons.2 ⟨?_, del_pw hM _⟩⟩
  · unfold ChangeMaps.putKey
    refine (WideShapes.insert_perm _ _).trans ?_
    rw [List.map_cons, ← filter_enc]
    exact (hp.filter _).cons _
  · intro x hx
    have := (List.mem_filter.1 hx).2
    simp at this
    exact fun h => this h.symm
/-- Block b is a map that holds just the entries M. -/
def LedM (w : World) (b : Nat) (M : List Ent) : Prop := ∃ D, w.ownsMap Try.prog 9 entR b M.length D ∧ MapIs D M
theorem owns_tight {P : Program} {k : TypeId} {R : Value → Option (DataW Unit × List MemPlace)} {w : World} {b n : Nat} {D : DataW Unit} (h : w.ownsMap P k R b n D) : w.ownsMap P k R b (Maps.size D) D := by
  obtain ⟨es, clock, hb, F, hs, rfl⟩ := h
  exact ⟨es, clock, hb, F, by simp [Maps.size, length_sorted], rfl⟩
theorem led_of {w : World} {b n : Nat} {D : DataW Unit} {M : List Ent} (h : w.ownsMap Try.prog 9 entR b n D) (hM : MapIs D M) : LedM w b M := ⟨D, by rw [← hM.size]; exact owns_tight h, hM⟩
theorem LedM.same {w w' : World} {b : Nat} {M : List Ent} (h : LedM w b M) (hb : w'.heap[b]? = w.heap[b]?) : LedM w' b M := by
  obtain ⟨D, ⟨es, clock, h1, r⟩, hM⟩ := h
  exact ⟨D, ⟨es, clock, hb.trans h1, r⟩, hM⟩
theorem LedM.lt {w : World} {b : Nat} {M : List Ent} (h : LedM w b M) : b < w.heap.size := by obtain ⟨D, h, _⟩ := h; exact h.lt
theorem LedM.below {w w' : World} {b B : Nat} {M : List Ent} (h : LedM w b M) (hb : Below B w w') (hB : b < B) : LedM w' b M := h.same (hb.block b hB)
theorem LedM.frm {S : Nat → Prop} {w w' : World} {b : Nat} {M : List Ent} (h : LedM w b M) (hf : Frm S w w') (hb : ¬ S b) : LedM w' b M := h.same (hf.block b h.lt hb)
theorem LedM.pw {w : World} {b : Nat} {M : List Ent} (h : LedM w b M) : M.Pairwise (fun a b => a.text ≠ b.text) := by obtain ⟨D, _, _, _, _, h⟩ := h; exact h
theorem str9 : Keyed Try.prog 9 := Maps.string_keyed Try.underlying9
theorem key9 {t : ByteArray} (h : t.size ≤ maxLen) : keyOf Try.prog 9 (.string t) = some (keyL t) := WideMaps.keyOf_string_mk Try.underlying9 h
theorem zero31 (w : World) : (zeroValue 31).run Try.prog w = .ok (entA zeroE) w := by kernel_rfl
theorem led_made (w : World) : LedM (w.alloc (.map #[] 0)) w.heap.size [] := led_of (World.ownsMap_made w Try.prog 9 entR) ⟨[], rfl, .nil, .nil⟩
end Go.Proofs.Ytndnjdocdfjmcaa
