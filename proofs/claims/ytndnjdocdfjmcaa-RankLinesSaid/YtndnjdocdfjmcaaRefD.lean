/-
  The document's ledger in memory; its Drop, walked. No condition but bounds.
-/
import Derived.Test.YtndnjdocdfjmcaaTops
namespace Go.Proofs.Ytndnjdocdfjmcaa
open Go.RowKit Go.Proofs
set_option linter.unusedVariables false
theorem Try.sl50 : SliceOf Try.prog 50 55 3 32 := SliceOf.mk (z := .agg #[.string ⟨#[]⟩, .int .i64 0, .int .i64 0]) (by kernel_rfl) (by kernel_rfl) (by kernel_rfl) (by omega)
/-- The document's ledger. -/
def RefL (w : World) (Y base most uses : Nat) (L : List Ent) : Prop :=
  ∃ A n c, Blk w Y 53 #[.int .i64 most, .int .i64 uses, .slice A n c] ∧ w.ownsRow base 55 3 (.slice A n c) n (L.flatMap entE)
theorem RefL.call {w w' : World} {Y base most uses : Nat} {L : List Ent} (h : RefL w Y base most uses L) (hb : Below w.heap.size w w') : RefL w' Y base most uses L := by
  obtain ⟨A, n, c, h1, h2⟩ := h
  exact ⟨A, n, c, h1.below hb h1.lt, own_call h2 hb⟩
theorem RefL.lt {w : World} {Y base most uses : Nat} {L : List Ent} (h : RefL w Y base most uses L) : Y < w.heap.size := by
  obtain ⟨A, n, c, h1, h2⟩ := h
  exact h1.lt
theorem RefL.frm {S : Nat → Prop} {w w' : World} {Y base most uses : Nat} {L : List Ent} (h : RefL w Y base most uses L) (hf : Frm S w w') (h1 : ¬ S Y) (h2 : ∀ k, base ≤ k → k < w.heap.size → ¬ S k) : RefL w' Y base most uses L := by
  obtain ⟨A, n, c, h3, h4⟩ := h
  exact ⟨A, n, c, h3.frm hf h1, own_frm h4 hf (fun k hk => h2 k (h4.lt k hk).1 (h4.lt k hk).2)⟩
theorem ent_at {w : World} {B n : Nat} {A : Option Addr} {l : List Ent} (h : Rd w B 3 A n (l.flatMap entE)) {k : Nat} (hk : k < n) :
    ∃ b off x, A = some ⟨b, off, none⟩ ∧ b < B ∧ l[k]? = some x ∧ w.cell? ⟨b, off + k * 3, none⟩ = some (.string x.text) ∧ w.cell? ⟨b, off + k * 3 + 1, none⟩ = some (.int .i64 x.cnt) ∧ w.cell? ⟨b, off + k * 3 + 2, none⟩ = some (.int .i64 x.last) := by
  obtain ⟨b, off, x, e, hb, hx, hc⟩ := h.row entE_len (by omega) hk
  exact ⟨b, off, x, e, hb, hx, hc 0 _ rfl, hc 1 _ rfl, hc 2 _ rfl⟩
theorem delM_snoc {L : List Ent} {t : ByteArray} {i : Nat} {x : Ent} (h : L[i]? = some x) : delM (L.take (i + 1)) t = delM (L.take i) t ++ (if x.text = t then [] else [x]) := by
  rw [take_snoc h]
  unfold delM
  rw [List.filter_append]
  congr 1
  by_cases hx : x.text = t
  · rw [if_pos hx, List.filter_cons_of_neg (by simpa using hx)]; rfl
  · rw [if_neg hx, List.filter_cons_of_pos (by simpa using hx)]; rfl
set_option maxRecDepth 100000 in
set_option maxHeartbeats 4000000 in
theorem drop_ref {Y base most uses : Nat} {L : List Ent} (w : World) (t : ByteArray) (h : RefL w Y base most uses L) (hb : base ≤ w.heap.size) (hl : L.length ≤ 10000) :
    Calls Try.prog 21 #[.pointer (some ⟨Y, 0, none⟩), .string t] w fun e w' => (∃ b : Bool, e = .returned (.bool b)) ∧ RefL w' Y base most uses (delM L t) ∧ Frm (fun k => k = Y) w w' := by
  obtain ⟨A, n, c, h1, h2⟩ := h
  have hln := own_len entE_len (by omega) h2
  have H1 := hide h1
  have H2 := hide h2
  have HL := hide hln
  have hn : n ≤ 10000 := by omega
  clear h1 h2 hln hl
  go_enter Try.func21, Try.ntmps21
  go_wp2_with fail
  go_loopg [5, 6] n (fun g s5 s6 wr => ∃ (i k : Nat) (A2 : Option Addr) (c2 : Nat), i + g = n ∧ s6 = .int .i64 i ∧ s5 = .slice A2 k c2 ∧ k ≤ i ∧ Hid (wr.ownsRow w.heap.size 55 3 (.slice A2 k c2) k ((delM (L.take i) t).flatMap entE)) ∧ Hid (Below w.heap.size w wr))
  case atStart => exact ⟨0, 0, none, 0, by omega, rfl, rfl, Nat.le_refl _, ⟨rfl, .inl ⟨rfl, rfl⟩⟩, Below.refl _ _⟩
  case round =>
    obtain ⟨i, k, A2, c2, hig, rfl, rfl, hk, HO, HB⟩ := hrel
    have x2 := (H1.out.below HB.out H1.out.lt).cell 2
    have fz := fun j => (H1.out.below HB.out H1.out.lt).frozen j
    simp at x2
    by_cases hlt : i < n
    · obtain ⟨b, off, x, rfl, hbB, hx, q0, q1, q2⟩ := ent_at (Rd.of_own (own_call H2.out HB.out)) hlt
      have HD := delM_snoc (t := t) hx
      have hzr := HB.out.size
      clear hx
      by_cases hxt : x.text = t
      · have st := str_eq hxt
        rw [if_pos hxt, List.append_nil] at HD
        have HD := hide HD
        clear hxt
        go_wp2_with fail
        go_roundg (n - (i + 1))
        case measure => omega
        case rel => exact ⟨i + 1, k, A2, c2, by omega, by go_num, rfl, by omega, by rw [HD.out]; exact HO.out, HB.out⟩
      · have st := str_ne hxt
        rw [if_neg hxt] at HD
        have HD := hide HD
        clear hxt
        go_wp2_with (at_builtin; go_must (refine wpList_append1 Try.sl50 rfl _ _ rfl w.heap.size (.slice A2 k c2) k _ #[.string x.text, .int .i64 x.cnt, .int .i64 x.last] wr 1 rfl rfl rfl HO.out rfl (three_cell rfl rfl rfl) (by simp only [maxLen]; omega) (by omega) hzr ?_; intro A3 c3 w3 app; have O3 := hide (own_snocE x app.own rfl); have B3 := hide (app.below (HO.out.alloc _) (HB.out.alloc hzr _) (Nat.le_refl _) (by simp; omega)); clear app))
        go_roundg (n - (i + 1))
        case measure => omega
        case rel => exact ⟨i + 1, k + 1, A3, c3, by omega, by go_num, rfl, by omega, by rw [HD.out]; exact O3.out, B3.out⟩
    · obtain rfl : i = n := by omega
      have F1 := hide (show Frm (fun k => k = Y) w (wr.setCell ⟨Y, 2, none⟩ (.slice A2 k c2)) from Frm.setCell (S := fun k => k = Y) (call_frm HB.out) (p := ⟨Y, 2, none⟩) (fun _ => rfl) _)
      have X1 := hide (show Blk (wr.setCell ⟨Y, 2, none⟩ (.slice A2 k c2)) Y 53 #[.int .i64 most, .int .i64 uses, .slice A2 k c2] from (H1.out.below HB.out H1.out.lt).set_ 2 _)
      have O1 := hide (own_far (p := ⟨Y, 2, none⟩) HO.out (own_ne HO.out (H1.out.below HB.out H1.out.lt) (by decide)) (.slice A2 k c2))
      have HT := hide (show L.take i = L from List.take_of_length_le (by rw [HL.out]; exact Nat.le_refl _))
      go_wp2_with fail
      go_ret
      refine ⟨⟨_, rfl⟩, ⟨A2, k, c2, X1.out, ?_⟩, F1.out⟩
      have := O1.out
      rw [HT.out] at this
      exact own_mono this hb
end Go.Proofs.Ytndnjdocdfjmcaa
