/-
  Swap, walked; a heap in memory. No condition but bounds.
-/
import Derived.Test.YtndnjdocdfjmcaaPile
namespace Go.Proofs.Ytndnjdocdfjmcaa
open Go.RowKit Go.Proofs
set_option linter.unusedVariables false
/-- A row of entries in its place, changed. -/
def RowPost (base n c : Nat) (A : Option Addr) (l : List Ent) (w : World) (e : Ending) (w' : World) : Prop :=
  e = .returned (.tuple #[]) ∧ w'.ownsRow base 31 3 (.slice A n c) n (l.flatMap entE) ∧ Frm (fun k => (Value.slice A n c).ownBlock = some k) w w'
theorem RowE.set3 {w : World} {g k o : Nat} {l : List Ent} {T : List Value} (h : RowE 31 entE w g l T) {a : Ent} (hk : l[k]? = some a) (d : Ent) (ho : o = k * 3) :
    RowE 31 entE (((w.setCell ⟨g, o, none⟩ (.string d.text)).setCell ⟨g, o + 1, none⟩ (.int .i64 d.cnt)).setCell ⟨g, o + 2, none⟩ (.int .i64 d.last)) g (l.set k d) T := by
  subst ho
  have hlt := (List.getElem?_eq_some_iff.1 hk).1
  have s0 := h.set1 entE_len (i := 0) (d := ⟨d.text, a.cnt, a.last⟩) hk (by omega) (u := .string d.text) rfl
  have s1 := s0.set1 entE_len (k := k) (i := 1) (c := ⟨d.text, a.cnt, a.last⟩) (d := ⟨d.text, d.cnt, a.last⟩) (by rw [List.getElem?_set_self hlt]) (by omega) (u := .int .i64 d.cnt) rfl
  rw [List.set_set] at s1
  have s2 := s1.set1 entE_len (k := k) (i := 2) (c := ⟨d.text, d.cnt, a.last⟩) (d := d) (by rw [List.getElem?_set_self hlt]) (by omega) (u := .int .i64 d.last) rfl
  rw [List.set_set] at s2
  exact s2
theorem three_frm {w0 w : World} {g o : Nat} (h : Frm (fun k => k = g) w0 w) (a b c : Value) : Frm (fun k => k = g) w0 (((w.setCell ⟨g, o, none⟩ a).setCell ⟨g, o + 1, none⟩ b).setCell ⟨g, o + 2, none⟩ c) :=
  ((h.setCell (p := ⟨g, o, none⟩) (fun _ => rfl) a).setCell (p := ⟨g, o + 1, none⟩) (fun _ => rfl) b).setCell (p := ⟨g, o + 2, none⟩) (fun _ => rfl) c
set_option maxRecDepth 100000 in
set_option maxHeartbeats 4000000 in
theorem swap_any (base : Nat) (A : Option Addr) (n c : Nat) (l : List Ent) (i j : Nat) (w : World) (ho : w.ownsRow base 31 3 (.slice A n c) n (l.flatMap entE)) (hn : n ≤ 100000) (hi : i < n) (hj : j < n) :
    Calls Try.prog 54 #[.slice A n c, .int .i64 i, .int .i64 j] w (RowPost base n c A (sw l i j) w) := by
  rcases own_rowE entE_len (by omega) ho with ⟨_, h0, _⟩ | ⟨g, T, rfl, hbg, hr, hnc, hs, hm, hln⟩
  · omega
  · obtain ⟨a, ha⟩ : ∃ a, l[i]? = some a := ⟨_, List.getElem?_eq_getElem (by omega)⟩
    obtain ⟨b, hb⟩ : ∃ b, l[j]? = some b := ⟨_, List.getElem?_eq_getElem (by omega)⟩
    have a0 : w.cell? ⟨g, i * 3 + 0, none⟩ = some (.string a.text) := hr.at_ entE_len ha (i := 0) rfl
    have a1 : w.cell? ⟨g, i * 3 + 1, none⟩ = some (.int .i64 a.cnt) := hr.at_ entE_len ha (i := 1) rfl
    have a2 : w.cell? ⟨g, i * 3 + 2, none⟩ = some (.int .i64 a.last) := hr.at_ entE_len ha (i := 2) rfl
    have b0 : w.cell? ⟨g, j * 3 + 0, none⟩ = some (.string b.text) := hr.at_ entE_len hb (i := 0) rfl
    have b1 : w.cell? ⟨g, j * 3 + 1, none⟩ = some (.int .i64 b.cnt) := hr.at_ entE_len hb (i := 1) rfl
    have b2 : w.cell? ⟨g, j * 3 + 2, none⟩ = some (.int .i64 b.last) := hr.at_ entE_len hb (i := 2) rfl
    simp only [Nat.add_zero] at a0 b0
    have f0 := fun i => hr.frozen i
    have i1 : (0 : Int) ≤ i := by omega
    have i2 : (i : Int) ≤ n := by omega
    have i3 : (0 : Int) ≤ j := by omega
    have i4 : (j : Int) ≤ n := by omega
    have HR := hide hr
    have HS := hide (And.intro hbg (And.intro hnc (And.intro hs (And.intro hm hln))))
    have HA := hide ha
    have HB := hide hb
    have HW := hide (sw_eq ha hb)
    have hgl := hr.blk.lt
    clear hr hs hm hln ha hb ho
    by_cases hij : i = j
    · subst hij
      have hab : b = a := by have := HA.out; rw [HB.out] at this; injection this
      subst hab
      go_enter Try.func54, Try.ntmps54
      go_wp2_with fail
      go_region
      have r1 := HR.out.set3 HB.out b rfl
      have r2 := r1.set3 (a := b) (k := i) (by rw [List.getElem?_set_self (by have := HS.out.2.2.2.2; omega)]) b rfl
      have F := three_frm (three_frm (Frm.refl (fun k => k = g) w) (o := i * 3) (.string b.text) (.int .i64 b.cnt) (.int .i64 b.last)) (o := i * 3) (.string b.text) (.int .i64 b.cnt) (.int .i64 b.last)
      have R2 := hide r2.drew
      have FF := hide F.drew
      clear r1 r2 F
      go_end0
      obtain ⟨hbg, hnc, hs, hm, hln⟩ := HS.out
      rw [HW.out]
      exact ⟨rfl, own_of_rowE entE_len hbg hnc hs hm hln (by simp; exact hln) R2.out, FF.out.mono (fun (k : Nat) _ (e : k = g) => by rw [e]; rfl)⟩
    · have nn : ∀ (x y : Nat), x < 3 → y < 3 → (¬ i * 3 + x = j * 3 + y) ∧ ¬ j * 3 + x = i * 3 + y := fun x y hx hy => by omega
      have n00 := (nn 0 0 (by omega) (by omega)).1
      have n01 := (nn 0 1 (by omega) (by omega)).1
      have n02 := (nn 0 2 (by omega) (by omega)).1
      have n10 := (nn 1 0 (by omega) (by omega)).1
      have n12 := (nn 1 2 (by omega) (by omega)).1
      have n20 := (nn 2 0 (by omega) (by omega)).1
      have n21 := (nn 2 1 (by omega) (by omega)).1
      have m00 := (nn 0 0 (by omega) (by omega)).2
      have m01 := (nn 0 1 (by omega) (by omega)).2
      have m02 := (nn 0 2 (by omega) (by omega)).2
      have m10 := (nn 1 0 (by omega) (by omega)).2
      have m12 := (nn 1 2 (by omega) (by omega)).2
      have m20 := (nn 2 0 (by omega) (by omega)).2
      have m21 := (nn 2 1 (by omega) (by omega)).2
      simp only [Nat.add_zero] at n00 n01 n02 n10 n20 m00 m01 m02 m10 m20
      have n7 : ¬ i = j := hij
      have n8 : ¬ j = i := fun e => hij e.symm
      clear nn
      go_enter Try.func54, Try.ntmps54
      go_wp2_with fail
      go_region
      have r1 := HR.out.set3 HA.out b rfl
      have r2 := r1.set3 (a := b) (k := j) (by rw [List.getElem?_set_ne hij]; exact HB.out) a rfl
      have F := three_frm (three_frm (Frm.refl (fun k => k = g) w) (o := i * 3) (.string b.text) (.int .i64 b.cnt) (.int .i64 b.last)) (o := j * 3) (.string a.text) (.int .i64 a.cnt) (.int .i64 a.last)
      have R2 := hide r2.drew
      have FF := hide F.drew
      clear r1 r2 F
      go_end0
      obtain ⟨hbg, hnc, hs, hm, hln⟩ := HS.out
      rw [HW.out]
      exact ⟨rfl, own_of_rowE entE_len hbg hnc hs hm hln (by simp; exact hln) R2.out, FF.out.mono (fun (k : Nat) _ (e : k = g) => by rw [e]; rfl)⟩
end Go.Proofs.Ytndnjdocdfjmcaa
