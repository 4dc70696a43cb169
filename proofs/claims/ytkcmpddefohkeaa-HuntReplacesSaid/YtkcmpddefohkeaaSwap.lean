/-
  Swap, walked. No condition but bounds.
-/
import Derived.Test.YtkcmpddefohkeaaStrm
namespace Go.Proofs.Ytkcmpddefohkeaa
open Go.RowKit Go.Proofs
set_option linter.unusedVariables false
/-- A row of streams in its place, changed. -/
def RowPost (base n c : Nat) (A : Option Addr) (l : List Strm) (w : World) (e : Ending) (w' : World) : Prop :=
  e = .returned (.tuple #[]) ∧ w'.ownsRow base 53 2 (.slice A n c) n (l.flatMap stE) ∧ KeepT w w' ∧ Frm (fun k => (Value.slice A n c).ownBlock = some k) w w'
theorem RowE.set2 {w : World} {g k o : Nat} {l : List Strm} {T : List Value} (h : RowE 53 stE w g l T) {a : Strm} (hk : l[k]? = some a) (d : Strm) (ho : o = k * 2) :
    RowE 53 stE ((w.setCell ⟨g, o, none⟩ (.slice d.A d.n d.c)).setCell ⟨g, o + 1, none⟩ (.int .i64 d.which)) g (l.set k d) T := by
  subst ho
  have hlt := (List.getElem?_eq_some_iff.1 hk).1
  have s0 := h.set1 stE_len (i := 0) (d := { a with A := d.A, n := d.n, c := d.c, ps := d.ps }) hk (by omega) (u := .slice d.A d.n d.c) rfl
  have s1 := s0.set1 stE_len (k := k) (i := 1) (c := { a with A := d.A, n := d.n, c := d.c, ps := d.ps }) (d := d) (by rw [List.getElem?_set_self hlt]) (by omega) (u := .int .i64 d.which) rfl
  rw [List.set_set] at s1
  exact s1
theorem two_frm {w0 w : World} {g o : Nat} (h : Frm (fun k => k = g) w0 w) (a b : Value) : Frm (fun k => k = g) w0 ((w.setCell ⟨g, o, none⟩ a).setCell ⟨g, o + 1, none⟩ b) :=
  (h.setCell (p := ⟨g, o, none⟩) (fun _ => rfl) a).setCell (p := ⟨g, o + 1, none⟩) (fun _ => rfl) b
theorem frm_keepT {w w' : World} {g : Nat} {cs : Array Value} (h : Frm (fun k => k = g) w w') (hb : Blk w g 53 cs) : KeepT w w' :=
  fun i t cs' h1 h2 hi => hi.frm h (hi.ne_ hb h2)
set_option maxRecDepth 100000 in
set_option maxHeartbeats 4000000 in
theorem swap_any (base : Nat) (A : Option Addr) (n c : Nat) (l : List Strm) (i j : Nat) (w : World) (ho : w.ownsRow base 53 2 (.slice A n c) n (l.flatMap stE)) (hn : n ≤ 100000) (hi : i < n) (hj : j < n) :
    Calls Try.prog 57 #[.slice A n c, .int .i64 i, .int .i64 j] w (RowPost base n c A (sw l i j) w) := by
  rcases own_rowE stE_len (by omega) ho with ⟨_, h0, _⟩ | ⟨g, T, rfl, hbg, hr, hnc, hs, hm, hln⟩
  · omega
  · obtain ⟨a, ha⟩ : ∃ a, l[i]? = some a := ⟨_, List.getElem?_eq_getElem (by omega)⟩
    obtain ⟨b, hb⟩ : ∃ b, l[j]? = some b := ⟨_, List.getElem?_eq_getElem (by omega)⟩
    have a0 : w.cell? ⟨g, i * 2 + 0, none⟩ = some (.slice a.A a.n a.c) := hr.at_ stE_len ha (i := 0) rfl
    have a1 : w.cell? ⟨g, i * 2 + 1, none⟩ = some (.int .i64 a.which) := hr.at_ stE_len ha (i := 1) rfl
    have b0 : w.cell? ⟨g, j * 2 + 0, none⟩ = some (.slice b.A b.n b.c) := hr.at_ stE_len hb (i := 0) rfl
    have b1 : w.cell? ⟨g, j * 2 + 1, none⟩ = some (.int .i64 b.which) := hr.at_ stE_len hb (i := 1) rfl
    simp only [Nat.add_zero] at a0 b0
    have f0 := fun i => hr.frozen i
    have i1 : (0 : Int) ≤ i := by omega
    have i2 : (i : Int) ≤ n := by omega
    have i3 : (0 : Int) ≤ j := by omega
    have i4 : (j : Int) ≤ n := by omega
    have HR := hide hr
    have HS := hide (And.intro hbg (And.intro hnc (And.intro hs (And.intro hm hln))))
    have HA := hide ha
    have HB := hide hb
    have HW := hide (sw_eq ha hb)
    have hgl := hr.blk.lt
    clear hr hs hm hln ha hb ho
    by_cases hij : i = j
    · subst hij
      go_enter Try.func57, Try.ntmps57
      have hab : b = a := by have := HA.out; rw [HB.out] at this; injection this
      subst hab
      go_region
      have r1 := HR.out.set2 HB.out b rfl
      have r2 := r1.set2 (a := b) (k := i) (by rw [List.getElem?_set_self (by have := HS.out.2.2.2.2; omega)]) b rfl
      have F := two_frm (two_frm (Frm.refl (fun k => k = g) w) (o := i * 2) (.slice b.A b.n b.c) (.int .i64 b.which)) (o := i * 2) (.slice b.A b.n b.c) (.int .i64 b.which)
      have R2 := hide r2.drew
      have FF := hide F.drew
      clear r1 r2 F
      go_end0
      obtain ⟨hbg, hnc, hs, hm, hln⟩ := HS.out
      rw [HW.out]
      refine ⟨rfl, own_of_rowE stE_len hbg hnc hs hm hln (by simp; exact hln) R2.out, fun x t cs h1 h2 hx => ?_, ?_⟩
      · exact frm_keepT FF.out HR.out.blk x t cs h1 h2 hx
      · exact FF.out.mono (fun (k : Nat) _ (e : k = g) => by rw [e]; rfl)
    · have n1 : ¬ j * 2 = i * 2 := by omega
      have n2 : ¬ j * 2 + 1 = i * 2 := by omega
      have n3 : ¬ j * 2 = i * 2 + 1 := by omega
      have n4 : ¬ i * 2 = j * 2 := by omega
      have n5 : ¬ i * 2 + 1 = j * 2 := by omega
      have n6 : ¬ i * 2 = j * 2 + 1 := by omega
      have n7 : ¬ i = j := hij
      have n8 : ¬ j = i := fun e => hij e.symm
      go_enter Try.func57, Try.ntmps57
      go_region
      have r1 := HR.out.set2 HA.out b rfl
      have r2 := r1.set2 (a := b) (k := j) (by rw [List.getElem?_set_ne hij]; exact HB.out) a rfl
      have F := two_frm (two_frm (Frm.refl (fun k => k = g) w) (o := i * 2) (.slice b.A b.n b.c) (.int .i64 b.which)) (o := j * 2) (.slice a.A a.n a.c) (.int .i64 a.which)
      have R2 := hide r2.drew
      have FF := hide F.drew
      clear r1 r2 F
      go_end0
      obtain ⟨hbg, hnc, hs, hm, hln⟩ := HS.out
      rw [HW.out]
      refine ⟨rfl, own_of_rowE stE_len hbg hnc hs hm hln (by simp; exact hln) R2.out, fun x t cs h1 h2 hx => ?_, ?_⟩
      · exact frm_keepT FF.out HR.out.blk x t cs h1 h2 hx
      · exact FF.out.mono (fun (k : Nat) _ (e : k = g) => by rw [e]; rfl)
end Go.Proofs.Ytkcmpddefohkeaa
