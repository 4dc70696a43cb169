/-
  with, walked, whatever is done; Mend, Close. No condition but bounds.
-/
import Derived.Test.YtoaeadjihpbhgaaMend
namespace Go.Proofs.Ytoaeadjihpbhgaa
open Go.RowKit Go.Proofs
set_option linter.unusedVariables false
/-- Something done to a row of the call's own, in its place. -/
def DonePost (base n c : Nat) (A : Option Addr) (l : List Cell) (w : World) (e : Ending) (w' : World) : Prop :=
  e = .returned (.tuple #[]) ∧ w'.ownsRow base 40 8 (.slice A n c) n (l.flatMap cellE) ∧ Frm (fun k => (Value.slice A n c).ownBlock = some k) w w'
theorem mend_nil (w : World) (c : Nat) : Calls Try.prog 64 #[.slice none 0 c] w fun e w' => e = .returned (.tuple #[]) ∧ w = w' := by
  go_enter Try.func64, Try.ntmps64
  go_wp2
  refine wp_loop_rounds 1 ?_
  rw [rounds_succ]
  go_wp2
  go_end0
  exact ⟨rfl, rfl⟩
theorem mend_own (base n c : Nat) (A : Option Addr) (l : List Cell) (w : World) (h : w.ownsRow base 40 8 (.slice A n c) n (l.flatMap cellE)) (hn : n ≤ 100000) :
    Calls Try.prog 64 #[.slice A n c] w (DonePost base n c A (mendF l) w) := by
  have hl := own_len (E := cellE) (size := 8) (fun _ => rfl) (by omega) h
  rcases own_row h with ⟨rfl, rfl, rfl⟩ | ⟨g, T, rfl, hb, hr, hnc, hs, hm⟩
  · exact (mend_nil w c).mono fun e w' ⟨he, hw⟩ => by subst hw; exact ⟨he, h, Frm.refl _ _⟩
  · refine (mend_row g T l n c w hr hl.symm hn).mono fun e w' ⟨he, hr', hf⟩ => ⟨he, ?_, ?_⟩
    · refine row_own hr' hb (by rw [mendF_len]; exact hl.symm) hnc ?_ hm
      rw [← hs, List.length_append, List.length_append, len_flat (E := cellE) (s := 8) (fun _ => rfl), len_flat (E := cellE) (s := 8) (fun _ => rfl), mendF_len]
    · exact hf.mono (fun i _ e => by rw [show i = g from e]; rfl)
/-- A row handed back. -/
def RetRow (l : List Cell) (n : Nat) (w : World) (e : Ending) (w' : World) : Prop :=
  ∃ A c, e = .returned (.slice A n c) ∧ w'.ownsRow w.heap.size 40 8 (.slice A n c) n (l.flatMap cellE) ∧ n ≤ c ∧ Below w.heap.size w w'
set_option maxHeartbeats 2000000 in
theorem with_any (l : List Cell) (doF : List Cell → List Cell) (n c B : Nat) (A : Option Addr) (KT : FuncId) (caps : Array Value) (w : World) (hl : Rd w B 8 A n (l.flatMap cellE)) (hB : B ≤ w.heap.size) (hn : n ≤ 100000)
    (hcf : ∀ args w, (callFunc KT args).run Try.prog w = .ok (.enter KT args) w)
    (hdo : ∀ (A : Option Addr) (c : Nat) (W : World), Below w.heap.size w W → W.ownsRow w.heap.size 40 8 (.slice A n c) n ((mendF l).flatMap cellE) → Calls Try.prog KT (#[.slice A n c] ++ caps) W (DonePost w.heap.size n c A (doF (mendF l)) W)) :
    Calls Try.prog 44 #[.slice A n c, .func (.func KT) #[] caps] w (RetRow (mendF (doF (mendF l))) n w) := by
  have HR := hide (hl.more hB)
  have HD := hide hdo
  have on := World.ownsRow_nil w w.heap.size 40 8
  have ME := hide (fun (l : List Cell) (A : Option Addr) (c : Nat) (W : World) (h : W.ownsRow w.heap.size 40 8 (.slice A n c) n (l.flatMap cellE)) => mend_own w.heap.size n c A l W h hn)
  have tob := hide (fun (A : Option Addr) (c : Nat) (l : List Cell) (W W' : World) (ho : W.ownsRow w.heap.size 40 8 (.slice A n c) n (l.flatMap cellE)) (hb : Below w.heap.size w W) (hf : Frm (fun k => (Value.slice A n c).ownBlock = some k) W W') => show Below w.heap.size w W' from hb.trans (hf.to_below hb.size (fun i e => (ho.lt i e).1)))
  clear hl hdo hB
  go_enter Try.func44, Try.ntmps44
  go_wp2_with (first
    | (at_builtin; go_must (refine wpList_appends Try.sl26 rfl _ _ rfl w.heap.size (.slice none 0 0) 0 [] _ w.heap.size A n c (l.flatMap cellE) rfl rfl on HR.out (one_cells l) (by simp only [maxLen]; omega) (by omega) (by omega) ?_; intro A1 c1 w1 app; simp only [Nat.zero_add, List.nil_append] at app; have o1 := hide app.own; have b1 := hide (app.below on (Below.refl _ _) (Nat.le_refl _) (Nat.le_refl _)); have M1 := hide (ME.out l A1 c1 w1 o1.out)))
    | (go_at_call 64; (with_reducible refine (M1.out).mono ?_); rintro e w2 ⟨rfl, o2, f2⟩; have b2 := hide (tob.out A1 c1 l w1 w2 o1.out b1.out f2); have D2 := hide (HD.out A1 c1 w2 b2.out o2); have o2 := hide o2; clear f2)
    | ((with_reducible refine (D2.out).mono ?_); rintro e w3 ⟨rfl, o3, f3⟩; have b3 := hide (tob.out A1 c1 _ w2 w3 o2.out b2.out f3); have M3 := hide (ME.out _ A1 c1 w3 o3); have o3 := hide o3; clear f3)
    | (go_at_call 64; (with_reducible refine (M3.out).mono ?_); rintro e w4 ⟨rfl, o4, f4⟩; have b4 := hide (tob.out A1 c1 _ w3 w4 o3.out b3.out f4); have o4 := hide o4; clear f4))
  go_ret
  exact ⟨A1, c1, rfl, o4.out, (own_cap o4.out).1, b4.out⟩
/-- Nothing done. -/
theorem nothing_any (base n c : Nat) (A : Option Addr) (l : List Cell) (w : World) (h : w.ownsRow base 40 8 (.slice A n c) n (l.flatMap cellE)) : Calls Try.prog 45 #[.slice A n c] w (DonePost base n c A l w) := by
  have H := hide h
  clear h
  go_enter Try.func45, Try.ntmps45
  go_wp2
  go_end0
  exact ⟨rfl, H.out, Frm.refl _ _⟩
theorem mend_any (l : List Cell) (n c B : Nat) (A : Option Addr) (w : World) (hl : Rd w B 8 A n (l.flatMap cellE)) (hB : B ≤ w.heap.size) (hn : n ≤ 100000) :
    Calls Try.prog 20 #[.slice A n c] w (RetRow (mendF (mendF l)) n w) := by
  have W1 := hide (with_any l (fun l => l) n c B A 45 #[] w hl hB hn (fun _ _ => rfl) (fun A c W _ h => nothing_any _ n c A _ W h))
  clear hl
  go_enter Try.func20, Try.ntmps20
  go_wp2_with (go_at_call 44; go_must (refine (W1.out).mono ?_; rintro e w1 ⟨A1, c1, rfl, o1, h1, b1⟩))
  go_ret
  exact ⟨A1, c1, rfl, o1, h1, b1⟩
end Go.Proofs.Ytoaeadjihpbhgaa
