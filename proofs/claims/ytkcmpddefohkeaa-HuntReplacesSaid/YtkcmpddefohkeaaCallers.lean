/-
  The exported functions of find, walked. No condition but the strings' lengths.
-/
import Derived.Test.YtkcmpddefohkeaaClos
namespace Go.Proofs.Ytkcmpddefohkeaa
open Go.RowKit Go.Proofs
set_option linter.unusedVariables false
theorem firsts_true (l : List Nat) : firsts (fun _ => true) l = l := firsts_all fun _ _ => rfl
theorem hmf (fn : Fn) (first cap : Array Value) (w : World) : (Instr.makeFunc fn first cap).run Try.prog w = .ok (.func fn first cap) w := rfl
theorem PInv.start (w w1 : World) (hb : Below (w.heap.size + 1) (w.alloc (.cells #[.slice none 0 0] 39)) w1) : PInv w w.heap.size (w.heap.size + 1) [] w1 :=
  ⟨none, 0, (Blk.new w 39 _).below hb (by omega), World.ownsRow_nil _ _ _ _, ((Below.refl _ _).alloc (Nat.le_refl _) _).trans (hb.mono (by omega)), by simp [Value.ownBlock]⟩
theorem PInv.ret {w w1 : World} {g G : Nat} {l : List Nat} (h : PInv w g G l w1) : ∃ v, w1.cell? ⟨g, 0, none⟩ = some v ∧ RetSlice 3 1 (l.map nI) w (.returned v) w1 := by
  obtain ⟨A, c, hB, hown, hb, _⟩ := h
  exact ⟨_, by rw [hB.cell]; rfl, RetSlice.of hown hb⟩

theorem places20 (t s : ByteArray) (w : World) (h1 : t.size ≤ 400) (h2 : s.size ≤ 400) :
    Calls Try.prog 27 #[.string t, .string s, .func (.func 28) #[] #[]] w (RetSlice 3 1 ((placesF (bytesOf plainF t) (bytesOf plainF s)).map nI) w) := by
  have mf := hmf
  have E := each20 t s t.size s.size 35 #[.pointer (some ⟨w.heap.size, 0, none⟩)] (fun _ => true) (PInv w w.heap.size (w.heap.size + 1)) (w.alloc (.cells #[.slice none 0 0] 39)) rfl rfl h1 h2 (fun _ _ => rfl)
    (fun w1 hb => PInv.start w w1 (by simpa using hb)) (fun l w1 q h => h.drewN q)
    (fun bs l p w1 _ hI hT hl hp => by
      have e : (w.alloc (.cells #[.slice none 0 0] 39)).heap.size = w.heap.size + 1 := by simp
      rw [e] at hT ⊢
      exact places1 w w.heap.size (w.heap.size + 1) p l bs w1 (Nat.le_refl _) (by omega) hI hT hl hp)
  rw [firsts_true] at E
  have HE := hide E
  clear E
  go_enter Try.func27, Try.ntmps27
  go_wp2_with (go_at_call 34; go_must (refine HE.out.mono ?_; rintro e w1 ⟨rfl, hI⟩; obtain ⟨v, c1, hR⟩ := hI.ret; have hR := hide hR))
  go_ret
  exact hR.out
theorem call12 (t s : ByteArray) (w : World) (h1 : t.size ≤ 400) (h2 : s.size ≤ 400) :
    Calls Try.prog 21 #[.string t, .string s] w (RetSlice 3 1 ((placesF (bytesOf plainF t) (bytesOf plainF s)).map nI) w) := by
  have HE := hide (places20 t s w h1 h2)
  go_enter Try.func21, Try.ntmps21
  go_wp2_with (go_at_call 27; go_must (refine HE.out.mono ?_; rintro e w1 hR; obtain ⟨A, N, c, rfl, hR1⟩ := hR; have hR1 := hide hR1))
  go_ret
  exact ⟨A, N, c, rfl, hR1.out⟩

end Go.Proofs.Ytkcmpddefohkeaa
