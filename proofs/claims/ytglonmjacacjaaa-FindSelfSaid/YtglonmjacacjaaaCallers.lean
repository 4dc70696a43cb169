/-
  The exported functions of find, walked. No condition but the strings' lengths.
-/
import Derived.Test.YtglonmjacacjaaaApart
namespace Go.Proofs.Ytglonmjacacjaaa
open Go.RowKit Go.Proofs
set_option linter.unusedVariables false
theorem firsts_true (l : List Nat) : firsts (fun _ => true) l = l := firsts_all fun _ _ => rfl
theorem hmf (fn : Fn) (first cap : Array Value) (w : World) : (Instr.makeFunc fn first cap).run Try.prog w = .ok (.func fn first cap) w := rfl
theorem PInv.start (w w1 : World) (hb : Below (w.heap.size + 1) (w.alloc (.cells #[.slice none 0 0] 23)) w1) : PInv w w.heap.size (w.heap.size + 1) [] w1 :=
  ⟨none, 0, (Blk.new w 23 _).below hb (by omega), World.ownsRow_nil _ _ _ _, ((Below.refl _ _).alloc (Nat.le_refl _) _).trans (hb.mono (by omega)), by simp [Value.ownBlock]⟩
theorem PInv.ret {w w1 : World} {g G : Nat} {l : List Nat} (h : PInv w g G l w1) : ∃ v, w1.cell? ⟨g, 0, none⟩ = some v ∧ RetSlice 3 1 (l.map nI) w (.returned v) w1 := by
  obtain ⟨A, c, hB, hown, hb, _⟩ := h
  exact ⟨_, by rw [hB.cell]; rfl, RetSlice.of hown hb⟩

theorem places20 (t s : ByteArray) (w : World) (h1 : t.size ≤ 400) (h2 : s.size ≤ 400) :
    Calls Try.prog 22 #[.string t, .string s, .func (.func 20) #[] #[]] w (RetSlice 3 1 ((placesF (bytesOf plainF t) (bytesOf plainF s)).map nI) w) := by
  have mf := hmf
  have E := each20 t s t.size s.size 28 #[.pointer (some ⟨w.heap.size, 0, none⟩)] (fun _ => true) (PInv w w.heap.size (w.heap.size + 1)) (w.alloc (.cells #[.slice none 0 0] 23)) rfl rfl h1 h2 (fun _ _ => rfl)
    (fun w1 hb => PInv.start w w1 (by simpa using hb)) (fun l w1 q h => h.drewN q)
    (fun bs l p w1 _ hI hT hl hp => by
      have e : (w.alloc (.cells #[.slice none 0 0] 23)).heap.size = w.heap.size + 1 := by simp
      rw [e] at hT ⊢
      exact places1 w w.heap.size (w.heap.size + 1) p l bs w1 (Nat.le_refl _) (by omega) hI hT hl hp)
  rw [firsts_true] at E
  have HE := hide E
  clear E
  go_enter Try.func22, Try.ntmps22
  go_wp2_with (go_at_call 19; go_must (refine HE.out.mono ?_; rintro e w1 ⟨rfl, hI⟩; obtain ⟨v, c1, hR⟩ := hI.ret; have hR := hide hR))
  go_ret
  exact hR.out
theorem call12 (t s : ByteArray) (w : World) (h1 : t.size ≤ 400) (h2 : s.size ≤ 400) :
    Calls Try.prog 12 #[.string t, .string s] w (RetSlice 3 1 ((placesF (bytesOf plainF t) (bytesOf plainF s)).map nI) w) := by
  have HE := hide (places20 t s w h1 h2)
  go_enter Try.func12, Try.ntmps12
  go_wp2_with (go_at_call 22; go_must (refine HE.out.mono ?_; rintro e w1 hR; obtain ⟨A, N, c, rfl, hR1⟩ := hR; have hR1 := hide hR1))
  go_ret
  exact ⟨A, N, c, rfl, hR1.out⟩

theorem places23 (t s : ByteArray) (w : World) (h1 : t.size ≤ 400) (h2 : s.size ≤ 400) :
    Calls Try.prog 22 #[.string t, .string s, .func (.func 23) #[] #[]] w (RetSlice 3 1 ((placesF (bytesOf smallF t) (bytesOf smallF s)).map nI) w) := by
  have mf := hmf
  have E := each23 t s t.size s.size 28 #[.pointer (some ⟨w.heap.size, 0, none⟩)] (fun _ => true) (PInv w w.heap.size (w.heap.size + 1)) (w.alloc (.cells #[.slice none 0 0] 23)) rfl rfl h1 h2 (fun _ _ => rfl)
    (fun w1 hb => PInv.start w w1 (by simpa using hb)) (fun l w1 q h => h.drewN q)
    (fun bs l p w1 _ hI hT hl hp => by
      have e : (w.alloc (.cells #[.slice none 0 0] 23)).heap.size = w.heap.size + 1 := by simp
      rw [e] at hT ⊢
      exact places1 w w.heap.size (w.heap.size + 1) p l bs w1 (Nat.le_refl _) (by omega) hI hT hl hp)
  rw [firsts_true] at E
  have HE := hide E
  clear E
  go_enter Try.func22, Try.ntmps22
  go_wp2_with (go_at_call 19; go_must (refine HE.out.mono ?_; rintro e w1 ⟨rfl, hI⟩; obtain ⟨v, c1, hR⟩ := hI.ret; have hR := hide hR))
  go_ret
  exact hR.out
theorem call14 (t s : ByteArray) (w : World) (h1 : t.size ≤ 400) (h2 : s.size ≤ 400) :
    Calls Try.prog 14 #[.string t, .string s] w (RetSlice 3 1 ((placesF (bytesOf smallF t) (bytesOf smallF s)).map nI) w) := by
  have HE := hide (places23 t s w h1 h2)
  go_enter Try.func14, Try.ntmps14
  go_wp2_with (go_at_call 22; go_must (refine HE.out.mono ?_; rintro e w1 hR; obtain ⟨A, N, c, rfl, hR1⟩ := hR; have hR1 := hide hR1))
  go_ret
  exact ⟨A, N, c, rfl, hR1.out⟩

theorem count_any (t s : ByteArray) (w : World) (h1 : t.size ≤ 400) (h2 : s.size ≤ 400) :
    Calls Try.prog 15 #[.string t, .string s] w fun e w' => e = .returned (.int .i64 (placesF (bytesOf plainF t) (bytesOf plainF s)).length) ∧ Below w.heap.size w w' := by
  have mf := hmf
  have E := each20 t s t.size s.size 24 #[.pointer (some ⟨w.heap.size, 0, none⟩)] (fun _ => true) (CInv w w.heap.size) (w.alloc (.cells #[.int .i64 0] 3)) rfl rfl h1 h2 (fun _ _ => rfl)
    (fun w1 hb => by
      have hb : Below (w.heap.size + 1) (w.alloc (.cells #[.int .i64 0] 3)) w1 := by simpa using hb
      exact ⟨(Blk.new w 3 _).below hb (by omega), ((Below.refl _ _).alloc (Nat.le_refl _) _).trans (hb.mono (by omega))⟩) (fun l w1 q h => ⟨h.1.drewN q, below_drewN' h.2 q⟩)
    (fun bs l p w1 _ hI hT hl hp => by
      have e : (w.alloc (.cells #[.int .i64 0] 3)).heap.size = w.heap.size + 1 := by simp
      rw [e] at hT ⊢
      exact count1 w w.heap.size (w.heap.size + 1) p l bs w1 (Nat.le_refl _) (by omega) hI hT hl)
  rw [firsts_true] at E
  have HE := hide E
  clear E
  go_enter Try.func15, Try.ntmps15
  go_wp2_with (go_at_call 19; go_must (refine HE.out.mono ?_; rintro e w1 ⟨rfl, hI⟩; have c1 := hI.1.cell 0; simp only [List.getElem?_toArray, List.getElem?_cons_zero] at c1; have hI := hide hI))
  go_ret
  exact ⟨rfl, hI.out.2⟩
theorem apart_any (t s : ByteArray) (w : World) (h1 : t.size ≤ 400) (h2 : s.size ≤ 400) :
    Calls Try.prog 11 #[.string t, .string s] w (RetSlice 3 1 ((apF s.size (placesF (bytesOf plainF t) (bytesOf plainF s))).map nI) w) := by
  have mf := hmf
  have e2 : ((w.alloc (.cells #[.string s] 9)).alloc (.cells #[.slice none 0 0] 23)).heap.size = w.heap.size + 2 := by simp
  have E := each20 t s t.size s.size 21 #[.pointer (some ⟨w.heap.size + 1, 0, none⟩), .pointer (some ⟨w.heap.size, 0, none⟩)] (fun _ => true) (AInv w (w.heap.size + 1) w.heap.size (w.heap.size + 2) s s.size) ((w.alloc (.cells #[.string s] 9)).alloc (.cells #[.slice none 0 0] 23)) rfl rfl h1 h2 (fun _ _ => rfl)
    (fun w1 hb => by
      rw [e2] at hb
      have hb0 : Below w.heap.size w w1 := (((Below.refl _ _).alloc (Nat.le_refl _) _).alloc (by simp) _).trans (hb.mono (by omega))
      exact ⟨⟨none, 0, (Blk.new' (by simp) 23 _).below hb (by omega), World.ownsRow_nil _ _ _ _, hb0, by simp [Value.ownBlock]⟩, ((Blk.new w 9 _).alloc _).below hb (by omega), by simp [apF]⟩) (fun l w1 q h => h.drewN q)
    (fun bs l p w1 _ hI hT hl hp => by
      rw [e2] at hT ⊢
      exact apart1 w (w.heap.size + 1) w.heap.size (w.heap.size + 2) p s.size s l bs w1 (by omega) (by omega) (by omega) rfl h2 hI hT hl hp)
  rw [firsts_true] at E
  have HE := hide E
  clear E e2
  go_enter Try.func11, Try.ntmps11
  go_wp2_with (go_at_call 19; go_must (refine HE.out.mono ?_; rintro e w1 ⟨rfl, hI⟩; obtain ⟨v, c1, hR⟩ := hI.1.ret; have hR := hide hR))
  go_ret
  exact hR.out
theorem NInv.start {F : List Nat → Option Nat} (hF : F [] = none) (f : Int) (w w1 : World) (hb : Below (w.heap.size + 3) (((w.alloc (.cells #[.int .i64 f] 3)).alloc (.cells #[.int .i64 0] 3)).alloc (.cells #[.bool false] 4)) w1) : NInv w w.heap.size f F [] w1 := by
  refine ⟨(((Blk.new w 3 _).alloc _).alloc _).below hb (by omega), ?_, ?_, ((((Below.refl _ _).alloc (Nat.le_refl _) _).alloc (by simp) _).alloc (by simp; omega) _).trans (hb.mono (by omega))⟩
  · rw [hF]; exact ((Blk.new' (by simp) 3 _).alloc _).below hb (by omega)
  · rw [hF]; exact (Blk.new' (by simp) 4 _).below hb (by omega)
/-- A place, or none. -/
def FoundPost (o : Option Nat) (w : World) (e : Ending) (w' : World) : Prop := e = .returned (.tuple #[.int .i64 (o.getD 0), .bool o.isSome]) ∧ Below w.heap.size w w'
theorem NInv.of_eq {w0 w : World} {g : Nat} {f : Int} {F : List Nat → Option Nat} {l l' : List Nat} (hF : F l' = F l) : NInv w0 g f F l' w ↔ NInv w0 g f F l w := ⟨fun h => h.same hF.symm, fun h => h.same hF⟩

set_option maxHeartbeats 1000000 in
theorem next_any (t s : ByteArray) (f : Int) (w : World) (h1 : t.size ≤ 400) (h2 : s.size ≤ 400) :
    Calls Try.prog 16 #[.string t, .string s, .int .i64 f] w (FoundPost (nextF f (placesF (bytesOf plainF t) (bytesOf plainF s))) w) := by
  have mf := hmf
  have e2 : (((w.alloc (.cells #[.int .i64 f] 3)).alloc (.cells #[.int .i64 0] 3)).alloc (.cells #[.bool false] 4)).heap.size = w.heap.size + 3 := by simp
  have E := each20 t s t.size s.size 25 #[.pointer (some ⟨w.heap.size, 0, none⟩), .pointer (some ⟨w.heap.size + 1, 0, none⟩), .pointer (some ⟨w.heap.size + 2, 0, none⟩)] (below_ f) (NInv w w.heap.size f (nextF f)) (((w.alloc (.cells #[.int .i64 f] 3)).alloc (.cells #[.int .i64 0] 3)).alloc (.cells #[.bool false] 4)) rfl rfl h1 h2 (fun _ _ => rfl)
    (fun w1 hb => by
      rw [e2] at hb
      exact NInv.start rfl f w w1 hb) (fun l w1 q h => h.drewN q)
    (fun bs l p w1 hall hI hT hl hp => by
      rw [e2] at hT ⊢
      exact next1 w w.heap.size (w.heap.size + 3) p f l bs w1 (Nat.le_refl _) (by omega) hall hI hT)
  have HE := hide (E.mono fun e w1 h => And.intro h.1 ((NInv.of_eq (nextF_firsts f _)).1 h.2))
  clear E e2
  go_enter Try.func16, Try.ntmps16
  go_wp2_with (go_at_call 19; go_must (refine HE.out.mono ?_; rintro e w1 ⟨rfl, hI⟩; have c1 := hI.2.1.cell 0; have c2 := hI.2.2.1.cell 0; simp only [List.getElem?_toArray, List.getElem?_cons_zero] at c1 c2; have hI := hide hI))
  go_quiet (fail)
  go_wp2_with fail
  go_ret2
  exact ⟨rfl, below_drewN' hI.out.2.2.2 nq⟩

set_option maxHeartbeats 1000000 in
theorem ahead_any (t s : ByteArray) (f : Int) (w : World) (h1 : t.size ≤ 400) (h2 : s.size ≤ 400) :
    Calls Try.prog 17 #[.string t, .string s, .int .i64 f] w (FoundPost (aheadF f (placesF (bytesOf plainF t) (bytesOf plainF s))) w) := by
  have mf := hmf
  have e2 : (((w.alloc (.cells #[.int .i64 f] 3)).alloc (.cells #[.int .i64 0] 3)).alloc (.cells #[.bool false] 4)).heap.size = w.heap.size + 3 := by simp
  have E := each20 t s t.size s.size 26 #[.pointer (some ⟨w.heap.size, 0, none⟩), .pointer (some ⟨w.heap.size + 1, 0, none⟩), .pointer (some ⟨w.heap.size + 2, 0, none⟩)] (below_ f) (NInv w w.heap.size f (aheadF f)) (((w.alloc (.cells #[.int .i64 f] 3)).alloc (.cells #[.int .i64 0] 3)).alloc (.cells #[.bool false] 4)) rfl rfl h1 h2 (fun _ _ => rfl)
    (fun w1 hb => by
      rw [e2] at hb
      exact NInv.start rfl f w w1 hb) (fun l w1 q h => h.drewN q)
    (fun bs l p w1 hall hI hT hl hp => by
      rw [e2] at hT ⊢
      exact ahead1 w w.heap.size (w.heap.size + 3) p f l bs w1 (Nat.le_refl _) (by omega) hI hT)
  have HE := hide (E.mono fun e w1 h => And.intro h.1 ((NInv.of_eq (aheadF_firsts f _ (places_sorted _ _))).1 h.2))
  clear E e2
  go_enter Try.func17, Try.ntmps17
  go_wp2_with (go_at_call 19; go_must (refine HE.out.mono ?_; rintro e w1 ⟨rfl, hI⟩; have c1 := hI.2.1.cell 0; have c2 := hI.2.2.1.cell 0; simp only [List.getElem?_toArray, List.getElem?_cons_zero] at c1 c2; have hI := hide hI))
  go_quiet (fail)
  go_wp2_with fail
  go_ret2
  exact ⟨rfl, below_drewN' hI.out.2.2.2 nq⟩
end Go.Proofs.Ytglonmjacacjaaa
