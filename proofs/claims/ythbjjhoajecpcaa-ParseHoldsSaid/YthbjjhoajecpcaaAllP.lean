/-
  The parser's All, New, Copy walked. No condition but bounds.
-/
import Derived.Test.YthbjjhoajecpcaaStepQ
namespace Go.Proofs.Ythbjjhoajecpcaa
open Go.RowKit Go.Proofs
set_option linter.unusedVariables false
def allM (s : Ps) : List Int → List Ev × Ps
  | [] => ([], s)
  | c :: l => ((stepM s c).1 ++ (allM (stepM s c).2 l).1, (allM (stepM s c).2 l).2)
theorem all_app : ∀ (l m : List Int) (s : Ps), allM s (l ++ m) = ((allM s l).1 ++ (allM (allM s l).2 m).1, (allM (allM s l).2 m).2)
  | [], m, s => by simp [allM]
  | c :: l, m, s => by simp [allM, all_app l]
theorem all_snoc (l : List Int) (s : Ps) (c : Int) : allM s (l ++ [c]) = ((allM s l).1 ++ (stepM (allM s l).2 c).1, (stepM (allM s l).2 c).2) := by rw [all_app]; simp [allM]
theorem all_ok : ∀ (l : List Int) {s : Ps}, POk s → (∀ x ∈ l, 0 ≤ x ∧ x ≤ 255) → POk (allM s l).2
  | [], s, h, _ => h
  | c :: l, s, h, hb => by
    have := hb c (by simp)
    exact all_ok l (h.step c this.1 this.2) (fun x hx => hb x (List.mem_cons_of_mem _ hx))
theorem all_len : ∀ (l : List Int) {s : Ps}, POk s → (∀ x ∈ l, 0 ≤ x ∧ x ≤ 255) → (allM s l).1.length ≤ 2 * l.length
  | [], s, h, _ => by simp [allM]
  | c :: l, s, h, hb => by
    have hc := hb c (by simp)
    have h1 := step_len h c hc.1 hc.2
    have h2 := all_len l (h.step c hc.1 hc.2) (fun x hx => hb x (List.mem_cons_of_mem _ hx))
    simp [allM]; omega
/-- Bytes outside of some blocks. -/
def RdN (w : World) (S : Nat → Prop) (A : Option Addr) (n : Nat) (l : List Int) : Prop :=
  l.length = n ∧ (0 < n → ∃ b off, A = some ⟨b, off, none⟩ ∧ b < w.heap.size ∧ ¬ S b ∧ ∀ (j : Nat) (x : Int), l[j]? = some x → w.cell? ⟨b, off + j, none⟩ = some (.int .u8 x))
theorem RdN.frm {w w' : World} {S S' : Nat → Prop} {A : Option Addr} {n : Nat} {l : List Int} (h : RdN w S A n l) (hf : Frm S w w') (hS : ∀ k, k < w.heap.size → S' k → S k) : RdN w' S' A n l :=
  ⟨h.1, fun hn => by
    obtain ⟨b, off, e, hb, hs, hc⟩ := h.2 hn
    refine ⟨b, off, e, Nat.lt_of_lt_of_le hb hf.size, fun k => hs (hS b hb k), fun j x hx => ?_⟩
    rw [World.cell?_of_block (hf.block b hb hs)]
    exact hc j x hx⟩
theorem RdN.of_rd {w : World} {S : Nat → Prop} {A : Option Addr} {n B : Nat} {l : List Int} (h : Rd w B 1 A n (l.map b8)) (hB : B ≤ w.heap.size) (hS : ∀ k, S k → B ≤ k) : RdN w S A n l :=
  ⟨h.len1, fun hn => by
    obtain ⟨b, off, e, hb, hc⟩ := h.2 hn
    exact ⟨b, off, e, by omega, fun k => by have := hS b k; omega, fun j x hx => hc j _ (by rw [List.getElem?_map, hx]; rfl)⟩⟩
/-- The loop's turn. -/
theorem each_turn {w w1 w3 : World} {P k m c2 c3 : Nat} {r r2 : Rows3} {s2 : Ps} {A2 A3 : Option Addr} {evs evs2 : List Ev} {xs ys : List (Ev × Value)} (h2 : Frm (PS P r) w w1) (h1 : PIn w1 P s2 r2) (h3 : ∀ k, PS P r2 k → PS P r k ∨ w.heap.size ≤ k)
    (x1 : xs.map Prod.fst = evs) (x2 : w1.ownsRow w.heap.size 41 8 (.slice A2 k c2) k (xs.flatMap evC)) (x3 : ∀ x ∈ xs, NumsAt w1 x.2 x.1.nums) (y1 : ys.map Prod.fst = evs2) (y3 : ∀ x ∈ ys, NumsAt w1 x.2 x.1.nums)
    (app : App w1 w.heap.size 41 8 (.slice A2 k c2) (.slice A3 (k + m) c3) (k + m) (xs.flatMap evC ++ ys.flatMap evC) w3) :
    PPost P r s2 w w3 ∧ EvRow w3 w.heap.size (.slice A3 (k + m) c3) (k + m) (evs ++ evs2) :=
  ⟨PPost.grown ⟨r2, h1, h2, h3⟩ x2 app, EvRow.app x1 x2 x3 y1 y3 app⟩
set_option maxRecDepth 100000 in
set_option maxHeartbeats 4000000 in
theorem each_any (P : Nat) (s : Ps) (r : Rows3) (n c : Nat) (A : Option Addr) (l : List Int) (w : World) (h : PIn w P s r) (ho : POk s) (hr : RdN w (PS P r) A n l) (hn : n ≤ 1000) (hb : ∀ x ∈ l, 0 ≤ x ∧ x ≤ 255) :
    Calls Try.prog 31 #[.slice A n c, .func (.func 12) #[.pointer (some ⟨P, 0, none⟩)] #[]] w (EvPost P r (allM s l).2 (allM s l).1 w) := by
  have HL := hide hr.1
  have HB := hide hb
  have HO := hide ho
  have HR := hide hr
  go_enter Try.func31, Try.ntmps31
  go_wp2
  go_loopg [5, 10] n (fun g s5 s10 wr => ∃ (k : Nat), k + g = n ∧ s10 = .int .i64 k ∧ Hid (PPost P r (allM s (l.take k)).2 w wr) ∧ Hid (EvRow wr w.heap.size s5 (allM s (l.take k)).1.length (allM s (l.take k)).1))
  case atStart => exact ⟨0, by omega, rfl, PPost.refl h, EvRow.nil _ _ 0⟩
  case round =>
    clear h ho hr hb
    obtain ⟨k, hk, rfl, HP, HE⟩ := hrel
    have hbt : ∀ x ∈ l.take k, 0 ≤ x ∧ x ≤ 255 := fun x hx => HB.out x (List.mem_of_mem_take hx)
    have hls := all_len (l.take k) HO.out hbt
    have hok := all_ok (l.take k) HO.out hbt
    have hPlt := HP.out.size
    obtain ⟨evs, hevs⟩ : ∃ evs, (allM s (l.take k)).1 = evs := ⟨_, rfl⟩
    obtain ⟨s1, hs1⟩ : ∃ s1, (allM s (l.take k)).2 = s1 := ⟨_, rfl⟩
    rw [hevs] at HE hls
    rw [hs1] at HP hok
    by_cases hlt : k < n
    · obtain ⟨x, hx⟩ : ∃ x, l[k]? = some x := ⟨_, List.getElem?_eq_getElem (by rw [HL.out]; exact hlt)⟩
      have hbx := HB.out x (List.mem_of_getElem? hx)
      have hsn : allM s (l.take (k + 1)) = (evs ++ (stepM s1 x).1, (stepM s1 x).2) := by rw [take_snoc hx, all_snoc, hevs, hs1]
      have HS := hide hsn
      have hle : evs.length ≤ 2000 := by rw [List.length_take] at hls; omega
      obtain ⟨r1, p1, p2, p3⟩ := HP.out
      have RN : RdN wr (PS P r) A n l := HR.out.frm p2 (fun _ _ h => h)
      obtain ⟨b, off, rfl, hbl, _, hcell⟩ := RN.2 (by omega)
      have hcell := hcell k x hx
      obtain ⟨Ae, ce, rfl⟩ := HE.out.form
      have ST := pstep_any P s1 r1 x wr p1 hok hbx.1 hbx.2
      have sl := step_len hok x hbx.1 hbx.2
      obtain ⟨fe, hfe⟩ : ∃ fe, stepM s1 x = fe := ⟨_, rfl⟩
      rw [hfe] at ST HS sl
      obtain ⟨evs2, s2⟩ := fe
      obtain ⟨m2, hm2⟩ : ∃ m2, evs2.length = m2 := ⟨_, rfl⟩
      have ST : Hid (Calls Try.prog 12 #[.pointer (some ⟨P, 0, none⟩), .int .u8 x] wr (fun e w' => ∃ A c, e = .returned (.slice A m2 c) ∧ EvRow w' wr.heap.size (.slice A m2 c) m2 evs2 ∧ PPost P r1 s2 wr w')) := by
        unfold EvPost at ST
        rw [hm2] at ST
        exact ST
      have HM2 := hide hm2
      have sl : m2 ≤ 2 := by rw [← hm2]; exact sl
      have P1 := hide p1
      have P2 := hide p2
      have P3 := hide p3
      obtain ⟨m, hm⟩ : ∃ m, evs.length = m := ⟨_, rfl⟩
      rw [hm] at HE hle ⊢
      have HM := hide hm
      clear hx hsn hls hevs hs1 hm p1 p2 p3 hok hfe hm2 hbt RN
      go_wp2_with (first
        | (go_at_call 12; go_must (refine ST.out.mono ?_; rintro e w1 ⟨A2, c2, rfl, he2, hp2⟩; have he1 := HE.out.over P1.out hp2; have hp3 := PPost.trans P2.out P3.out hp2; have z1 := hp3.size; obtain ⟨r2, t1, t2, t3⟩ := hp3; obtain ⟨xs, x1, x2, x3⟩ := he1; obtain ⟨ys, y1, y2, y3⟩ := he2; have X1 := hide x1; have X2 := hide x2; have X3 := hide x3; have Y1 := hide y1; have Y3 := hide y3; have T1 := hide t1; have T2 := hide t2; have T3 := hide t3; have hrd := Rd.of_own y2; clear x1 x2 x3 y1 y2 y3 t1 t2 t3 hp2))
        | (at_builtin; go_must (refine wpList_appends Try.sl27 rfl _ _ rfl w.heap.size (.slice Ae m ce) m _ w1 w1.heap.size A2 m2 c2 _ rfl rfl X2.out hrd (one_evC ys (fun x hx => nums_one (Y3.out x hx))) (by simp only [maxLen]; omega) (by omega) z1 ?_; intro A3 c3 w3 app)))
      have FIN := hide (each_turn T2.out T1.out T3.out X1.out X2.out X3.out Y1.out Y3.out app)
      go_roundg (n - (k + 1))
      case measure => omega
      case rel =>
        have e1 := FIN.out
        refine ⟨k + 1, by omega, by simp, ?_, ?_⟩
        · show PPost _ _ _ _ _
          rw [HS.out]
          exact e1.1
        · show EvRow _ _ _ _ _
          rw [HS.out, List.length_append, HM.out, HM2.out]
          exact e1.2
    · obtain ⟨Ae, ce, rfl⟩ := HE.out.form
      have HT := hide (show l.take k = l from List.take_of_length_le (by rw [HL.out]; omega))
      rw [HT.out] at hevs hs1
      have HV := hide hevs
      have HS := hide hs1
      clear hevs hs1
      go_wp2
      go_ret
      rw [HV.out, HS.out]
      exact ⟨Ae, ce, rfl, HE.out, HP.out⟩
set_option maxHeartbeats 1000000 in
theorem all_any (P : Nat) (s : Ps) (r : Rows3) (n c : Nat) (A : Option Addr) (l : List Int) (w : World) (h : PIn w P s r) (ho : POk s) (hr : RdN w (PS P r) A n l) (hn : n ≤ 1000) (hb : ∀ x ∈ l, 0 ≤ x ∧ x ≤ 255) :
    Calls Try.prog 16 #[.pointer (some ⟨P, 0, none⟩), .slice A n c] w (EvPost P r (allM s l).2 (allM s l).1 w) := by
  have EA := hide (each_any P s r n c A l w h ho hr hn hb)
  have mf := hmf
  obtain ⟨x, hx⟩ : ∃ x, allM s l = x := ⟨_, rfl⟩
  rw [hx] at EA ⊢
  clear h ho hr hb hx
  go_enter Try.func16, Try.ntmps16
  go_wp2_with (go_at_call 31; go_must (refine EA.out.mono ?_; rintro e w1 ⟨A, cc, rfl, he, hp⟩; have hp := hide hp; have he := hide he))
  go_ret
  exact ⟨A, cc, rfl, he.out, hp.out⟩
/-- A new parser. -/
def newM (most : Nat) : Ps := ⟨0, [], [], [], 0, false, false, most, 0, []⟩
theorem new_ok {most : Nat} (h : most ≤ 65536) : POk (newM most) := ⟨by simp [newM], by simp [newM], by simp [newM], h, by simp [newM], by simp [newM], by simp [newM], by simp [newM], by simp [newM], by simp [newM]⟩
/-- New hands back a parser in a new block. -/
def NewPost (most : Nat) (w : World) (e : Ending) (w' : World) : Prop := ∃ P, w.heap.size ≤ P ∧ e = .returned (.tuple #[.pointer (some ⟨P, 0, none⟩), .int .i64 0]) ∧ PIn w' P (newM most) R0 ∧ Below w.heap.size w w'
theorem new_any (most : Nat) (w : World) (h0 : 1 ≤ most) (h1 : most ≤ 65536) : Calls Try.prog 19 #[.int .i64 most] w (NewPost most w) := by
  go_enter Try.func19, Try.ntmps19
  go_wp2
  go_ret2
  refine ⟨_, Nat.le_refl _, rfl, ⟨⟨0, 0, 0, 0, 0, Blk.new _ _ _, rfl, rfl⟩, own_nil5 _, own_nil5 _, own_nil5 _, fun k hk => (rb_none hk).elim, fun k hk => (rb_none hk).elim, fun k hk => (rb_none hk).elim⟩, (Below.refl _ w).alloc (Nat.le_refl _) _⟩
theorem new_bad (p : Int) (w : World) (h : p < 1 ∨ 65536 < p) : Calls Try.prog 19 #[.int .i64 p] w fun e w' => e = .returned (.tuple #[.pointer none, .int .i64 1]) ∧ w' = w := by
  have cs : p < 1 ∨ (¬ p < 1 ∧ 65536 < p) := by omega
  clear h
  rcases cs with k | ⟨k, k2⟩
  · go_enter Try.func19, Try.ntmps19
    go_wp2
    go_ret2
    exact ⟨rfl, rfl⟩
  · have b1 : decide (p < 1) = false := by simpa using k
    go_enter Try.func19, Try.ntmps19
    go_wp2
    go_ret2
    exact ⟨rfl, rfl⟩
end Go.Proofs.Ythbjjhoajecpcaa
