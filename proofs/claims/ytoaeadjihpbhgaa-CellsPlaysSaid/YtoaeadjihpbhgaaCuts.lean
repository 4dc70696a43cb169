/-
  copy between parts of one row, elements of any size: the kit's law speaks of one cell alone.
  A part of a row copied over another part of it.
  Delete and Insert where nothing is done. No condition but bounds.
  A part of a row copied over another part of it, as a step of a list of operations.
  Delete where something is done. No condition but bounds.
  Insert where something is done. No condition but bounds.
  Insert and Delete of a row, walked. No condition but bounds.
-/
import Derived.Test.YtoaeadjihpbhgaaPuts
import Derived.Laws.CopyOwn
import Derived.StillTailTactics
namespace Go.Proofs.Ytoaeadjihpbhgaa
open Go.RowKit Go.Proofs
set_option linter.unusedVariables false
theorem run_copy_rows {P : Program} (w : World) (dT sT ty elem : TypeId) (g o dLen dCap s : Nat) (a : Addr) (sLen sCap : Nat) (cur : Array Value) (t : TypeId) (cs : List Value)
    (hu : P.underlying dT = some (.slice elem)) (hs : (P.info? elem).map (·.size) = some s)
    (hg : w.heap[g]? = some (.cells cur t (0, 0))) (hn : cs.length = Nat.min sLen dLen * s)
    (hsrc : ∀ j v, cs[j]? = some v → w.cell? (a.add j) = some v) (hfit : o + cs.length ≤ cur.size) (h1 : ∀ v ∈ cs, v.oneCell' = true) :
    (Builtin.copy_ #[dT, sT] ty #[.slice (some ⟨g, o, none⟩) dLen dCap, .slice (some a) sLen sCap]).run P w =
      .ok (goInt (Nat.min sLen dLen)) (w.setRow g (cur.toList.take o ++ cs ++ cur.toList.drop (o + cs.length)).toArray) := by
  have hl := run_loadCells_list (P := P) w a cs hsrc
  have hst := run_storeCells_at P g o t cs 0 cur w hg (by simpa using hfit) h1
  cases hq : P.info? elem with
  | none => simp [hq] at hs
  | some i =>
    have hi : i.size = s := by simpa [hq] using hs
    simp [Builtin.copy_, run_underlying hu, Builtin.lenOf, Builtin.firstCells, sizeOf, typeInfo, hq, hi, ← hn, hl, hst]
theorem step_copy_rows {P : Program} {ops : Array Oper} {o : Oper} {a : Act} {w : World} {K : Act → World → Prop} {Q : Exit → Act → World → Prop} {E : Prop} (hgd : o.guard = none) (d s : Operand) (dT sT : TypeId)
    (ho : o.op = .call { callee := .builtin .copy, args := #[d, s], argTypes := #[dT, sT] }) (elem : TypeId) (hu : P.underlying dT = some (.slice elem)) (sz : Nat) (hsz : (P.info? elem).map (·.size) = some sz)
    (dLen dCap sLen sCap : Nat) (ad : Addr) (g off : Nat) (hd : a.eval d = .slice (some ⟨g, off, none⟩) dLen dCap) (hs : a.eval s = .slice (some ad) sLen sCap)
    (cur : List Value) (t : TypeId) (hg : w.heap[g]? = some (.cells cur.toArray t (0, 0))) (cs : List Value) (hn : cs.length = Nat.min sLen dLen * sz)
    (hsrc : ∀ j v, cs[j]? = some v → w.cell? (ad.add j) = some v) (hfit : off + cs.length ≤ cur.length) (h1 : ∀ v ∈ cs, v.oneCell' = true)
    (h : K (a.put o.dst (goInt (Nat.min sLen dLen))) (w.setRow g (cur.take off ++ cs ++ cur.drop (off + cs.length)).toArray)) :
    if Region.wanted o (yielded ops a.tmps) = true then Oper.wp P o a w K Q else E := by
  have hw : Region.wanted o (yielded ops a.tmps) = true := by simp [Region.wanted, hgd]
  rw [if_pos hw]
  have hrun := run_copy_rows (P := P) w dT sT o.type elem g off dLen dCap sz ad sLen sCap cur.toArray t cs hu hsz hg hn hsrc (by simpa using hfit) h1
  unfold Oper.wp
  simp [execOp, ho, resolve, invoke, builtin, hd, hs, hrun, Result.andThen]
  have h' := h
  simp only [List.append_assoc] at h' ⊢
  exact h'
end Go.Proofs.Ytoaeadjihpbhgaa
namespace Go.Proofs.Ytoaeadjihpbhgaa
open Go.RowKit Go.Proofs
set_option linter.unusedVariables false
/-- k cells from b on copied to a. -/
def copyAB (a b k : Nat) (m : List Cell) : List Cell := m.take a ++ ((m.drop b).take k ++ m.drop (a + k))
theorem copyAB_len {a b k : Nat} {m : List Cell} (ha : a + k ≤ m.length) (hb : b + k ≤ m.length) : (copyAB a b k m).length = m.length := by
  unfold copyAB; simp; omega
theorem rowT_take (m : List Cell) (a : Nat) (h : a ≤ m.length) (T : List Value) : (m.flatMap cellE ++ T).take (a * 8) = (m.take a).flatMap cellE := by
  have e : m.flatMap cellE = (m.take a).flatMap cellE ++ (m.drop a).flatMap cellE := by rw [← List.flatMap_append, List.take_append_drop]
  have l : ((m.take a).flatMap cellE).length = a * 8 := by rw [len_flat (E := cellE) (s := 8) (fun _ => rfl), List.length_take]; congr 1; omega
  rw [e, List.append_assoc, List.take_append_of_le_length (by rw [l]; exact Nat.le_refl _), List.take_of_length_le (by rw [l]; exact Nat.le_refl _)]
theorem rowT_drop (m : List Cell) (a : Nat) (h : a ≤ m.length) (T : List Value) : (m.flatMap cellE ++ T).drop (a * 8) = (m.drop a).flatMap cellE ++ T := by
  have e : m.flatMap cellE = (m.take a).flatMap cellE ++ (m.drop a).flatMap cellE := by rw [← List.flatMap_append, List.take_append_drop]
  have l : ((m.take a).flatMap cellE).length = a * 8 := by rw [len_flat (E := cellE) (s := 8) (fun _ => rfl), List.length_take]; congr 1; omega
  rw [e, List.append_assoc, List.drop_append_of_le_length (by rw [l]; exact Nat.le_refl _), List.drop_of_length_le (by rw [l]; exact Nat.le_refl _), List.nil_append]
theorem row_copied {w : World} {g a b k : Nat} {m : List Cell} {T : List Value} (h : RowAt w g [] m T) (ha : a + k ≤ m.length) (hb : b + k ≤ m.length) :
    RowAt (w.setRow g ((m.flatMap cellE ++ T).take (a * 8) ++ ((m.drop b).take k).flatMap cellE ++ (m.flatMap cellE ++ T).drop (a * 8 + (((m.drop b).take k).flatMap cellE).length)).toArray) g [] (copyAB a b k m) T := by
  have hk : (((m.drop b).take k).flatMap cellE).length = k * 8 := by rw [len_flat (E := cellE) (s := 8) (fun _ => rfl)]; simp; omega
  refine ⟨?_⟩
  rw [hk, ← Nat.add_mul, rowT_take m a (by omega), rowT_drop m (a + k) ha]
  have := setRow_heap w g _ ((m.take a).flatMap cellE ++ ((m.drop b).take k).flatMap cellE ++ ((m.drop (a + k)).flatMap cellE ++ T)).toArray _ _ h.blk
  unfold Blk copyAB
  simpa [List.flatMap_append, List.append_assoc] using this
theorem row_source {w : World} {g b k : Nat} {m : List Cell} {T : List Value} (h : RowAt w g [] m T) (hb : b + k ≤ m.length) :
    ∀ j v, (((m.drop b).take k).flatMap cellE)[j]? = some v → w.cell? (Addr.add ⟨g, b * 8, none⟩ j) = some v := by
  intro j v hj
  have hc := (h.part b k).blk.cell (b * 8 + j)
  have l : ((m.take b).flatMap cellE).length = b * 8 := by rw [len_flat (E := cellE) (s := 8) (fun _ => rfl), List.length_take]; congr 1; omega
  have ea : Addr.add ⟨g, b * 8, none⟩ j = ⟨g, b * 8 + j, none⟩ := by simp [Addr.add]
  rw [ea]
  rw [hc, List.getElem?_toArray, List.nil_append, List.getElem?_append_right (by rw [l]; omega), l, show b * 8 + j - b * 8 = j by omega, List.getElem?_append_left (List.getElem?_eq_some_iff.1 hj).1, hj]
end Go.Proofs.Ytoaeadjihpbhgaa
namespace Go.Proofs.Ytoaeadjihpbhgaa
open Go.RowKit Go.Proofs
set_option linter.unusedVariables false
def deleteIn (x k bk bn : Int) (m : List Cell) : List Cell :=
  if 0 ≤ x ∧ x < m.length ∧ 1 ≤ k then
    (fun (X K N : Nat) => wipeAB bk bn (N - K) N (copyAB X (X + K) (N - X - K) m)) x.toNat (min k (m.length - x)).toNat m.length
  else m
def insertIn (x k bk bn : Int) (m : List Cell) : List Cell :=
  if 0 ≤ x ∧ x < m.length ∧ 1 ≤ k then
    (fun (X K N : Nat) => wipeAB bk bn X (X + K) (copyAB (X + K) X (N - X - K) m)) x.toNat (min k (m.length - x)).toNat m.length
  else m
set_option maxHeartbeats 2000000 in
theorem delete1_no (base n c bx bk bc : Nat) (A : Option Addr) (m : List Cell) (x k ck cn : Int) (w : World) (h : w.ownsRow base 40 8 (.slice A n c) n (m.flatMap cellE)) (hn : n ≤ 100000)
    (hx : w.cell? ⟨bx, 0, none⟩ = some (.int .i64 x)) (hk : w.cell? ⟨bk, 0, none⟩ = some (.int .i64 k)) (hno : ¬ (0 ≤ x ∧ x < n ∧ 1 ≤ k)) :
    Calls Try.prog 57 #[.slice A n c, .pointer (some ⟨bx, 0, none⟩), .pointer (some ⟨bk, 0, none⟩), .pointer (some ⟨bc, 0, none⟩)] w (DonePost base n c A (deleteIn x k ck cn m) w) := by
  have hl := own_len (E := cellE) (size := 8) (fun _ => rfl) (by omega) h
  have HO := hide h
  have HP := hide (show deleteIn x k ck cn m = m by unfold deleteIn; rw [← hl, if_neg hno])
  have hno2 : x < 0 ∨ (0 ≤ x ∧ (n : Int) ≤ x) ∨ (0 ≤ x ∧ x < n ∧ k < 1) := by omega
  clear hno hl h
  rcases hno2 with h1 | ⟨h0, h1⟩ | ⟨h0, h2, h1⟩
  · have d1 : decide (x < 0) = true := by simpa using h1
    go_enter Try.func57, Try.ntmps57
    go_wp2
    all_goals
      go_end0
      rw [HP.out]
      exact ⟨rfl, HO.out, Frm.refl _ _⟩
  · have d1 : decide (x < 0) = false := by simp; omega
    have d2 : decide ((n : Int) ≤ x) = true := by simpa using h1
    go_enter Try.func57, Try.ntmps57
    go_wp2
    all_goals
      go_end0
      rw [HP.out]
      exact ⟨rfl, HO.out, Frm.refl _ _⟩
  · have d1 : decide (x < 0) = false := by simp; omega
    have d2 : decide ((n : Int) ≤ x) = false := by simp; omega
    have d3 : decide (k < 1) = true := by simpa using h1
    go_enter Try.func57, Try.ntmps57
    go_wp2
    all_goals
      go_end0
      rw [HP.out]
      exact ⟨rfl, HO.out, Frm.refl _ _⟩
set_option maxHeartbeats 2000000 in
theorem insert1_no (base n c bx bk bc : Nat) (A : Option Addr) (m : List Cell) (x k ck cn : Int) (w : World) (h : w.ownsRow base 40 8 (.slice A n c) n (m.flatMap cellE)) (hn : n ≤ 100000)
    (hx : w.cell? ⟨bx, 0, none⟩ = some (.int .i64 x)) (hk : w.cell? ⟨bk, 0, none⟩ = some (.int .i64 k)) (hno : ¬ (0 ≤ x ∧ x < n ∧ 1 ≤ k)) :
    Calls Try.prog 56 #[.slice A n c, .pointer (some ⟨bx, 0, none⟩), .pointer (some ⟨bk, 0, none⟩), .pointer (some ⟨bc, 0, none⟩)] w (DonePost base n c A (insertIn x k ck cn m) w) := by
  have hl := own_len (E := cellE) (size := 8) (fun _ => rfl) (by omega) h
  have HO := hide h
  have HP := hide (show insertIn x k ck cn m = m by unfold insertIn; rw [← hl, if_neg hno])
  have hno2 : x < 0 ∨ (0 ≤ x ∧ (n : Int) ≤ x) ∨ (0 ≤ x ∧ x < n ∧ k < 1) := by omega
  clear hno hl h
  rcases hno2 with h1 | ⟨h0, h1⟩ | ⟨h0, h2, h1⟩
  · have d1 : decide (x < 0) = true := by simpa using h1
    go_enter Try.func56, Try.ntmps56
    go_wp2
    all_goals
      go_end0
      rw [HP.out]
      exact ⟨rfl, HO.out, Frm.refl _ _⟩
  · have d1 : decide (x < 0) = false := by simp; omega
    have d2 : decide ((n : Int) ≤ x) = true := by simpa using h1
    go_enter Try.func56, Try.ntmps56
    go_wp2
    all_goals
      go_end0
      rw [HP.out]
      exact ⟨rfl, HO.out, Frm.refl _ _⟩
  · have d1 : decide (x < 0) = false := by simp; omega
    have d2 : decide ((n : Int) ≤ x) = false := by simp; omega
    have d3 : decide (k < 1) = true := by simpa using h1
    go_enter Try.func56, Try.ntmps56
    go_wp2
    all_goals
      go_end0
      rw [HP.out]
      exact ⟨rfl, HO.out, Frm.refl _ _⟩
end Go.Proofs.Ytoaeadjihpbhgaa
namespace Go.Proofs.Ytoaeadjihpbhgaa
open Go.RowKit Go.Proofs
set_option linter.unusedVariables false
theorem copyAB_zero (a b : Nat) (m : List Cell) : copyAB a b 0 m = m := by
  unfold copyAB; simp
theorem run_copy_none8 (w : World) (dT sT ty : TypeId) (d a : Option Addr) (dLen dCap sLen sCap : Nat) (hu : Try.prog.underlying dT = some (.slice 40)) (hn : Nat.min sLen dLen = 0) :
    (Builtin.copy_ #[dT, sT] ty #[.slice d dLen dCap, .slice a sLen sCap]).run Try.prog w = .ok (goInt 0) w := by
  have hs : (Try.prog.info? 40).map (·.size) = some 8 := by kernel_rfl
  cases hq : Try.prog.info? 40 with
  | none => simp [hq] at hs
  | some i =>
    have hl : ∀ (x : Addr), (loadCells x 0).run Try.prog w = .ok #[] w := fun x => by simpa using run_loadCells_list (P := Try.prog) w x [] (by simp)
    cases d <;> cases a <;> simp [Builtin.copy_, run_underlying hu, Builtin.lenOf, Builtin.firstCells, sizeOf, typeInfo, hq, hn, storeCells, hl]
theorem wpList_copy_row {w : World} {ops : Array Oper} {rest : List Oper} {o : Oper} {a : Act} {Q : Exit → Act → World → Prop} (hgd : o.guard = none) (d s : Operand) (dT sT : TypeId)
    (ho : o.op = .call { callee := .builtin .copy, args := #[d, s], argTypes := #[dT, sT] }) (hu : Try.prog.underlying dT = some (.slice 40))
    (dp sp : Option Addr) (dLen dCap sLen sCap : Nat) (hd : a.eval d = .slice dp dLen dCap) (hs : a.eval s = .slice sp sLen sCap)
    {g p q k : Nat} {m : List Cell} {T : List Value} (h : RowAt w g [] m T) (hk : k = Nat.min sLen dLen) (hp : p + k ≤ m.length) (hq : q + k ≤ m.length)
    (hdp : 0 < k → dp = some ⟨g, p * 8, none⟩) (hsp : 0 < k → sp = some ⟨g, q * 8, none⟩)
    (hK : ∀ w', RowAt w' g [] (copyAB p q k m) T → Frm (fun i => i = g) w w' → wpList Try.prog ops Q rest (a.put o.dst (goInt k)) w') :
    wpList Try.prog ops Q (o :: rest) a w := by
  refine wpList_plain hgd fun K hKK => ?_
  unfold Oper.wp
  rcases Nat.eq_zero_or_pos k with h0 | h0
  · have hrun : (Builtin.copy_ #[dT, sT] o.type #[.slice dp dLen dCap, .slice sp sLen sCap]).run Try.prog w = .ok (goInt 0) w := by
      have hm : Nat.min sLen dLen = 0 := by omega
      exact run_copy_none8 w dT sT o.type dp sp dLen dCap sLen sCap hu hm
    subst h0
    simp only [execOp, ho, resolve, invoke, builtin, hd, hs, Sem.run_bind, Sem.run_pure, Result.andThen_ok, List.map_toArray, List.map_cons, List.map_nil, hrun]
    refine hKK _ _ (hK w ?_ (Frm.refl _ _))
    rw [copyAB_zero]; exact h
  · have l : (((m.drop q).take k).flatMap cellE).length = k * 8 := by rw [len_flat (E := cellE) (s := 8) (fun _ => rfl)]; simp; omega
    have hrun := run_copy_rows (P := Try.prog) w dT sT o.type 40 g (p * 8) dLen dCap 8 ⟨g, q * 8, none⟩ sLen sCap _ _ (((m.drop q).take k).flatMap cellE) hu (by kernel_rfl) h.blk (by rw [l, hk]) (row_source h hq)
      (by rw [l]; simp [len_flat (E := cellE) (s := 8) (fun _ => rfl)]; omega) (one_cells _)
    rw [hdp h0] at hd
    rw [hsp h0] at hs
    rw [← hk] at hrun
    simp only [List.nil_append] at hrun
    simp only [execOp, ho, resolve, invoke, builtin, hd, hs, Sem.run_bind, Sem.run_pure, Result.andThen_ok, List.map_toArray, List.map_cons, List.map_nil, hrun]
    refine hKK _ _ (hK _ ?_ ?_)
    · exact row_copied h hp hq
    · exact ⟨rfl, rfl, rfl, by simp [World.setRow], fun i _ hi => setRow_other w g i _ hi⟩
end Go.Proofs.Ytoaeadjihpbhgaa
namespace Go.Proofs.Ytoaeadjihpbhgaa
open Go.RowKit Go.Proofs
set_option linter.unusedVariables false
theorem cutA_at {g c l : Nat} (h : l < c) : cutA (some ⟨g, 0, none⟩) c l 8 = some ⟨g, l * 8, none⟩ := by
  unfold cutA
  rw [if_neg (by omega)]
  have e : Addr.add ⟨g, 0, none⟩ (l * 8) = ⟨g, 0 + l * 8, none⟩ := by unfold Addr.add; split <;> simp_all
  rw [Option.map_some, e, Nat.zero_add]
set_option maxRecDepth 100000 in
set_option maxHeartbeats 2000000 in
theorem delete1_yes (base n c bx bk bc : Nat) (A : Option Addr) (m : List Cell) (x k ck cn : Int) (w : World) (h : w.ownsRow base 40 8 (.slice A n c) n (m.flatMap cellE)) (hn : n ≤ 100000)
    (hx : w.cell? ⟨bx, 0, none⟩ = some (.int .i64 x)) (hk : w.cell? ⟨bk, 0, none⟩ = some (.int .i64 k)) (hc0 : w.cell? ⟨bc, 0, none⟩ = some (.int .i64 ck)) (hc1 : w.cell? ⟨bc, 1, none⟩ = some (.int .i64 cn)) (l1 : bx < base) (l2 : bk < base) (l3 : bc < base)
    (hyes : 0 ≤ x ∧ x < n ∧ 1 ≤ k) :
    Calls Try.prog 57 #[.slice A n c, .pointer (some ⟨bx, 0, none⟩), .pointer (some ⟨bk, 0, none⟩), .pointer (some ⟨bc, 0, none⟩)] w (DonePost base n c A (deleteIn x k ck cn m) w) := by
  have hl := own_len (E := cellE) (size := 8) (fun _ => rfl) (by omega) h
  have HO := hide h
  obtain ⟨y1, y2, y3⟩ := hyes
  rcases own_row h with ⟨rfl, rfl, rfl⟩ | ⟨g, T, rfl, hb, hr, hnc, hs, hm⟩
  · exfalso; omega
  · obtain ⟨X, rfl⟩ : ∃ X : Nat, x = X := ⟨x.toNat, by omega⟩
    obtain ⟨K, hK⟩ : ∃ K : Nat, (K : Int) = min k ((n : Int) - X) := ⟨(min k ((n : Int) - X)).toNat, by omega⟩
    obtain ⟨q, hq⟩ : ∃ q : Nat, X + K = q := ⟨_, rfl⟩
    obtain ⟨u, hu⟩ : ∃ u : Nat, n - K = u := ⟨_, rfl⟩
    obtain ⟨z, hz⟩ : ∃ z : Nat, n - X = z := ⟨_, rfl⟩
    obtain ⟨nq, hnq⟩ : ∃ nq : Nat, n - q = nq := ⟨_, rfl⟩
    have hz2 : (n : Int) - X = z := by omega
    have e1 := fun ts W => min2_ Try.prog ts 3 (k := .i64) hK W
    rw [hz2] at e1
    have d1 : decide ((X : Int) < 0) = false := by simp
    have d2 : decide (n ≤ X) = false := by simp; omega
    have d3 : decide (k < 1) = false := by simp; omega
    have hq2 : (X : Int) + K = q := by omega
    have hqw : IntKind.i64.wrap (q : Int) = q := IntWalk.i64_in _ (by omega)
    have huw : IntKind.i64.wrap (u : Int) = u := IntWalk.i64_in _ (by omega)
    have hqn : q ≤ n := by omega
    have hXn : X < n := by omega
    have huc : u < c := by omega
    have hun : (n : Int) - K = u := by omega
    obtain ⟨D1, hD1⟩ : ∃ D, cutA (some ⟨g, 0, none⟩) c X 8 = D := ⟨_, rfl⟩
    obtain ⟨D2, hD2⟩ : ∃ D, cutA (some ⟨g, 0, none⟩) c q 8 = D := ⟨_, rfl⟩
    obtain ⟨D3, hD3⟩ : ∃ D, cutA (some ⟨g, 0, none⟩) c u 8 = D := ⟨_, rfl⟩
    have s1 := fun W => cut_l (P := Try.prog) (t := 26) (a := some ⟨g, 0, none⟩) (len := n) (cap := c) (s := 8) Try.underlying26 (by kernel_rfl) X (L := (X : Int)) rfl (by omega) W
    have s2 := fun W => cut_l (P := Try.prog) (t := 26) (a := some ⟨g, 0, none⟩) (len := n) (cap := c) (s := 8) Try.underlying26 (by kernel_rfl) q (L := (q : Int)) rfl hqn W
    have s3 := fun W => cut_l (P := Try.prog) (t := 26) (a := some ⟨g, 0, none⟩) (len := n) (cap := c) (s := 8) Try.underlying26 (by kernel_rfl) u (L := (u : Int)) rfl (by omega) W
    rw [hD1, hz] at s1
    rw [hD2, hnq] at s2
    have hu3 : n - u = K := by omega
    rw [hD3, hu3] at s3
    have HD1 := hide (show D1 = some ⟨g, X * 8, none⟩ by rw [← hD1]; exact cutA_at (by omega))
    have HD2 := hide (show 0 < nq → D2 = some ⟨g, q * 8, none⟩ from fun h0 => by rw [← hD2]; exact cutA_at (by omega))
    have HD3 := hide (show D3 = some ⟨g, u * 8, none⟩ by rw [← hD3]; exact cutA_at (by omega))
    have hxg : bx ≠ g := by omega
    have hkg : bk ≠ g := by omega
    have hcg : bc ≠ g := by omega
    have HR := hide hr
    have HS := hide (And.intro hb (And.intro hnc (And.intro hs (And.intro hm hl))))
    have HQ := hide (And.intro hK (And.intro hq (And.intro hu (And.intro hz hnq))))
    have HE := hide (show deleteIn X k ck cn m = wipeAB ck cn u n (copyAB X q nq m) by
      unfold deleteIn
      rw [if_pos ⟨y1, by omega, y3⟩]
      have e1 : (min k ((m.length : Int) - X)).toNat = K := by rw [← hl]; omega
      have e2 : (X : Int).toNat = X := by omega
      rw [e1, e2, ← hl]
      show wipeAB ck cn (n - K) n (copyAB X (X + K) (n - X - K) m) = _
      rw [hq, show n - K = u from hu, show n - X - K = nq by omega])
    have hcal : (copyAB X q nq m).length = n := by rw [copyAB_len (by omega) (by omega)]; exact hl.symm
    have HC := hide hcal
    have HW := hide (fun (W : World) (hW : RowAt W g [] (copyAB X q nq m) T) (c : Nat) => wipe_part g u n c (u * 8) K T _ ck cn W hW (by omega) (by omega) (by omega) rfl (by omega))
    have Hmin := hide (show nq = Nat.min nq z from (Nat.min_eq_left (by omega)).symm)
    have hp1 : X + nq ≤ m.length := by omega
    have hp2 : q + nq ≤ m.length := by omega
    have hcl : bc < w.heap.size := by have := hr.blk.lt; omega
    clear h hr hl hs hK hm hb y2 hu hz hq hD1 hD2 hD3 hnq hu3 hcal
    go_enter Try.func57, Try.ntmps57
    go_upto_region 2 with (fail)
    go_still_tail 8, (by kernel_rfl)
    refine wpList_copy_row rfl _ _ _ _ rfl Try.underlying26 _ _ _ _ _ _ rfl rfl (show RowAt w.drew g [] m T from ⟨HR.out.blk.drew⟩) Hmin.out hp1 hp2 (fun _ => HD1.out) HD2.out ?_
    intro w1 R1 F1
    have hx1 : w1.cell? ⟨bc, 0, none⟩ = some (.int .i64 ck) := (World.cell?_of_block (F1.block bc (by simpa using hcl) hcg)).trans (by simpa using hc0)
    have hx2 : w1.cell? ⟨bc, 1, none⟩ = some (.int .i64 cn) := (World.cell?_of_block (F1.block bc (by simpa using hcl) hcg)).trans (by simpa using hc1)
    have R1 := hide R1
    have F1 := hide F1
    go_wp2
    go_still_tail 7, (by kernel_rfl)
    obtain ⟨w2, hw2⟩ : ∃ w2, w2 = w1.drew := ⟨_, rfl⟩
    have R2 := hide (show RowAt w2 g [] (copyAB X q nq m) T by rw [hw2]; exact ⟨R1.out.blk.drew⟩)
    have F2 := hide (show Frm (fun i => i = g) w w2 by rw [hw2]; exact (((Frm.refl _ w).drew).trans F1.out (fun i _ h => h)).drew)
    change wpList _ _ _ _ _ w1.drew
    rw [← hw2]
    obtain rfl := HD3.out
    clear hw2 hx1 hx2 R1 F1
    go_wp2_with (go_at_call 49; (with_reducible refine (HW.out _ R2.out _).mono ?_); rintro e w3 ⟨rfl, r3, f3⟩; have R3 := hide r3; have F3 := hide f3; clear r3 f3)
    go_end0
    obtain ⟨hb, hnc, hs, hm, hl⟩ := HS.out
    rw [HE.out]
    refine done_row hb hnc hs hm hl.symm (by rw [wipeAB_len _ _ (by omega) (by rw [HC.out]; exact Nat.le_refl _), HC.out]) R3.out (F2.out.trans F3.out (fun i _ h => h))
end Go.Proofs.Ytoaeadjihpbhgaa
namespace Go.Proofs.Ytoaeadjihpbhgaa
open Go.RowKit Go.Proofs
set_option linter.unusedVariables false
set_option maxRecDepth 100000 in
set_option maxHeartbeats 2000000 in
theorem insert1_yes (base n c bx bk bc : Nat) (A : Option Addr) (m : List Cell) (x k ck cn : Int) (w : World) (h : w.ownsRow base 40 8 (.slice A n c) n (m.flatMap cellE)) (hn : n ≤ 100000)
    (hx : w.cell? ⟨bx, 0, none⟩ = some (.int .i64 x)) (hk : w.cell? ⟨bk, 0, none⟩ = some (.int .i64 k)) (hc0 : w.cell? ⟨bc, 0, none⟩ = some (.int .i64 ck)) (hc1 : w.cell? ⟨bc, 1, none⟩ = some (.int .i64 cn)) (l1 : bx < base) (l2 : bk < base) (l3 : bc < base)
    (hyes : 0 ≤ x ∧ x < n ∧ 1 ≤ k) :
    Calls Try.prog 56 #[.slice A n c, .pointer (some ⟨bx, 0, none⟩), .pointer (some ⟨bk, 0, none⟩), .pointer (some ⟨bc, 0, none⟩)] w (DonePost base n c A (insertIn x k ck cn m) w) := by
  have hl := own_len (E := cellE) (size := 8) (fun _ => rfl) (by omega) h
  have HO := hide h
  obtain ⟨y1, y2, y3⟩ := hyes
  rcases own_row h with ⟨rfl, rfl, rfl⟩ | ⟨g, T, rfl, hb, hr, hnc, hs, hm⟩
  · exfalso; omega
  · obtain ⟨X, rfl⟩ : ∃ X : Nat, x = X := ⟨x.toNat, by omega⟩
    obtain ⟨K, hK⟩ : ∃ K : Nat, (K : Int) = min k ((n : Int) - X) := ⟨(min k ((n : Int) - X)).toNat, by omega⟩
    obtain ⟨q, hq⟩ : ∃ q : Nat, X + K = q := ⟨_, rfl⟩
    obtain ⟨u, hu⟩ : ∃ u : Nat, n - K = u := ⟨_, rfl⟩
    obtain ⟨z, hz⟩ : ∃ z : Nat, n - X = z := ⟨_, rfl⟩
    obtain ⟨nq, hnq⟩ : ∃ nq : Nat, n - q = nq := ⟨_, rfl⟩
    have hz2 : (n : Int) - X = z := by omega
    have e1 := fun ts W => min2_ Try.prog ts 3 (k := .i64) hK W
    rw [hz2] at e1
    have d1 : decide ((X : Int) < 0) = false := by simp
    have d2 : decide (n ≤ X) = false := by simp; omega
    have d3 : decide (k < 1) = false := by simp; omega
    have hq2 : (X : Int) + K = q := by omega
    have hqw : IntKind.i64.wrap (q : Int) = q := IntWalk.i64_in _ (by omega)
    have huw : IntKind.i64.wrap (u : Int) = u := IntWalk.i64_in _ (by omega)
    have hqn : q ≤ n := by omega
    have hXn : X < n := by omega
    have huc : u < c := by omega
    have hun : (n : Int) - K = u := by omega
    obtain ⟨D1, hD1⟩ : ∃ D, cutA (some ⟨g, 0, none⟩) c X 8 = D := ⟨_, rfl⟩
    obtain ⟨D2, hD2⟩ : ∃ D, cutA (some ⟨g, 0, none⟩) c q 8 = D := ⟨_, rfl⟩
    have s1 := fun W => cut_l (P := Try.prog) (t := 26) (a := some ⟨g, 0, none⟩) (len := n) (cap := c) (s := 8) Try.underlying26 (by kernel_rfl) X (L := (X : Int)) rfl (by omega) W
    have s2 := fun W => cut_l (P := Try.prog) (t := 26) (a := some ⟨g, 0, none⟩) (len := n) (cap := c) (s := 8) Try.underlying26 (by kernel_rfl) q (L := (q : Int)) rfl hqn W
    have s3 := fun W => cut_lh (P := Try.prog) (t := 26) (a := some ⟨g, 0, none⟩) (len := n) (cap := c) (s := 8) Try.underlying26 (by kernel_rfl) X q (L := (X : Int)) (H := (q : Int)) rfl rfl (by omega) (by omega) W
    rw [hD1, hz] at s1
    rw [hD2, hnq] at s2
    have hu3 : q - X = K := by omega
    rw [hD1, hu3] at s3
    have HD1 := hide (show D1 = some ⟨g, X * 8, none⟩ by rw [← hD1]; exact cutA_at (by omega))
    have HD2 := hide (show 0 < nq → D2 = some ⟨g, q * 8, none⟩ from fun h0 => by rw [← hD2]; exact cutA_at (by omega))
    have hxg : bx ≠ g := by omega
    have hkg : bk ≠ g := by omega
    have hcg : bc ≠ g := by omega
    have HR := hide hr
    have HS := hide (And.intro hb (And.intro hnc (And.intro hs (And.intro hm hl))))
    have HQ := hide (And.intro hK (And.intro hq (And.intro hu (And.intro hz hnq))))
    have HE := hide (show insertIn X k ck cn m = wipeAB ck cn X q (copyAB q X nq m) by
      unfold insertIn
      rw [if_pos ⟨y1, by omega, y3⟩]
      have e1 : (min k ((m.length : Int) - X)).toNat = K := by rw [← hl]; omega
      have e2 : (X : Int).toNat = X := by omega
      rw [e1, e2, ← hl]
      show wipeAB ck cn X (X + K) (copyAB (X + K) X (n - X - K) m) = _
      rw [hq, show n - X - K = nq by omega])
    have hcal : (copyAB q X nq m).length = n := by rw [copyAB_len (by omega) (by omega)]; exact hl.symm
    have HC := hide hcal
    have HW := hide (fun (W : World) (hW : RowAt W g [] (copyAB q X nq m) T) (c : Nat) => wipe_part g X q c (X * 8) K T _ ck cn W hW (by omega) (by omega) (by omega) rfl (by omega))
    have Hmin := hide (show nq = Nat.min z nq from (Nat.min_eq_right (by omega)).symm)
    have hp1 : X + nq ≤ m.length := by omega
    have hp2 : q + nq ≤ m.length := by omega
    have hxl : bx < w.heap.size := by have := hr.blk.lt; omega
    have hcl : bc < w.heap.size := by have := hr.blk.lt; omega
    clear h hr hl hs hK hm hb y2 hu hz hq hD1 hD2 hnq hu3 hcal
    go_enter Try.func56, Try.ntmps56
    go_upto_region 2 with (fail)
    go_still_tail 8, (by kernel_rfl)
    refine wpList_copy_row rfl _ _ _ _ rfl Try.underlying26 _ _ _ _ _ _ rfl rfl (show RowAt w.drew g [] m T from ⟨HR.out.blk.drew⟩) Hmin.out hp2 hp1 HD2.out (fun _ => HD1.out) ?_
    intro w1 R1 F1
    have hx1 : w1.cell? ⟨bc, 0, none⟩ = some (.int .i64 ck) := (World.cell?_of_block (F1.block bc (by simpa using hcl) hcg)).trans (by simpa using hc0)
    have hx0 : w1.cell? ⟨bx, 0, none⟩ = some (.int .i64 X) := (World.cell?_of_block (F1.block bx (by simpa using hxl) hxg)).trans (by simpa using hx)
    have hx2 : w1.cell? ⟨bc, 1, none⟩ = some (.int .i64 cn) := (World.cell?_of_block (F1.block bc (by simpa using hcl) hcg)).trans (by simpa using hc1)
    have R1 := hide R1
    have F1 := hide F1
    go_wp2
    go_still_tail 7, (by kernel_rfl)
    obtain ⟨w2, hw2⟩ : ∃ w2, w2 = w1.drew := ⟨_, rfl⟩
    have R2 := hide (show RowAt w2 g [] (copyAB q X nq m) T by rw [hw2]; exact ⟨R1.out.blk.drew⟩)
    have F2 := hide (show Frm (fun i => i = g) w w2 by rw [hw2]; exact (((Frm.refl _ w).drew).trans F1.out (fun i _ h => h)).drew)
    change wpList _ _ _ _ _ w1.drew
    rw [← hw2]
    obtain rfl := HD1.out
    clear hw2 hx0 hx1 hx2 R1 F1
    go_wp2_with (go_at_call 49; (with_reducible refine (HW.out _ R2.out _).mono ?_); rintro e w3 ⟨rfl, r3, f3⟩; have R3 := hide r3; have F3 := hide f3; clear r3 f3)
    go_end0
    obtain ⟨hb, hnc, hs, hm, hl⟩ := HS.out
    rw [HE.out]
    refine done_row hb hnc hs hm hl.symm (by rw [wipeAB_len _ _ (by omega) (by rw [HC.out]; omega), HC.out]) R3.out (F2.out.trans F3.out (fun i _ h => h))
end Go.Proofs.Ytoaeadjihpbhgaa
namespace Go.Proofs.Ytoaeadjihpbhgaa
open Go.RowKit Go.Proofs
set_option linter.unusedVariables false
theorem insert1_any (base n c bx bk bc : Nat) (A : Option Addr) (m : List Cell) (x k ck cn : Int) (w : World) (h : w.ownsRow base 40 8 (.slice A n c) n (m.flatMap cellE)) (hn : n ≤ 100000)
    (hx : w.cell? ⟨bx, 0, none⟩ = some (.int .i64 x)) (hk : w.cell? ⟨bk, 0, none⟩ = some (.int .i64 k)) (hc0 : w.cell? ⟨bc, 0, none⟩ = some (.int .i64 ck)) (hc1 : w.cell? ⟨bc, 1, none⟩ = some (.int .i64 cn)) (l1 : bx < base) (l2 : bk < base) (l3 : bc < base) :
    Calls Try.prog 56 #[.slice A n c, .pointer (some ⟨bx, 0, none⟩), .pointer (some ⟨bk, 0, none⟩), .pointer (some ⟨bc, 0, none⟩)] w (DonePost base n c A (insertIn x k ck cn m) w) := by
  by_cases hyes : 0 ≤ x ∧ x < n ∧ 1 ≤ k
  · exact insert1_yes base n c bx bk bc A m x k ck cn w h hn hx hk hc0 hc1 l1 l2 l3 hyes
  · exact insert1_no base n c bx bk bc A m x k ck cn w h hn hx hk hyes
set_option maxHeartbeats 2000000 in
theorem insertc_any (l : List Cell) (n c B : Nat) (A : Option Addr) (x y bk bn : Int) (w : World) (hl : Rd w B 8 A n (l.flatMap cellE)) (hB : B ≤ w.heap.size) (hn : n ≤ 100000) :
    Calls Try.prog 38 #[.slice A n c, .int .i64 x, .int .i64 y, .agg #[.int .i64 bk, .int .i64 bn]] w (RetRow (mendF (insertIn x y bk bn (mendF l))) n w) := by
  have HL := hide hl
  clear hl
  go_enter Try.func38, Try.ntmps38
  go_upto_region 1 with (fail)
  go_name_world W hW
  have k0 : Blk W w.heap.size 3 #[.int .i64 x] := by rw [← hW]; exact ((Blk.new w _ _).alloc _).alloc _
  have k1 : Blk W (w.heap.size + 1) 3 #[.int .i64 y] := by rw [← hW]; exact (Blk.new' (by rw [World.size_alloc]) _ _).alloc _
  have k2 : Blk W (w.heap.size + 1 + 1) 23 #[.int .i64 bk, .int .i64 bn] := by rw [← hW]; exact Blk.new' (by rw [World.size_alloc, World.size_alloc]) _ _
  have bW : Below w.heap.size w W := by rw [← hW]; exact (((Below.refl _ _).alloc (Nat.le_refl _) _).alloc (by rw [World.size_alloc]; omega) _).alloc (by rw [World.size_alloc, World.size_alloc]; omega) _
  clear hW
  have z0 := k0.lt
  have z1 := k1.lt
  have W1 := hide (with_any l (insertIn x y bk bn) n c B A 56 #[.pointer (some ⟨w.heap.size, 0, none⟩), .pointer (some ⟨w.heap.size + 1, 0, none⟩), .pointer (some ⟨w.heap.size + 1 + 1, 0, none⟩)] W (HL.out.below (bW.mono hB)) (Nat.le_trans hB bW.size) hn (fun _ _ => rfl) (fun A c W' b h =>
    insert1_any W.heap.size n c w.heap.size (w.heap.size + 1) (w.heap.size + 1 + 1) A (mendF l) x y bk bn W' h hn ((k0.below b k0.lt).cell 0) ((k1.below b k1.lt).cell 0)
      ((k2.below b k2.lt).cell 0) ((k2.below b k2.lt).cell 1) k0.lt k1.lt k2.lt))
  have BW := hide bW
  clear k0 k1 k2 bW
  go_wp2_with (go_at_call 44; go_must (refine (W1.out).mono ?_; rintro e w1 ⟨A1, c1, rfl, o1, h1, b1⟩))
  go_ret
  exact ⟨A1, c1, rfl, own_le o1 BW.out.size, h1, below_in BW.out b1 (Nat.le_refl _)⟩
theorem delete1_any (base n c bx bk bc : Nat) (A : Option Addr) (m : List Cell) (x k ck cn : Int) (w : World) (h : w.ownsRow base 40 8 (.slice A n c) n (m.flatMap cellE)) (hn : n ≤ 100000)
    (hx : w.cell? ⟨bx, 0, none⟩ = some (.int .i64 x)) (hk : w.cell? ⟨bk, 0, none⟩ = some (.int .i64 k)) (hc0 : w.cell? ⟨bc, 0, none⟩ = some (.int .i64 ck)) (hc1 : w.cell? ⟨bc, 1, none⟩ = some (.int .i64 cn)) (l1 : bx < base) (l2 : bk < base) (l3 : bc < base) :
    Calls Try.prog 57 #[.slice A n c, .pointer (some ⟨bx, 0, none⟩), .pointer (some ⟨bk, 0, none⟩), .pointer (some ⟨bc, 0, none⟩)] w (DonePost base n c A (deleteIn x k ck cn m) w) := by
  by_cases hyes : 0 ≤ x ∧ x < n ∧ 1 ≤ k
  · exact delete1_yes base n c bx bk bc A m x k ck cn w h hn hx hk hc0 hc1 l1 l2 l3 hyes
  · exact delete1_no base n c bx bk bc A m x k ck cn w h hn hx hk hyes
set_option maxHeartbeats 2000000 in
theorem deletec_any (l : List Cell) (n c B : Nat) (A : Option Addr) (x y bk bn : Int) (w : World) (hl : Rd w B 8 A n (l.flatMap cellE)) (hB : B ≤ w.heap.size) (hn : n ≤ 100000) :
    Calls Try.prog 39 #[.slice A n c, .int .i64 x, .int .i64 y, .agg #[.int .i64 bk, .int .i64 bn]] w (RetRow (mendF (deleteIn x y bk bn (mendF l))) n w) := by
  have HL := hide hl
  clear hl
  go_enter Try.func39, Try.ntmps39
  go_upto_region 1 with (fail)
  go_name_world W hW
  have k0 : Blk W w.heap.size 3 #[.int .i64 x] := by rw [← hW]; exact ((Blk.new w _ _).alloc _).alloc _
  have k1 : Blk W (w.heap.size + 1) 3 #[.int .i64 y] := by rw [← hW]; exact (Blk.new' (by rw [World.size_alloc]) _ _).alloc _
  have k2 : Blk W (w.heap.size + 1 + 1) 23 #[.int .i64 bk, .int .i64 bn] := by rw [← hW]; exact Blk.new' (by rw [World.size_alloc, World.size_alloc]) _ _
  have bW : Below w.heap.size w W := by rw [← hW]; exact (((Below.refl _ _).alloc (Nat.le_refl _) _).alloc (by rw [World.size_alloc]; omega) _).alloc (by rw [World.size_alloc, World.size_alloc]; omega) _
  clear hW
  have z0 := k0.lt
  have z1 := k1.lt
  have W1 := hide (with_any l (deleteIn x y bk bn) n c B A 57 #[.pointer (some ⟨w.heap.size, 0, none⟩), .pointer (some ⟨w.heap.size + 1, 0, none⟩), .pointer (some ⟨w.heap.size + 1 + 1, 0, none⟩)] W (HL.out.below (bW.mono hB)) (Nat.le_trans hB bW.size) hn (fun _ _ => rfl) (fun A c W' b h =>
    delete1_any W.heap.size n c w.heap.size (w.heap.size + 1) (w.heap.size + 1 + 1) A (mendF l) x y bk bn W' h hn ((k0.below b k0.lt).cell 0) ((k1.below b k1.lt).cell 0)
      ((k2.below b k2.lt).cell 0) ((k2.below b k2.lt).cell 1) k0.lt k1.lt k2.lt))
  have BW := hide bW
  clear k0 k1 k2 bW
  go_wp2_with (go_at_call 44; go_must (refine (W1.out).mono ?_; rintro e w1 ⟨A1, c1, rfl, o1, h1, b1⟩))
  go_ret
  exact ⟨A1, c1, rfl, own_le o1 BW.out.size, h1, below_in BW.out b1 (Nat.le_refl _)⟩
end Go.Proofs.Ytoaeadjihpbhgaa
