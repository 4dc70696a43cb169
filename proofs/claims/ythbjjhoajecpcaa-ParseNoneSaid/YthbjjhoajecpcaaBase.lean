/-
  Words for memory that the walks of this seat use: a slice that reads as a list of cells (nil let in), append of such a slice onto a row of the call's own, small facts on lists and worlds. No condition.
-/
import Derived.WalkKit
import Derived.Below
import Derived.Laws.OwnMore
import Derived.Deep.AppendLies
import Derived.Deep.Draws
import Derived.Maps.AppendAt
import Derived.RegionTactic
import Derived.OwnWalk
import Derived.Deep.QuietTactic
import Derived.Deep.OwnRows
import Derived.Deep.Slices
import Derived.Deep.Fields
import Derived.Deep.RegionHeld3
import Derived.Deep.CutRange
import Derived.Deep.DeepCutAuto
import Derived.StillTailTactics
import Derived.ChangeSame
import Derived.BigQuiet
import Derived.Laws.Rows
import Derived.WalkLawsBesides
import Derived.WalkSpells
import Derived.Lib.Hide
import Derived.ProofKit
import Derived.BigGuardPart
import Derived.Deep.LoopGhost
import Derived.Deep.DeepMust
import Derived.Deep.DeepFit
namespace Go.Proofs.Ythbjjhoajecpcaa
open Go.RowKit

/-! ### lists -/
theorem len_flat {α β : Type} {E : α → List β} {s : Nat} (hE : ∀ x, (E x).length = s) : ∀ l : List α, (l.flatMap E).length = l.length * s
  | [] => by simp
  | x :: l => by rw [List.flatMap_cons, List.length_append, hE, len_flat hE l, List.length_cons, Nat.succ_mul, Nat.add_comm]
theorem flat_at {α β : Type} {E : α → List β} {s : Nat} (hE : ∀ x, (E x).length = s) : ∀ (l : List α) (k : Nat) (x : α) (i : Nat), l[k]? = some x → i < s → (l.flatMap E)[k * s + i]? = (E x)[i]?
  | [], k, x, i, h, _ => by simp at h
  | y :: l, 0, x, i, h, hi => by
    simp only [List.getElem?_cons_zero, Option.some.injEq] at h
    subst h
    rw [List.flatMap_cons, List.getElem?_append_left (by rw [hE]; omega)]
    simp
  | y :: l, k + 1, x, i, h, hi => by
    simp only [List.getElem?_cons_succ] at h
    have e : (k + 1) * s + i = s + (k * s + i) := by rw [Nat.succ_mul]; omega
    rw [List.flatMap_cons, List.getElem?_append_right (by rw [hE]; omega), hE, e, Nat.add_sub_cancel_left]
    exact flat_at hE l k x i h hi
theorem take_succ_same {α : Type} {xs ys : List α} {k : Nat} {x : α} (h : xs.take k = ys.take k) (hx : xs[k]? = some x) (hy : ys[k]? = some x) : xs.take (k + 1) = ys.take (k + 1) := by
  rw [List.take_add_one, List.take_add_one, h, hx, hy]
theorem take_snoc {α : Type} {xs : List α} {k : Nat} {x : α} (hx : xs[k]? = some x) : xs.take (k + 1) = xs.take k ++ [x] := by
  rw [List.take_add_one, hx]; rfl
theorem flat_take_snoc {α β : Type} {f : α → List β} {l : List α} {k : Nat} {x : α} (hx : l[k]? = some x) : (l.take (k + 1)).flatMap f = (l.take k).flatMap f ++ f x := by
  rw [take_snoc hx, List.flatMap_append]; simp
theorem any_take_snoc {α : Type} {f : α → Bool} {l : List α} {k : Nat} {x : α} (hx : l[k]? = some x) : (l.take (k + 1)).any f = ((l.take k).any f || f x) := by
  rw [take_snoc hx, List.any_append]; simp
theorem map_take_snoc {α β : Type} {f : α → β} {l : List α} {k : Nat} {x : α} (hx : l[k]? = some x) : (l.take (k + 1)).map f = (l.take k).map f ++ [f x] := by
  rw [take_snoc hx, List.map_append]; rfl
theorem ne_of_at {α : Type} [BEq α] [LawfulBEq α] {xs ys : List α} {k : Nat} {x y : α} (hx : xs[k]? = some x) (hy : ys[k]? = some y) (h : (x == y) = false) : (xs == ys) = false := by
  rw [beq_eq_false_iff_ne]
  rintro rfl
  rw [hx] at hy
  injection hy with hy
  subst hy
  simp at h
theorem ne_of_len {α : Type} [BEq α] [LawfulBEq α] {xs ys : List α} (h : xs.length ≠ ys.length) : (xs == ys) = false := by
  rw [beq_eq_false_iff_ne]
  rintro rfl
  exact h rfl
theorem eq_of_takes {α : Type} [BEq α] [LawfulBEq α] {xs ys : List α} {k : Nat} (h : xs.take k = ys.take k) (hx : xs.length ≤ k) (hy : ys.length ≤ k) : (xs == ys) = true := by
  rw [List.take_of_length_le hx, List.take_of_length_le hy] at h
  subst h
  simp
theorem ret_bool {a b : Bool} (h : a = b) : Ending.returned (.bool a) = .returned (.bool b) := by rw [h]
theorem ret_int {k : IntKind} {a b : Int} (h : a = b) : Ending.returned (.int k a) = .returned (.int k b) := by rw [h]

theorem bool_dec {b : Bool} {p : Prop} [Decidable p] (h : b = true ↔ p) : Value.bool b = .bool (decide p) := by
  congr 1
  rw [Bool.eq_iff_iff, h, decide_eq_true_iff]
theorem ret2_vi {v : Value} {k : IntKind} {a b : Int} (h : a = b) : Ending.returned (.tuple #[v, .int k a]) = .returned (.tuple #[v, .int k b]) := by rw [h]
theorem ret2_ii {k k' : IntKind} {a b c d : Int} (h : a = b) (h' : c = d) : Ending.returned (.tuple #[.int k a, .int k' c]) = .returned (.tuple #[.int k b, .int k' d]) := by rw [h, h']
theorem ret2_ib {k : IntKind} {a b : Int} {c d : Bool} (h : a = b) (h' : c = d) : Ending.returned (.tuple #[.int k a, .bool c]) = .returned (.tuple #[.int k b, .bool d]) := by rw [h, h']

/-! ### a slice that reads as a list of cells -/
/-- The slice value with address A and n elements of 'size' cells each reads, in w, as the cells xs, all below block B. -/
def Rd (w : World) (B size : Nat) (A : Option Addr) (n : Nat) (xs : List Value) : Prop :=
  xs.length = n * size ∧ (0 < n → ∃ b off, A = some ⟨b, off, none⟩ ∧ b < B ∧ ∀ j u, xs[j]? = some u → w.cell? ⟨b, off + j, none⟩ = some u)

section
variable {w w' : World} {B B' size n : Nat} {A : Option Addr} {xs : List Value}
theorem Rd.nil : Rd w B size A 0 [] := ⟨by simp, fun h => absurd h (by omega)⟩
theorem Rd.keep (h : Rd w B size A n xs) (hk : ∀ p : Addr, p.block < B → w'.cell? p = w.cell? p) : Rd w' B size A n xs :=
  ⟨h.1, fun hn => by
    obtain ⟨b, off, e, hb, hc⟩ := h.2 hn
    exact ⟨b, off, e, hb, fun j u hu => (hk _ hb).trans (hc j u hu)⟩⟩
theorem Rd.more (h : Rd w B size A n xs) (hB : B ≤ B') : Rd w B' size A n xs :=
  ⟨h.1, fun hn => by
    obtain ⟨b, off, e, hb, hc⟩ := h.2 hn
    exact ⟨b, off, e, by omega, hc⟩⟩
theorem Rd.below (h : Rd w B size A n xs) (hb : Below B w w') : Rd w' B size A n xs := h.keep fun _ hp => hb.cell hp
theorem Rd.drew (h : Rd w B size A n xs) : Rd w.drew B size A n xs := h
theorem Rd.drewN (h : Rd w B size A n xs) (k : Nat) : Rd (w.drewN k) B size A n xs := h
theorem Rd.alloc (h : Rd w B size A n xs) (hB : B ≤ w.heap.size) (o : Obj) : Rd (w.alloc o) B size A n xs :=
  h.keep fun p hp => World.cell?_alloc_lt w o p (by omega)
theorem Rd.setCell (h : Rd w B size A n xs) {p : Addr} (hB : B ≤ p.block) (u : Value) : Rd (w.setCell p u) B size A n xs :=
  h.keep fun q hq => World.cell?_setCell_other w p q u (fun e => by subst e; omega)
theorem Rd.grown (h : Rd w B size A n xs) {row : Option Nat} (hg : w.grownBy w' row) (hB : B ≤ w.heap.size) (hr : ∀ g, row = some g → B ≤ g) : Rd w' B size A n xs :=
  h.keep fun p hp => World.cell?_of_block (hg.block p.block (by omega) (fun e => by have := hr _ e.symm; omega))
theorem Rd.cut (h : Rd w B size A n xs) {k cap : Nat} (hk : k ≤ n) (hc : n ≤ cap) :
    Rd w B size (if cap = k then A else A.map (·.add (k * size))) (n - k) (xs.drop (k * size)) := by
  refine ⟨by rw [List.length_drop, h.1, Nat.sub_mul], fun hn => ?_⟩
  obtain ⟨b, off, rfl, hb, hcell⟩ := h.2 (by omega)
  rw [if_neg (by omega)]
  refine ⟨b, off + k * size, by simp only [Option.map_some, Addr.add]; split <;> simp_all, hb, fun j u hu => ?_⟩
  rw [Nat.add_assoc]
  exact hcell _ u (by rw [← hu, List.getElem?_drop])
theorem Rd.front (h : Rd w B size A n xs) {k : Nat} (hk : k ≤ n) : Rd w B size A k (xs.take (k * size)) := by
  refine ⟨by rw [List.length_take, h.1]; exact Nat.min_eq_left (Nat.mul_le_mul_right _ hk), fun hn => ?_⟩
  obtain ⟨b, off, rfl, hb, hcell⟩ := h.2 (by omega)
  refine ⟨b, off, rfl, hb, fun j u hu => hcell j u ?_⟩
  rw [List.getElem?_take] at hu
  split at hu
  · exact hu
  · cases hu
theorem Rd.of_own {base : Nat} {e : TypeId} {c : Nat} (h : w.ownsRow base e size (.slice A n c) n xs) : Rd w w.heap.size size A n xs := by
  refine ⟨h.1, fun hn => ?_⟩
  obtain ⟨g, cap, hv, _, hlt⟩ := h.form hn
  have hA : A = some ⟨g, 0, none⟩ := by injection hv
  subst hA
  refine ⟨g, 0, rfl, hlt, fun j u hu => ?_⟩
  have hc := h.cells (g := g) rfl j u hu
  have e : (⟨g, 0, none⟩ : Addr).add j = ⟨g, 0 + j, none⟩ := by unfold Addr.add; split <;> simp_all
  rwa [e] at hc
/-- One cell an element. -/
theorem Rd.at1 {α : Type} {f : α → Value} {l : List α} (h : Rd w B 1 A n (l.map f)) {k : Nat} (hk : k < n) :
    ∃ b off x, A = some ⟨b, off, none⟩ ∧ b < B ∧ l[k]? = some x ∧ w.cell? ⟨b, off + k, none⟩ = some (f x) := by
  obtain ⟨b, off, e, hb, hc⟩ := h.2 (by omega)
  have hl : k < l.length := by have := h.1; rw [List.length_map] at this; omega
  exact ⟨b, off, l[k], e, hb, List.getElem?_eq_getElem hl, hc k _ (by rw [List.getElem?_map, List.getElem?_eq_getElem hl]; rfl)⟩
/-- Several cells an element. -/
theorem Rd.row {α : Type} {E : α → List Value} {l : List α} (hE : ∀ x, (E x).length = size) (hs : 0 < size) (h : Rd w B size A n (l.flatMap E)) {k : Nat} (hk : k < n) :
    ∃ b off x, A = some ⟨b, off, none⟩ ∧ b < B ∧ l[k]? = some x ∧ ∀ i u, (E x)[i]? = some u → w.cell? ⟨b, off + (k * size + i), none⟩ = some u := by
  obtain ⟨b, off, e, hb, hc⟩ := h.2 (by omega)
  have hl : k < l.length := by
    have := h.1
    rw [len_flat hE] at this
    have := Nat.eq_of_mul_eq_mul_right hs this
    omega
  refine ⟨b, off, l[k], e, hb, List.getElem?_eq_getElem hl, fun i u hu => hc _ u ?_⟩
  have hi : i < size := by
    have := (List.getElem?_eq_some_iff.1 hu).1
    rwa [hE] at this
  rw [flat_at hE l k l[k] i (List.getElem?_eq_getElem hl) hi, hu]
theorem Rd.len1 {α : Type} {f : α → Value} {l : List α} (h : Rd w B 1 A n (l.map f)) : l.length = n := by have := h.1; rw [List.length_map] at this; omega
theorem Rd.len {α : Type} {E : α → List Value} {l : List α} (hE : ∀ x, (E x).length = size) (hs : 0 < size) (h : Rd w B size A n (l.flatMap E)) : l.length = n := by
  have := h.1
  rw [len_flat hE] at this
  exact Nat.eq_of_mul_eq_mul_right hs this
end

/-! ### append of what reads as a list, onto a row of the call's own -/
section
variable {P : Program} (w : World)

theorem run_append_nought (base : Nat) (t ty e : TypeId) (i : TypeInfo) (size : Nat) (ht : P.underlying t = some (.slice e)) (hi : P.info? e = some i)
    (v : Value) (n : Nat) (xs : List Value) (hown : w.ownsRow base e size v n xs) (c : Nat) : (Builtin.append_ #[t, t] ty #[v, .slice none 0 c]).run P w = .ok v w := by
  rcases hown.2 with ⟨rfl, rfl⟩ | ⟨g, cap, cur, rfl, _, _, hnc, _⟩
  · simp [Builtin.append_, run_underlying ht, sizeOf, typeInfo, hi, Builtin.lenOf, Builtin.firstCells]
  · simp [Builtin.append_, run_underlying ht, sizeOf, typeInfo, hi, Builtin.lenOf, Builtin.firstCells, hnc, storeCells]

theorem run_append_rd (base : Nat) (t ty e : TypeId) (i : TypeInfo) (z : Value) (size bytes : Nat) (ht : P.underlying t = some (.slice e)) (hi : P.info? e = some i) (hz : i.zero = some z)
    (hsize : i.size = size) (hby : i.bytes = bytes) (hzs : z.cells.size = size) (hsz : 0 < size)
    (v : Value) (n : Nat) (xs : List Value) (hown : w.ownsRow base e size v n xs)
    (B : Nat) (A : Option Addr) (m c : Nat) (news : List Value) (hr : Rd w B size A m news) (h1 : ∀ u ∈ news, u.oneCell' = true)
    (h63 : n + m ≤ maxLen) (hbytes : (n + m) * bytes ≤ 140737488355328) (hbase : base ≤ w.heap.size) :
    ∃ v' w', (Builtin.append_ #[t, t] ty #[v, .slice A m c]).run P w = .ok v' w' ∧ w'.ownsRow base e size v' (n + m) (xs ++ news) ∧ w.grownBy w' v.ownBlock ∧
      (v'.ownBlock = v.ownBlock ∨ v'.ownBlock = some w.heap.size) := by
  have h0 : m = 0 → news = [] := fun h => List.eq_nil_of_length_eq_zero (by rw [hr.1, h, Nat.zero_mul])
  rcases A with _ | ad
  · have hm : m = 0 := by
      rcases Nat.eq_zero_or_pos m with h | h
      · exact h
      · obtain ⟨b, off, h, _⟩ := hr.2 h
        cases h
    have hn := h0 hm
    subst hm hn
    exact ⟨v, w, run_append_nought w base t ty e i size ht hi v n xs hown c, by simpa using hown, World.grownBy.refl w _, .inl rfl⟩
  · have hcells : ∀ j u, news[j]? = some u → w.cell? (ad.add j) = some u := by
      intro j u hu
      rcases Nat.eq_zero_or_pos m with h | h
      · rw [h0 h] at hu
        cases hu
      · obtain ⟨b, off, h, _, hc⟩ := hr.2 h
        injection h with h
        subst h
        have e : (⟨b, off, none⟩ : Addr).add j = ⟨b, off + j, none⟩ := by unfold Addr.add; split <;> simp_all
        rw [e]
        exact hc j u hu
    obtain ⟨v', w', hrun, h2, h3, _, h5⟩ := run_append_own_at (P := P) w base t ty e i z size bytes ht hi hz hsize hby hzs hsz v n xs hown ad m c news hr.1 hcells h1 h63 hbytes hbase
    exact ⟨v', w', hrun, h2, h3, h5⟩

theorem wp_append_rd {o : Oper} {a : Act} {K : Act → World → Prop} {Q : Exit → Act → World → Prop} (s x : Operand) (t : TypeId)
    (ho : o.op = .call { callee := .builtin .append, args := #[s, x], argTypes := #[t, t] })
    (base : Nat) (e : TypeId) (i : TypeInfo) (z : Value) (size bytes : Nat) (ht : P.underlying t = some (.slice e)) (hi : P.info? e = some i) (hz : i.zero = some z)
    (hsize : i.size = size) (hby : i.bytes = bytes) (hzs : z.cells.size = size) (hsz : 0 < size)
    (v : Value) (n : Nat) (xs : List Value) (hs : a.eval s = v) (hown : w.ownsRow base e size v n xs)
    (B : Nat) (A : Option Addr) (m c : Nat) (news : List Value) (hx : a.eval x = .slice A m c) (hr : Rd w B size A m news) (h1 : ∀ u ∈ news, u.oneCell' = true)
    (h63 : n + m ≤ maxLen) (hbytes : (n + m) * bytes ≤ 140737488355328) (hbase : base ≤ w.heap.size)
    (h : ∀ v' w', w'.ownsRow base e size v' (n + m) (xs ++ news) → w.grownBy w' v.ownBlock → (v'.ownBlock = v.ownBlock ∨ v'.ownBlock = some w.heap.size) → K (a.put o.dst v') w') : o.wp P a w K Q := by
  obtain ⟨v', w', hrun, h2, h3, h4⟩ := run_append_rd (P := P) w base t o.type e i z size bytes ht hi hz hsize hby hzs hsz v n xs hown B A m c news hr h1 h63 hbytes hbase
  unfold Oper.wp execOp
  simp only [ho, resolve, invoke, builtin, Sem.run_bind, Sem.run_pure, Result.andThen_ok, List.map_toArray, List.map_cons, List.map_nil, hs, hx, hrun]
  exact h v' w' h2 h3 h4

theorem wpList_append_rd {ops : Array Oper} {rest : List Oper} {o : Oper} {a : Act} {Q : Exit → Act → World → Prop} (hgd : o.guard = none) (s x : Operand) (t : TypeId)
    (ho : o.op = .call { callee := .builtin .append, args := #[s, x], argTypes := #[t, t] })
    (base : Nat) (e : TypeId) (i : TypeInfo) (z : Value) (size bytes : Nat) (ht : P.underlying t = some (.slice e)) (hi : P.info? e = some i) (hz : i.zero = some z)
    (hsize : i.size = size) (hby : i.bytes = bytes) (hzs : z.cells.size = size) (hsz : 0 < size)
    (v : Value) (n : Nat) (xs : List Value) (hs : a.eval s = v) (hown : w.ownsRow base e size v n xs)
    (B : Nat) (A : Option Addr) (m c : Nat) (news : List Value) (hx : a.eval x = .slice A m c) (hr : Rd w B size A m news) (h1 : ∀ u ∈ news, u.oneCell' = true)
    (h63 : n + m ≤ maxLen) (hbytes : (n + m) * bytes ≤ 140737488355328) (hbase : base ≤ w.heap.size)
    (h : ∀ v' w', w'.ownsRow base e size v' (n + m) (xs ++ news) → w.grownBy w' v.ownBlock → (v'.ownBlock = v.ownBlock ∨ v'.ownBlock = some w.heap.size) → wpList P ops Q rest (a.put o.dst v') w') : wpList P ops Q (o :: rest) a w :=
  wpList_plain hgd fun _ hK => wp_append_rd w s x t ho base e i z size bytes ht hi hz hsize hby hzs hsz v n xs hs hown B A m c news hx hr h1 h63 hbytes hbase fun v' w' h2 h3 h4 => hK _ _ (h v' w' h2 h3 h4)

theorem step_append_rd {ops : Array Oper} {o : Oper} {a : Act} {K : Act → World → Prop} {Q : Exit → Act → World → Prop} {E : Prop} (hgd : o.guard = none) (s x : Operand) (t : TypeId)
    (ho : o.op = .call { callee := .builtin .append, args := #[s, x], argTypes := #[t, t] })
    (base : Nat) (e : TypeId) (i : TypeInfo) (z : Value) (size bytes : Nat) (ht : P.underlying t = some (.slice e)) (hi : P.info? e = some i) (hz : i.zero = some z)
    (hsize : i.size = size) (hby : i.bytes = bytes) (hzs : z.cells.size = size) (hsz : 0 < size)
    (v : Value) (n : Nat) (xs : List Value) (hs : a.eval s = v) (hown : w.ownsRow base e size v n xs)
    (B : Nat) (A : Option Addr) (m c : Nat) (news : List Value) (hx : a.eval x = .slice A m c) (hr : Rd w B size A m news) (h1 : ∀ u ∈ news, u.oneCell' = true)
    (h63 : n + m ≤ maxLen) (hbytes : (n + m) * bytes ≤ 140737488355328) (hbase : base ≤ w.heap.size)
    (h : ∀ v' w', w'.ownsRow base e size v' (n + m) (xs ++ news) → w.grownBy w' v.ownBlock → (v'.ownBlock = v.ownBlock ∨ v'.ownBlock = some w.heap.size) → K (a.put o.dst v') w') :
    if Region.wanted o (yielded ops a.tmps) = true then Oper.wp P o a w K Q else E := by
  have hw : Region.wanted o (yielded ops a.tmps) = true := by simp [Region.wanted, hgd]
  rw [if_pos hw]
  exact wp_append_rd w s x t ho base e i z size bytes ht hi hz hsize hby hzs hsz v n xs hs hown B A m c news hx hr h1 h63 hbytes hbase h
end

/-- Behind such an append: below the base nothing has turned. -/
theorem below_appended {B : Nat} {a w w' : World} {v : Value} {e : TypeId} {size n : Nat} {xs : List Value} (h : Below B a w) (hown : w.ownsRow B e size v n xs) (hg : w.grownBy w' v.ownBlock) (hB : B ≤ w.heap.size) : Below B a w' :=
  h.grown hg hB fun k hk => (hown.lt k hk).1
theorem drewN_below (w : World) (n : Nat) {B : Nat} : Below B w (w.drewN n) := ⟨rfl, rfl, rfl, Nat.le_refl _, fun _ _ => rfl⟩
theorem below_drewN' {B : Nat} {a w : World} (h : Below B a w) (n : Nat) : Below B a (w.drewN n) := ⟨h.os, h.tape, h.output, h.size, h.block⟩
theorem drewN_same (w : World) (a b : Nat) : ∃ m, (w.drewN a).drewN b = w.drewN m := ⟨_, World.drewN_drewN _ _ _⟩
theorem hide {p : Prop} (h : p) : Hid p := h

/-! ### operations as equations for every world: laid ahead of a walk, with names for what they yield -/
theorem max2_ (P : Program) (ts : Array TypeId) (t : TypeId) {k : IntKind} {x y z : Int} (h : z = max x y) (w : World) : (Builtin.max_ ts t #[.int k x, .int k y]).run P w = .ok (.int k z) w := by
  rw [run_max_int2, h]
  congr 2
  split <;> omega
theorem min2_ (P : Program) (ts : Array TypeId) (t : TypeId) {k : IntKind} {x y z : Int} (h : z = min x y) (w : World) : (Builtin.min_ ts t #[.int k x, .int k y]).run P w = .ok (.int k z) w := by
  rw [run_min_int2, h]
  congr 2
  split <;> omega
/-- Where a slice's cut begins. -/
def cutA (a : Option Addr) (cap l s : Nat) : Option Addr := if cap = l then a else a.map (·.add (l * s))
section
variable {P : Program} {t e : TypeId} {a : Option Addr} {len cap s : Nat} (ht : P.underlying t = some (.slice e)) (hi : (P.info? e).map (·.size) = some s)
include ht hi
theorem cut_lh {L H : Int} (l h : Nat) (eL : L = l) (eH : H = h) (h1 : l ≤ h) (h2 : h ≤ cap) (w : World) :
    (Instr.slice t (.slice a len cap) (some (.int .i64 L)) (some (.int .i64 H)) none).run P w = .ok (.slice (cutA a cap l s) (h - l) (cap - l)) w := by
  obtain ⟨i, hi', hs⟩ := Option.map_eq_some_iff.1 hi
  subst eL eH
  simp [Instr.slice, run_underlying ht, Instr.sliceBounds, run_sliceBound, sizeOf, typeInfo, hi', hs, cutA, h1, h2]
theorem cut_l {L : Int} (l : Nat) (eL : L = l) (h1 : l ≤ len) (w : World) :
    (Instr.slice t (.slice a len cap) (some (.int .i64 L)) none none).run P w = .ok (.slice (cutA a cap l s) (len - l) (cap - l)) w := by
  obtain ⟨i, hi', hs⟩ := Option.map_eq_some_iff.1 hi
  subst eL
  simp [Instr.slice, run_underlying ht, Instr.sliceBounds, run_sliceBound, sizeOf, typeInfo, hi', hs, cutA, h1]
theorem cut_h {H : Int} (h : Nat) (eH : H = h) (h2 : h ≤ cap) (w : World) :
    (Instr.slice t (.slice a len cap) none (some (.int .i64 H)) none).run P w = .ok (.slice (cutA a cap 0 s) h cap) w := by
  obtain ⟨i, hi', _⟩ := Option.map_eq_some_iff.1 hi
  subst eH
  simp [Instr.slice, run_underlying ht, Instr.sliceBounds, run_sliceBound, sizeOf, typeInfo, hi', cutA, h2]
end
theorem cutA_zero (a : Option Addr) (cap s : Nat) : cutA a cap 0 s = a := by
  unfold cutA
  split
  · rfl
  · cases a <;> simp [Addr.add]
theorem Rd.cutA {w : World} {B size n : Nat} {A : Option Addr} {xs : List Value} (h : Rd w B size A n xs) {k cap : Nat} (hk : k ≤ n) (hc : n ≤ cap) : Rd w B size (cutA A cap k size) (n - k) (xs.drop (k * size)) := h.cut hk hc
/-- A part: from l up to h. -/
theorem Rd.part {w : World} {B size n : Nat} {A : Option Addr} {xs : List Value} (h : Rd w B size A n xs) {k m cap : Nat} (hk : k ≤ m) (hm : m ≤ n) (hc : n ≤ cap) :
    Rd w B size (Go.Proofs.Ythbjjhoajecpcaa.cutA A cap k size) (m - k) ((xs.drop (k * size)).take ((m - k) * size)) :=
  (h.cutA (by omega) hc).front (by omega)
theorem flat_drop {α β : Type} {E : α → List β} {s : Nat} (hE : ∀ x, (E x).length = s) : ∀ (l : List α) (k : Nat), (l.flatMap E).drop (k * s) = (l.drop k).flatMap E
  | l, 0 => by simp
  | [], k + 1 => by simp
  | x :: l, k + 1 => by
    rw [List.flatMap_cons, Nat.succ_mul, Nat.add_comm, ← List.drop_drop, List.drop_left' (hE x), flat_drop hE l k]; rfl
theorem flat_take {α β : Type} {E : α → List β} {s : Nat} (hE : ∀ x, (E x).length = s) : ∀ (l : List α) (k : Nat), (l.flatMap E).take (k * s) = (l.take k).flatMap E
  | l, 0 => by simp
  | [], k + 1 => by simp
  | x :: l, k + 1 => by
    rw [List.flatMap_cons, Nat.succ_mul, Nat.add_comm, List.take_add, List.take_left' (hE x), List.drop_left' (hE x), flat_take hE l k, List.take_succ_cons, List.flatMap_cons]

theorem drop_at {α : Type} {l : List α} {k : Nat} {x : α} (h : l[k]? = some x) : l.drop k = x :: l.drop (k + 1) := by
  obtain ⟨hk, rfl⟩ := List.getElem?_eq_some_iff.1 h
  exact List.drop_eq_getElem_cons hk

/-! ### a block that is known whole (a boxed variable, a made array) -/
/-- Block g is just the cells cs of element type t, none frozen. -/
def Blk (w : World) (g : Nat) (t : TypeId) (cs : Array Value) : Prop := w.heap[g]? = some (.cells cs t (0, 0))
/-- From w to w' only blocks of S, and new ones, have turned. -/
structure Frm (S : Nat → Prop) (w w' : World) : Prop where
  os : w'.os = w.os
  tape : w'.tape = w.tape
  output : w'.output = w.output
  size : w.heap.size ≤ w'.heap.size
  block : ∀ k, k < w.heap.size → ¬ S k → w'.heap[k]? = w.heap[k]?

section
variable {w w' : World} {g : Nat} {t : TypeId} {cs : Array Value} {S S' : Nat → Prop}
theorem Blk.lt (h : Blk w g t cs) : g < w.heap.size := by
  rcases Nat.lt_or_ge g w.heap.size with hlt | hge
  · exact hlt
  · unfold Blk at h; rw [Array.getElem?_eq_none hge] at h; cases h
theorem Blk.cell (h : Blk w g t cs) (i : Nat) : w.cell? ⟨g, i, none⟩ = cs[i]? := cell_of_row w g i cs t (0, 0) h
theorem Blk.frozen (h : Blk w g t cs) (i : Nat) : w.frozen? ⟨g, i, none⟩ = false := by
  unfold Blk at h
  simp [World.frozen?, h]
theorem Blk.new (w : World) (t : TypeId) (cs : Array Value) : Blk (w.alloc (.cells cs t)) w.heap.size t cs := heap_alloc_new w _
theorem Blk.new' {w : World} {g : Nat} (hg : g = w.heap.size) (t : TypeId) (cs : Array Value) : Blk (w.alloc (.cells cs t)) g t cs := hg ▸ Blk.new w t cs
theorem Blk.drew (h : Blk w g t cs) : Blk w.drew g t cs := h
theorem Blk.drewN (h : Blk w g t cs) (n : Nat) : Blk (w.drewN n) g t cs := h
theorem Blk.alloc (h : Blk w g t cs) (o : Obj) : Blk (w.alloc o) g t cs := (Below.heap_alloc w o g h.lt).trans h
theorem Blk.set_ (h : Blk w g t cs) (i : Nat) (u : Value) : Blk (w.setCell ⟨g, i, none⟩ u) g t (cs.setIfInBounds i u) := by
  unfold Blk at h ⊢
  simp [World.setCell, Array.getElem?_modify, h]
theorem Blk.far (h : Blk w g t cs) {p : Addr} (hp : g ≠ p.block) (u : Value) : Blk (w.setCell p u) g t cs := (Below.heap_setCell w p u g hp).trans h
theorem Blk.below {B : Nat} (h : Blk w g t cs) (hb : Below B w w') (hg : g < B) : Blk w' g t cs := (hb.block g hg).trans h
theorem Blk.grown {row : Option Nat} (h : Blk w g t cs) (hb : w.grownBy w' row) (hg : some g ≠ row) : Blk w' g t cs := (hb.block g h.lt hg).trans h
theorem Blk.frm (h : Blk w g t cs) (hb : Frm S w w') (hg : ¬ S g) : Blk w' g t cs := (hb.block g h.lt hg).trans h
theorem Blk.ne_ {g' : Nat} {t' : TypeId} {cs' : Array Value} (h : Blk w g t cs) (h' : Blk w g' t' cs') (hne : t ≠ t') : g ≠ g' := by
  rintro rfl
  unfold Blk at h h'
  rw [h] at h'
  injection h' with h'
  injection h' with _ ht
  exact hne ht
/-- Rows of different element types lie apart. -/
theorem own_ne {base : Nat} {e : TypeId} {size n : Nat} {v : Value} {xs : List Value} (h : w.ownsRow base e size v n xs) (hg : Blk w g t cs) (hne : e ≠ t) : some g ≠ v.ownBlock := by
  rcases h.2 with ⟨rfl, _⟩ | ⟨g', cap, cur, rfl, _, hh, _⟩
  · simp [Value.ownBlock]
  · intro he
    have : g = g' := by simpa [Value.ownBlock] using he
    subst this
    exact Blk.ne_ (t := e) hh hg hne rfl
theorem own_new {base : Nat} {e : TypeId} {size n : Nat} {v : Value} {xs : List Value} (h : w.ownsRow base e size v n xs) (hg : w.heap.size ≤ g) : some g ≠ v.ownBlock := by
  intro he
  have := (h.lt g he.symm).2
  omega
theorem own_ne' {base base' : Nat} {e e' : TypeId} {size size' n n' : Nat} {v v' : Value} {xs xs' : List Value} (h : w.ownsRow base e size v n xs) (h' : w.ownsRow base' e' size' v' n' xs') (hne : e ≠ e') : v.ownBlock = none ∨ v.ownBlock ≠ v'.ownBlock := by
  rcases h.2 with ⟨rfl, _⟩ | ⟨g, cap, cur, rfl, _, hh, _⟩
  · exact .inl rfl
  · right
    intro he
    exact own_ne h' (g := g) (t := e) (cs := cur) hh (Ne.symm hne) (by simpa [Value.ownBlock] using he)

theorem Frm.refl (S : Nat → Prop) (w : World) : Frm S w w := ⟨rfl, rfl, rfl, Nat.le_refl _, fun _ _ _ => rfl⟩
theorem Frm.trans {a b c : World} (h : Frm S a b) (k : Frm S' b c) (hS : ∀ i, i < a.heap.size → S' i → S i) : Frm S a c :=
  ⟨k.os.trans h.os, k.tape.trans h.tape, k.output.trans h.output, Nat.le_trans h.size k.size, fun i hi hn => (k.block i (Nat.lt_of_lt_of_le hi h.size) (fun hs => hn (hS i hi hs))).trans (h.block i hi hn)⟩
theorem Frm.mono (h : Frm S w w') (hS : ∀ i, i < w.heap.size → S i → S' i) : Frm S' w w' := ⟨h.os, h.tape, h.output, h.size, fun i hi hn => h.block i hi (fun hs => hn (hS i hi hs))⟩
theorem Frm.drew (h : Frm S w w') : Frm S w w'.drew := ⟨h.os, h.tape, h.output, h.size, h.block⟩
theorem Frm.drewN (h : Frm S w w') (n : Nat) : Frm S w (w'.drewN n) := ⟨h.os, h.tape, h.output, h.size, h.block⟩
theorem Frm.alloc (h : Frm S w w') (o : Obj) : Frm S w (w'.alloc o) :=
  ⟨h.os, h.tape, h.output, Nat.le_trans h.size (by simp), fun i hi hn => (Below.heap_alloc w' o i (Nat.lt_of_lt_of_le hi h.size)).trans (h.block i hi hn)⟩
theorem Frm.setCell (h : Frm S w w') {p : Addr} (hp : p.block < w.heap.size → S p.block) (u : Value) : Frm S w (w'.setCell p u) :=
  ⟨h.os, h.tape, h.output, by simpa [World.setCell] using h.size, fun i hi hn => (Below.heap_setCell w' p u i (fun e => hn (e ▸ hp (e ▸ hi)))).trans (h.block i hi hn)⟩
theorem Frm.grown {w2 : World} (h : Frm S w w') {row : Option Nat} (hg : w'.grownBy w2 row) (hr : ∀ k, row = some k → k < w.heap.size → S k) : Frm S w w2 :=
  ⟨hg.os.trans h.os, hg.tape.trans h.tape, hg.output.trans h.output, Nat.le_trans h.size hg.size, fun i hi hn => (hg.block i (Nat.lt_of_lt_of_le hi h.size) (fun e => hn (hr i e.symm hi))).trans (h.block i hi hn)⟩
theorem Frm.to_below (h : Frm S w w') {B : Nat} (hB : B ≤ w.heap.size) (hS : ∀ i, S i → B ≤ i) : Below B w w' :=
  ⟨h.os, h.tape, h.output, h.size, fun i hi => h.block i (by omega) (fun hs => by have := hS i hs; omega)⟩
theorem Frm.of_below {B : Nat} (h : Below B w w') (hS : ∀ i, i < w.heap.size → B ≤ i → S i) : Frm S w w' :=
  ⟨h.os, h.tape, h.output, h.size, fun i hi hn => h.block i (by rcases Nat.lt_or_ge i B with h | h; exact h; exact absurd (hS i hi h) hn)⟩
theorem own_frm {base : Nat} {e : TypeId} {size n : Nat} {v : Value} {xs : List Value} (h : w.ownsRow base e size v n xs) (hf : Frm S w w') (hn : ∀ k, v.ownBlock = some k → ¬ S k) : w'.ownsRow base e size v n xs := by
  refine ⟨h.1, ?_⟩
  rcases h.2 with h2 | ⟨g, cap, cur, rfl, hb, hg, rest⟩
  · exact .inl h2
  · exact .inr ⟨g, cap, cur, rfl, hb, (hf.block g (Array.getElem?_eq_some_iff.1 hg).1 (hn g rfl)).trans hg, rest⟩
end
theorem own_far {w : World} {base : Nat} {e : TypeId} {size n : Nat} {v : Value} {xs : List Value} (h : w.ownsRow base e size v n xs) {p : Addr} (hp : some p.block ≠ v.ownBlock) (u : Value) : (w.setCell p u).ownsRow base e size v n xs := by
  refine ⟨h.1, ?_⟩
  rcases h.2 with h2 | ⟨g, cap, cur, rfl, hb, hg, rest⟩
  · exact .inl h2
  · exact .inr ⟨g, cap, cur, rfl, hb, (Below.heap_setCell w p u g (fun e => hp (by simp [Value.ownBlock, e]))).trans hg, rest⟩
/-- Elements just laid. -/
theorem rd_news {w : World} {e : TypeId} {cs : Array Value} {n s : Nat} (hs : cs.size = n * s) : Rd (w.alloc (.cells cs e)) (w.heap.size + 1) s (some ⟨w.heap.size, 0, none⟩) n cs.toList := by
  refine ⟨by simp [hs], fun _ => ⟨_, _, rfl, by omega, fun j u hu => ?_⟩⟩
  rw [World.cell?_alloc_new]
  simpa using hu
/-- One element of s cells, just laid. -/
theorem rd_new {w : World} {e : TypeId} {cs : Array Value} {s : Nat} (hs : cs.size = s) : Rd (w.alloc (.cells cs e)) (w.heap.size + 1) s (some ⟨w.heap.size, 0, none⟩) 1 cs.toList := by
  refine ⟨by simp [hs], fun _ => ⟨_, _, rfl, by omega, fun j u hu => ?_⟩⟩
  rw [World.cell?_alloc_new]
  simpa using hu

/-! ### the slice types of a dump, each told once; append of one element, of some -/
/-- Type t is the slices of elements e, of 'size' cells and 'bytes' bytes each. -/
def SliceOf (P : Program) (t e : TypeId) (size bytes : Nat) : Prop :=
  ∃ i z, P.underlying t = some (.slice e) ∧ P.info? e = some i ∧ i.zero = some z ∧ i.size = size ∧ i.bytes = bytes ∧ z.cells.size = size ∧ 0 < size
theorem SliceOf.mk {P : Program} {t e : TypeId} {size bytes : Nat} {z : Value} (ht : P.underlying t = some (.slice e)) (h : (P.info? e).map (fun i => (i.zero, i.size, i.bytes)) = some (some z, size, bytes)) (hz : z.cells.size = size) (hs : 0 < size) : SliceOf P t e size bytes := by
  obtain ⟨i, hi, h1, h2, h3⟩ := info_parts h
  exact ⟨i, z, ht, hi, h1, h2, h3, hz, hs⟩

theorem own_slice {w : World} {base : Nat} {e : TypeId} {size n : Nat} {v : Value} {xs : List Value} (h : w.ownsRow base e size v n xs) : ∃ A c, v = .slice A n c := by
  rcases h.2 with ⟨rfl, rfl⟩ | ⟨g, cap, cur, rfl, _⟩
  · exact ⟨_, _, rfl⟩
  · exact ⟨_, _, rfl⟩
theorem own_len {w : World} {base : Nat} {e : TypeId} {size n : Nat} {v : Value} {α : Type} {E : α → List Value} {l : List α} (hE : ∀ x, (E x).length = size) (hs : 0 < size) (h : w.ownsRow base e size v n (l.flatMap E)) : n = l.length := by
  have := h.1
  rw [len_flat hE] at this
  exact (Nat.eq_of_mul_eq_mul_right hs this).symm
theorem own_len1 {w : World} {base : Nat} {e : TypeId} {n : Nat} {v : Value} {α : Type} {f : α → Value} {l : List α} (h : w.ownsRow base e 1 v n (l.map f)) : n = l.length := by
  have := h.1
  rw [List.length_map] at this
  omega
/-- What an append leaves: the new value v' owns the row, in w'; all else but the old row is as it was. -/
structure App (w : World) (base : Nat) (e : TypeId) (size : Nat) (v v' : Value) (n : Nat) (xs : List Value) (w' : World) : Prop where
  own : w'.ownsRow base e size v' n xs
  grown : w.grownBy w' v.ownBlock
  at_ : v'.ownBlock = v.ownBlock ∨ ∃ g, v'.ownBlock = some g ∧ w.heap.size ≤ g
section
variable {P : Program} {t e : TypeId} {size bytes : Nat}
theorem wp_append1 (hS : SliceOf P t e size bytes) {o : Oper} {a : Act} {K : Act → World → Prop} {Q : Exit → Act → World → Prop} (s x : Operand)
    (ho : o.op = .call { callee := .builtin .append, args := #[s, x], argTypes := #[t, t] }) (base : Nat) (v : Value) (n : Nat) (xs : List Value) (cs : Array Value) (w : World) (c : Nat) {g : Nat}
    (hs : a.eval s = v) (hx : a.eval x = .slice (some ⟨g, 0, none⟩) 1 c) (hg : g = w.heap.size) (hown : w.ownsRow base e size v n xs) (hcs : cs.size = size) (h1 : ∀ u ∈ cs.toList, u.oneCell' = true)
    (hn : n + 1 ≤ maxLen) (hby : (n + 1) * bytes ≤ 140737488355328) (hbase : base ≤ w.heap.size)
    (h : ∀ A' c' w', App (w.alloc (.cells cs e)) base e size v (.slice A' (n + 1) c') (n + 1) (xs ++ cs.toList) w' → K (a.put o.dst (.slice A' (n + 1) c')) w') : o.wp P a (w.alloc (.cells cs e)) K Q := by
  subst hg
  obtain ⟨i, z, ht, hi, hz, h2, h3, h4, h5⟩ := hS
  refine wp_append_rd _ s x t ho base e i z size bytes ht hi hz h2 h3 h4 h5 v n xs hs (hown.alloc _) (w.heap.size + 1) _ 1 c cs.toList hx (rd_new hcs) h1 hn hby (by simp; omega) ?_
  intro v' w' q1 q2 q3
  obtain ⟨A', c', rfl⟩ := own_slice q1
  refine h A' c' w' ⟨q1, q2, ?_⟩
  rcases q3 with q3 | q3
  · exact .inl q3
  · exact .inr ⟨_, q3, Nat.le_refl _⟩
theorem wpList_append1 (hS : SliceOf P t e size bytes) {ops : Array Oper} {rest : List Oper} {o : Oper} {a : Act} {Q : Exit → Act → World → Prop} (hgd : o.guard = none) (s x : Operand)
    (ho : o.op = .call { callee := .builtin .append, args := #[s, x], argTypes := #[t, t] }) (base : Nat) (v : Value) (n : Nat) (xs : List Value) (cs : Array Value) (w : World) (c : Nat) {g : Nat}
    (hs : a.eval s = v) (hx : a.eval x = .slice (some ⟨g, 0, none⟩) 1 c) (hg : g = w.heap.size) (hown : w.ownsRow base e size v n xs) (hcs : cs.size = size) (h1 : ∀ u ∈ cs.toList, u.oneCell' = true)
    (hn : n + 1 ≤ maxLen) (hby : (n + 1) * bytes ≤ 140737488355328) (hbase : base ≤ w.heap.size)
    (h : ∀ A' c' w', App (w.alloc (.cells cs e)) base e size v (.slice A' (n + 1) c') (n + 1) (xs ++ cs.toList) w' → wpList P ops Q rest (a.put o.dst (.slice A' (n + 1) c')) w') : wpList P ops Q (o :: rest) a (w.alloc (.cells cs e)) :=
  wpList_plain hgd fun _ hK => wp_append1 hS s x ho base v n xs cs w c hs hx hg hown hcs h1 hn hby hbase fun A' c' w' h2 => hK _ _ (h A' c' w' h2)
/-- In a region that draws its order. -/
theorem step_append1 (hS : SliceOf P t e size bytes) {ops : Array Oper} {o : Oper} {a : Act} {K : Act → World → Prop} {Q : Exit → Act → World → Prop} {E : Prop} (hgd : o.guard = none) (s x : Operand)
    (ho : o.op = .call { callee := .builtin .append, args := #[s, x], argTypes := #[t, t] }) (base : Nat) (v : Value) (n : Nat) (xs : List Value) (cs : Array Value) (w : World) (c : Nat) {g : Nat}
    (hs : a.eval s = v) (hx : a.eval x = .slice (some ⟨g, 0, none⟩) 1 c) (hg : g = w.heap.size) (hown : w.ownsRow base e size v n xs) (hcs : cs.size = size) (h1 : ∀ u ∈ cs.toList, u.oneCell' = true)
    (hn : n + 1 ≤ maxLen) (hby : (n + 1) * bytes ≤ 140737488355328) (hbase : base ≤ w.heap.size)
    (h : ∀ A' c' w', App (w.alloc (.cells cs e)) base e size v (.slice A' (n + 1) c') (n + 1) (xs ++ cs.toList) w' → K (a.put o.dst (.slice A' (n + 1) c')) w') :
    if Region.wanted o (yielded ops a.tmps) = true then Oper.wp P o a ((w.alloc (.cells cs e)).drew) K Q else E := by
  have hw : Region.wanted o (yielded ops a.tmps) = true := by simp [Region.wanted, hgd]
  rw [if_pos hw]
  exact wp_append1 hS s x ho base v n xs cs w.drew c hs hx hg hown hcs h1 hn hby hbase fun A' c' w' q => h A' c' w' ⟨q.own, ⟨q.grown.os, q.grown.tape, q.grown.output, q.grown.size, q.grown.block⟩, q.at_⟩
theorem wpList_appends (hS : SliceOf P t e size bytes) {ops : Array Oper} {rest : List Oper} {o : Oper} {a : Act} {Q : Exit → Act → World → Prop} (hgd : o.guard = none) (s x : Operand)
    (ho : o.op = .call { callee := .builtin .append, args := #[s, x], argTypes := #[t, t] }) (base : Nat) (v : Value) (n : Nat) (xs : List Value) (w : World) (B : Nat) (A : Option Addr) (m c : Nat) (news : List Value)
    (hs : a.eval s = v) (hx : a.eval x = .slice A m c) (hown : w.ownsRow base e size v n xs) (hr : Rd w B size A m news) (h1 : ∀ u ∈ news, u.oneCell' = true)
    (hn : n + m ≤ maxLen) (hby : (n + m) * bytes ≤ 140737488355328) (hbase : base ≤ w.heap.size)
    (h : ∀ A' c' w', App w base e size v (.slice A' (n + m) c') (n + m) (xs ++ news) w' → wpList P ops Q rest (a.put o.dst (.slice A' (n + m) c')) w') : wpList P ops Q (o :: rest) a w := by
  obtain ⟨i, z, ht, hi, hz, h2, h3, h4, h5⟩ := hS
  refine wpList_append_rd w hgd s x t ho base e i z size bytes ht hi hz h2 h3 h4 h5 v n xs hs hown B A m c news hx hr h1 hn hby hbase ?_
  intro v' w' q1 q2 q3
  obtain ⟨A', c', rfl⟩ := own_slice q1
  refine h A' c' w' ⟨q1, q2, ?_⟩
  rcases q3 with q3 | q3
  · exact .inl q3
  · exact .inr ⟨_, q3, Nat.le_refl _⟩
end
section
variable {w w' : World} {base : Nat} {e : TypeId} {size n m : Nat} {v v' : Value} {xs ys : List Value}
/-- Below the base nothing has turned. -/
theorem App.below {B : Nat} {a : World} (h : App w base e size v v' n ys w') (hown : w.ownsRow base e size v m xs) (hb : Below B a w) (hB : B ≤ base) (hs : B ≤ w.heap.size) : Below B a w' :=
  hb.grown h.grown hs fun k hk => Nat.le_trans hB (hown.lt k hk).1
theorem App.blk {g : Nat} {t : TypeId} {cs : Array Value} (h : App w base e size v v' n ys w') (hg : Blk w g t cs) (hown : w.ownsRow base e size v m xs) (hne : e ≠ t) : Blk w' g t cs :=
  hg.grown h.grown (own_ne hown hg hne)
theorem App.frm {S : Nat → Prop} {a : World} (h : App w base e size v v' n ys w') (hf : Frm S a w) (hS : ∀ k, v.ownBlock = some k → k < a.heap.size → S k) : Frm S a w' := hf.grown h.grown hS
end

/-- A call that hands back a slice of its own (cells xs), and turns nothing that was there. -/
def RetSlice (e : TypeId) (s : Nat) (xs : List Value) (w : World) (en : Ending) (w' : World) : Prop :=
  ∃ A N c, en = .returned (.slice A N c) ∧ w'.ownsRow w.heap.size e s (.slice A N c) N xs ∧ Below w.heap.size w w'
theorem RetSlice.of {e : TypeId} {s : Nat} {xs : List Value} {w w' : World} {v : Value} {N : Nat} (h : w'.ownsRow w.heap.size e s v N xs) (hb : Below w.heap.size w w') : RetSlice e s xs w (.returned v) w' := by
  obtain ⟨A, c, rfl⟩ := own_slice h
  exact ⟨A, N, c, rfl, h, hb⟩

end Go.Proofs.Ythbjjhoajecpcaa
