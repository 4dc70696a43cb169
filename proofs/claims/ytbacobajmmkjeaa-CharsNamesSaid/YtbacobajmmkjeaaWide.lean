/-
  A wide aggregate (an array, a struct of many cells) stored whole into a block, loaded whole out of it, handed back whole: no cell is stepped through. No condition.
-/
import Derived.Test.YtbacobajmmkjeaaBase
import Derived.Laws.Tables
import Derived.Laws.CopyRow
namespace Go.Proofs.Ytbacobajmmkjeaa
open Go.RowKit
/-- A value that is one cell, by its looks. -/
def oneB : Value → Bool
  | .int _ _ => true
  | .bool _ => true
  | .string _ => true
  | .slice _ _ _ => true
  | .pointer _ => true
  | _ => false
theorem ones {cs : Array Value} (h : cs.toList.all oneB = true) : ∀ v ∈ cs.toList, v.oneCell' = true := by
  intro v hv
  have := List.all_eq_true.1 h v hv
  cases v <;> first | rfl | (simp [oneB] at this)
section
variable {P : Program}
theorem run_storeVar_whole {w : World} {g : Nat} {t ty : TypeId} {old cs : Array Value} (hb : Blk w g t old) (hs : old.size = cs.size) (hi : (P.info? ty).map (·.size) = some cs.size) (h1 : ∀ v ∈ cs.toList, v.oneCell' = true) :
    (storeVar ty ⟨g, 0, none⟩ (.agg cs)).run P w = .ok () (w.setRow g cs) := by
  have := run_storeCells_at P g 0 t cs.toList 0 old w hb (by simp; omega) h1
  have e : ((old.toList.take (0 + 0)) ++ cs.toList ++ old.toList.drop (0 + 0 + cs.toList.length)).toArray = cs := by
    rw [List.drop_of_length_le (by simp; omega)]; simp
  rw [e] at this
  cases hq : P.info? ty with
  | none => simp [hq] at hi
  | some i =>
    have hs : cs.size = i.size := by simp [hq] at hi; omega
    simp [storeVar, sizeOf, typeInfo, hq, Value.cells, hs, this]
theorem setRow_new (w : World) (t : TypeId) (z cs : Array Value) : (w.alloc (.cells z t)).setRow w.heap.size cs = w.alloc (.cells cs t) := by
  unfold World.setRow World.alloc
  congr 1
  apply Array.ext'
  simp [Array.toList_modify, List.modify_eq_take_cons_drop]
theorem setRow_blk {w : World} {g : Nat} {t : TypeId} {old cs : Array Value} (hb : Blk w g t old) : Blk (w.setRow g cs) g t cs := setRow_heap w g old cs t (0, 0) hb
theorem setRow_frm {w : World} {g : Nat} {cs : Array Value} : Frm (fun k => k = g) w (w.setRow g cs) :=
  ⟨rfl, rfl, rfl, by simp, fun k _ hk => setRow_other w g k cs hk⟩
theorem wp_store_whole {o : Oper} {a : Act} {w : World} {K : Act → World → Prop} {Q : Exit → Act → World → Prop} (ty : TypeId) (x y : Operand) (ho : o.op = .store ty x y)
    {g : Nat} {t : TypeId} {old : Array Value} (cs : Array Value) (hx : a.eval x = .pointer (some ⟨g, 0, none⟩)) (hy : a.eval y = .agg cs) (hb : Blk w g t old) (hs : old.size = cs.size) (hi : (P.info? ty).map (·.size) = some cs.size) (h1 : ∀ v ∈ cs.toList, v.oneCell' = true)
    (h : K (a.put o.dst undef) (w.setRow g cs)) : o.wp P a w K Q := by
  unfold Oper.wp execOp
  simp only [ho, hx, hy, Instr.storeAt, Instr.sureAddr, Sem.run_bind, Sem.run_pure, Result.andThen_ok, run_storeVar_whole hb hs hi h1]
  exact h
theorem wpList_store_whole {ops : Array Oper} {rest : List Oper} {o : Oper} {a : Act} {w : World} {Q : Exit → Act → World → Prop} (hgd : o.guard = none) (ty : TypeId) (x y : Operand) (ho : o.op = .store ty x y)
    {g : Nat} {t : TypeId} {old : Array Value} (cs : Array Value) (hx : a.eval x = .pointer (some ⟨g, 0, none⟩)) (hy : a.eval y = .agg cs) (hb : Blk w g t old) (hs : old.size = cs.size) (hi : (P.info? ty).map (·.size) = some cs.size) (h1 : ∀ v ∈ cs.toList, v.oneCell' = true)
    (h : wpList P ops Q rest (a.put o.dst undef) (w.setRow g cs)) : wpList P ops Q (o :: rest) a w :=
  wpList_plain hgd fun _ hK => wp_store_whole ty x y ho cs hx hy hb hs hi h1 (hK _ _ h)
/-- Into the newest block. -/
theorem wpList_store_new {ops : Array Oper} {rest : List Oper} {o : Oper} {a : Act} {w : World} {Q : Exit → Act → World → Prop} (hgd : o.guard = none) (ty : TypeId) (x y : Operand) (ho : o.op = .store ty x y)
    {g : Nat} {t : TypeId} {old : Array Value} (cs : Array Value) (hx : a.eval x = .pointer (some ⟨g, 0, none⟩)) (hg : g = w.heap.size) (hy : a.eval y = .agg cs) (hs : old.size = cs.size) (hi : (P.info? ty).map (·.size) = some cs.size) (h1 : ∀ v ∈ cs.toList, v.oneCell' = true)
    (h : wpList P ops Q rest (a.put o.dst undef) (w.alloc (.cells cs t))) : wpList P ops Q (o :: rest) a (w.alloc (.cells old t)) := by
  subst hg
  refine wpList_store_whole hgd ty x y ho cs hx hy (Blk.new w t old) hs hi h1 ?_
  rw [setRow_new]
  exact h
end
end Go.Proofs.Ytbacobajmmkjeaa
