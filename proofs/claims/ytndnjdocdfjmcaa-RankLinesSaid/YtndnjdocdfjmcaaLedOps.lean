/-
  Laws of a map of entries at the operations, for a walk: look-up, store, delete, len, range. No condition but bounds.
-/
import Derived.Test.YtndnjdocdfjmcaaLed
namespace Go.Proofs.Ytndnjdocdfjmcaa
open Go.RowKit Go.Proofs
open Go.Maps (Keyed)
set_option linter.unusedVariables false
section
variable {w : World} {ops : Array Oper} {rest : List Oper} {o : Oper} {a : Act} {Q : Exit → Act → World → Prop} {b : Nat} {M : List Ent}
theorem led_val {D : DataW Unit} (hM : MapIs D M) (t : ByteArray) {v : Value} {ps : List MemPlace} (h : entR v = some (D.atKey (keyL t) (entD zeroE), ps)) : v = entA ((lk M t).getD zeroE) := by
  obtain ⟨e, rfl, h2⟩ := entR_inv h
  injection h2 with h2 h3
  rw [hM.at_] at h2
  cases hl : lk M t with
  | none => rw [hl] at h2; rw [← entD_inj h2]; rfl
  | some x => rw [hl] at h2; rw [← entD_inj h2]; rfl
theorem led_look (h : LedM w b M) {t : ByteArray} (ht : t.size ≤ maxLen) : (Instr.lookup 60 (.map (some b)) (.string t) false).run Try.prog w = .ok (entA ((lk M t).getD zeroE)) w := by
  obtain ⟨D, ho, hM⟩ := h
  obtain ⟨v, ps, hrun, hv⟩ := ho.lookup str9 Try.underlying60 (zero31 w) (entR_mk zeroE) (key9 ht)
  rw [hrun, led_val hM t hv]
theorem led_look_ok (h : LedM w b M) {t : ByteArray} (ht : t.size ≤ maxLen) : (Instr.lookup 60 (.map (some b)) (.string t) true).run Try.prog w = .ok (.tuple #[entA ((lk M t).getD zeroE), .bool (lk M t).isSome]) w := by
  obtain ⟨D, ho, hM⟩ := h
  obtain ⟨v, ps, hrun, hv⟩ := ho.look_ok str9 Try.underlying60 (zero31 w) (entR_mk zeroE) (key9 ht)
  rw [hrun, led_val hM t hv, hM.has]
theorem led_len (h : LedM w b M) (ty : TypeId) : (Builtin.len_ #[60] ty #[.map (some b)]).run Try.prog w = .ok (.int .i64 M.length) w := by
  obtain ⟨D, ho, hM⟩ := h
  rw [ho.len Try.underlying60 ty, hM.size]
theorem led_store (h : LedM w b M) (hn : M.length < maxLen) {e : Ent} (ht : e.text.size ≤ maxLen) : ∃ w', (Instr.mapUpdate 60 (.map (some b)) (.string e.text) (entA e)).run Try.prog w = .ok () w' ∧ LedM w' b (e :: delM M e.text) ∧ w.mapTurned w' b := by
  obtain ⟨D, ho, hM⟩ := h
  obtain ⟨w', h1, h2, h3⟩ := ho.store str9 Try.underlying60 hn (key9 ht) (entR_mk e)
  exact ⟨w', h1, led_of h2 (hM.put e), h3⟩
theorem led_drop (h : LedM w b M) {t : ByteArray} (ht : t.size ≤ maxLen) (ty : TypeId) : ∃ w', (Builtin.delete_ #[60, 9] ty #[.map (some b), .string t]).run Try.prog w = .ok (.tuple #[]) w' ∧ LedM w' b (delM M t) ∧ w.mapTurned w' b := by
  obtain ⟨D, ho, hM⟩ := h
  obtain ⟨w', h1, h2, h3⟩ := ho.drop str9 Try.underlying60 (key9 ht) ty
  exact ⟨w', h1, led_of h2 (hM.del t), h3⟩
theorem wpList_delete_led (hg : o.guard = none) (m x : Operand) (hop : o.op = Op.call { callee := Callee.builtin Builtin.delete, args := #[m, x], argTypes := #[60, 9] }) (b : Nat) (M : List Ent) (t : ByteArray)
    (hm : a.eval m = .map (some b)) (h : LedM w b M) (hx : a.eval x = .string t) (ht : t.size ≤ maxLen)
    (hK : ∀ w', LedM w' b (delM M t) → w.mapTurned w' b → wpList Try.prog ops Q rest (a.put o.dst (.tuple #[])) w') : wpList Try.prog ops Q (o :: rest) a w := by
  refine wpList_plain hg fun K' hK' => ?_
  obtain ⟨w', hrun, r1, r2⟩ := led_drop h ht o.type
  unfold Oper.wp
  simp [execOp, hop, resolve, invoke, builtin, hm, hx, hrun, Result.andThen]
  exact hK' _ _ (hK w' r1 r2)
/-- In a region that draws its order. -/
theorem step_delete_led {K : Act → World → Prop} {E : Prop} (hg : o.guard = none) (m x : Operand) (hop : o.op = Op.call { callee := Callee.builtin Builtin.delete, args := #[m, x], argTypes := #[60, 9] }) (b : Nat) (M : List Ent) (t : ByteArray)
    (hm : a.eval m = .map (some b)) (h : LedM w b M) (hx : a.eval x = .string t) (ht : t.size ≤ maxLen)
    (hK : ∀ w', LedM w' b (delM M t) → w.mapTurned w' b → K (a.put o.dst (.tuple #[])) w') : if Region.wanted o (yielded ops a.tmps) = true then Oper.wp Try.prog o a w K Q else E := by
  have hw : Region.wanted o (yielded ops a.tmps) = true := by simp [Region.wanted, hg]
  rw [if_pos hw]
  obtain ⟨w', hrun, r1, r2⟩ := led_drop h ht o.type
  unfold Oper.wp
  simp [execOp, hop, resolve, invoke, builtin, hm, hx, hrun, Result.andThen]
  exact hK w' r1 r2
theorem wpList_store_led (hg : o.guard = none) (m x v : Operand) (hop : o.op = Op.mapUpdate 60 m x v) (b : Nat) (M : List Ent) (e : Ent)
    (hm : a.eval m = .map (some b)) (h : LedM w b M) (hn : M.length < maxLen) (hx : a.eval x = .string e.text) (hv : a.eval v = entA e) (ht : e.text.size ≤ maxLen)
    (hK : ∀ w', LedM w' b (e :: delM M e.text) → w.mapTurned w' b → wpList Try.prog ops Q rest (a.put o.dst undef) w') : wpList Try.prog ops Q (o :: rest) a w := by
  refine wpList_plain hg fun K' hK' => ?_
  obtain ⟨w', hrun, r1, r2⟩ := led_store h hn ht
  unfold Oper.wp
  simp [execOp, hop, hm, hx, hv, hrun, Result.andThen]
  exact hK' _ _ (hK w' r1 r2)
/-- A range over a map of entries under way: the entries that are still to come. -/
def RngM (w : World) (b r : Nat) (M todo : List Ent) : Prop := ∃ n D left cnt, w.ranges Try.prog 9 entR b r n D left cnt ∧ MapIs D M ∧ todo = M.filter (fun e => left (keyL e.text))
theorem RngM.same {w w' : World} {b r : Nat} {M todo : List Ent} (h : RngM w b r M todo) (hb : w'.heap[b]? = w.heap[b]?) (hr : w'.heap[r]? = w.heap[r]?) : RngM w' b r M todo := by
  obtain ⟨n, D, left, cnt, ⟨es, clock, since, seen, c0, h1, h2, h3, h4, h5, h6⟩, hM⟩ := h
  exact ⟨n, D, left, cnt, ⟨es, clock, since, seen, c0, hb.trans h1, h2, h3, h4, hr.trans h5, h6⟩, hM⟩
theorem RngM.lt {w : World} {b r : Nat} {M todo : List Ent} (h : RngM w b r M todo) : b < w.heap.size ∧ r < w.heap.size := by
  obtain ⟨n, D, left, cnt, h, _⟩ := h
  exact ⟨h.owns.lt, h.lt⟩
theorem RngM.ne {w : World} {b r : Nat} {M todo : List Ent} (h : RngM w b r M todo) : r ≠ b := by
  obtain ⟨n, D, left, cnt, h, _⟩ := h
  exact h.ne
theorem RngM.led {w : World} {b r : Nat} {M todo : List Ent} (h : RngM w b r M todo) : LedM w b M := by
  obtain ⟨n, D, left, cnt, h, hM, _⟩ := h
  exact led_of h.owns hM
theorem wpList_range_led (hg : o.guard = none) (m : Operand) (hop : o.op = Op.range 60 m) (b : Nat) (M : List Ent) (hm : a.eval m = .map (some b)) (h : LedM w b M)
    (hK : ∀ w', RngM w' b w.heap.size M M → w.grownBy w' none → w'.heap.size = w.heap.size + 1 → wpList Try.prog ops Q rest (a.put o.dst (.pointer (some ⟨w.heap.size, 0, none⟩))) w') : wpList Try.prog ops Q (o :: rest) a w := by
  obtain ⟨D, ho, hM⟩ := h
  refine wpList_range_own w hg m 60 hop 9 31 str9 Try.underlying60 entR b _ D hm ho fun w' h1 h2 h3 => hK w' ⟨_, D, _, _, h1, hM, ?_⟩ h2 h3
  rw [List.filter_eq_self.2]
  intro e he
  rw [hM.has, lk_mem (by obtain ⟨_, _, _, h⟩ := hM; exact h) he]
  rfl
/-- The step. -/
theorem wpList_next_led (hg : o.guard = none) (it : Operand) (hop : o.op = Op.next it false) (b r : Nat) (M todo : List Ent) (hit : a.eval it = .pointer (some ⟨r, 0, none⟩)) (h : RngM w b r M todo)
    (hDone : todo = [] → wpList Try.prog ops Q rest (a.put o.dst (.tuple #[.bool false])) w)
    (hMore : ∀ (x : ByteArray) (e : Ent) (w' : World), e ∈ todo → RngM w' b r M (delM todo e.text) → w.grownBy w' (some r) → w'.heap.size = w.heap.size → (Instr.entry (.pointer (some ⟨r, 0, none⟩))).run Try.prog w' = .ok (.tuple #[.string x, entA e]) w' → wpList Try.prog ops Q rest (a.put o.dst (.tuple #[.bool true, .string x, entA e])) w') :
    wpList Try.prog ops Q (o :: rest) a w := by
  obtain ⟨n, D, left, cnt, hr, hM, rfl⟩ := h
  refine wpList_next_ranges (α := ByteArray) (β := Ent) w hg it hop 9 str9 entR Value.string entA (fun key kl hk => ?_) (fun v y hv => ?_) b r n D left cnt hit hr (fun _ hl => ?_) (fun x c kl y w' cnt' hkey hlk hv hat hrg hlt hgr hsz hen => ?_)
  · obtain ⟨s, hs, _⟩ := WideMaps.string_of_keyOf Try.underlying9 hk
    exact ⟨s, hs⟩
  · obtain ⟨e, he, _⟩ := entR_inv hv
    exact ⟨e, he⟩
  · exact hDone (List.filter_eq_nil_iff.2 fun e _ => by rw [hl]; simp)
  · obtain ⟨s, hs, hkl, _⟩ := WideMaps.string_of_keyOf Try.underlying9 hkey
    have hkl' : kl = keyL s := hkl
    subst hkl'
    rw [entR_mk] at hv
    injection hv with hv
    subst hv
    have hc : lk M s = some c := by
      cases hl : lk M s with
      | none =>
        have h1 := hat (entD zeroE)
        have h2 := hat (entD ⟨⟨#[]⟩, 1, 0⟩)
        rw [hM.at_, hl] at h1 h2
        have := entD_inj (h1.trans h2.symm)
        unfold zeroE at this
        injection this with _ h3 _
        omega
      | some e' =>
        have h1 := hat (entD zeroE)
        rw [hM.at_, hl] at h1
        rw [entD_inj h1]
    obtain ⟨hcm, hct⟩ := lk_some hc
    refine hMore x c w' (List.mem_filter.2 ⟨hcm, by rw [hct]; exact hlk⟩) ⟨n, D, _, cnt', hrg, hM, ?_⟩ hgr hsz hen
    unfold delM
    rw [List.filter_filter]
    apply List.filter_congr
    intro e _
    rw [keyL_same, hct, Bool.and_comm]
end
end Go.Proofs.Ytndnjdocdfjmcaa
