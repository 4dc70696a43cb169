/-
  Rows and a ring in memory; the walks of the ring's small functions. No condition but bounds.
-/
import Derived.Test.YtailflbhcmgnpaaMore
import Derived.Test.YtailflbhcmgnpaaProg
namespace Go.Proofs.Ytailflbhcmgnpaa
open Go.RowKit Go.Proofs
set_option linter.unusedVariables false
/-- A row: none: of no cells; else of one cell that shows a number. -/
abbrev Row := Option Int
/-- The cell that shows a number. -/
def cellK (k : Int) : List Value := [.int .i32 k, .string ByteArray.empty, .int .i64 0, .int .i64 0, .int .i64 0, .int .i64 0, .int .i64 0, .int .i64 0]
def contK (k : Int) : Bool := decide (k.tmod 2 = 1)
/-- The two cells of a row read as a row; its own block is one of those that are meant. -/
def RowV (ok : Nat → Prop) (w : World) (p : Value × Value) : Row → Prop
  | none => p = (.slice none 0 0, .bool false)
  | some k => ∃ b c cs, p = (.slice (some ⟨b, 0, none⟩) 1 c, .bool (contK k)) ∧ ok b ∧ Blk w b 45 cs ∧ cs.toList.take 8 = cellK k ∧ 1 ≤ c
/-- From w to w' rows' blocks that are meant lie as they lay. -/
def Keep45 (ok : Nat → Prop) (w w' : World) : Prop := ∀ b cs, ok b → Blk w b 45 cs → Blk w' b 45 cs
section
variable {ok ok' : Nat → Prop} {w w' w2 : World} {p : Value × Value} {R : Row}
theorem RowV.keep (h : RowV ok w p R) (hk : Keep45 ok w w') : RowV ok w' p R := by
  cases R with
  | none => exact h
  | some k =>
    obtain ⟨b, c, cs, h1, h2, h3, h4, h5⟩ := h
    exact ⟨b, c, cs, h1, h2, hk _ _ h2 h3, h4, h5⟩
theorem RowV.mono (h : RowV ok w p R) (hk : ∀ b, b < w.heap.size → ok b → ok' b) : RowV ok' w p R := by
  cases R with
  | none => exact h
  | some k =>
    obtain ⟨b, c, cs, h1, h2, h3, h4, h5⟩ := h
    exact ⟨b, c, cs, h1, hk _ h3.lt h2, h3, h4, h5⟩
theorem Keep45.refl (ok : Nat → Prop) (w : World) : Keep45 ok w w := fun _ _ _ h => h
theorem Keep45.trans (h : Keep45 ok w w') (k : Keep45 ok w' w2) : Keep45 ok w w2 := fun b cs ho hb => k b cs ho (h b cs ho hb)
theorem Keep45.below (h : Below w.heap.size w w') : Keep45 ok w w' := fun b cs _ hb => hb.below h hb.lt
theorem Keep45.frm {S : Nat → Prop} (h : Frm S w w') (hS : ∀ b cs, S b → ¬ Blk w b 45 cs) : Keep45 ok w w' := fun b cs _ hb => hb.frm h fun hs => hS b cs hs hb
end
def flatP (rows : List (Value × Value)) : List Value := rows.flatMap fun p => [p.1, p.2]
theorem flatP_len (rows : List (Value × Value)) : (flatP rows).length = rows.length * 2 := len_flat (E := fun p : Value × Value => [p.1, p.2]) (s := 2) (fun _ => rfl) rows
theorem flatP_at {rows : List (Value × Value)} {i : Nat} {p : Value × Value} (h : rows[i]? = some p) : (flatP rows)[i * 2]? = some p.1 ∧ (flatP rows)[i * 2 + 1]? = some p.2 :=
  ⟨(flat_at (E := fun p : Value × Value => [p.1, p.2]) (s := 2) (fun _ => rfl) rows i p 0 h (by omega)), (flat_at (E := fun p : Value × Value => [p.1, p.2]) (s := 2) (fun _ => rfl) rows i p 1 h (by omega))⟩
/-- The place of the i-th, of so many from a first on. -/
def ix (len first i : Nat) : Nat := if len ≤ first + i then first + i - len else first + i
theorem ix_lt {len first i : Nat} (h1 : first < len) (h2 : i < len) : ix len first i < len := by unfold ix; split <;> omega
theorem ix_inj {len first i j : Nat} (h1 : first < len) (h2 : i < len) (h3 : j < len) (h : ix len first i = ix len first j) : i = j := by unfold ix at h; split at h <;> split at h <;> omega
/-- The ring's five cells. -/
def ringC (S : Option Addr) (len room first n gone : Nat) : Array Value := #[.slice S len len, .int .i64 room, .int .i64 first, .int .i64 n, .int .u64 gone]
theorem blk5 {w : World} {g : Nat} {t : TypeId} {a b c d e : Value} (h : Blk w g t #[a, b, c, d, e]) :
    w.cell? ⟨g, 0, none⟩ = some a ∧ w.cell? ⟨g, 1, none⟩ = some b ∧ w.cell? ⟨g, 2, none⟩ = some c ∧ w.cell? ⟨g, 3, none⟩ = some d ∧ w.cell? ⟨g, 4, none⟩ = some e ∧
    w.frozen? ⟨g, 0, none⟩ = false ∧ w.frozen? ⟨g, 1, none⟩ = false ∧ w.frozen? ⟨g, 2, none⟩ = false ∧ w.frozen? ⟨g, 3, none⟩ = false ∧ w.frozen? ⟨g, 4, none⟩ = false :=
  ⟨h.cell 0, h.cell 1, h.cell 2, h.cell 3, h.cell 4, h.frozen 0, h.frozen 1, h.frozen 2, h.frozen 3, h.frozen 4⟩
theorem blk2 {w : World} {g : Nat} {t : TypeId} {a b : Value} (h : Blk w g t #[a, b]) :
    w.cell? ⟨g, 0, none⟩ = some a ∧ w.cell? ⟨g, 1, none⟩ = some b ∧ w.frozen? ⟨g, 0, none⟩ = false ∧ w.frozen? ⟨g, 1, none⟩ = false :=
  ⟨h.cell 0, h.cell 1, h.frozen 0, h.frozen 1⟩
set_option maxHeartbeats 1000000 in
theorem slot_any (S : Option Addr) (len room first n gone i g : Nat) (w : World) (h : Blk w g 62 (ringC S len room first n gone)) (h1 : first ≤ 1000000) (h2 : i ≤ 1000000) (h3 : len ≤ 1000000) :
    Calls Try.prog 28 #[.pointer (some ⟨g, 0, none⟩), .int .i64 i] w fun e w' => e = .returned (.int .i64 (ix len first i)) ∧ w = w' := by
  obtain ⟨c0, c1, c2, c3, c4, f0, f1, f2, f3, f4⟩ := blk5 h
  obtain ⟨q, hq⟩ : ∃ q, first + i = q := ⟨_, rfl⟩
  have hqi : (i : Int) + first = q := by omega
  by_cases hl : len ≤ q
  · have hr := hide (show ix len first i = q - len by unfold ix; rw [hq, if_pos hl])
    have h4 : (q : Int) - len = ((q - len : Nat) : Int) := by omega
    obtain ⟨r, hr2⟩ : ∃ r, q - len = r := ⟨_, rfl⟩
    rw [hr2] at h4
    have HR := hide hr2
    clear hr2 hq
    go_enter Try.func28, Try.ntmps28
    go_wp2
    go_ret
    exact ⟨ret_int (by rw [hr.out, HR.out]), rfl⟩
  · have hr := hide (show ix len first i = q by unfold ix; rw [hq, if_neg hl])
    have d : decide (len ≤ q) = false := by simpa using hl
    have d2 : decide ((len : Int) ≤ q) = false := by simp; omega
    clear hq
    go_enter Try.func28, Try.ntmps28
    go_wp2
    go_ret
    exact ⟨ret_int (by rw [hr.out]), rfl⟩
theorem len_any (S : Option Addr) (len room first n gone g : Nat) (w : World) (h : Blk w g 62 (ringC S len room first n gone)) :
    Calls Try.prog 13 #[.pointer (some ⟨g, 0, none⟩)] w fun e w' => e = .returned (.int .i64 n) ∧ w = w' := by
  obtain ⟨c0, c1, c2, c3, c4, f0, f1, f2, f3, f4⟩ := blk5 h
  go_enter Try.func13, Try.ntmps13
  go_wp2
  go_ret
  exact ⟨rfl, rfl⟩
theorem room_any (S : Option Addr) (len room first n gone g : Nat) (w : World) (h : Blk w g 62 (ringC S len room first n gone)) :
    Calls Try.prog 21 #[.pointer (some ⟨g, 0, none⟩)] w fun e w' => e = .returned (.int .i64 room) ∧ w = w' := by
  obtain ⟨c0, c1, c2, c3, c4, f0, f1, f2, f3, f4⟩ := blk5 h
  go_enter Try.func21, Try.ntmps21
  go_wp2
  go_ret
  exact ⟨rfl, rfl⟩
theorem gone_any (S : Option Addr) (len room first n gone g : Nat) (w : World) (h : Blk w g 62 (ringC S len room first n gone)) :
    Calls Try.prog 14 #[.pointer (some ⟨g, 0, none⟩)] w fun e w' => e = .returned (.int .u64 gone) ∧ w = w' := by
  obtain ⟨c0, c1, c2, c3, c4, f0, f1, f2, f3, f4⟩ := blk5 h
  go_enter Try.func14, Try.ntmps14
  go_wp2
  go_ret
  exact ⟨rfl, rfl⟩
theorem len_none (w : World) : Calls Try.prog 13 #[.pointer none] w fun e w' => e = .returned (.int .i64 0) ∧ w = w' := by
  go_enter Try.func13, Try.ntmps13
  go_wp2
  go_ret
  exact ⟨rfl, rfl⟩
theorem room_none (w : World) : Calls Try.prog 21 #[.pointer none] w fun e w' => e = .returned (.int .i64 0) ∧ w = w' := by
  go_enter Try.func21, Try.ntmps21
  go_wp2
  go_ret
  exact ⟨rfl, rfl⟩
theorem gone_none (w : World) : Calls Try.prog 14 #[.pointer none] w fun e w' => e = .returned (.int .u64 0) ∧ w = w' := by
  go_enter Try.func14, Try.ntmps14
  go_wp2
  go_ret
  exact ⟨rfl, rfl⟩
/-- New, of a room that may be. -/
theorem new_any (room : Nat) (w : World) (h : room ≤ 100000) :
    Calls Try.prog 9 #[.int .i64 room] w fun e w' => e = .returned (.tuple #[.pointer (some ⟨w.heap.size, 0, none⟩), .int .i64 0]) ∧ w' = w.alloc (.cells (ringC none 0 room 0 0 0) 62) := by
  have d : decide (100000 < (room : Int)) = false := by simp; omega
  have d2 : decide (100000 < room) = false := by simp; omega
  go_enter Try.func9, Try.ntmps9
  go_wp2
  go_ret2
  exact ⟨rfl, rfl⟩
theorem new_bad (room : Int) (w : World) (h : room < 0 ∨ 100000 < room) :
    Calls Try.prog 9 #[.int .i64 room] w fun e w' => e = .returned (.tuple #[.pointer none, .int .i64 1]) ∧ w = w' := by
  by_cases h0 : room < 0
  · go_enter Try.func9, Try.ntmps9
    go_wp2
    go_ret2
    exact ⟨rfl, rfl⟩
  · have h1 : 100000 < room := by omega
    have d : decide (room < 0) = false := by simp; omega
    go_enter Try.func9, Try.ntmps9
    go_wp2
    go_ret2
    exact ⟨rfl, rfl⟩
/-- A row handed back: its cells lie in a block of the call's own. -/
def RowPost (ok : Nat → Prop) (R : Row) (w : World) (e : Ending) (w' : World) : Prop := ∃ v1 v2, e = .returned (.agg #[v1, v2]) ∧ RowV ok w' (v1, v2) R ∧ Below w.heap.size w w'
set_option maxHeartbeats 1000000 in
theorem row_any (ok : Nat → Prop) (k : Int) (w : World) (h0 : -2147483648 ≤ k) (h1 : k ≤ 2147483647) (hok : ∀ b, w.heap.size ≤ b → ok b) : Calls Try.prog 11 #[.int .i64 k] w (RowPost ok (some k) w) := by
  obtain ⟨cb, hcb⟩ : ∃ cb, contK k = cb := ⟨_, rfl⟩
  have d : ((k.tmod 2 : Int) == 1) = cb := by rw [← hcb]; unfold contK; rw [Bool.eq_iff_iff]; simp
  have HC := hide hcb
  have hk : IntKind.i32.wrap k = k := IntWalk.i32_in _ ⟨h0, h1⟩
  clear hcb
  go_enter Try.func11, Try.ntmps11
  go_wp2
  refine bodyPost_ret (v := .agg #[.slice (some ⟨w.heap.size + 1, 0, none⟩) 1 1, .bool cb]) (by simp [results, Try.results11, go_sem]) rfl ?_
  refine ⟨_, _, rfl, ⟨w.heap.size + 1, 1, _, by rw [HC.out], hok _ (by omega), Blk.new' (by simp) 45 _, rfl, Nat.le_refl _⟩, ((Below.refl _ _).alloc (Nat.le_refl _) _).alloc (by simp) _⟩
theorem Try.sl28 : SliceOf Try.prog 28 45 8 72 := SliceOf.mk (z := .agg #[.int .i32 0, .string ByteArray.empty, .int .i64 0, .int .i64 0, .int .i64 0, .int .i64 0, .int .i64 0, .int .i64 0]) (by kernel_rfl) (by kernel_rfl) (by kernel_rfl) (by omega)
theorem one_cellK (k : Int) : ∀ u ∈ cellK k, u.oneCell' = true := by
  intro u hu
  simp [cellK] at hu
  rcases hu with rfl | rfl | rfl <;> rfl
theorem rd_cellK {w : World} {b : Nat} {cs : Array Value} {k : Int} (h : Blk w b 45 cs) (hc : cs.toList.take 8 = cellK k) : Rd w (b + 1) 8 (some ⟨b, 0, none⟩) 1 (cellK k) := by
  refine ⟨rfl, fun _ => ⟨b, 0, rfl, by omega, fun j u hu => ?_⟩⟩
  rw [Nat.zero_add, h.cell]
  rw [← hc] at hu
  rw [List.getElem?_take] at hu
  split at hu
  · simpa using hu
  · cases hu
theorem row_of_own {w : World} {base : Nat} {A : Option Addr} {c : Nat} {k : Int} (h : w.ownsRow base 45 8 (.slice A (0 + 1) c) (0 + 1) ([] ++ cellK k)) :
    ∃ b cs, A = some ⟨b, 0, none⟩ ∧ base ≤ b ∧ Blk w b 45 cs ∧ cs.toList.take 8 = cellK k ∧ 1 ≤ c := by
  rcases h.2 with ⟨_, h0⟩ | ⟨g, cap, cur, e, hb, hh, hc, _, _, ht⟩
  · omega
  · injection e with e1 e2 e3
    subst e1 e3
    exact ⟨g, cur, rfl, hb, hh, by simpa using ht, by omega⟩
theorem six {W : World} {g h : Nat} {a b c d : Value} (K0 : Blk W g 30 #[a, b]) (K1 : Blk W h 30 #[c, d]) :
    W.cell? ⟨g, 0, none⟩ = some a ∧ W.cell? ⟨g, 1, none⟩ = some b ∧ W.cell? ⟨h, 0, none⟩ = some c ∧ W.cell? ⟨h, 1, none⟩ = some d ∧ W.frozen? ⟨h, 0, none⟩ = false ∧ W.frozen? ⟨h, 1, none⟩ = false :=
  ⟨K0.cell 0, K0.cell 1, K1.cell 0, K1.cell 1, K1.frozen 0, K1.frozen 1⟩
set_option maxHeartbeats 2000000 in
theorem own_any (ok ok' : Nat → Prop) (v1 v2 : Value) (R : Row) (w : World) (h : RowV ok w (v1, v2) R) (hok : ∀ b, w.heap.size ≤ b → ok' b) : Calls Try.prog 25 #[.agg #[v1, v2]] w (RowPost ok' R w) := by
  cases R with
  | none =>
    unfold RowV at h
    injection h with h1 h2
    subst h1 h2
    obtain ⟨i0, z0, ht, hi, hrest⟩ := Try.sl28
    have ap := fun (W : World) => run_append_nought (P := Try.prog) W 0 28 28 45 i0 8 ht hi (.slice none 0 0) 0 [] (World.ownsRow_nil _ _ _ _) 0
    clear ht hi hrest
    go_enter Try.func25, Try.ntmps25
    go_wp2
    go_region
    all_goals go_wp2
    all_goals refine bodyPost_ret (v := .agg #[.slice none 0 0, .bool false]) (by simp [results, Try.results25, go_sem]) rfl ?_
    all_goals exact ⟨_, _, rfl, rfl, (((Below.refl _ _).alloc (Nat.le_refl _) _).alloc (by simp) _).drew⟩
  | some k =>
    obtain ⟨b, c, cs, h1, h2, h3, h4, h5⟩ := h
    injection h1 with h6 h7
    subst h6 h7
    obtain ⟨i0, z0, ht, hi, hz, hs, hb, hzs, h0⟩ := Try.sl28
    have hr := (rd_cellK h3 h4).more (B' := w.heap.size) h3.lt
    have hr2 : ∀ o1 o2, Rd ((w.alloc o1).alloc o2) w.heap.size 8 (some ⟨b, 0, none⟩) 1 (cellK k) := fun o1 o2 => (hr.alloc (Nat.le_refl _) o1).alloc (by simp) o2
    have Hr := hide hr2
    have HH := hide (And.intro h3 h4)
    have h45 := one_cellK k
    have H45 := hide h45
    clear hr hr2 h3 h4 h45
    have hw0 : (w.alloc (.cells #[.slice (some ⟨b, 0, none⟩) 1 c, .bool (contK k)] 30)).heap.size = w.heap.size + 1 := by simp
    obtain ⟨cb, hcb⟩ : ∃ cb, contK k = cb := ⟨_, rfl⟩
    rw [hcb] at hw0 ⊢
    have HCB := hide hcb
    clear hcb
    go_enter Try.func25, Try.ntmps25
    go_wp2
    have K0 := (Blk.new w 30 #[.slice (some ⟨b, 0, none⟩) 1 c, .bool cb]).alloc (.cells #[.slice none 0 0, .bool false] 30)
    have K1 := Blk.new' (w := w.alloc (.cells #[.slice (some ⟨b, 0, none⟩) 1 c, .bool cb] 30)) (g := w.heap.size + 1) (by simp) 30 #[.slice none 0 0, .bool false]
    have H0 := hide K0
    have H1 := hide K1
    have c0 := six K0 K1
    clear K0 K1
    go_region_held3 (fun W => W.cell? ⟨w.heap.size, 0, none⟩ = some (.slice (some ⟨b, 0, none⟩) 1 c) ∧ W.cell? ⟨w.heap.size, 1, none⟩ = some (.bool cb))
      (first | (exact ⟨c0.1, c0.2.1⟩) | (exact ⟨e0, e1⟩) | go_keep)
      ((refine step_append_rd _ (by rfl) _ _ _ (by rfl) (w.heap.size + 2) 45 i0 z0 8 72 ht hi hz hs hb hzs h0 (.slice none 0 0) 0 [] (by rfl) (World.ownsRow_nil _ _ _ _) w.heap.size (some ⟨b, 0, none⟩) 1 c (cellK k) (by rfl) (Hr.out _ _) H45.out (by simp only [maxLen]; omega) (by omega) (by simp) ?_; intro v' w' q1 q2 q3; obtain ⟨A', c', rfl⟩ := own_slice q1; obtain ⟨e0, e1, e2, e3, e4, e5⟩ := six (H0.out.drew.grown q2 (by simp [Value.ownBlock])) (H1.out.drew.grown q2 (by simp [Value.ownBlock]))))
    go_wp2
    obtain ⟨b', cs', rfl, hb', hB', ht', hc'⟩ := row_of_own q1
    have k2 := ((H1.out.drew.grown q2 (by simp [Value.ownBlock])).set_ 0 (.slice (some ⟨b', 0, none⟩) 1 c')).set_ 1 (.bool cb)
    obtain ⟨r0, r1, _⟩ := blk2 (a := .slice (some ⟨b', 0, none⟩) 1 c') (b := .bool cb) (by simpa using k2)
    refine bodyPost_ret (v := .agg #[.slice (some ⟨b', 0, none⟩) 1 c', .bool cb]) (by simp [results, Try.results25, go_sem, r0, r1]) rfl ?_
    have hbl : Below w.heap.size w w' := ((((Below.refl _ _).alloc (Nat.le_refl _) _).alloc (by simp) _).drew).grown q2 (by simp; omega) (fun k hk => by simp [Value.ownBlock] at hk)
    refine ⟨_, _, rfl, ⟨b', c', cs', by rw [HCB.out], hok _ (by omega), ?_, ht', hc'⟩, (hbl.setCell (p := ⟨w.heap.size + 1, 0, none⟩) (show _ ≤ w.heap.size + 1 by omega) _).setCell (p := ⟨w.heap.size + 1, 1, none⟩) (show _ ≤ w.heap.size + 1 by omega) _⟩
    exact (hB'.far (p := ⟨w.heap.size + 1, 0, none⟩) (show b' ≠ w.heap.size + 1 by omega) _).far (p := ⟨w.heap.size + 1, 1, none⟩) (show b' ≠ w.heap.size + 1 by omega) _
end Go.Proofs.Ytailflbhcmgnpaa
