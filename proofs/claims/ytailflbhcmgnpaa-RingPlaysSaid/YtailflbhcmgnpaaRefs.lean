/-
  The document's ring in memory; the walks of its functions. No condition but bounds.
-/
import Derived.Test.YtailflbhcmgnpaaFill
namespace Go.Proofs.Ytailflbhcmgnpaa
open Go.RowKit Go.Proofs
set_option linter.unusedVariables false
def refC (room : Nat) (v : Value) (gone : Nat) : Array Value := #[.int .i64 room, v, .int .u64 gone]
/-- The document's ring: its list lies in a slice of the call's own. -/
structure RefAt (base : Nat) (w : World) (m : Nat) (v : Value) (L : List Row) (room gone : Nat) : Prop where
  blk : Blk w m 53 (refC room v gone)
  own : ∃ rows, w.ownsRow base 30 2 v L.length (flatP rows) ∧ RowsIn any w rows L
/-- What its functions turn. -/
structure TurnM (m : Nat) (v v' : Value) (w w' : World) : Prop where
  frm : Frm (fun k => k = m ∨ v.ownBlock = some k) w w'
  slots : ∀ s, v'.ownBlock = some s → v.ownBlock = some s ∨ w.heap.size ≤ s
  keep : Keep45 any w w'
theorem TurnM.refl (m : Nat) (v : Value) (w : World) : TurnM m v v w w := ⟨Frm.refl _ _, fun s e => Or.inl e, Keep45.refl _ _⟩
/-- A row that comes of it; a number that comes of it. -/
def MRow (base m : Nat) (v : Value) (L : List Row) (room gone : Nat) (R : Row) (b : Bool) (w : World) (e : Ending) (w' : World) : Prop :=
  ∃ u1 u2 v', e = .returned (.tuple #[.agg #[u1, u2], .bool b]) ∧ RowV any w' (u1, u2) R ∧ RefAt base w' m v' L room gone ∧ TurnM m v v' w w'
def MInt (base m : Nat) (v : Value) (L : List Row) (room gone k : Nat) (w : World) (e : Ending) (w' : World) : Prop :=
  ∃ v', e = .returned (.int .i64 k) ∧ RefAt base w' m v' L room gone ∧ TurnM m v v' w w'
theorem own_mono {w : World} {base base' : Nat} {e : TypeId} {s n : Nat} {v : Value} {xs : List Value} (h : w.ownsRow base e s v n xs) (hb : base' ≤ base) : w.ownsRow base' e s v n xs := by
  refine ⟨h.1, ?_⟩
  rcases h.2 with h2 | ⟨g, cap, cur, e1, h1, rest⟩
  · exact .inl h2
  · exact .inr ⟨g, cap, cur, e1, Nat.le_trans hb h1, rest⟩
theorem own_empty (w : World) (e : TypeId) (s : Nat) : (w.alloc (.cells #[] e)).ownsRow w.heap.size e s (.slice (some ⟨w.heap.size, 0, none⟩) 0 0) 0 [] :=
  ⟨by simp, .inr ⟨w.heap.size, 0, #[], rfl, Nat.le_refl _, Blk.new _ _ _, Nat.le_refl _, by simp [maxLen], by simp, by simp⟩⟩
theorem ones_rows {ok : Nat → Prop} {w : World} {rows : List (Value × Value)} {L : List Row} (h : RowsIn ok w rows L) : ∀ u ∈ flatP rows, u.oneCell' = true := by
  intro u hu
  obtain ⟨p, hp, hu⟩ := List.mem_flatMap.1 hu
  obtain ⟨i, hi, rfl⟩ := List.getElem_of_mem hp
  have hi2 : i < L.length := by rw [← h.1]; exact hi
  obtain ⟨q, h1, h2⟩ := h.2 i L[i] (List.getElem?_eq_getElem hi2)
  rw [List.getElem?_eq_getElem hi] at h1
  injection h1 with h1
  obtain ⟨A, n, c, b, e1, e2⟩ := row_form (v1 := q.1) (v2 := q.2) h2
  rw [h1] at hu
  simp only [List.mem_cons, List.not_mem_nil, or_false] at hu
  rcases hu with rfl | rfl
  · rw [e1]; rfl
  · rw [e2]; rfl
theorem flatP_take (rows : List (Value × Value)) (n : Nat) : flatP (rows.take n) = (flatP rows).take (n * 2) := by
  induction rows generalizing n with
  | nil => simp [flatP]
  | cons p rows ih =>
    cases n with
    | zero => simp [flatP]
    | succ n =>
      have e : ∀ l : List (Value × Value), flatP (p :: l) = p.1 :: p.2 :: flatP l := fun l => by simp [flatP]
      rw [List.take_succ_cons, e, e, ih, show (n + 1) * 2 = n * 2 + 1 + 1 by omega]
      rfl
theorem ref_v {w : World} {m room gone : Nat} {v : Value} (h : Blk w m 53 (refC room v gone)) (v' : Value) : Blk (w.setCell ⟨m, 1, none⟩ v') m 53 (refC room v' gone) := h.set_ 1 v'
theorem ref_g {w : World} {m room gone : Nat} {v : Value} (h : Blk w m 53 (refC room v gone)) (g' : Nat) : Blk (w.setCell ⟨m, 2, none⟩ (.int .u64 g')) m 53 (refC room v g') := h.set_ 2 _
theorem blk3 {w : World} {g : Nat} {t : TypeId} {a b c : Value} (h : Blk w g t #[a, b, c]) :
    w.cell? ⟨g, 0, none⟩ = some a ∧ w.cell? ⟨g, 1, none⟩ = some b ∧ w.cell? ⟨g, 2, none⟩ = some c ∧ w.frozen? ⟨g, 0, none⟩ = false ∧ w.frozen? ⟨g, 1, none⟩ = false ∧ w.frozen? ⟨g, 2, none⟩ = false :=
  ⟨h.cell 0, h.cell 1, h.cell 2, h.frozen 0, h.frozen 1, h.frozen 2⟩
theorem rclear_t (base m : Nat) (v : Value) (L : List Row) (room gone n : Nat) (w : World) (h : RefAt base w m v L room gone) (hn : L.length = n) (hn2 : n ≤ 1000000) (hg : gone ≤ 1000000000) :
    Calls Try.prog 31 #[.pointer (some ⟨m, 0, none⟩)] w (MInt base m v [] room (gone + n) n w) := by
  obtain ⟨hB, rows, hown, hrows⟩ := h
  obtain ⟨A, c, rfl⟩ := own_slice hown
  rw [hn] at hown hB
  obtain ⟨c0, c1, c2, f0, f1, f2⟩ := blk3 hB
  obtain ⟨q, hq⟩ : ∃ q, gone + n = q := ⟨_, rfl⟩
  have hq2 : (gone : Int) + n = q := by omega
  rw [hq]
  have HB := hide hB
  clear hown hrows hn hB hq
  go_enter Try.func31, Try.ntmps31
  go_wp2
  go_ret
  have b0 : Blk _ m 53 (refC room (.slice none 0 0) gone) := HB.out.set_ 1 (.slice none 0 0)
  have b1 : Blk _ m 53 (refC room (.slice none 0 0) q) := b0.set_ 2 (.int .u64 q)
  refine ⟨.slice none 0 0, rfl, ⟨b1, [], World.ownsRow_nil _ _ _ _, rfl, fun i R hR => by simp at hR⟩, ?_, (fun s e => by simp [Value.ownBlock] at e), (keep45_set HB.out (by decide) 1 _).trans (keep45_set b0 (by decide) 2 _)⟩
  exact ((Frm.refl _ _).setCell (p := ⟨m, 1, none⟩) (fun _ => Or.inl rfl) _).setCell (p := ⟨m, 2, none⟩) (fun _ => Or.inl rfl) _
set_option maxHeartbeats 4000000 in
theorem rpop_t0 (base m : Nat) (v : Value) (room gone : Nat) (w : World) (h : RefAt base w m v [] room gone) :
    Calls Try.prog 29 #[.pointer (some ⟨m, 0, none⟩)] w (RowOkPost any none false w) := by
  obtain ⟨hB, rows, hown, hrows⟩ := h
  obtain ⟨A, c, rfl⟩ := own_slice hown
  obtain ⟨c0, c1, c2, f0, f1, f2⟩ := blk3 (hB.alloc (.cells #[.slice none 0 0, .bool false] 30))
  have hne : m ≠ w.heap.size := by have := hB.lt; omega
  have hw1 : Below w.heap.size w (w.alloc (.cells #[.slice none 0 0, .bool false] 30)) := (Below.refl _ _).alloc (Nat.le_refl _) _
  have HW1 := hide hw1
  clear hown hrows hB hw1
  go_enter Try.func29, Try.ntmps29
  go_wp2
  refine bodyPost_ret (v := .tuple #[.agg #[.slice none 0 0, .bool false], .bool false]) (by simp [results, Try.results29, go_sem]) rfl ?_
  exact ⟨_, _, rfl, rfl, HW1.out⟩
set_option maxHeartbeats 4000000 in
theorem rpop_t (base m : Nat) (v : Value) (L : List Row) (R : Row) (room gone n : Nat) (w : World) (h : RefAt base w m v (L ++ [R]) room gone) (hn : L.length = n) (hn2 : n ≤ 1000000) (hb : base ≤ w.heap.size) :
    Calls Try.prog 29 #[.pointer (some ⟨m, 0, none⟩)] w (MRow base m v L room gone R true w) := by
  obtain ⟨hB, rows, hown, hrows⟩ := h
  rw [List.length_append, List.length_singleton, hn] at hown
  obtain ⟨A, c, rfl⟩ := own_slice hown
  obtain ⟨p, hp, rv⟩ := hrows.2 n R (by rw [List.getElem?_append_right (by omega), hn]; simp)
  obtain ⟨v1, v2⟩ := p
  obtain ⟨A1, n1, cc1, b1, rfl, rfl⟩ := row_form rv
  have hrd := Rd.of_own hown
  have hnc := (own_cap hown).1
  have hnc2 : n ≤ c := by omega
  have hnc3 : (n : Int) ≤ c := by omega
  have hlen := own_len (E := fun p : Value × Value => [p.1, p.2]) (fun _ => rfl) (by omega) hown
  obtain ⟨bb, off, p', e1, hlt, hp2, x0, x1⟩ := flatRd hrd (show n < n + 1 by omega)
  rw [hp] at hp2
  injection hp2 with hp2
  subst hp2 e1
  have x0 : w.cell? ⟨bb, off + n * 2, none⟩ = some (.slice A1 n1 cc1) := x0
  have x1 : w.cell? ⟨bb, off + n * 2 + 1, none⟩ = some (.bool b1) := x1
  have hB1 := hB.alloc (.cells #[.slice none 0 0, .bool false] 30)
  obtain ⟨c0, c1, c2, f0, f1, f2⟩ := blk3 hB1
  have x0' := (World.cell?_alloc_lt w (.cells #[.slice none 0 0, .bool false] 30) ⟨bb, off + n * 2, none⟩ hlt).trans x0
  have x1' := (World.cell?_alloc_lt w (.cells #[.slice none 0 0, .bool false] 30) ⟨bb, off + n * 2 + 1, none⟩ hlt).trans x1
  have hml := hB.lt
  have hne : m ≠ w.heap.size := by omega
  have HH := hide (And.intro hB (And.intro hown (And.intro hrows (And.intro hp (And.intro rv (And.intro hrd hlen))))))
  have HN := hide hn
  clear hB hown hrows hp rv hrd hlen hn hB1 x0 x1
  go_enter Try.func29, Try.ntmps29
  go_upto_region 5 with fail
  go_name_world W1 hW1
  obtain ⟨hB, hown, hrows, hp, rv, hrd, hlen⟩ := HH.out
  have B1 : Below w.heap.size w W1 := by rw [← hW1]; exact ((Below.refl _ _).alloc (Nat.le_refl _) _).alloc (by simp) _
  have Z1 := hide (show W1.heap.size = w.heap.size + 2 by rw [← hW1]; simp)
  have Z1a : w.heap.size + 2 ≤ W1.heap.size := by rw [Z1.out]; exact Nat.le_refl _
  have q1 : Blk W1 w.heap.size 30 #[.slice none 0 0, .bool false] := by rw [← hW1]; exact (Blk.new _ _ _).alloc _
  have q2 : Blk W1 (w.heap.size + 1) 30 #[.slice A1 n1 cc1, .bool b1] := by rw [← hW1]; exact Blk.new' (by simp) _ _
  clear hW1 c0 c1 c2 f0 f1 f2 x0' x1'
  have n2 := Below.refl W1.heap.size W1 |>.alloc (Nat.le_refl _) (.cells #[] 30)
  have b2 := (hB.below B1 hml).alloc (.cells #[] 30)
  have own2 := own_empty W1 30 2
  have rd2 := ((hrd.front (show n ≤ n + 1 by omega)).below B1).alloc B1.size (.cells #[] 30)
  have h1 : ∀ u ∈ (flatP rows).take (n * 2), u.oneCell' = true := fun u hu => ones_rows hrows u (List.mem_of_mem_take hu)
  obtain ⟨c0, c1, c2, f0, f1, f2⟩ := blk3 b2
  have hbs := Nat.le_trans hb B1.size
  have hh := hide (And.intro hB (And.intro hown (And.intro hrows (And.intro hp (And.intro rv (And.intro hrd hlen))))))
  have AP := hide (And.intro own2 (And.intro rd2 h1))
  have hne3 : m ≠ W1.heap.size := by omega
  have hq := hide (And.intro q1 q2)
  have hne4 : some w.heap.size ≠ Value.ownBlock (.slice (some ⟨W1.heap.size, 0, none⟩) 0 0) := by simp [Value.ownBlock]; omega
  have hne5 : some (w.heap.size + 1) ≠ Value.ownBlock (.slice (some ⟨W1.heap.size, 0, none⟩) 0 0) := by simp [Value.ownBlock]; omega
  have N2 := hide n2
  have B2 := hide b2
  clear hB hown hrows hp rv hrd hlen b2 own2 rd2 h1 HH q1 q2 n2
  go_upto_region 6 with (at_builtin; go_must (refine wpList_appends Try.sl46 rfl _ _ rfl W1.heap.size (.slice (some ⟨W1.heap.size, 0, none⟩) 0 0) 0 [] _ w.heap.size _ n c ((flatP rows).take (n * 2)) rfl rfl AP.out.1 AP.out.2.1 AP.out.2.2 (by simp only [maxLen]; omega) (by omega) (by simp) ?_; intro A2 cc2 w2 app; have B3 := hide (app.blk B2.out AP.out.1 (by decide)); have qa := hq.out.1.alloc (.cells #[] 30) |>.grown app.grown hne4; have qb := hq.out.2.alloc (.cells #[] 30) |>.grown app.grown hne5; obtain ⟨c0, c1, c2, f0, f1, f2⟩ := blk3 B3.out; have Q2 := hide (And.intro qa qb); clear qa qb))
  go_name_world W3 hW3
  have hne6 : some m ≠ Value.ownBlock (.slice A2 n cc2) := own_ne (Nat.zero_add n ▸ app.own) B3.out (by decide)
  have m3 : Blk W3 m 53 (refC room (.slice A2 n cc2) gone) := by rw [← hW3]; exact ref_v B3.out _
  have K1 : Keep45 any w w2 := fun b cs _ h => app.blk ((h.below B1 h.lt).alloc _) AP.out.1 (by decide)
  have K3 : Keep45 any w W3 := by rw [← hW3]; exact K1.trans (keep45_set B3.out (by decide) 1 _)
  have o3 : W3.ownsRow W1.heap.size 30 2 (.slice A2 n cc2) n ((flatP rows).take (n * 2)) := by
    rw [← hW3]
    have h := app.own
    simp only [Nat.zero_add, List.nil_append] at h
    exact own_far (p := ⟨m, 1, none⟩) h hne6 _
  have F3 : Frm (fun k => k = m) w W3 := by
    rw [← hW3]
    exact ((Frm.of_below (S := fun k => k = m) (B1.trans (N2.out.mono (by omega))) (fun i h1 h2 => by omega)).grown app.grown (fun k hk h2 => by simp [Value.ownBlock] at hk; omega)).setCell (p := ⟨m, 1, none⟩) (fun _ => rfl) _
  have a3 : Blk W3 w.heap.size 30 #[.slice none 0 0, .bool false] := by rw [← hW3]; exact Q2.out.1.far (p := ⟨m, 1, none⟩) (Ne.symm hne) _
  have b3 : Blk W3 (w.heap.size + 1) 30 #[.slice A1 n1 cc1, .bool b1] := by rw [← hW3]; exact Q2.out.2.far (p := ⟨m, 1, none⟩) (show w.heap.size + 1 ≠ m by omega) _
  obtain ⟨y0, y1, y2, y3⟩ := blk2 a3
  obtain ⟨z0, z1, z2, z3⟩ := blk2 b3
  obtain ⟨hB, hown, hrows, hp, rv, hrd, hlen⟩ := hh.out
  have rv3 := hide (rv.keep K3)
  have M3 := hide (And.intro m3 (And.intro K3 (And.intro o3 (And.intro F3 a3))))
  have own0 := hide hown
  have HR := hide (And.intro hrows hlen)
  clear hB hown hrows hp rv hrd hlen m3 K3 o3 F3 a3 b3 K1 hW3 c0 c1 c2 f0 f1 f2
  go_wp2
  obtain ⟨m3, K3, o3, F3, a3⟩ := M3.out
  have a4 := (a3.set_ 0 (.slice A1 n1 cc1)).set_ 1 (.bool b1)
  obtain ⟨r0, r1, _⟩ := blk2 (a := .slice A1 n1 cc1) (b := .bool b1) (by simpa using a4)
  refine bodyPost_ret (v := .tuple #[.agg #[.slice A1 n1 cc1, .bool b1], .bool true]) (by simp [results, Try.results29, go_sem, r0, r1]) rfl ?_
  have K4 := (keep45_set (ok := any) a3 (by decide) 0 (.slice A1 n1 cc1)).trans (keep45_set (a3.set_ 0 (.slice A1 n1 cc1)) (by decide) 1 (.bool b1))
  have hx : ∀ s, Value.ownBlock (.slice A2 n cc2) = some s → W1.heap.size ≤ s := fun s e => (o3.lt s e).1
  have hne7 : some w.heap.size ≠ Value.ownBlock (.slice A2 n cc2) := fun e => by have := hx _ e.symm; omega
  refine ⟨_, _, _, rfl, rv3.out.keep K4, ⟨(m3.far (p := ⟨w.heap.size, 0, none⟩) hne _).far (p := ⟨w.heap.size, 1, none⟩) hne _, rows.take n, ?_, ?_⟩, ?_, fun s e => Or.inr (Nat.le_trans (by omega) (hx s e)), K3.trans K4⟩
  · rw [HN.out, flatP_take]
    exact own_far (p := ⟨w.heap.size, 1, none⟩) (own_far (p := ⟨w.heap.size, 0, none⟩) (own_mono o3 (Nat.le_trans hb B1.size)) hne7 _) hne7 _
  · exact ⟨by have := HR.out.2; have := HN.out; simp; omega, fun i S hS => by
      have hi := (List.getElem?_eq_some_iff.1 hS).1
      rw [HN.out] at hi
      obtain ⟨p, h1, h2⟩ := HR.out.1.2 i S (by rw [List.getElem?_append_left (by rw [HN.out]; exact hi)]; exact hS)
      exact ⟨p, by rw [List.getElem?_take, if_pos hi]; exact h1, h2.keep (K3.trans K4)⟩⟩
  · exact ((F3.mono (S' := fun k => k = m ∨ _) (fun i _ h => Or.inl h)).setCell (p := ⟨w.heap.size, 0, none⟩) (fun h => absurd h (Nat.lt_irrefl _)) _).setCell (p := ⟨w.heap.size, 1, none⟩) (fun h => absurd h (Nat.lt_irrefl _)) _
end Go.Proofs.Ytailflbhcmgnpaa
