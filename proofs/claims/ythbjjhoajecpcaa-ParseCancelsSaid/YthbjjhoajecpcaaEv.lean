/-
  Events in memory; the parser's whole and ends walked. No condition but bounds.
-/
import Derived.Test.YthbjjhoajecpcaaParse
import Derived.Test.YthbjjhoajecpcaaNumb
namespace Go.Proofs.Ythbjjhoajecpcaa
open Go.RowKit Go.Proofs
set_option linter.unusedVariables false
/-- An event. -/
structure Ev where
  kind : Int
  r : Int
  byte : Int
  pre : Int
  nums : List (List Int)
  inter : List Int
  text : List Int
  cut : Bool
deriving Inhabited
/-- An event's cells, and where its numbers lie. -/
def evC (x : Ev × Value) : List Value := [.int .i64 x.1.kind, .int .i32 x.1.r, .int .u8 x.1.byte, .int .u8 x.1.pre, x.2, .string (strOfNums x.1.inter), .string (strOfNums x.1.text), .bool x.1.cut]
theorem evC_len (x : Ev × Value) : (evC x).length = 8 := rfl
theorem Try.sl27 : SliceOf Try.prog 27 41 8 80 := SliceOf.mk (z := .agg #[.int .i64 0, .int .i32 0, .int .u8 0, .int .u8 0, .slice none 0 0, .string ⟨#[]⟩, .string ⟨#[]⟩, .bool false]) (by kernel_rfl) (by kernel_rfl) (by kernel_rfl) (by omega)
/-- Events of a row of one's own. -/
def EvRow (w : World) (base : Nat) (v : Value) (n : Nat) (l : List Ev) : Prop :=
  ∃ xs : List (Ev × Value), xs.map Prod.fst = l ∧ w.ownsRow base 41 8 v n (xs.flatMap evC) ∧ ∀ x ∈ xs, NumsAt w x.2 x.1.nums
theorem one_evC (xs : List (Ev × Value)) (h : ∀ x ∈ xs, x.2.oneCell' = true) : ∀ u ∈ xs.flatMap evC, u.oneCell' = true := by
  intro u hu
  obtain ⟨x, hx, hu⟩ := List.mem_flatMap.1 hu
  simp only [evC, List.mem_cons, List.not_mem_nil, or_false] at hu
  rcases hu with rfl | rfl | rfl | rfl | rfl | rfl | rfl | rfl
  any_goals rfl
  exact h x hx
theorem nums_one {w : World} {v : Value} {ll : List (List Int)} (h : NumsAt w v ll) : v.oneCell' = true := by
  obtain ⟨A, c, rfl, _⟩ := h
  rfl
section
variable {w w' : World} {base n c m c2 : Nat} {v : Value} {l l2 : List Ev} {S : Nat → Prop} {A : Option Addr} {e : Ev}
theorem EvRow.nil (w : World) (base c : Nat) : EvRow w base (.slice none 0 0) 0 [] := ⟨[], rfl, World.ownsRow_nil _ _ _ _, fun x h => by cases h⟩
theorem EvRow.len (h : EvRow w base v n l) : n = l.length := by
  obtain ⟨xs, rfl, h2, _⟩ := h
  rw [List.length_map]
  exact own_len evC_len (by omega) h2
theorem EvRow.form (h : EvRow w base v n l) : ∃ A c, v = .slice A l.length c := by
  have hl := h.len
  obtain ⟨xs, h1, h2, h3⟩ := h
  obtain ⟨A, c, hv⟩ := own_slice h2
  exact ⟨A, c, by rw [hv, hl]⟩
theorem EvRow.keep (h : EvRow w base v n l) (hf : Frm S w w') (hk : KN w w') (hn : ∀ k, v.ownBlock = some k → ¬ S k) : EvRow w' base v n l := by
  obtain ⟨xs, h1, h2, h3⟩ := h
  exact ⟨xs, h1, own_frm h2 hf hn, fun x hx => (h3 x hx).keep hk⟩
theorem EvRow.call (h : EvRow w base v n l) (hb : Below w.heap.size w w') : EvRow w' base v n l := by
  obtain ⟨xs, h1, h2, h3⟩ := h
  exact ⟨xs, h1, own_call h2 hb, fun x hx => (h3 x hx).keep (KN.of_below hb)⟩
theorem EvRow.drewN (h : EvRow w base v n l) (q : Nat) : EvRow (w.drewN q) base v n l := h.call (drewN_below w q)
theorem EvRow.more {base' : Nat} (h : EvRow w base v n l) (hb : base' ≤ base) : EvRow w base' v n l := by
  obtain ⟨xs, h1, h2, h3⟩ := h
  refine ⟨xs, h1, ⟨h2.1, ?_⟩, h3⟩
  rcases h2.2 with h | ⟨g, cap, cur, e, hg, rest⟩
  · exact .inl h
  · exact .inr ⟨g, cap, cur, e, by omega, rest⟩
/-- An event just built. -/
theorem ev_new {u : Value} (hu : NumsAt w u e.nums) : EvRow (w.alloc (.cells (evC (e, u)).toArray 41)) w.heap.size (.slice (some ⟨w.heap.size, 0, none⟩) 1 1) 1 [e] :=
  ⟨[(e, u)], rfl, ⟨rfl, .inr ⟨w.heap.size, 1, _, rfl, Nat.le_refl _, Blk.new _ _ _, Nat.le_refl _, by simp [maxLen], rfl, rfl⟩⟩, fun x hx => by
    rw [List.mem_singleton] at hx
    subst hx
    exact hu.keep (KN.of_below ((Below.refl _ w).alloc (Nat.le_refl _) _))⟩
theorem kn_app {B : Nat} {w0 w3 : World} {v' : Value} {xs ys : List Value} {s k : Nat} (app : App w0 B 41 s v v' n ys w3) (hown : w0.ownsRow B 41 s v k xs) : KN w0 w3 := fun g t cs ht hb => app.blk hb hown (by rcases ht with rfl | rfl <;> decide)
/-- One event more. -/
theorem EvRow.snoc {u : Value} {w3 : World} {A' : Option Addr} {c' : Nat} {xs : List (Ev × Value)} (h1 : xs.map Prod.fst = l) (h2 : w.ownsRow base 41 8 (.slice A n c) n (xs.flatMap evC)) (h3 : ∀ x ∈ xs, NumsAt w x.2 x.1.nums) (hu : NumsAt w u e.nums)
    (app : App (w.alloc (.cells (evC (e, u)).toArray 41)) base 41 8 (.slice A n c) (.slice A' (n + 1) c') (n + 1) (xs.flatMap evC ++ evC (e, u)) w3) :
    EvRow w3 base (.slice A' (n + 1) c') (n + 1) (l ++ [e]) := by
  have hk := (KN.of_below ((Below.refl _ w).alloc (Nat.le_refl _) (.cells (evC (e, u)).toArray 41))).trans (kn_app app (h2.alloc _))
  refine ⟨xs ++ [(e, u)], by rw [List.map_append, h1]; rfl, by simpa using app.own, fun x hx => ?_⟩
  rw [List.mem_append, List.mem_singleton] at hx
  rcases hx with hx | rfl
  · exact (h3 x hx).keep hk
  · exact hu.keep hk
/-- Events more. -/
theorem EvRow.app {w3 : World} {A' : Option Addr} {c' : Nat} {xs ys : List (Ev × Value)} (h1 : xs.map Prod.fst = l) (h2 : w.ownsRow base 41 8 (.slice A n c) n (xs.flatMap evC)) (h3 : ∀ x ∈ xs, NumsAt w x.2 x.1.nums) (k1 : ys.map Prod.fst = l2) (k3 : ∀ x ∈ ys, NumsAt w x.2 x.1.nums)
    (app : App w base 41 8 (.slice A n c) (.slice A' (n + m) c') (n + m) (xs.flatMap evC ++ ys.flatMap evC) w3) :
    EvRow w3 base (.slice A' (n + m) c') (n + m) (l ++ l2) := by
  have hk := kn_app app h2
  refine ⟨xs ++ ys, by rw [List.map_append, h1, k1], by simpa using app.own, fun x hx => ?_⟩
  rw [List.mem_append] at hx
  rcases hx with hx | hx
  · exact (h3 x hx).keep hk
  · exact (k3 x hx).keep hk
end
theorem ev_cells (e : Ev) (A : Option Addr) (m c : Nat) : ∀ u ∈ (evC (e, .slice A m c)).toArray.toList, u.oneCell' = true := by
  intro u hu
  simp only [evC, List.mem_cons, List.not_mem_nil, or_false] at hu
  rcases hu with rfl | rfl | rfl | rfl | rfl | rfl | rfl | rfl <;> rfl
/-- The parser's parts are what they may be. -/
structure POk (s : Ps) : Prop where
  inter : s.inter.length ≤ 2
  head : s.head.length ≤ 256
  text : s.text.length ≤ s.most
  most : s.most ≤ 65536
  digits : ∀ x ∈ s.head, 48 ≤ x ∧ x ≤ 59
  ibytes : ∀ x ∈ s.inter, 0 ≤ x ∧ x ≤ 255
  tbytes : ∀ x ∈ s.text, 0 ≤ x ∧ x ≤ 255
  dbytes : ∀ x ∈ s.dec, 0 ≤ x ∧ x ≤ 255
  last0 : 0 ≤ s.last
  last1 : s.last ≤ 255
/-- The event of a sequence that has its last byte. -/
def wholeM (s : Ps) (k last : Int) : Ev := ⟨k, 0, last, s.pre, numsF s.head, s.inter, s.text, s.cut⟩
/-- An event handed back, as a struct. -/
def OneEv (ev : Ev) (w : World) (e : Ending) (w' : World) : Prop := ∃ v, e = .returned (.agg (evC (ev, v)).toArray) ∧ NumsAt w' v ev.nums ∧ Below w.heap.size w w'
theorem Try.u22 : Try.prog.underlying 22 = some (.slice 5) := by kernel_rfl
theorem Try.u5 : Try.prog.underlying 5 = some (.int .u8) := by kernel_rfl
theorem Try.u9 : Try.prog.underlying 9 = some .string := by kernel_rfl
theorem conv_str {w : World} {B n c : Nat} {A : Option Addr} {l : List Int} (h : Rd w B 1 A n (l.map b8)) : (convert 22 9 (.slice A n c)).run Try.prog w = .ok (.string (strOfNums l)) w :=
  run_bytes_str 22 9 5 Try.u22 Try.u5 Try.u9 h
/-- Eight cells stored. -/
def set8 (w : World) (g : Nat) (a b c d e f h i : Value) : World := (((((((w.setCell ⟨g, 0, none⟩ a).setCell ⟨g, 1, none⟩ b).setCell ⟨g, 2, none⟩ c).setCell ⟨g, 3, none⟩ d).setCell ⟨g, 4, none⟩ e).setCell ⟨g, 5, none⟩ f).setCell ⟨g, 6, none⟩ h).setCell ⟨g, 7, none⟩ i
theorem set8_blk {w : World} {g : Nat} {t : TypeId} {cs : Array Value} (H : Blk w g t cs) (hs : cs.size = 8) (a b c d e f h i : Value) : Blk (set8 w g a b c d e f h i) g t #[a, b, c, d, e, f, h, i] := by
  obtain ⟨l⟩ := cs
  match l, hs with
  | [x0, x1, x2, x3, x4, x5, x6, x7], _ =>
    have hh := (((((((H.set_ 0 a).set_ 1 b).set_ 2 c).set_ 3 d).set_ 4 e).set_ 5 f).set_ 6 h).set_ 7 i
    simp only [List.setIfInBounds_toArray, List.set_cons_zero, List.set_cons_succ] at hh
    exact hh
theorem set8_frm (w : World) (g : Nat) (a b c d e f h i : Value) : Frm (fun k => k = g) w (set8 w g a b c d e f h i) :=
  ((((((((Frm.refl (fun k => k = g) w).setCell (p := ⟨g, 0, none⟩) (fun _ => rfl) _).setCell (p := ⟨g, 1, none⟩) (fun _ => rfl) _).setCell (p := ⟨g, 2, none⟩) (fun _ => rfl) _).setCell (p := ⟨g, 3, none⟩) (fun _ => rfl) _).setCell (p := ⟨g, 4, none⟩) (fun _ => rfl) _).setCell (p := ⟨g, 5, none⟩) (fun _ => rfl) _).setCell (p := ⟨g, 6, none⟩) (fun _ => rfl) _).setCell (p := ⟨g, 7, none⟩) (fun _ => rfl) _
set_option maxRecDepth 100000 in
set_option maxHeartbeats 2000000 in
theorem whole_any (P : Nat) (s : Ps) (r : Rows3) (k last : Int) (w : World) (h : PIn w P s r) (ho : POk s) :
    Calls Try.prog 33 #[.pointer (some ⟨P, 0, none⟩), .int .i64 k, .int .u8 last] w (OneEv (wholeM s k last) w) := by
  have A0 : ∀ W, Below w.heap.size w W → PIn W P s r := fun W hb => h.call hb
  have HA := hide A0
  have HO := hide ho
  have PA := hide (fun (W : World) => parse_any s.head W (by have := ho.head; omega) ho.digits)
  have CV := hide (fun (W : World) (hb : Below w.heap.size w W) => And.intro (conv_str (c := r.c1) (Rd.of_own (A0 W hb).head)) (And.intro (conv_str (c := r.c2) (Rd.of_own (A0 W hb).inter)) (conv_str (c := r.c3) (Rd.of_own (A0 W hb).text))))
  have w0b : Below w.heap.size w (w.alloc (.cells #[.int .i64 0, .int .i32 0, .int .u8 0, .int .u8 0, .slice none 0 0, .string ⟨#[]⟩, .string ⟨#[]⟩, .bool false] 41)) := (Below.refl _ w).alloc (Nat.le_refl _) _
  have cv0 := (CV.out _ w0b).1
  obtain ⟨c0, c1, c2, c3, c4, c5, c6, c7, c8, fz, hlt⟩ := h.cells
  clear h ho A0
  go_enter Try.func33, Try.ntmps33
  go_upto_region 2 with (go_at_call 44; go_must (refine (PA.out _).mono ?_; rintro e w1 ⟨v, rfl, hN, hb⟩; obtain ⟨AN, cN, hv, hN2⟩ := hN; have hN : NumsAt w1 v (numsF s.head) := ⟨AN, cN, hv, hN2⟩; clear hN2; subst hv; have HB := hide (below_in w0b hb (Nat.le_refl _)); have HN := hide hN; have g1 := hide ((Blk.new w 41 _).below hb (by simp)); clear hb hN))
  obtain ⟨d0, d1, d2, d3, d4, d5, d6, d7, d8, dz, dlt⟩ := (HA.out w1 HB.out).cells
  have cvA := CV.out w1.drew HB.out.drew
  have cv1 := cvA.2.1
  have cv2 := cvA.2.2
  have hgl := g1.out.lt
  clear c0 c1 c2 c3 c4 c5 c6 c7 c8 cvA cv0
  go_still_tail 25, (by kernel_rfl)
  obtain ⟨w2, hw2⟩ : ∃ w2, w2 = w1.drew := ⟨_, rfl⟩
  have G2 : Blk w2 w.heap.size 41 #[.int .i64 0, .int .i32 0, .int .u8 0, .int .u8 0, .slice none 0 0, .string ⟨#[]⟩, .string ⟨#[]⟩, .bool false] := by rw [hw2]; exact g1.out.drew
  have q0 := G2.cell 0
  have q1 := G2.cell 1
  have q2 := G2.cell 2
  have q3 := G2.cell 3
  have q4 := G2.cell 4
  have q5 := G2.cell 5
  have q6 := G2.cell 6
  have q7 := G2.cell 7
  have qf := fun i => G2.frozen i
  simp only [List.getElem?_toArray, List.getElem?_cons_succ, List.getElem?_cons_zero] at q0 q1 q2 q3 q4 q5 q6 q7
  have HB2 := hide (show Below w.heap.size w w2 by rw [hw2]; exact HB.out.drew)
  have HN2 := hide (show NumsAt w2 (.slice AN (numsF s.head).length cN) (numsF s.head) by rw [hw2]; exact HN.out.keep (fun g t cs _ h => h.drew))
  have G2 := hide G2
  change wpList _ _ _ _ _ w1.drew
  rw [← hw2]
  clear hw2 d0 d1 d2 d3 d4 d5 d6 d7 d8 dz cv1 cv2
  go_wp2_with fail
  change bodyPost _ _ _ _ _ (set8 w2 w.heap.size (.int .i64 k) (.int .i32 0) (.int .u8 last) (.int .u8 s.pre) (.slice AN (numsF s.head).length cN) (.string (strOfNums s.inter)) (.string (strOfNums s.text)) (.bool s.cut))
  have G9 := set8_blk G2.out rfl (.int .i64 k) (.int .i32 0) (.int .u8 last) (.int .u8 s.pre) (.slice AN (numsF s.head).length cN) (.string (strOfNums s.inter)) (.string (strOfNums s.text)) (.bool s.cut)
  have F9 := set8_frm w2 w.heap.size (.int .i64 k) (.int .i32 0) (.int .u8 last) (.int .u8 s.pre) (.slice AN (numsF s.head).length cN) (.string (strOfNums s.inter)) (.string (strOfNums s.text)) (.bool s.cut)
  generalize set8 w2 w.heap.size (.int .i64 k) (.int .i32 0) (.int .u8 last) (.int .u8 s.pre) (.slice AN (numsF s.head).length cN) (.string (strOfNums s.inter)) (.string (strOfNums s.text)) (.bool s.cut) = W9 at G9 F9 ⊢
  have HB9 : Below w.heap.size w W9 := HB2.out.trans (F9.to_below HB2.out.size (fun i hi => by omega))
  have HN9 : NumsAt W9 (.slice AN (numsF s.head).length cN) (numsF s.head) := HN2.out.keep (fun g t cs ht hb => hb.frm F9 (hb.ne_ G2.out (by rcases ht with rfl | rfl <;> decide)))
  have v0 := G9.cell 0
  have v1 := G9.cell 1
  have v2 := G9.cell 2
  have v3 := G9.cell 3
  have v4 := G9.cell 4
  have v5 := G9.cell 5
  have v6 := G9.cell 6
  have v7 := G9.cell 7
  simp only [List.getElem?_toArray, List.getElem?_cons_succ, List.getElem?_cons_zero] at v0 v1 v2 v3 v4 v5 v6 v7
  refine bodyPost_ret (v := .agg (evC (wholeM s k last, .slice AN (numsF s.head).length cN)).toArray) (by simp [evC, wholeM, results, Try.results33, go_sem, v0, v1, v2, v3, v4, v5, v6, v7]) rfl ⟨_, rfl, HN9, HB9⟩
end Go.Proofs.Ythbjjhoajecpcaa
