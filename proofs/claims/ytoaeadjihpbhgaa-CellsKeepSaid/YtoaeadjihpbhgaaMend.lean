/-
  empty, blank, pair and mend, walked. No condition but bounds.
-/
import Derived.Test.YtoaeadjihpbhgaaCell
import Derived.Lib.ItoaWalk
namespace Go.Proofs.Ytoaeadjihpbhgaa
open Go.RowKit Go.Proofs
set_option linter.unusedVariables false
def emptyC (a : At8) : Cell := ⟨0, { data := #[] }, 0, a⟩
def blankC (bk bn : Int) : Cell := emptyC ⟨0, 0, bk, bn, 0⟩
/-- Are two cells the halves of one? -/
def pairB (c d : Cell) : Bool := decide (c.half = 1) && decide (d.half = 2) && sameC c { d with half := 1 }
/-- A row, mended. -/
def mendF : List Cell → List Cell
  | [] => []
  | [c] => [if c.half = 0 ∨ c.half = 3 then c else emptyC c.a]
  | c :: d :: l => if c.half = 0 then c :: mendF (d :: l) else if pairB c d = true then c :: d :: mendF l else emptyC c.a :: mendF (d :: l)
theorem mend_plain {c : Cell} (h : c.half = 0) (l : List Cell) : mendF (c :: l) = c :: mendF l := by
  cases l with
  | nil => show [if _ then c else _] = _; rw [if_pos (.inl h)]; rfl
  | cons d l => rw [mendF, if_pos h]
theorem mend_pad {c : Cell} (h : c.half = 3) : mendF [c] = [c] := by show [if _ then c else _] = _; rw [if_pos (.inr h)]
theorem mend_pair {c d : Cell} (h : pairB c d = true) (l : List Cell) : mendF (c :: d :: l) = c :: d :: mendF l := by
  have h0 : ¬ c.half = 0 := by unfold pairB at h; simp at h; omega
  rw [mendF, if_neg h0, if_pos h]
theorem mend_broken {c : Cell} {l : List Cell} (h0 : ¬ c.half = 0) (h3 : ¬ (c.half = 3 ∧ l = [])) (hp : ∀ d t, l = d :: t → pairB c d = false) : mendF (c :: l) = emptyC c.a :: mendF l := by
  cases l with
  | nil => show [if _ then c else _] = _; rw [if_neg (by rintro (h | h); exact h0 h; exact h3 ⟨h, rfl⟩)]; rfl
  | cons d t => rw [mendF, if_neg h0, if_neg (by rw [hp d t rfl]; simp)]
theorem mendF_len : ∀ l : List Cell, (mendF l).length = l.length
  | [] => rfl
  | [c] => rfl
  | c :: d :: l => by
    rw [mendF]
    split
    · rw [List.length_cons, mendF_len (d :: l)]; rfl
    · split
      · rw [List.length_cons, List.length_cons, mendF_len l]; rfl
      · rw [List.length_cons, mendF_len (d :: l)]; rfl
/-- A cell handed back. -/
def RetC (c : Cell) (w : World) (e : Ending) (w' : World) : Prop := e = .returned (.agg #[.int .i32 c.r, .string c.more, .int .i64 c.half, .int .i64 c.a.fk, .int .i64 c.a.fn, .int .i64 c.a.bk, .int .i64 c.a.bn, .int .i64 c.a.fl]) ∧ Below w.heap.size w w'
/-- An empty cell handed back. -/
def RetE (fk fn bk bn fl : Int) (w : World) (e : Ending) (w' : World) : Prop := e = .returned (.agg #[.int .i32 0, .string { data := #[] }, .int .i64 0, .int .i64 fk, .int .i64 fn, .int .i64 bk, .int .i64 bn, .int .i64 fl]) ∧ Below w.heap.size w w'
theorem blk8 {w : World} {g : Nat} {t : TypeId} {a b c d e f h i : Value} (k : Blk w g t #[a, b, c, d, e, f, h, i]) :
    (w.cell? ⟨g, 0, none⟩ = some a ∧ w.cell? ⟨g, 1, none⟩ = some b ∧ w.cell? ⟨g, 2, none⟩ = some c ∧ w.cell? ⟨g, 3, none⟩ = some d ∧ w.cell? ⟨g, 4, none⟩ = some e ∧ w.cell? ⟨g, 5, none⟩ = some f ∧ w.cell? ⟨g, 6, none⟩ = some h ∧ w.cell? ⟨g, 7, none⟩ = some i) ∧
    (w.frozen? ⟨g, 0, none⟩ = false ∧ w.frozen? ⟨g, 1, none⟩ = false ∧ w.frozen? ⟨g, 2, none⟩ = false ∧ w.frozen? ⟨g, 3, none⟩ = false ∧ w.frozen? ⟨g, 4, none⟩ = false ∧ w.frozen? ⟨g, 5, none⟩ = false ∧ w.frozen? ⟨g, 6, none⟩ = false ∧ w.frozen? ⟨g, 7, none⟩ = false) :=
  ⟨⟨k.cell 0, k.cell 1, k.cell 2, k.cell 3, k.cell 4, k.cell 5, k.cell 6, k.cell 7⟩, ⟨k.frozen 0, k.frozen 1, k.frozen 2, k.frozen 3, k.frozen 4, k.frozen 5, k.frozen 6, k.frozen 7⟩⟩
set_option maxHeartbeats 1000000 in
theorem empty_any (fk fn bk bn fl : Int) (w : World) : Calls Try.prog 50 #[.agg #[.int .i64 fk, .int .i64 fn, .int .i64 bk, .int .i64 bn, .int .i64 fl]] w (RetE fk fn bk bn fl w) := by
  go_enter Try.func50, Try.ntmps50
  go_wp2
  refine bodyPost_ret (v := .agg #[.int .i32 0, .string { data := #[] }, .int .i64 0, .int .i64 fk, .int .i64 fn, .int .i64 bk, .int .i64 bn, .int .i64 fl]) (by simp [results, Try.results50, go_sem]) rfl ?_
  exact ⟨rfl, ((Below.refl _ _).alloc (Nat.le_refl _) _).alloc (by simp) _⟩
set_option maxHeartbeats 1000000 in
theorem blank_any (bk bn : Int) (w : World) : Calls Try.prog 24 #[.agg #[.int .i64 bk, .int .i64 bn]] w (RetE 0 0 bk bn 0 w) := by
  have E := hide (fun (W : World) => empty_any 0 0 bk bn 0 W)
  have KB := hide (fun (w1 : World) (b1 : Below ((w.alloc (.cells #[.int .i64 bk, .int .i64 bn] 23)).alloc (.cells #[.int .i32 0, .string { data := #[] }, .int .i64 0, .int .i64 0, .int .i64 0, .int .i64 0, .int .i64 0, .int .i64 0] 40)).heap.size ((w.alloc (.cells #[.int .i64 bk, .int .i64 bn] 23)).alloc (.cells #[.int .i32 0, .string { data := #[] }, .int .i64 0, .int .i64 0, .int .i64 0, .int .i64 0, .int .i64 0, .int .i64 0] 40)) w1) =>
    (Blk.new' (w := w.alloc (.cells #[.int .i64 bk, .int .i64 bn] 23)) (g := w.heap.size + 1) (by simp) 40 #[.int .i32 0, .string { data := #[] }, .int .i64 0, .int .i64 0, .int .i64 0, .int .i64 0, .int .i64 0, .int .i64 0]).below b1 (by simp))
  go_enter Try.func24, Try.ntmps24
  go_wp2_with (go_at_call 50; go_must (refine (E.out _).mono ?_; rintro e w1 ⟨rfl, b1⟩; have k1 := KB.out w1 b1; obtain ⟨⟨x0, x1, x2, x3, x4, x5, x6, x7⟩, ⟨y0, y1, y2, y3, y4, y5, y6, y7⟩⟩ := blk8 k1; have K1 := hide k1; have B1 := hide b1; clear k1 b1))
  refine bodyPost_ret (v := .agg #[.int .i32 0, .string { data := #[] }, .int .i64 0, .int .i64 0, .int .i64 0, .int .i64 bk, .int .i64 bn, .int .i64 0]) (by simp [results, Try.results24, go_sem, x0, x1, x2, x3, x4, x5, x6, x7]) rfl ?_
  refine ⟨rfl, ?_⟩
  have hb := below_in (((Below.refl w.heap.size w).alloc (Nat.le_refl _) _).alloc (by simp) _) B1.out (Nat.le_refl _)
  exact (((((((hb.setCell (p := ⟨w.heap.size + 1, 0, none⟩) (by simp) _).setCell (p := ⟨w.heap.size + 1, 1, none⟩) (by simp) _).setCell (p := ⟨w.heap.size + 1, 2, none⟩) (by simp) _).setCell (p := ⟨w.heap.size + 1, 3, none⟩) (by simp) _).setCell (p := ⟨w.heap.size + 1, 4, none⟩) (by simp) _).setCell (p := ⟨w.heap.size + 1, 5, none⟩) (by simp) _).setCell (p := ⟨w.heap.size + 1, 6, none⟩) (by simp) _).setCell (p := ⟨w.heap.size + 1, 7, none⟩) (by simp) _
set_option maxHeartbeats 1000000 in
theorem rblank_any (bk bn : Int) (w : World) : Calls Try.prog 25 #[.agg #[.int .i64 bk, .int .i64 bn]] w (RetE 0 0 bk bn 0 w) := by
  go_enter Try.func25, Try.ntmps25
  go_wp2
  refine bodyPost_ret (v := .agg #[.int .i32 0, .string { data := #[] }, .int .i64 0, .int .i64 0, .int .i64 0, .int .i64 bk, .int .i64 bn, .int .i64 0]) (by simp [results, Try.results25, go_sem]) rfl ?_
  exact ⟨rfl, ((Below.refl _ _).alloc (Nat.le_refl _) _).alloc (by simp) _⟩
/-- A Bool handed back; memory of the call's own alone has come. -/
def RetBl (x : Bool) (w : World) (e : Ending) (w' : World) : Prop := e = .returned (.bool x) ∧ Below w.heap.size w w'
set_option maxHeartbeats 1000000 in
theorem pair_any (c d : Cell) (w : World) (h1 : c.half = 1) (h2 : d.half = 2) : Calls Try.prog 72 #[.agg #[.int .i32 c.r, .string c.more, .int .i64 1, .int .i64 c.a.fk, .int .i64 c.a.fn, .int .i64 c.a.bk, .int .i64 c.a.bn, .int .i64 c.a.fl], .agg #[.int .i32 d.r, .string d.more, .int .i64 2, .int .i64 d.a.fk, .int .i64 d.a.fn, .int .i64 d.a.bk, .int .i64 d.a.bn, .int .i64 d.a.fl]] w (RetBl (pairB c d) w) := by
  have ce := cell_eq c { d with half := 1 }
  unfold cellE at ce
  have hp : pairB c d = sameC c { d with half := 1 } := by unfold pairB; rw [h1, h2]; simp
  rw [← hp] at ce
  rw [h1] at ce
  obtain ⟨b, hb⟩ : ∃ b, pairB c d = b := ⟨_, rfl⟩
  rw [hb] at ce ⊢
  clear hp hb h1 h2
  go_enter Try.func72, Try.ntmps72
  go_wp2
  go_ret
  exact ⟨rfl, ((Below.refl _ _).alloc (Nat.le_refl _) _).alloc (by simp) _⟩
theorem set_take {l : List Cell} {k : Nat} {c : Cell} (d : Cell) (h : l[k]? = some c) : (l.set k d).take (k + 1) = l.take k ++ [d] ∧ (l.set k d).drop (k + 1) = l.drop (k + 1) := by
  have hk := (List.getElem?_eq_some_iff.1 h).1
  refine ⟨?_, ?_⟩
  · rw [List.take_add_one, List.getElem?_set_self hk, List.take_set_of_le (Nat.le_refl _)]; rfl
  · rw [List.drop_set_of_lt (by omega)]
/-- What mend leaves. -/
def MendPost (g : Nat) (l : List Cell) (T : List Value) (w : World) (e : Ending) (w' : World) : Prop := e = .returned (.tuple #[]) ∧ RowAt w' g [] l T ∧ Frm (fun k => k = g) w w'
set_option maxRecDepth 100000 in
set_option maxHeartbeats 4000000 in
theorem mend_row (g : Nat) (T : List Value) (l : List Cell) (n c : Nat) (w : World) (h : RowAt w g [] l T) (hl : l.length = n) (hn : n ≤ 100000) :
    Calls Try.prog 64 #[.slice (some ⟨g, 0, none⟩) n c] w (MendPost g (mendF l) T w) := by
  have H := hide h
  have HL := hide hl
  have EM := hide (fun (a b c d e : Int) (W : World) => empty_any a b c d e W)
  clear h hl
  go_enter Try.func64, Try.ntmps64
  go_wp2
  go_loopg [2] n (fun gg s2 wr => ∃ (k : Nat) (m : List Cell), k ≤ n ∧ n - k ≤ gg ∧ s2 = .int .i64 k ∧ Hid (m.length = n) ∧ Hid (mendF l = m.take k ++ mendF (m.drop k)) ∧ Hid (RowAt wr g [] m T) ∧ Hid (Frm (fun k => k = g) w wr))
  case atStart => exact ⟨0, l, by omega, by omega, rfl, HL.out, rfl, H.out, Frm.refl _ _⟩
  case round =>
    obtain ⟨k, m, hkn, hgk, rfl, HM, HE, HR, HF⟩ := hrel
    have hgl := HR.out.blk.lt
    by_cases hlt : k < n
    · have d1 : decide (k < n) = true := by simpa using hlt
      obtain ⟨x, hx⟩ : ∃ x, m[k]? = some x := ⟨_, List.getElem?_eq_getElem (by rw [HM.out]; exact hlt)⟩
      have hdr := drop_at hx
      have htk := take_snoc hx
      have e8 := HR.out.eight hx
      simp only [List.length_nil, Nat.zero_add] at e8
      obtain ⟨x0, x1, x2, x3, x4, x5, x6, x7⟩ := e8
      have HX := hide (And.intro hx (And.intro hdr htk))
      obtain ⟨hh, hhh⟩ : ∃ hh, x.half = hh := ⟨_, rfl⟩
      rw [hhh] at x2
      have HH := hide hhh
      clear hx hdr htk hhh
      by_cases a0 : hh = 0
      · subst a0
        have HE2 := hide (show mendF l = m.take (k + 1) ++ mendF (m.drop (k + 1)) by rw [HE.out, HX.out.2.1, mend_plain HH.out, HX.out.2.2]; simp)
        go_wp2
        go_roundg (n - (k + 1))
        case measure => omega
        case rel => exact ⟨k + 1, m, by omega, by omega, by go_num, HM.out, HE2.out, HR.out.frm ((Frm.refl (fun _ => False) wr).alloc _) (fun h => h), HF.out.alloc _⟩
      · have d2 : (hh == 0) = false := by simpa using a0
        by_cases a3 : hh = 3 ∧ k + 1 = n
        · obtain ⟨rfl, rfl⟩ := a3
          have e0 : m.drop (k + 1) = [] := List.drop_of_length_le (by rw [HM.out]; exact Nat.le_refl _)
          have HE2 := hide (show mendF l = m.take (k + 1) ++ mendF (m.drop (k + 1)) by rw [HE.out, HX.out.2.1, HX.out.2.2, e0, mend_pad HH.out]; simp [mendF])
          clear e0
          go_wp2
          go_roundg ((k + 1) - (k + 1))
          case measure => omega
          case rel => exact ⟨k + 1, m, by omega, by omega, by go_num, HM.out, HE2.out, HR.out.frm ((Frm.refl (fun _ => False) wr).alloc _) (fun h => h), HF.out.alloc _⟩
        · obtain ⟨pb, hpb⟩ : ∃ pb, (match m[k + 1]? with | some d => pairB x d | none => false) = pb := ⟨_, rfl⟩
          have HPB := hide hpb
          have hk1 : (hh = 3 ∧ ((k : Int) == (n : Int) - 1) = false) ∨ (¬ hh = 3 ∧ (hh == 3) = false) := by
            by_cases h3 : hh = 3
            · exact .inl ⟨h3, by simp; omega⟩
            · exact .inr ⟨h3, by simpa using h3⟩
          have HNB := hide (show ∀ b, pb = b → b = false → mendF l = (m.set k (emptyC x.a)).take (k + 1) ++ mendF ((m.set k (emptyC x.a)).drop (k + 1)) from by
            rintro b rfl hbf
            have hs := set_take (emptyC x.a) HX.out.1
            rw [hs.1, hs.2, HE.out, HX.out.2.1, mend_broken (by rw [HH.out]; exact a0) ?_ ?_]
            · simp
            · rintro ⟨h3, h4⟩
              refine a3 ⟨by rw [← HH.out]; exact h3, ?_⟩
              have := congrArg List.length h4
              rw [List.length_drop, HM.out] at this
              simp at this; omega
            · intro d t ht
              have : m[k + 1]? = some d := by
                have h5 : (m.drop (k + 1))[0]? = some d := by rw [ht]; rfl
                rwa [List.getElem?_drop] at h5
              have h6 := HPB.out
              rw [this, hbf] at h6
              exact h6)
          clear hpb
          rcases hk1 with ⟨rfl, hk1⟩ | ⟨h3, hk1⟩
          · go_upto_region 6 with (fail)
            go_name_world Wb hWb
            have qb : Blk Wb wr.heap.size 40 #[.int .i32 x.r, .string x.more, .int .i64 3, .int .i64 x.a.fk, .int .i64 x.a.fn, .int .i64 x.a.bk, .int .i64 x.a.bn, .int .i64 x.a.fl] := by rw [← hWb]; exact Blk.new _ _ _
            have nb : Below wr.heap.size wr Wb := by rw [← hWb]; exact (Below.refl _ _).alloc (Nat.le_refl _) _
            have HRb := hide (HR.out.below nb hgl)
            have QB := hide qb
            have NB := hide nb
            clear hWb nb x0 x1 x2 x3 x4 x5 x6 x7
            obtain ⟨⟨q0, q1, q2, q3, q4, q5, q6, q7⟩, _⟩ := blk8 qb
            clear qb
            go_cut [36] (fun s wx => s = .bool pb ∧ Hid (Below Wb.heap.size Wb wx))
            case first =>
              have hp : pb = false := by
                rw [← HPB.out]
                have := HH.out
                split
                · unfold pairB; simp; omega
                · rfl
              subst hp
              go_quiet (fail)
              go_wp2
              go_meet
              exact ⟨rfl, drewN_below Wb nq⟩
            case rest =>
              obtain ⟨rfl, HC⟩ := hcut
              have hzb := Nat.le_trans NB.out.size HC.out.size
              have BC := hide (NB.out.trans (HC.out.mono NB.out.size))
              have HRc := hide (HR.out.below BC.out hgl)
              have HFc := hide (HF.out.trans (Frm.of_below (S := fun _ => False) BC.out (fun i h1 h2 => by omega)) (fun i _ h => h.elim))
              obtain ⟨⟨q0, q1, q2, q3, q4, q5, q6, q7⟩, _⟩ := blk8 (QB.out.below HC.out QB.out.lt)
              cases pb with
              | true =>
                have HY := hide (show ∃ y, m[k + 1]? = some y ∧ pairB x y = true from by
                  have h1 := HPB.out
                  cases h2 : m[k + 1]? with
                  | none => rw [h2] at h1; cases h1
                  | some y => rw [h2] at h1; exact ⟨y, rfl, h1⟩)
                obtain ⟨y, hy, hp⟩ := HY.out
                have hk2 : k + 1 < n := by have := (List.getElem?_eq_some_iff.1 hy).1; rw [HM.out] at this; exact this
                have HE2 := hide (show mendF l = m.take (k + 2) ++ mendF (m.drop (k + 2)) by
                  rw [HE.out, HX.out.2.1, drop_at hy, mend_pair hp, take_snoc (k := k + 1) hy, HX.out.2.2]; simp)
                clear hy hp
                go_wp2
                go_roundg (n - (k + 2))
                case measure => omega
                case rel => exact ⟨k + 2, m, by omega, by omega, by go_num, HM.out, HE2.out, HRc.out, HFc.out⟩
              | false =>
                have HE2 := hide (HNB.out false rfl rfl)
                have EM1 := hide (EM.out x.a.fk x.a.fn x.a.bk x.a.bn x.a.fl)
                go_upto_region 2 with (go_at_call 50; go_must (refine (EM1.out _).mono ?_; rintro e w1 ⟨rfl, b1⟩; have r1 := HRc.out.below b1 HRc.out.blk.lt; have HR1 := hide r1; have HF1 := hide (HFc.out.trans (Frm.of_below (S := fun _ => False) b1 (fun i h1 h2 => by omega)) (fun i _ h => h.elim)); have e8 := r1.eight HX.out.1; simp only [List.length_nil, Nat.zero_add] at e8; obtain ⟨z0, z1, z2, z3, z4, z5, z6, z7⟩ := e8; have f0 := fun i => r1.frozen i; clear r1 b1))
                go_wp2
                go_roundg (n - (k + 1))
                case measure => omega
                case rel =>
                  refine ⟨k + 1, m.set k (emptyC x.a), by omega, by omega, by go_num, by show (m.set k (emptyC x.a)).length = n; rw [List.length_set]; exact HM.out, HE2.out, ?_, ?_⟩
                  · exact HR1.out.set8 HX.out.1 (emptyC x.a) (o := k * 8) (by simp)
                  · exact (((((((HF1.out.setCell (p := ⟨g, k * 8, none⟩) (fun _ => rfl) _).setCell (p := ⟨g, k * 8 + 1, none⟩) (fun _ => rfl) _).setCell (p := ⟨g, k * 8 + 2, none⟩) (fun _ => rfl) _).setCell (p := ⟨g, k * 8 + 3, none⟩) (fun _ => rfl) _).setCell (p := ⟨g, k * 8 + 4, none⟩) (fun _ => rfl) _).setCell (p := ⟨g, k * 8 + 5, none⟩) (fun _ => rfl) _).setCell (p := ⟨g, k * 8 + 6, none⟩) (fun _ => rfl) _).setCell (p := ⟨g, k * 8 + 7, none⟩) (fun _ => rfl) _
          · go_upto_region 6 with (fail)
            go_name_world Wb hWb
            have qb : Blk Wb wr.heap.size 40 #[.int .i32 x.r, .string x.more, .int .i64 hh, .int .i64 x.a.fk, .int .i64 x.a.fn, .int .i64 x.a.bk, .int .i64 x.a.bn, .int .i64 x.a.fl] := by rw [← hWb]; exact Blk.new _ _ _
            have nb : Below wr.heap.size wr Wb := by rw [← hWb]; exact (Below.refl _ _).alloc (Nat.le_refl _) _
            have HRb := hide (HR.out.below nb hgl)
            have QB := hide qb
            have NB := hide nb
            clear hWb nb x0 x1 x2 x3 x4 x5 x6 x7
            obtain ⟨⟨q0, q1, q2, q3, q4, q5, q6, q7⟩, _⟩ := blk8 qb
            clear qb
            go_cut [36] (fun s wx => s = .bool pb ∧ Hid (Below Wb.heap.size Wb wx))
            case first =>
              by_cases b1 : hh = 1
              · subst b1
                by_cases b2 : k + 1 < n
                · obtain ⟨y, hy⟩ : ∃ y, m[k + 1]? = some y := ⟨_, List.getElem?_eq_getElem (by rw [HM.out]; exact b2)⟩
                  have e8 := HRb.out.eight hy
                  simp only [List.length_nil, Nat.zero_add] at e8
                  obtain ⟨y0, y1, y2, y3, y4, y5, y6, y7⟩ := e8
                  have hpb := HPB.out
                  rw [hy] at hpb
                  have hpb : pairB x y = pb := hpb
                  have b4 : (k : Int) + 1 < n := by omega
                  have b5 : decide ((k : Int) + 1 < n) = true := by simp; omega
                  by_cases b3 : y.half = 2
                  · rw [b3] at y2
                    obtain ⟨q, hq⟩ : ∃ q, k + 1 = q := ⟨_, rfl⟩
                    rw [hq] at y0 y1 y2 y3 y4 y5 y6 y7
                    have PA := hide (fun (W : World) => show Calls Try.prog 72 _ W (RetBl pb W) by rw [← hpb]; exact pair_any x y W HH.out b3)
                    have hgb := HRb.out.blk.lt
                    have hwb := QB.out.lt
                    have E0 := hide (show ∀ W, Below Wb.heap.size Wb W → (W.cell? ⟨wr.heap.size, 0, none⟩ = some (.int .i32 x.r) ∧ W.cell? ⟨wr.heap.size, 1, none⟩ = some (.string x.more) ∧ W.cell? ⟨wr.heap.size, 2, none⟩ = some (.int .i64 1) ∧ W.cell? ⟨wr.heap.size, 3, none⟩ = some (.int .i64 x.a.fk) ∧ W.cell? ⟨wr.heap.size, 4, none⟩ = some (.int .i64 x.a.fn) ∧ W.cell? ⟨wr.heap.size, 5, none⟩ = some (.int .i64 x.a.bk) ∧ W.cell? ⟨wr.heap.size, 6, none⟩ = some (.int .i64 x.a.bn) ∧ W.cell? ⟨wr.heap.size, 7, none⟩ = some (.int .i64 x.a.fl) ∧
                        W.cell? ⟨g, q * 8, none⟩ = some (.int .i32 y.r) ∧ W.cell? ⟨g, q * 8 + 1, none⟩ = some (.string y.more) ∧ W.cell? ⟨g, q * 8 + 2, none⟩ = some (.int .i64 2) ∧ W.cell? ⟨g, q * 8 + 3, none⟩ = some (.int .i64 y.a.fk) ∧ W.cell? ⟨g, q * 8 + 4, none⟩ = some (.int .i64 y.a.fn) ∧ W.cell? ⟨g, q * 8 + 5, none⟩ = some (.int .i64 y.a.bk) ∧ W.cell? ⟨g, q * 8 + 6, none⟩ = some (.int .i64 y.a.bn) ∧ W.cell? ⟨g, q * 8 + 7, none⟩ = some (.int .i64 y.a.fl)) from fun W hW =>
                      ⟨(hW.cell (p := ⟨wr.heap.size, 0, none⟩) hwb).trans q0, (hW.cell (p := ⟨wr.heap.size, 1, none⟩) hwb).trans q1, (hW.cell (p := ⟨wr.heap.size, 2, none⟩) hwb).trans q2, (hW.cell (p := ⟨wr.heap.size, 3, none⟩) hwb).trans q3, (hW.cell (p := ⟨wr.heap.size, 4, none⟩) hwb).trans q4, (hW.cell (p := ⟨wr.heap.size, 5, none⟩) hwb).trans q5, (hW.cell (p := ⟨wr.heap.size, 6, none⟩) hwb).trans q6, (hW.cell (p := ⟨wr.heap.size, 7, none⟩) hwb).trans q7,
                       (hW.cell (p := ⟨g, q * 8, none⟩) hgb).trans y0, (hW.cell (p := ⟨g, q * 8 + 1, none⟩) hgb).trans y1, (hW.cell (p := ⟨g, q * 8 + 2, none⟩) hgb).trans y2, (hW.cell (p := ⟨g, q * 8 + 3, none⟩) hgb).trans y3, (hW.cell (p := ⟨g, q * 8 + 4, none⟩) hgb).trans y4, (hW.cell (p := ⟨g, q * 8 + 5, none⟩) hgb).trans y5, (hW.cell (p := ⟨g, q * 8 + 6, none⟩) hgb).trans y6, (hW.cell (p := ⟨g, q * 8 + 7, none⟩) hgb).trans y7⟩)
                    have ed := E0.out _ (Below.refl _ _)
                    have DR := (Below.refl Wb.heap.size Wb).drew
                    have hqn : q < n := by omega
                    have hqI : (q : Int) < n := by omega
                    have hqd : decide (q < n) = true := by simpa using hqn
                    have hqs : (k : Int) + 1 = q := by omega
                    have hqw : IntKind.i64.wrap (q : Int) = q := IntWalk.i64_in _ ⟨by omega, by omega⟩
                    clear hpb hy hq b2 b4 b5
                    go_region_held3 (fun W => W.cell? ⟨wr.heap.size, 0, none⟩ = some (.int .i32 x.r) ∧ W.cell? ⟨wr.heap.size, 1, none⟩ = some (.string x.more) ∧ W.cell? ⟨wr.heap.size, 2, none⟩ = some (.int .i64 1) ∧ W.cell? ⟨wr.heap.size, 3, none⟩ = some (.int .i64 x.a.fk) ∧ W.cell? ⟨wr.heap.size, 4, none⟩ = some (.int .i64 x.a.fn) ∧ W.cell? ⟨wr.heap.size, 5, none⟩ = some (.int .i64 x.a.bk) ∧ W.cell? ⟨wr.heap.size, 6, none⟩ = some (.int .i64 x.a.bn) ∧ W.cell? ⟨wr.heap.size, 7, none⟩ = some (.int .i64 x.a.fl) ∧
                        W.cell? ⟨g, q * 8, none⟩ = some (.int .i32 y.r) ∧ W.cell? ⟨g, q * 8 + 1, none⟩ = some (.string y.more) ∧ W.cell? ⟨g, q * 8 + 2, none⟩ = some (.int .i64 2) ∧ W.cell? ⟨g, q * 8 + 3, none⟩ = some (.int .i64 y.a.fk) ∧ W.cell? ⟨g, q * 8 + 4, none⟩ = some (.int .i64 y.a.fn) ∧ W.cell? ⟨g, q * 8 + 5, none⟩ = some (.int .i64 y.a.bk) ∧ W.cell? ⟨g, q * 8 + 6, none⟩ = some (.int .i64 y.a.bn) ∧ W.cell? ⟨g, q * 8 + 7, none⟩ = some (.int .i64 y.a.fl))
                      (first | (exact ed) | (exact E0.out _ C1) | go_keep)
                      (first | (go_at_call 72; (refine (PA.out _).mono ?_); rintro e w1 ⟨rfl, bb⟩; have C1 := below_in DR bb (Nat.le_refl _)))
                    go_wp2
                    go_meet
                    exact ⟨rfl, C1⟩
                  · have b6 : (y.half == 2) = false := by simpa using b3
                    have hp : pb = false := by rw [← hpb]; unfold pairB; simp [b3]
                    subst hp
                    clear hpb hy
                    go_quiet (fail)
                    go_wp2
                    go_meet
                    exact ⟨rfl, drewN_below Wb nq⟩
                · have b5 : decide ((k : Int) + 1 < n) = false := by simp; omega
                  have hy : m[k + 1]? = none := List.getElem?_eq_none (by rw [HM.out]; omega)
                  have hp := HPB.out
                  rw [hy] at hp
                  subst hp
                  clear hy
                  go_quiet (fail)
                  go_wp2
                  go_meet
                  exact ⟨rfl, drewN_below Wb nq⟩
              · have b6 : (hh == 1) = false := by simpa using b1
                have hp : pb = false := by
                  rw [← HPB.out]
                  have := HH.out
                  split
                  · unfold pairB; simp; omega
                  · rfl
                subst hp
                go_quiet (fail)
                go_wp2
                go_meet
                exact ⟨rfl, drewN_below Wb nq⟩
            case rest =>
              obtain ⟨rfl, HC⟩ := hcut
              have hzb := Nat.le_trans NB.out.size HC.out.size
              have BC := hide (NB.out.trans (HC.out.mono NB.out.size))
              have HRc := hide (HR.out.below BC.out hgl)
              have HFc := hide (HF.out.trans (Frm.of_below (S := fun _ => False) BC.out (fun i h1 h2 => by omega)) (fun i _ h => h.elim))
              obtain ⟨⟨q0, q1, q2, q3, q4, q5, q6, q7⟩, _⟩ := blk8 (QB.out.below HC.out QB.out.lt)
              cases pb with
              | true =>
                have HY := hide (show ∃ y, m[k + 1]? = some y ∧ pairB x y = true from by
                  have h1 := HPB.out
                  cases h2 : m[k + 1]? with
                  | none => rw [h2] at h1; cases h1
                  | some y => rw [h2] at h1; exact ⟨y, rfl, h1⟩)
                obtain ⟨y, hy, hp⟩ := HY.out
                have hk2 : k + 1 < n := by have := (List.getElem?_eq_some_iff.1 hy).1; rw [HM.out] at this; exact this
                have HE2 := hide (show mendF l = m.take (k + 2) ++ mendF (m.drop (k + 2)) by
                  rw [HE.out, HX.out.2.1, drop_at hy, mend_pair hp, take_snoc (k := k + 1) hy, HX.out.2.2]; simp)
                clear hy hp
                go_wp2
                go_roundg (n - (k + 2))
                case measure => omega
                case rel => exact ⟨k + 2, m, by omega, by omega, by go_num, HM.out, HE2.out, HRc.out, HFc.out⟩
              | false =>
                have HE2 := hide (HNB.out false rfl rfl)
                have EM1 := hide (EM.out x.a.fk x.a.fn x.a.bk x.a.bn x.a.fl)
                go_upto_region 2 with (go_at_call 50; go_must (refine (EM1.out _).mono ?_; rintro e w1 ⟨rfl, b1⟩; have r1 := HRc.out.below b1 HRc.out.blk.lt; have HR1 := hide r1; have HF1 := hide (HFc.out.trans (Frm.of_below (S := fun _ => False) b1 (fun i h1 h2 => by omega)) (fun i _ h => h.elim)); have e8 := r1.eight HX.out.1; simp only [List.length_nil, Nat.zero_add] at e8; obtain ⟨z0, z1, z2, z3, z4, z5, z6, z7⟩ := e8; have f0 := fun i => r1.frozen i; clear r1 b1))
                go_wp2
                go_roundg (n - (k + 1))
                case measure => omega
                case rel =>
                  refine ⟨k + 1, m.set k (emptyC x.a), by omega, by omega, by go_num, by show (m.set k (emptyC x.a)).length = n; rw [List.length_set]; exact HM.out, HE2.out, ?_, ?_⟩
                  · exact HR1.out.set8 HX.out.1 (emptyC x.a) (o := k * 8) (by simp)
                  · exact (((((((HF1.out.setCell (p := ⟨g, k * 8, none⟩) (fun _ => rfl) _).setCell (p := ⟨g, k * 8 + 1, none⟩) (fun _ => rfl) _).setCell (p := ⟨g, k * 8 + 2, none⟩) (fun _ => rfl) _).setCell (p := ⟨g, k * 8 + 3, none⟩) (fun _ => rfl) _).setCell (p := ⟨g, k * 8 + 4, none⟩) (fun _ => rfl) _).setCell (p := ⟨g, k * 8 + 5, none⟩) (fun _ => rfl) _).setCell (p := ⟨g, k * 8 + 6, none⟩) (fun _ => rfl) _).setCell (p := ⟨g, k * 8 + 7, none⟩) (fun _ => rfl) _
    · obtain rfl : k = n := by omega
      have d1 : decide (k < k) = false := by simp
      have e0 : m.drop k = [] := List.drop_of_length_le (by rw [HM.out]; exact Nat.le_refl _)
      have e1 : m.take k = m := List.take_of_length_le (by rw [HM.out]; exact Nat.le_refl _)
      have he := HE.out
      rw [e0, e1] at he
      have he : mendF l = m := by rw [he]; simp [mendF]
      go_wp2
      go_end0
      rw [he]
      exact ⟨rfl, HR.out, HF.out⟩
end Go.Proofs.Ytoaeadjihpbhgaa
