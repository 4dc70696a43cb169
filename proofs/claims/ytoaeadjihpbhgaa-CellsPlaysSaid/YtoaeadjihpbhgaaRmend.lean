/-
  The document's Mend, walked. No condition but bounds. (printed by gen_rmend.py)
-/
import Derived.Test.YtoaeadjihpbhgaaMarking
namespace Go.Proofs.Ytoaeadjihpbhgaa
open Go.RowKit Go.Proofs
set_option linter.unusedVariables false
theorem at_eq5 (a b c d e a' b' c' d' e' : Int) (w : World) : (binOp .eql 32 (.agg #[.int .i64 a, .int .i64 b, .int .i64 c, .int .i64 d, .int .i64 e]) (.agg #[.int .i64 a', .int .i64 b', .int .i64 c', .int .i64 d', .int .i64 e'])).run Try.prog w = .ok (.bool (sameA ⟨a, b, c, d, e⟩ ⟨a', b', c', d', e'⟩)) w :=
  at_eq ⟨a, b, c, d, e⟩ ⟨a', b', c', d', e'⟩ w
theorem own_snoc {w : World} {base n c : Nat} {A : Option Addr} {out : List Cell} {cs : List Value} (x : Cell) (h : w.ownsRow base 40 8 (.slice A n c) n (out.flatMap cellE ++ cs)) (hc : cs = cellE x) : w.ownsRow base 40 8 (.slice A n c) n ((out ++ [x]).flatMap cellE) := by
  subst hc
  rw [List.flatMap_append]; simpa using h
theorem blk_eight {w : World} {g : Nat} {t : TypeId} {a b c d e f h i : Value} (k : Blk w g t #[a, b, c, d, e, f, h, i]) (a' b' c' d' e' f' h' i' : Value) :
    Blk ((((((((w.setCell ⟨g, 0, none⟩ a').setCell ⟨g, 1, none⟩ b').setCell ⟨g, 2, none⟩ c').setCell ⟨g, 3, none⟩ d').setCell ⟨g, 4, none⟩ e').setCell ⟨g, 5, none⟩ f').setCell ⟨g, 6, none⟩ h').setCell ⟨g, 7, none⟩ i') g t #[a', b', c', d', e', f', h', i'] :=
  by have h8 := (((((((k.set_ 0 a').set_ 1 b').set_ 2 c').set_ 3 d').set_ 4 e').set_ 5 f').set_ 6 h').set_ 7 i'; simpa using h8
theorem own_eight {w : World} {base s n g : Nat} {e : TypeId} {v : Value} {xs : List Value} (k : w.ownsRow base e s v n xs) (hg : some g ≠ v.ownBlock) (a' b' c' d' e' f' h' i' : Value) :
    ((((((((w.setCell ⟨g, 0, none⟩ a').setCell ⟨g, 1, none⟩ b').setCell ⟨g, 2, none⟩ c').setCell ⟨g, 3, none⟩ d').setCell ⟨g, 4, none⟩ e').setCell ⟨g, 5, none⟩ f').setCell ⟨g, 6, none⟩ h').setCell ⟨g, 7, none⟩ i').ownsRow base e s v n xs :=
  own_far (p := ⟨g, 7, none⟩) (own_far (p := ⟨g, 6, none⟩) (own_far (p := ⟨g, 5, none⟩) (own_far (p := ⟨g, 4, none⟩) (own_far (p := ⟨g, 3, none⟩) (own_far (p := ⟨g, 2, none⟩) (own_far (p := ⟨g, 1, none⟩) (own_far (p := ⟨g, 0, none⟩) k hg a') hg b') hg c') hg d') hg e') hg f') hg h') hg i'
theorem below_eight {w0 w : World} {B g : Nat} (k : Below B w0 w) (hg : B ≤ g) (a' b' c' d' e' f' h' i' : Value) :
    Below B w0 ((((((((w.setCell ⟨g, 0, none⟩ a').setCell ⟨g, 1, none⟩ b').setCell ⟨g, 2, none⟩ c').setCell ⟨g, 3, none⟩ d').setCell ⟨g, 4, none⟩ e').setCell ⟨g, 5, none⟩ f').setCell ⟨g, 6, none⟩ h').setCell ⟨g, 7, none⟩ i') :=
  (((((((k.setCell (p := ⟨g, 0, none⟩) hg a').setCell (p := ⟨g, 1, none⟩) hg b').setCell (p := ⟨g, 2, none⟩) hg c').setCell (p := ⟨g, 3, none⟩) hg d').setCell (p := ⟨g, 4, none⟩) hg e').setCell (p := ⟨g, 5, none⟩) hg f').setCell (p := ⟨g, 6, none⟩) hg h').setCell (p := ⟨g, 7, none⟩) hg i'
theorem one8 {a b c d e f h i : Value} (h0 : a.oneCell' = true := by rfl) (h1 : b.oneCell' = true := by rfl) (h2 : c.oneCell' = true := by rfl) (h3 : d.oneCell' = true := by rfl) (h4 : e.oneCell' = true := by rfl) (h5 : f.oneCell' = true := by rfl) (h6 : h.oneCell' = true := by rfl) (h7 : i.oneCell' = true := by rfl) : ∀ u ∈ #[a, b, c, d, e, f, h, i].toList, u.oneCell' = true := by
  intro u hu
  simp at hu
  rcases hu with rfl | rfl | rfl | rfl | rfl | rfl | rfl | rfl <;> assumption
/-- What is still to come of a row: its second half alone has been told right, or nothing. -/
def restF (p : Bool) (l : List Cell) (k : Nat) : List Cell := if p = true then (l.drop k).take 1 ++ mendF (l.drop (k + 1)) else mendF (l.drop k)
theorem rest_second {l : List Cell} {k : Nat} {x : Cell} (hx : l[k]? = some x) : restF true l k = [x] ++ restF false l (k + 1) := by
  unfold restF
  rw [drop_at hx]; simp
theorem rest_plain {l : List Cell} {k : Nat} {x : Cell} (hx : l[k]? = some x) (h : x.half = 0) : restF false l k = [x] ++ restF false l (k + 1) := by
  unfold restF
  rw [drop_at hx]; simp [mend_plain h]
theorem rest_pad {l : List Cell} {k : Nat} {x : Cell} (hx : l[k]? = some x) (h : x.half = 3) (hk : k + 1 = l.length) : restF false l k = [x] ++ restF false l (k + 1) := by
  unfold restF
  have e : l.drop (k + 1) = [] := List.drop_of_length_le (by omega)
  rw [drop_at hx, e]; simp [mend_pad h]; simp [mendF]
theorem rest_pair {l : List Cell} {k : Nat} {x y : Cell} (hx : l[k]? = some x) (hy : l[k + 1]? = some y) (h : pairB x y = true) : restF false l k = [x] ++ restF true l (k + 1) := by
  unfold restF
  rw [drop_at hx, drop_at hy]; simp [mend_pair h]
theorem rest_broken {l : List Cell} {k : Nat} {x : Cell} (hx : l[k]? = some x) (h0 : x.half ≠ 0) (h3 : ¬ (x.half = 3 ∧ k + 1 = l.length)) (hp : ∀ y, l[k + 1]? = some y → pairB x y = false) : restF false l k = [emptyC x.a] ++ restF false l (k + 1) := by
  unfold restF
  have := mend_broken (c := x) (l := l.drop (k + 1)) h0 (by
    rintro ⟨a, b⟩
    have := congrArg List.length b
    have hk := (List.getElem?_eq_some_iff.1 hx).1
    simp at this
    exact h3 ⟨a, by omega⟩) (fun d t ht => hp d (by
      have h5 : (l.drop (k + 1))[0]? = some d := by rw [ht]; rfl
      rwa [List.getElem?_drop] at h5))
  rw [drop_at hx]; simp [this]
theorem bytes_ne {s t : ByteArray} (h : ¬ s = t) : ¬ s.toList = t.toList := fun e => h (bytes_eq e)
theorem pair_alt {x y : Cell} (hx : x.half = 1) : (pairB x y = true ∧ y.half = 2 ∧ y.r = x.r ∧ y.more = x.more ∧ sameA y.a x.a = true) ∨
    (pairB x y = false ∧ (y.half ≠ 2 ∨ (y.half = 2 ∧ y.r ≠ x.r) ∨ (y.half = 2 ∧ y.r = x.r ∧ ¬ y.more = x.more) ∨ (y.half = 2 ∧ y.r = x.r ∧ y.more = x.more ∧ sameA y.a x.a = false))) := by
  have key : pairB x y = true ↔ y.half = 2 ∧ y.r = x.r ∧ y.more = x.more ∧ sameA y.a x.a = true := by
    unfold pairB
    rw [Bool.and_eq_true, Bool.and_eq_true, decide_eq_true_iff, decide_eq_true_iff, sameC_iff, sameA_iff]
    constructor
    · rintro ⟨⟨_, h2⟩, h3⟩
      rw [h3]; exact ⟨h2, rfl, rfl, rfl⟩
    · rintro ⟨h2, h3, h4, h5⟩
      refine ⟨⟨hx, h2⟩, ?_⟩
      cases x; cases y; simp_all
  by_cases h2 : y.half = 2
  · by_cases hr : y.r = x.r
    · by_cases hm : y.more = x.more
      · cases ha : sameA y.a x.a with
        | true => exact .inl ⟨key.2 ⟨h2, hr, hm, ha⟩, h2, hr, hm, rfl⟩
        | false => exact .inr ⟨by rw [← Bool.not_eq_true, key]; simp [ha], .inr (.inr (.inr ⟨h2, hr, hm, rfl⟩))⟩
      · exact .inr ⟨by rw [← Bool.not_eq_true, key]; simp [hm], .inr (.inr (.inl ⟨h2, hr, hm⟩))⟩
    · exact .inr ⟨by rw [← Bool.not_eq_true, key]; simp [hr], .inr (.inl ⟨h2, hr⟩)⟩
  · exact .inr ⟨by rw [← Bool.not_eq_true, key]; simp [h2], .inl h2⟩
set_option maxRecDepth 100000 in
set_option maxHeartbeats 4000000 in
theorem rmend_any (l : List Cell) (n c B : Nat) (A : Option Addr) (w : World) (hl : Rd w B 8 A n (l.flatMap cellE)) (hB : B ≤ w.heap.size) (hn : n ≤ 100000) :
    Calls Try.prog 21 #[.slice A n c] w (RetRow (mendF l) n w) := by
  have hln : l.length = n := hl.len (E := cellE) (fun _ => rfl) (by omega)
  have HL := hide hl
  have HN := hide hln
  have ATE := fun a b c d e a' b' c' d' e' W => at_eq5 a b c d e a' b' c' d' e' W
  have on := hide (World.ownsRow_nil w w.heap.size 40 8)
  clear hl hln
  go_enter Try.func21, Try.ntmps21
  go_wp2
  go_loopg [3, 4, 5] n (fun gg s3 s4 s5 wr => ∃ (k : Nat) (p : Bool) (A1 : Option Addr) (c1 : Nat) (out : List Cell), k ≤ n ∧ n - k ≤ gg ∧ s3 = .slice A1 k c1 ∧ s4 = .bool p ∧ s5 = .int .i64 k ∧ Hid (wr.ownsRow w.heap.size 40 8 (.slice A1 k c1) k (out.flatMap cellE)) ∧ Hid (mendF l = out ++ restF p l k) ∧ Hid (Below w.heap.size w wr))
  case atStart => exact ⟨0, false, none, 0, [], by omega, by omega, rfl, rfl, rfl, on.out, rfl, Below.refl _ _⟩
  case round =>
    obtain ⟨k, p, A1, c1, out, hkn, hgk, rfl, rfl, rfl, HO, HE, HB⟩ := hrel
    by_cases hlt : k < n
    · have d1 : decide (k < n) = true := by simpa using hlt
      obtain ⟨b, off, x, rfl, hb, hx, x0, x1, x2, x3, x4, x5, x6, x7⟩ := (HL.out.below (HB.out.mono hB)).eight hlt
      have hbz : b < wr.heap.size := Nat.lt_of_lt_of_le hb (Nat.le_trans hB HB.out.size)
      have HX := hide hx
      clear hx
      cases p with
      | true =>
        go_upto_region 8 with (fail)
        go_name_world W hW
        have QW := hide (show Blk W wr.heap.size 40 #[.int .i32 x.r, .string x.more, .int .i64 x.half, .int .i64 x.a.fk, .int .i64 x.a.fn, .int .i64 x.a.bk, .int .i64 x.a.bn, .int .i64 x.a.fl] by rw [← hW]; exact Blk.new _ _ _)
        have OW := hide (show W.ownsRow w.heap.size 40 8 (.slice A1 k c1) k (out.flatMap cellE) by rw [← hW]; exact HO.out.alloc _)
        have BW := hide (show Below w.heap.size w W by rw [← hW]; exact HB.out.alloc HB.out.size _)
        clear hW
        obtain ⟨⟨p0, p1, p2, p3, p4, p5, p6, p7⟩, _⟩ := blk8 QW.out
        go_wp2_with (at_builtin; go_must (refine wpList_append1 Try.sl26 rfl _ _ rfl w.heap.size (.slice A1 k c1) k _ #[.int .i32 x.r, .string x.more, .int .i64 x.half, .int .i64 x.a.fk, .int .i64 x.a.fn, .int .i64 x.a.bk, .int .i64 x.a.bn, .int .i64 x.a.fl] W 1 rfl rfl rfl OW.out rfl one8 (by simp only [maxLen]; omega) (by omega) BW.out.size ?_; intro A2 c2 w2 app; have O2 := hide (own_snoc x app.own rfl); have B2 := hide (app.below (OW.out.alloc _) (BW.out.alloc BW.out.size _) (Nat.le_refl _) (Nat.le_trans BW.out.size (by simp)))))
        go_roundg (n - (k + 1))
        case measure => omega
        case rel => exact ⟨k + 1, false, A2, c2, out ++ [x], by omega, by omega, rfl, rfl, by go_num, O2.out, by rw [HE.out, rest_second HX.out, List.append_assoc]; rfl, B2.out⟩
      | false =>
        obtain ⟨hh, hhh⟩ : ∃ hh, x.half = hh := ⟨_, rfl⟩
        have HH := hide hhh
        rw [hhh] at x2
        by_cases a0 : hh = 0
        · subst a0
          clear hhh
          go_upto_region 16 with (fail)
          go_name_world W hW
          have QW := hide (show Blk W wr.heap.size 40 #[.int .i32 x.r, .string x.more, .int .i64 0, .int .i64 x.a.fk, .int .i64 x.a.fn, .int .i64 x.a.bk, .int .i64 x.a.bn, .int .i64 x.a.fl] by rw [← hW]; exact Blk.new _ _ _)
          have OW := hide (show W.ownsRow w.heap.size 40 8 (.slice A1 k c1) k (out.flatMap cellE) by rw [← hW]; exact HO.out.alloc _)
          have BW := hide (show Below w.heap.size w W by rw [← hW]; exact HB.out.alloc HB.out.size _)
          clear hW
          obtain ⟨⟨p0, p1, p2, p3, p4, p5, p6, p7⟩, _⟩ := blk8 QW.out
          go_wp2_with (at_builtin; go_must (refine wpList_append1 Try.sl26 rfl _ _ rfl w.heap.size (.slice A1 k c1) k _ #[.int .i32 x.r, .string x.more, .int .i64 0, .int .i64 x.a.fk, .int .i64 x.a.fn, .int .i64 x.a.bk, .int .i64 x.a.bn, .int .i64 x.a.fl] W 1 rfl rfl rfl OW.out rfl one8 (by simp only [maxLen]; omega) (by omega) BW.out.size ?_; intro A2 c2 w2 app; have O2 := hide (own_snoc x app.own (by unfold cellE; rw [HH.out])); have B2 := hide (app.below (OW.out.alloc _) (BW.out.alloc BW.out.size _) (Nat.le_refl _) (Nat.le_trans BW.out.size (by simp)))))
          go_roundg (n - (k + 1))
          case measure => omega
          case rel => exact ⟨k + 1, false, A2, c2, out ++ [x], by omega, by omega, rfl, rfl, by go_num, O2.out, by rw [HE.out, rest_plain HX.out HH.out, List.append_assoc]; rfl, B2.out⟩
        · by_cases a3 : hh = 3 ∧ k + 1 = n
          · obtain ⟨rfl, a3⟩ := a3
            have d2 : ((k : Int) == (n : Int) - 1) = true := by rw [beq_iff_eq]; omega
            have HA3 := hide a3
            clear hhh a3
            go_upto_region 16 with (fail)
            go_name_world W hW
            have QW := hide (show Blk W wr.heap.size 40 #[.int .i32 x.r, .string x.more, .int .i64 3, .int .i64 x.a.fk, .int .i64 x.a.fn, .int .i64 x.a.bk, .int .i64 x.a.bn, .int .i64 x.a.fl] by rw [← hW]; exact Blk.new _ _ _)
            have OW := hide (show W.ownsRow w.heap.size 40 8 (.slice A1 k c1) k (out.flatMap cellE) by rw [← hW]; exact HO.out.alloc _)
            have BW := hide (show Below w.heap.size w W by rw [← hW]; exact HB.out.alloc HB.out.size _)
            clear hW
            obtain ⟨⟨p0, p1, p2, p3, p4, p5, p6, p7⟩, _⟩ := blk8 QW.out
            go_wp2_with (at_builtin; go_must (refine wpList_append1 Try.sl26 rfl _ _ rfl w.heap.size (.slice A1 k c1) k _ #[.int .i32 x.r, .string x.more, .int .i64 3, .int .i64 x.a.fk, .int .i64 x.a.fn, .int .i64 x.a.bk, .int .i64 x.a.bn, .int .i64 x.a.fl] W 1 rfl rfl rfl OW.out rfl one8 (by simp only [maxLen]; omega) (by omega) BW.out.size ?_; intro A2 c2 w2 app; have O2 := hide (own_snoc x app.own (by unfold cellE; rw [HH.out])); have B2 := hide (app.below (OW.out.alloc _) (BW.out.alloc BW.out.size _) (Nat.le_refl _) (Nat.le_trans BW.out.size (by simp)))))
            go_roundg (n - (k + 1))
            case measure => omega
            case rel => exact ⟨k + 1, false, A2, c2, out ++ [x], by omega, by omega, rfl, rfl, by go_num, O2.out, by rw [HE.out, rest_pad HX.out HH.out (by rw [HN.out]; exact HA3.out), List.append_assoc]; rfl, B2.out⟩
          · by_cases a1 : hh = 1 ∧ k + 1 < n
            · obtain ⟨rfl, a1⟩ := a1
              obtain ⟨q, hq⟩ : ∃ q : Nat, k + 1 = q := ⟨_, rfl⟩
              have hqi : (k : Int) + 1 = q := by omega
              have hqn : q < n := by omega
              have d2 : decide ((k : Int) < (n : Int) - 1) = true := decide_eq_true (by omega)
              obtain ⟨b2, off2, y, hA, hb2, hy, y0, y1, y2, y3, y4, y5, y6, y7⟩ := (HL.out.below (HB.out.mono hB)).eight hqn
              injection hA with hA; injection hA with hA1 hA2
              subst hA1 hA2
              have HY := hide hy
              have HQ := hide hq
              clear hy hq
              rcases pair_alt (y := y) HH.out with ⟨hp, e2, er, em, ea⟩ | ⟨hp, hne⟩
              · have HP := hide hp
                have d3 : (y.half == 2) = true := by simpa using e2
                have d4 : (y.r == x.r) = true := by simpa using er
                have d5 : (y.more.toList == x.more.toList) = true := by rw [em]; simp
                clear hp e2 er em hhh
                go_upto_region 16 with (fail)
                go_name_world W hW
                have QW := hide (show Blk W wr.heap.size 40 #[.int .i32 x.r, .string x.more, .int .i64 1, .int .i64 x.a.fk, .int .i64 x.a.fn, .int .i64 x.a.bk, .int .i64 x.a.bn, .int .i64 x.a.fl] by rw [← hW]; exact (Blk.new _ _ _).alloc _)
                have OW := hide (show W.ownsRow w.heap.size 40 8 (.slice A1 k c1) k (out.flatMap cellE) by rw [← hW]; exact (HO.out.alloc _).alloc _)
                have BW := hide (show Below w.heap.size w W by rw [← hW]; exact (HB.out.alloc HB.out.size _).alloc (Nat.le_trans HB.out.size (by simp)) _)
                clear hW
                obtain ⟨⟨p0, p1, p2, p3, p4, p5, p6, p7⟩, _⟩ := blk8 QW.out
                go_wp2_with (at_builtin; go_must (refine wpList_append1 Try.sl26 rfl _ _ rfl w.heap.size (.slice A1 k c1) k _ #[.int .i32 x.r, .string x.more, .int .i64 1, .int .i64 x.a.fk, .int .i64 x.a.fn, .int .i64 x.a.bk, .int .i64 x.a.bn, .int .i64 x.a.fl] W 1 rfl rfl rfl OW.out rfl one8 (by simp only [maxLen]; omega) (by omega) BW.out.size ?_; intro A2 c2 w2 app; have O2 := hide (own_snoc x app.own (by unfold cellE; rw [HH.out])); have B2 := hide (app.below (OW.out.alloc _) (BW.out.alloc BW.out.size _) (Nat.le_refl _) (Nat.le_trans BW.out.size (by simp)))))
                go_roundg (n - (k + 1))
                case measure => omega
                case rel => exact ⟨k + 1, true, A2, c2, out ++ [x], by omega, by omega, rfl, rfl, by go_num, O2.out, by rw [HE.out, rest_pair HX.out (by rw [HQ.out]; exact HY.out) HP.out, List.append_assoc]; rfl, B2.out⟩
              · have HP := hide hp
                clear hp
                rcases hne with e2 | ⟨e2, er⟩ | ⟨e2, er, em⟩ | ⟨e2, er, em, ea⟩
                · have d3 : (y.half == 2) = false := by simpa using e2
                  clear hhh e2
                  go_upto_region 16 with (fail)
                  go_name_world W hW
                  have QW := hide (show Blk W wr.heap.size 40 #[.int .i32 0, .string { data := #[] }, .int .i64 0, .int .i64 x.a.fk, .int .i64 x.a.fn, .int .i64 x.a.bk, .int .i64 x.a.bn, .int .i64 x.a.fl] by rw [← hW]; exact (Blk.new _ _ _).alloc _)
                  have OW := hide (show W.ownsRow w.heap.size 40 8 (.slice A1 k c1) k (out.flatMap cellE) by rw [← hW]; exact (HO.out.alloc _).alloc _)
                  have BW := hide (show Below w.heap.size w W by rw [← hW]; exact (HB.out.alloc HB.out.size _).alloc (Nat.le_trans HB.out.size (by simp)) _)
                  clear hW
                  obtain ⟨⟨p0, p1, p2, p3, p4, p5, p6, p7⟩, _⟩ := blk8 QW.out
                  go_wp2_with (at_builtin; go_must (refine wpList_append1 Try.sl26 rfl _ _ rfl w.heap.size (.slice A1 k c1) k _ #[.int .i32 0, .string { data := #[] }, .int .i64 0, .int .i64 x.a.fk, .int .i64 x.a.fn, .int .i64 x.a.bk, .int .i64 x.a.bn, .int .i64 x.a.fl] W 1 rfl rfl rfl OW.out rfl one8 (by simp only [maxLen]; omega) (by omega) BW.out.size ?_; intro A2 c2 w2 app; have O2 := hide (own_snoc (emptyC x.a) app.own rfl); have B2 := hide (app.below (OW.out.alloc _) (BW.out.alloc BW.out.size _) (Nat.le_refl _) (Nat.le_trans BW.out.size (by simp)))))
                  go_roundg (n - (k + 1))
                  case measure => omega
                  case rel => exact ⟨k + 1, false, A2, c2, out ++ [(emptyC x.a)], by omega, by omega, rfl, rfl, by go_num, O2.out, by rw [HE.out, rest_broken HX.out (by rw [HH.out]; omega) (by rw [HH.out]; omega) (fun z hz => by rw [HQ.out, HY.out] at hz; injection hz with hz; subst hz; exact HP.out), List.append_assoc]; rfl, B2.out⟩
                · have d3 : (y.half == 2) = true := by simpa using e2
                  have d4 : (y.r == x.r) = false := by simpa using er
                  clear hhh e2 er
                  go_upto_region 16 with (fail)
                  go_name_world W hW
                  have QW := hide (show Blk W wr.heap.size 40 #[.int .i32 0, .string { data := #[] }, .int .i64 0, .int .i64 x.a.fk, .int .i64 x.a.fn, .int .i64 x.a.bk, .int .i64 x.a.bn, .int .i64 x.a.fl] by rw [← hW]; exact (Blk.new _ _ _).alloc _)
                  have OW := hide (show W.ownsRow w.heap.size 40 8 (.slice A1 k c1) k (out.flatMap cellE) by rw [← hW]; exact (HO.out.alloc _).alloc _)
                  have BW := hide (show Below w.heap.size w W by rw [← hW]; exact (HB.out.alloc HB.out.size _).alloc (Nat.le_trans HB.out.size (by simp)) _)
                  clear hW
                  obtain ⟨⟨p0, p1, p2, p3, p4, p5, p6, p7⟩, _⟩ := blk8 QW.out
                  go_wp2_with (at_builtin; go_must (refine wpList_append1 Try.sl26 rfl _ _ rfl w.heap.size (.slice A1 k c1) k _ #[.int .i32 0, .string { data := #[] }, .int .i64 0, .int .i64 x.a.fk, .int .i64 x.a.fn, .int .i64 x.a.bk, .int .i64 x.a.bn, .int .i64 x.a.fl] W 1 rfl rfl rfl OW.out rfl one8 (by simp only [maxLen]; omega) (by omega) BW.out.size ?_; intro A2 c2 w2 app; have O2 := hide (own_snoc (emptyC x.a) app.own rfl); have B2 := hide (app.below (OW.out.alloc _) (BW.out.alloc BW.out.size _) (Nat.le_refl _) (Nat.le_trans BW.out.size (by simp)))))
                  go_roundg (n - (k + 1))
                  case measure => omega
                  case rel => exact ⟨k + 1, false, A2, c2, out ++ [(emptyC x.a)], by omega, by omega, rfl, rfl, by go_num, O2.out, by rw [HE.out, rest_broken HX.out (by rw [HH.out]; omega) (by rw [HH.out]; omega) (fun z hz => by rw [HQ.out, HY.out] at hz; injection hz with hz; subst hz; exact HP.out), List.append_assoc]; rfl, B2.out⟩
                · have d3 : (y.half == 2) = true := by simpa using e2
                  have d4 : (y.r == x.r) = true := by simpa using er
                  have d5 : (y.more.toList == x.more.toList) = false := by simpa using bytes_ne em
                  clear hhh e2 er em
                  go_upto_region 16 with (fail)
                  go_name_world W hW
                  have QW := hide (show Blk W wr.heap.size 40 #[.int .i32 0, .string { data := #[] }, .int .i64 0, .int .i64 x.a.fk, .int .i64 x.a.fn, .int .i64 x.a.bk, .int .i64 x.a.bn, .int .i64 x.a.fl] by rw [← hW]; exact (Blk.new _ _ _).alloc _)
                  have OW := hide (show W.ownsRow w.heap.size 40 8 (.slice A1 k c1) k (out.flatMap cellE) by rw [← hW]; exact (HO.out.alloc _).alloc _)
                  have BW := hide (show Below w.heap.size w W by rw [← hW]; exact (HB.out.alloc HB.out.size _).alloc (Nat.le_trans HB.out.size (by simp)) _)
                  clear hW
                  obtain ⟨⟨p0, p1, p2, p3, p4, p5, p6, p7⟩, _⟩ := blk8 QW.out
                  go_wp2_with (at_builtin; go_must (refine wpList_append1 Try.sl26 rfl _ _ rfl w.heap.size (.slice A1 k c1) k _ #[.int .i32 0, .string { data := #[] }, .int .i64 0, .int .i64 x.a.fk, .int .i64 x.a.fn, .int .i64 x.a.bk, .int .i64 x.a.bn, .int .i64 x.a.fl] W 1 rfl rfl rfl OW.out rfl one8 (by simp only [maxLen]; omega) (by omega) BW.out.size ?_; intro A2 c2 w2 app; have O2 := hide (own_snoc (emptyC x.a) app.own rfl); have B2 := hide (app.below (OW.out.alloc _) (BW.out.alloc BW.out.size _) (Nat.le_refl _) (Nat.le_trans BW.out.size (by simp)))))
                  go_roundg (n - (k + 1))
                  case measure => omega
                  case rel => exact ⟨k + 1, false, A2, c2, out ++ [(emptyC x.a)], by omega, by omega, rfl, rfl, by go_num, O2.out, by rw [HE.out, rest_broken HX.out (by rw [HH.out]; omega) (by rw [HH.out]; omega) (fun z hz => by rw [HQ.out, HY.out] at hz; injection hz with hz; subst hz; exact HP.out), List.append_assoc]; rfl, B2.out⟩
                · have d3 : (y.half == 2) = true := by simpa using e2
                  have d4 : (y.r == x.r) = true := by simpa using er
                  have d5 : (y.more.toList == x.more.toList) = true := by rw [em]; simp
                  clear hhh e2 er em
                  go_upto_region 16 with (fail)
                  go_name_world W hW
                  have QW := hide (show Blk W wr.heap.size 40 #[.int .i32 0, .string { data := #[] }, .int .i64 0, .int .i64 x.a.fk, .int .i64 x.a.fn, .int .i64 x.a.bk, .int .i64 x.a.bn, .int .i64 x.a.fl] by rw [← hW]; exact (Blk.new _ _ _).alloc _)
                  have OW := hide (show W.ownsRow w.heap.size 40 8 (.slice A1 k c1) k (out.flatMap cellE) by rw [← hW]; exact (HO.out.alloc _).alloc _)
                  have BW := hide (show Below w.heap.size w W by rw [← hW]; exact (HB.out.alloc HB.out.size _).alloc (Nat.le_trans HB.out.size (by simp)) _)
                  clear hW
                  obtain ⟨⟨p0, p1, p2, p3, p4, p5, p6, p7⟩, _⟩ := blk8 QW.out
                  go_wp2_with (at_builtin; go_must (refine wpList_append1 Try.sl26 rfl _ _ rfl w.heap.size (.slice A1 k c1) k _ #[.int .i32 0, .string { data := #[] }, .int .i64 0, .int .i64 x.a.fk, .int .i64 x.a.fn, .int .i64 x.a.bk, .int .i64 x.a.bn, .int .i64 x.a.fl] W 1 rfl rfl rfl OW.out rfl one8 (by simp only [maxLen]; omega) (by omega) BW.out.size ?_; intro A2 c2 w2 app; have O2 := hide (own_snoc (emptyC x.a) app.own rfl); have B2 := hide (app.below (OW.out.alloc _) (BW.out.alloc BW.out.size _) (Nat.le_refl _) (Nat.le_trans BW.out.size (by simp)))))
                  go_roundg (n - (k + 1))
                  case measure => omega
                  case rel => exact ⟨k + 1, false, A2, c2, out ++ [(emptyC x.a)], by omega, by omega, rfl, rfl, by go_num, O2.out, by rw [HE.out, rest_broken HX.out (by rw [HH.out]; omega) (by rw [HH.out]; omega) (fun z hz => by rw [HQ.out, HY.out] at hz; injection hz with hz; subst hz; exact HP.out), List.append_assoc]; rfl, B2.out⟩
            · have d2 : hh = 1 → decide ((k : Int) < (n : Int) - 1) = false := fun h => decide_eq_false (by omega)
              have hcase : (hh = 1 ∧ decide ((k : Int) < (n : Int) - 1) = false) ∨ (¬ hh = 1 ∧ (hh = 3 ∧ ((k : Int) == (n : Int) - 1) = false ∨ ¬ hh = 3)) := by
                by_cases h1 : hh = 1
                · exact .inl ⟨h1, d2 h1⟩
                · by_cases h3 : hh = 3
                  · exact .inr ⟨h1, .inl ⟨h3, by rw [beq_eq_false_iff_ne]; omega⟩⟩
                  · exact .inr ⟨h1, .inr h3⟩
              have HBR := hide (show restF false l k = [emptyC x.a] ++ restF false l (k + 1) from rest_broken HX.out (by rw [HH.out]; omega) (by rw [HH.out, HN.out]; omega) (fun z hz => by
                have := (List.getElem?_eq_some_iff.1 hz).1
                rw [HN.out] at this
                have h1 : ¬ x.half = 1 := by rw [HH.out]; omega
                unfold pairB; simp [h1]))
              clear d2
              rcases hcase with ⟨rfl, d2⟩ | ⟨h1, ⟨rfl, d2⟩ | h3⟩
              · clear hhh
                go_upto_region 16 with (fail)
                go_name_world W hW
                have QW := hide (show Blk W wr.heap.size 40 #[.int .i32 0, .string { data := #[] }, .int .i64 0, .int .i64 x.a.fk, .int .i64 x.a.fn, .int .i64 x.a.bk, .int .i64 x.a.bn, .int .i64 x.a.fl] by rw [← hW]; exact Blk.new _ _ _)
                have OW := hide (show W.ownsRow w.heap.size 40 8 (.slice A1 k c1) k (out.flatMap cellE) by rw [← hW]; exact HO.out.alloc _)
                have BW := hide (show Below w.heap.size w W by rw [← hW]; exact HB.out.alloc HB.out.size _)
                clear hW
                obtain ⟨⟨p0, p1, p2, p3, p4, p5, p6, p7⟩, _⟩ := blk8 QW.out
                go_wp2_with (at_builtin; go_must (refine wpList_append1 Try.sl26 rfl _ _ rfl w.heap.size (.slice A1 k c1) k _ #[.int .i32 0, .string { data := #[] }, .int .i64 0, .int .i64 x.a.fk, .int .i64 x.a.fn, .int .i64 x.a.bk, .int .i64 x.a.bn, .int .i64 x.a.fl] W 1 rfl rfl rfl OW.out rfl one8 (by simp only [maxLen]; omega) (by omega) BW.out.size ?_; intro A2 c2 w2 app; have O2 := hide (own_snoc (emptyC x.a) app.own rfl); have B2 := hide (app.below (OW.out.alloc _) (BW.out.alloc BW.out.size _) (Nat.le_refl _) (Nat.le_trans BW.out.size (by simp)))))
                go_roundg (n - (k + 1))
                case measure => omega
                case rel => exact ⟨k + 1, false, A2, c2, out ++ [(emptyC x.a)], by omega, by omega, rfl, rfl, by go_num, O2.out, by rw [HE.out, HBR.out, List.append_assoc]; rfl, B2.out⟩
              · clear hhh
                go_upto_region 16 with (fail)
                go_name_world W hW
                have QW := hide (show Blk W wr.heap.size 40 #[.int .i32 0, .string { data := #[] }, .int .i64 0, .int .i64 x.a.fk, .int .i64 x.a.fn, .int .i64 x.a.bk, .int .i64 x.a.bn, .int .i64 x.a.fl] by rw [← hW]; exact Blk.new _ _ _)
                have OW := hide (show W.ownsRow w.heap.size 40 8 (.slice A1 k c1) k (out.flatMap cellE) by rw [← hW]; exact HO.out.alloc _)
                have BW := hide (show Below w.heap.size w W by rw [← hW]; exact HB.out.alloc HB.out.size _)
                clear hW
                obtain ⟨⟨p0, p1, p2, p3, p4, p5, p6, p7⟩, _⟩ := blk8 QW.out
                go_wp2_with (at_builtin; go_must (refine wpList_append1 Try.sl26 rfl _ _ rfl w.heap.size (.slice A1 k c1) k _ #[.int .i32 0, .string { data := #[] }, .int .i64 0, .int .i64 x.a.fk, .int .i64 x.a.fn, .int .i64 x.a.bk, .int .i64 x.a.bn, .int .i64 x.a.fl] W 1 rfl rfl rfl OW.out rfl one8 (by simp only [maxLen]; omega) (by omega) BW.out.size ?_; intro A2 c2 w2 app; have O2 := hide (own_snoc (emptyC x.a) app.own rfl); have B2 := hide (app.below (OW.out.alloc _) (BW.out.alloc BW.out.size _) (Nat.le_refl _) (Nat.le_trans BW.out.size (by simp)))))
                go_roundg (n - (k + 1))
                case measure => omega
                case rel => exact ⟨k + 1, false, A2, c2, out ++ [(emptyC x.a)], by omega, by omega, rfl, rfl, by go_num, O2.out, by rw [HE.out, HBR.out, List.append_assoc]; rfl, B2.out⟩
              · have d3 : (hh == 1) = false := by simpa using h1
                have d4 : (hh == 3) = false := by simpa using h3
                have d5 : (hh == 0) = false := by simpa using a0
                clear hhh
                go_upto_region 16 with (fail)
                go_name_world W hW
                have QW := hide (show Blk W wr.heap.size 40 #[.int .i32 0, .string { data := #[] }, .int .i64 0, .int .i64 x.a.fk, .int .i64 x.a.fn, .int .i64 x.a.bk, .int .i64 x.a.bn, .int .i64 x.a.fl] by rw [← hW]; exact Blk.new _ _ _)
                have OW := hide (show W.ownsRow w.heap.size 40 8 (.slice A1 k c1) k (out.flatMap cellE) by rw [← hW]; exact HO.out.alloc _)
                have BW := hide (show Below w.heap.size w W by rw [← hW]; exact HB.out.alloc HB.out.size _)
                clear hW
                obtain ⟨⟨p0, p1, p2, p3, p4, p5, p6, p7⟩, _⟩ := blk8 QW.out
                go_wp2_with (at_builtin; go_must (refine wpList_append1 Try.sl26 rfl _ _ rfl w.heap.size (.slice A1 k c1) k _ #[.int .i32 0, .string { data := #[] }, .int .i64 0, .int .i64 x.a.fk, .int .i64 x.a.fn, .int .i64 x.a.bk, .int .i64 x.a.bn, .int .i64 x.a.fl] W 1 rfl rfl rfl OW.out rfl one8 (by simp only [maxLen]; omega) (by omega) BW.out.size ?_; intro A2 c2 w2 app; have O2 := hide (own_snoc (emptyC x.a) app.own rfl); have B2 := hide (app.below (OW.out.alloc _) (BW.out.alloc BW.out.size _) (Nat.le_refl _) (Nat.le_trans BW.out.size (by simp)))))
                go_roundg (n - (k + 1))
                case measure => omega
                case rel => exact ⟨k + 1, false, A2, c2, out ++ [(emptyC x.a)], by omega, by omega, rfl, rfl, by go_num, O2.out, by rw [HE.out, HBR.out, List.append_assoc]; rfl, B2.out⟩
    · obtain rfl : k = n := by omega
      have d1 : decide (k < k) = false := by simp
      have HE2 := hide (show mendF l = out by
        rw [HE.out]
        unfold restF
        have e1 : l.drop k = [] := List.drop_of_length_le (by rw [HN.out]; exact Nat.le_refl _)
        have e2 : l.drop (k + 1) = [] := List.drop_of_length_le (by rw [HN.out]; omega)
        rw [e1, e2]; simp [mendF])
      go_wp2
      go_ret
      exact ⟨A1, c1, rfl, by rw [HE2.out]; exact HO.out, (own_cap HO.out).1, HB.out⟩
end Go.Proofs.Ytoaeadjihpbhgaa
