/-
  The document's parts walked. No condition but bounds.
-/
import Derived.Test.YthbjjhoajecpcaaCmd
namespace Go.Proofs.Ythbjjhoajecpcaa
open Go.RowKit Go.Proofs
set_option linter.unusedVariables false
/-- A string's byte, as a number. -/
theorem so_get {l : List Int} {s : ByteArray} (hs : strOfNums l = s) {i : Nat} {x : Int} (h : l[i]? = some x) (hb : ∀ x ∈ l, 0 ≤ x ∧ x ≤ 255) (hi : i < s.size) : ((s[i]'hi).toNat : Int) = x := by
  subst hs
  have := hb x (List.mem_of_getElem? h)
  exact so_at l h this.1 this.2 hi
theorem head_split : ∀ l, headN l ≤ l.length ∧ (∀ x ∈ l.take (headN l), 48 ≤ x ∧ x ≤ 59) ∧ (∀ k, k < headN l → ∃ x, l[k]? = some x ∧ isH x = true) ∧ (∀ x, l[headN l]? = some x → isH x = false)
  | [] => by simp [headN]
  | c :: l => by
    obtain ⟨h1, h2, h3, h4⟩ := head_split l
    unfold headN
    by_cases k : isH c = true
    · rw [if_pos k]
      have kc : 48 ≤ c ∧ c ≤ 59 := by simpa [isH] using k
      refine ⟨by simp; omega, ?_, fun i hi => ?_, fun x hx => ?_⟩
      · rw [Nat.add_comm, List.take_succ_cons]
        intro x hx
        rw [List.mem_cons] at hx
        rcases hx with rfl | hx
        · exact kc
        · exact h2 x hx
      · cases i with
        | zero => exact ⟨c, rfl, k⟩
        | succ i => simpa using h3 i (by omega)
      · rw [Nat.add_comm] at hx
        exact h4 x (by simpa using hx)
    · rw [if_neg k]
      refine ⟨by simp, by simp, fun i hi => by omega, fun x hx => ?_⟩
      simp at hx
      subst hx
      simpa using k
/-- What parts hands back. -/
def PartsPost (p : Parts) (w : World) (e : Ending) (w' : World) : Prop := e = .returned (.tuple #[.int .u8 p.pre, .string (strOfNums p.head), .string (strOfNums p.inter), .bool p.ok]) ∧ ∃ q, w' = w.drewN q
theorem parts_nice (l : List Int) (hl : ∀ x ∈ l, 0 ≤ x ∧ x ≤ 255) : (∀ x ∈ (partsF l).head, 48 ≤ x ∧ x ≤ 59) ∧ (partsF l).head.length ≤ l.length ∧ (partsF l).inter.length ≤ l.length := by
  have h1 : ∀ p s, (∀ x ∈ (parts1 p s).head, 48 ≤ x ∧ x ≤ 59) ∧ (parts1 p s).head.length ≤ s.length ∧ (parts1 p s).inter.length ≤ s.length := by
    intro p s
    have := head_split s
    unfold parts1
    split
    · simp
    · refine ⟨this.2.1, by simp; omega, by simp⟩
  cases l with
  | nil => exact h1 0 []
  | cons c l =>
    show (∀ x ∈ (partsF (c :: l)).head, _) ∧ _
    unfold partsF
    dsimp only
    split
    · have := h1 c l
      exact ⟨this.1, by simp; omega, by simp; omega⟩
    · exact h1 0 (c :: l)
set_option maxRecDepth 100000 in
set_option maxHeartbeats 4000000 in
theorem parts_any (l : List Int) (w : World) (n : Nat) (hn : l.length = n) (hm : n ≤ 100000) (hl : ∀ x ∈ l, 0 ≤ x ∧ x ≤ 255) : Calls Try.prog 62 #[.string (strOfNums l)] w (PartsPost (partsF l) w) := by
  obtain ⟨s, hs⟩ : ∃ s, strOfNums l = s := ⟨_, rfl⟩
  have hz : s.size = n := by rw [← hs, strOfNums_size, hn]
  rw [hs]
  have HS := hide hs
  have HL := hide hl
  have HN := hide hn
  clear hs hl hn
  by_cases hn0 : n = 0
  · have hl0 : l = [] := by
      have := HN.out
      rw [hn0] at this
      exact List.eq_nil_of_length_eq_zero this
    have hs0 : s = strOfNums [] := by rw [← HS.out, hl0]
    subst hl0
    subst hs0
    clear HS HL HN hz hn0
    have hz : (strOfNums []).size = 0 := rfl
    have he : (strOfNums []).extract 0 0 = strOfNums [] := by rw [so_extract]; rfl
    go_enter Try.func62, Try.ntmps62
    go_wp2_with fail
    go_loopg [7] 0 (fun g s7 wr => s7 = .int .i64 0 ∧ w = wr)
    case atStart => exact ⟨rfl, rfl⟩
    case round =>
      obtain ⟨rfl, rfl⟩ := hrel
      go_wp2_with fail
      go_loopg [8] 0 (fun g s8 wr => s8 = .int .i64 0 ∧ w = wr)
      case atStart => exact ⟨rfl, rfl⟩
      case round =>
        obtain ⟨rfl, rfl⟩ := hrel
        go_wp2_with fail
        go_quiet (fail)
        go_wp2_with fail
        refine bodyPost_ret (v := .tuple #[.int .u8 0, .string (strOfNums []), .string (strOfNums []), .bool true]) (by simp [results, Try.results62, go_sem]; rfl) rfl ?_
        exact ⟨rfl, nq, rfl⟩
  · obtain ⟨c, l2, hc⟩ : ∃ c l2, l = c :: l2 := by
      have := HN.out
      cases l with
      | nil => exact absurd this.symm hn0
      | cons c l2 => exact ⟨c, l2, rfl⟩
    have hs0 : 0 < s.size := by omega
    have hzc := so_get HS.out (i := 0) (x := c) (by rw [hc]; rfl) HL.out hs0
    have hcb := HL.out c (by rw [hc]; simp)
    have hl2 : l2.length + 1 = n := by have := HN.out; rw [hc] at this; simpa using this
    have HC := hide hc
    have E1 := hide (show s.extract 1 n = strOfNums l2 by rw [← HS.out, so_drop l _ _ HN.out.symm, HC.out]; rfl)
    have HP1 := hide (show 60 ≤ c → partsF l = parts1 c l2 from fun h => by rw [HC.out, partsF, if_pos h])
    have HP2 := hide (show ¬ 60 ≤ c → partsF l = parts1 0 l from fun h => by rw [HC.out, partsF, if_neg h])
    have hn1 : 0 < n := by omega
    clear hc
    go_enter Try.func62, Try.ntmps62
    go_upto_if 16 with (fail)
    go_cut [0, 6] (fun s0 s6 wc => ∃ (p : Int) (m : List Int), s0 = .string (strOfNums m) ∧ s6 = .int .u8 p ∧ m.length ≤ n ∧ Hid (partsF l = parts1 p m) ∧ Hid (∀ x ∈ m, 0 ≤ x ∧ x ≤ 255) ∧ w = wc)
    case first =>
      by_cases k60 : 60 ≤ c
      · have a1 : (1 : Int) ≤ n := by omega
        go_wp2_with fail
        go_meet
        exact ⟨c, l2, by rw [← E1.out], rfl, by omega, HP1.out k60, fun x hx => HL.out x (by rw [HC.out]; exact List.mem_cons_of_mem _ hx), rfl⟩
      · have b60 : decide (60 ≤ c) = false := by simpa using k60
        go_wp2_with fail
        go_meet
        exact ⟨0, l, by rw [HS.out], rfl, by rw [HN.out]; exact Nat.le_refl _, HP2.out k60, HL.out, rfl⟩
    case rest =>
      clear E1 HP1 HP2 HC hzc hcb hl2
      obtain ⟨p, m, rfl, rfl, hmk, HP, HB, rfl⟩ := hcut
      obtain ⟨k, hk0⟩ : ∃ k, m.length = k := ⟨_, rfl⟩
      have HK := hide hk0
      rw [hk0] at hmk
      obtain ⟨s2, hs2⟩ : ∃ s2, strOfNums m = s2 := ⟨_, rfl⟩
      have hz2 : s2.size = k := by rw [← hs2, strOfNums_size, hk0]
      rw [hs2]
      have HS2 := hide hs2
      obtain ⟨H, hH⟩ : ∃ H, headN m = H := ⟨_, rfl⟩
      have HSP := hide (head_split m)
      have hHk : H ≤ k := by rw [← hH]; have := (head_split m).1; rw [hk0] at this; exact this
      have HH := hide hH
      have hk9 : k ≤ 100000 := by omega
      have hH9 : H ≤ 100000 := by omega
      clear hH hs2 hk0 HS HL HN hz
      go_wp2_with fail
      go_loopg [7] H (fun g s7 wr => ∃ j : Nat, j + g = H ∧ s7 = .int .i64 j ∧ w = wr)
      case atStart => exact ⟨0, by omega, rfl, rfl⟩
      case round =>
        obtain ⟨j, hj, rfl, rfl⟩ := hrel
        by_cases hlt : j < H
        · obtain ⟨x, hx, hh⟩ := HSP.out.2.2.1 j (by rw [HH.out]; exact hlt)
          have hsz : j < s2.size := by omega
          have hjk : j < k := by omega
          have hzx := so_get HS2.out hx HB.out hsz
          have hh2 : 48 ≤ x ∧ x ≤ 59 := by simpa [isH] using hh
          obtain ⟨hh3, hh4⟩ := hh2
          clear hx hh
          go_wp2_with fail
          go_roundg (H - (j + 1))
          case measure => omega
          case rel => exact ⟨j + 1, by omega, by first | rfl | simp, rfl⟩
        · obtain rfl : H = j := by omega
          clear hlt
          have cs : (¬ H < k) ∨ (H < k ∧ ∃ x, m[H]? = some x ∧ x < 48 ∧ 0 ≤ x) ∨ (H < k ∧ ∃ x, m[H]? = some x ∧ 59 < x ∧ 48 ≤ x) := by
            by_cases hk : H < k
            · obtain ⟨x, hx⟩ : ∃ x, m[H]? = some x := ⟨_, List.getElem?_eq_getElem (by rw [HK.out]; exact hk)⟩
              have hn := HSP.out.2.2.2 x (by rw [HH.out]; exact hx)
              have hbx := HB.out x (List.mem_of_getElem? hx)
              by_cases h48 : x < 48
              · exact .inr (.inl ⟨hk, x, hx, h48, hbx.1⟩)
              · by_cases h59 : 59 < x
                · exact .inr (.inr ⟨hk, x, hx, h59, by omega⟩)
                · have : isH x = true := by simp [isH]; omega
                  rw [this] at hn
                  cases hn
            · exact .inl hk
          rcases cs with hk | ⟨hk, x0, hx0, h48, h49⟩ | ⟨hk, x0, hx0, h48, h49⟩
          · skip
            go_wp2_with fail
            go_loopg [8] (k - H) (fun g s8 wr => ∃ i : Nat, i + g = k ∧ H ≤ i ∧ s8 = .int .i64 i ∧ Hid (∀ y, y < i → H ≤ y → ∀ x, m[y]? = some x → x ≤ 47) ∧ w = wr)
            case atStart => exact ⟨H, by omega, Nat.le_refl _, rfl, fun y h1 h2 => by omega, rfl⟩
            case round =>
              obtain ⟨i, hi, hHi, rfl, HA, rfl⟩ := hrel
              by_cases hlt2 : i < k
              · obtain ⟨x, hx⟩ : ∃ x, m[i]? = some x := ⟨_, List.getElem?_eq_getElem (by rw [HK.out]; exact hlt2)⟩
                have hsz : i < s2.size := by omega
                have hzx := so_get HS2.out hx HB.out hsz
                have hbx := HB.out x (List.mem_of_getElem? hx)
                have HX := hide hx
                clear hx
                by_cases h47 : 47 < x
                · have HF := hide (show partsF l = ⟨0, [], [], false⟩ by
                    rw [HP.out]
                    unfold parts1
                    rw [HH.out, if_pos]
                    rw [List.any_eq_true]
                    exact ⟨x, List.mem_of_getElem? (i := i - H) (by rw [List.getElem?_drop, show H + (i - H) = i by omega]; exact HX.out), by simpa using h47⟩)
                  go_wp2_with fail
                  refine bodyPost_ret (v := .tuple #[.int .u8 0, .string ⟨#[]⟩, .string ⟨#[]⟩, .bool false]) (by simp [results, Try.results62, go_sem]) rfl ?_
                  rw [HF.out]
                  exact ⟨rfl, 0, rfl⟩
                · go_wp2_with fail
                  go_roundg (k - (i + 1))
                  case measure => omega
                  case rel =>
                    refine ⟨i + 1, by omega, by omega, by first | rfl | simp, fun y h1 h2 z hz => ?_, rfl⟩
                    rcases Nat.lt_or_ge y i with h3 | h3
                    · exact HA.out y h3 h2 z hz
                    · obtain rfl : y = i := by omega
                      rw [HX.out] at hz
                      injection hz with hz
                      omega
              · have HF := hide (show partsF l = ⟨p, m.take H, m.drop H, decide (H ≤ 256) && decide (k - H ≤ 2)⟩ by
                  rw [HP.out]
                  unfold parts1
                  rw [HH.out, HK.out, if_neg]
                  rw [List.any_eq_true]
                  rintro ⟨x, hx, h47⟩
                  obtain ⟨y, hy⟩ := List.getElem?_of_mem hx
                  rw [List.getElem?_drop] at hy
                  have hlen := (List.getElem?_eq_some_iff.1 hy).1
                  rw [HK.out] at hlen
                  have := HA.out (H + y) (by omega) (by omega) x hy
                  have h47 : 47 < x := by simpa using h47
                  omega)
                have e1 : s2.extract 0 H = strOfNums (m.take H) := by rw [← HS2.out, so_take]
                have e2 : s2.extract H k = strOfNums (m.drop H) := by rw [← HS2.out, so_drop m _ _ HK.out.symm]
                have E1 := hide e1
                have E2 := hide e2
                have a1 : (0 : Int) ≤ H := by omega
                have a2 : (H : Int) ≤ k := by omega
                have w1 : IntKind.i64.wrap ((k : Int) - H) = (k : Int) - H := IntWalk.i64_in _ (by omega)
                have HQ : Hid (∀ (bb : Bool) (q : Nat), bb = (decide (H ≤ 256) && decide (k - H ≤ 2)) → PartsPost (partsF l) w (.returned (.tuple #[.int .u8 p, .string (s2.extract 0 H), .string (s2.extract H k), .bool bb])) (w.drewN q)) := fun bb q hb => by
                  rw [HF.out, hb]
                  exact ⟨by rw [E1.out, E2.out], q, rfl⟩
                clear e1 e2
                by_cases k1 : H ≤ 256
                · have c1 : decide ((H : Int) ≤ 256) = true := by simp; omega
                  have c2 : (H : Int) ≤ 256 := by omega
                  by_cases k2 : (k : Int) - H ≤ 2
                  · go_wp2_with fail
                    go_quiet (fail)
                    go_wp2_with fail
                    refine bodyPost_ret (v := .tuple #[.int .u8 p, .string (s2.extract 0 H), .string (s2.extract H k), .bool true]) (by simp [results, Try.results62, go_sem]) rfl ?_
                    exact HQ.out true nq (by rw [decide_eq_true k1, decide_eq_true (show k - H ≤ 2 by omega)]; rfl)
                  · have b2 : decide ((k : Int) - H ≤ 2) = false := by simpa using k2
                    go_wp2_with fail
                    go_quiet (fail)
                    go_wp2_with fail
                    refine bodyPost_ret (v := .tuple #[.int .u8 p, .string (s2.extract 0 H), .string (s2.extract H k), .bool false]) (by simp [results, Try.results62, go_sem]) rfl ?_
                    exact HQ.out false nq (by rw [decide_eq_false (show ¬ k - H ≤ 2 by omega), Bool.and_false])
                · have b1 : decide (H ≤ 256) = false := by simpa using k1
                  have c1 : decide ((H : Int) ≤ 256) = false := by simp; omega
                  have c2 : ¬ (H : Int) ≤ 256 := by omega
                  go_wp2_with fail
                  go_quiet (fail)
                  go_wp2_with fail
                  refine bodyPost_ret (v := .tuple #[.int .u8 p, .string (s2.extract 0 H), .string (s2.extract H k), .bool false]) (by simp [results, Try.results62, go_sem]) rfl ?_
                  exact HQ.out false nq (by rw [b1]; rfl)
          · have hsz0 : H < s2.size := by omega
            have hzx0 := so_get HS2.out hx0 HB.out hsz0
            have b48 : decide (48 ≤ x0) = false := by simp; omega
            clear hx0
            go_wp2_with fail
            go_loopg [8] (k - H) (fun g s8 wr => ∃ i : Nat, i + g = k ∧ H ≤ i ∧ s8 = .int .i64 i ∧ Hid (∀ y, y < i → H ≤ y → ∀ x, m[y]? = some x → x ≤ 47) ∧ w = wr)
            case atStart => exact ⟨H, by omega, Nat.le_refl _, rfl, fun y h1 h2 => by omega, rfl⟩
            case round =>
              obtain ⟨i, hi, hHi, rfl, HA, rfl⟩ := hrel
              by_cases hlt2 : i < k
              · obtain ⟨x, hx⟩ : ∃ x, m[i]? = some x := ⟨_, List.getElem?_eq_getElem (by rw [HK.out]; exact hlt2)⟩
                have hsz : i < s2.size := by omega
                have hzx := so_get HS2.out hx HB.out hsz
                have hbx := HB.out x (List.mem_of_getElem? hx)
                have HX := hide hx
                clear hx
                by_cases h47 : 47 < x
                · have HF := hide (show partsF l = ⟨0, [], [], false⟩ by
                    rw [HP.out]
                    unfold parts1
                    rw [HH.out, if_pos]
                    rw [List.any_eq_true]
                    exact ⟨x, List.mem_of_getElem? (i := i - H) (by rw [List.getElem?_drop, show H + (i - H) = i by omega]; exact HX.out), by simpa using h47⟩)
                  go_wp2_with fail
                  refine bodyPost_ret (v := .tuple #[.int .u8 0, .string ⟨#[]⟩, .string ⟨#[]⟩, .bool false]) (by simp [results, Try.results62, go_sem]) rfl ?_
                  rw [HF.out]
                  exact ⟨rfl, 0, rfl⟩
                · go_wp2_with fail
                  go_roundg (k - (i + 1))
                  case measure => omega
                  case rel =>
                    refine ⟨i + 1, by omega, by omega, by first | rfl | simp, fun y h1 h2 z hz => ?_, rfl⟩
                    rcases Nat.lt_or_ge y i with h3 | h3
                    · exact HA.out y h3 h2 z hz
                    · obtain rfl : y = i := by omega
                      rw [HX.out] at hz
                      injection hz with hz
                      omega
              · have HF := hide (show partsF l = ⟨p, m.take H, m.drop H, decide (H ≤ 256) && decide (k - H ≤ 2)⟩ by
                  rw [HP.out]
                  unfold parts1
                  rw [HH.out, HK.out, if_neg]
                  rw [List.any_eq_true]
                  rintro ⟨x, hx, h47⟩
                  obtain ⟨y, hy⟩ := List.getElem?_of_mem hx
                  rw [List.getElem?_drop] at hy
                  have hlen := (List.getElem?_eq_some_iff.1 hy).1
                  rw [HK.out] at hlen
                  have := HA.out (H + y) (by omega) (by omega) x hy
                  have h47 : 47 < x := by simpa using h47
                  omega)
                have e1 : s2.extract 0 H = strOfNums (m.take H) := by rw [← HS2.out, so_take]
                have e2 : s2.extract H k = strOfNums (m.drop H) := by rw [← HS2.out, so_drop m _ _ HK.out.symm]
                have E1 := hide e1
                have E2 := hide e2
                have a1 : (0 : Int) ≤ H := by omega
                have a2 : (H : Int) ≤ k := by omega
                have w1 : IntKind.i64.wrap ((k : Int) - H) = (k : Int) - H := IntWalk.i64_in _ (by omega)
                have HQ : Hid (∀ (bb : Bool) (q : Nat), bb = (decide (H ≤ 256) && decide (k - H ≤ 2)) → PartsPost (partsF l) w (.returned (.tuple #[.int .u8 p, .string (s2.extract 0 H), .string (s2.extract H k), .bool bb])) (w.drewN q)) := fun bb q hb => by
                  rw [HF.out, hb]
                  exact ⟨by rw [E1.out, E2.out], q, rfl⟩
                clear e1 e2
                by_cases k1 : H ≤ 256
                · have c1 : decide ((H : Int) ≤ 256) = true := by simp; omega
                  have c2 : (H : Int) ≤ 256 := by omega
                  by_cases k2 : (k : Int) - H ≤ 2
                  · go_wp2_with fail
                    go_quiet (fail)
                    go_wp2_with fail
                    refine bodyPost_ret (v := .tuple #[.int .u8 p, .string (s2.extract 0 H), .string (s2.extract H k), .bool true]) (by simp [results, Try.results62, go_sem]) rfl ?_
                    exact HQ.out true nq (by rw [decide_eq_true k1, decide_eq_true (show k - H ≤ 2 by omega)]; rfl)
                  · have b2 : decide ((k : Int) - H ≤ 2) = false := by simpa using k2
                    go_wp2_with fail
                    go_quiet (fail)
                    go_wp2_with fail
                    refine bodyPost_ret (v := .tuple #[.int .u8 p, .string (s2.extract 0 H), .string (s2.extract H k), .bool false]) (by simp [results, Try.results62, go_sem]) rfl ?_
                    exact HQ.out false nq (by rw [decide_eq_false (show ¬ k - H ≤ 2 by omega), Bool.and_false])
                · have b1 : decide (H ≤ 256) = false := by simpa using k1
                  have c1 : decide ((H : Int) ≤ 256) = false := by simp; omega
                  have c2 : ¬ (H : Int) ≤ 256 := by omega
                  go_wp2_with fail
                  go_quiet (fail)
                  go_wp2_with fail
                  refine bodyPost_ret (v := .tuple #[.int .u8 p, .string (s2.extract 0 H), .string (s2.extract H k), .bool false]) (by simp [results, Try.results62, go_sem]) rfl ?_
                  exact HQ.out false nq (by rw [b1]; rfl)
          · have hsz0 : H < s2.size := by omega
            have hzx0 := so_get HS2.out hx0 HB.out hsz0
            have b48 : decide (x0 ≤ 59) = false := by simp; omega
            clear hx0
            go_wp2_with fail
            go_loopg [8] (k - H) (fun g s8 wr => ∃ i : Nat, i + g = k ∧ H ≤ i ∧ s8 = .int .i64 i ∧ Hid (∀ y, y < i → H ≤ y → ∀ x, m[y]? = some x → x ≤ 47) ∧ w = wr)
            case atStart => exact ⟨H, by omega, Nat.le_refl _, rfl, fun y h1 h2 => by omega, rfl⟩
            case round =>
              obtain ⟨i, hi, hHi, rfl, HA, rfl⟩ := hrel
              by_cases hlt2 : i < k
              · obtain ⟨x, hx⟩ : ∃ x, m[i]? = some x := ⟨_, List.getElem?_eq_getElem (by rw [HK.out]; exact hlt2)⟩
                have hsz : i < s2.size := by omega
                have hzx := so_get HS2.out hx HB.out hsz
                have hbx := HB.out x (List.mem_of_getElem? hx)
                have HX := hide hx
                clear hx
                by_cases h47 : 47 < x
                · have HF := hide (show partsF l = ⟨0, [], [], false⟩ by
                    rw [HP.out]
                    unfold parts1
                    rw [HH.out, if_pos]
                    rw [List.any_eq_true]
                    exact ⟨x, List.mem_of_getElem? (i := i - H) (by rw [List.getElem?_drop, show H + (i - H) = i by omega]; exact HX.out), by simpa using h47⟩)
                  go_wp2_with fail
                  refine bodyPost_ret (v := .tuple #[.int .u8 0, .string ⟨#[]⟩, .string ⟨#[]⟩, .bool false]) (by simp [results, Try.results62, go_sem]) rfl ?_
                  rw [HF.out]
                  exact ⟨rfl, 0, rfl⟩
                · go_wp2_with fail
                  go_roundg (k - (i + 1))
                  case measure => omega
                  case rel =>
                    refine ⟨i + 1, by omega, by omega, by first | rfl | simp, fun y h1 h2 z hz => ?_, rfl⟩
                    rcases Nat.lt_or_ge y i with h3 | h3
                    · exact HA.out y h3 h2 z hz
                    · obtain rfl : y = i := by omega
                      rw [HX.out] at hz
                      injection hz with hz
                      omega
              · have HF := hide (show partsF l = ⟨p, m.take H, m.drop H, decide (H ≤ 256) && decide (k - H ≤ 2)⟩ by
                  rw [HP.out]
                  unfold parts1
                  rw [HH.out, HK.out, if_neg]
                  rw [List.any_eq_true]
                  rintro ⟨x, hx, h47⟩
                  obtain ⟨y, hy⟩ := List.getElem?_of_mem hx
                  rw [List.getElem?_drop] at hy
                  have hlen := (List.getElem?_eq_some_iff.1 hy).1
                  rw [HK.out] at hlen
                  have := HA.out (H + y) (by omega) (by omega) x hy
                  have h47 : 47 < x := by simpa using h47
                  omega)
                have e1 : s2.extract 0 H = strOfNums (m.take H) := by rw [← HS2.out, so_take]
                have e2 : s2.extract H k = strOfNums (m.drop H) := by rw [← HS2.out, so_drop m _ _ HK.out.symm]
                have E1 := hide e1
                have E2 := hide e2
                have a1 : (0 : Int) ≤ H := by omega
                have a2 : (H : Int) ≤ k := by omega
                have w1 : IntKind.i64.wrap ((k : Int) - H) = (k : Int) - H := IntWalk.i64_in _ (by omega)
                have HQ : Hid (∀ (bb : Bool) (q : Nat), bb = (decide (H ≤ 256) && decide (k - H ≤ 2)) → PartsPost (partsF l) w (.returned (.tuple #[.int .u8 p, .string (s2.extract 0 H), .string (s2.extract H k), .bool bb])) (w.drewN q)) := fun bb q hb => by
                  rw [HF.out, hb]
                  exact ⟨by rw [E1.out, E2.out], q, rfl⟩
                clear e1 e2
                by_cases k1 : H ≤ 256
                · have c1 : decide ((H : Int) ≤ 256) = true := by simp; omega
                  have c2 : (H : Int) ≤ 256 := by omega
                  by_cases k2 : (k : Int) - H ≤ 2
                  · go_wp2_with fail
                    go_quiet (fail)
                    go_wp2_with fail
                    refine bodyPost_ret (v := .tuple #[.int .u8 p, .string (s2.extract 0 H), .string (s2.extract H k), .bool true]) (by simp [results, Try.results62, go_sem]) rfl ?_
                    exact HQ.out true nq (by rw [decide_eq_true k1, decide_eq_true (show k - H ≤ 2 by omega)]; rfl)
                  · have b2 : decide ((k : Int) - H ≤ 2) = false := by simpa using k2
                    go_wp2_with fail
                    go_quiet (fail)
                    go_wp2_with fail
                    refine bodyPost_ret (v := .tuple #[.int .u8 p, .string (s2.extract 0 H), .string (s2.extract H k), .bool false]) (by simp [results, Try.results62, go_sem]) rfl ?_
                    exact HQ.out false nq (by rw [decide_eq_false (show ¬ k - H ≤ 2 by omega), Bool.and_false])
                · have b1 : decide (H ≤ 256) = false := by simpa using k1
                  have c1 : decide ((H : Int) ≤ 256) = false := by simp; omega
                  have c2 : ¬ (H : Int) ≤ 256 := by omega
                  go_wp2_with fail
                  go_quiet (fail)
                  go_wp2_with fail
                  refine bodyPost_ret (v := .tuple #[.int .u8 p, .string (s2.extract 0 H), .string (s2.extract H k), .bool false]) (by simp [results, Try.results62, go_sem]) rfl ?_
                  exact HQ.out false nq (by rw [b1]; rfl)
end Go.Proofs.Ythbjjhoajecpcaa
