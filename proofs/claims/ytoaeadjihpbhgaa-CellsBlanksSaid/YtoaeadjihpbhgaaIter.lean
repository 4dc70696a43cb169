/-
  The iterator that reads bytes, walked, whatever is done with what it yields: what it yields is what is read of the bytes. No condition but bounds.
-/
import Derived.RangeFuncBox
import Derived.RangeFuncLeaves
import Derived.RangeFuncCalls
import Derived.RangeFuncSeq
import Derived.RangeFuncRecord
import Derived.Shelf.Abstract
import Derived.OwnWalkIn
import Derived.TacticsInMore
import Derived.LoopNIn
import Derived.LoopIn
import Derived.Maps.AppendAt
import Derived.Maps.OwnIn
import Derived.Test.YtoaeadjihpbhgaaPut
namespace Go.Proofs.Ytoaeadjihpbhgaa
open Go.RowKit Go.Proofs
set_option linter.unusedVariables false
attribute [local go_sem] Oper.semAt_some
/-- What the loop over the iterator holds: its own variable, and the two blocks of the loop's book-keeping. -/
structure JAt (base B l D : Nat) (L : Loop) (w0 : World) (pre : List Int) (v : Value) (W : World) : Prop where
  box : Blk W B 73 #[v]
  row : W.ownsRow base 21 1 v pre.length (pre.map r32)
  bel : Below base w0 W
  rec_ : W.heap[l]? = some (.loop L)
  dfr : W.heap[D]? = some (.deferred (some []))
/-- What a round turns. -/
structure YTurn (B l : Nat) (v v' : Value) (W W' : World) : Prop where
  frm : Frm (fun k => k = l ∨ k = B ∨ v.ownBlock = some k) W W'
  at_ : v'.ownBlock = v.ownBlock ∨ ∃ g, v'.ownBlock = some g ∧ W.heap.size ≤ g
section
variable {base B l D db : Nat} {L : Loop} {w0 W W' : World} {pre : List Int} {v v' : Value}
theorem Blk.ne_rec {g : Nat} {t : TypeId} {cs : Array Value} (h : Blk W g t cs) (hr : W.heap[l]? = some (.loop L)) : g ≠ l := by
  rintro rfl
  unfold Blk at h
  rw [h] at hr
  cases hr
theorem Blk.ne_dfr {g : Nat} {t : TypeId} {cs : Array Value} (h : Blk W g t cs) (hr : W.heap[D]? = some (.deferred (some []))) : g ≠ D := by
  rintro rfl
  unfold Blk at h
  rw [h] at hr
  cases hr
theorem JAt.lt (h : JAt base B l D L w0 pre v W) : B < W.heap.size ∧ l < W.heap.size ∧ D < W.heap.size := ⟨h.box.lt, (Array.getElem?_eq_some_iff.1 h.rec_).1, (Array.getElem?_eq_some_iff.1 h.dfr).1⟩
/-- The iterator's own steps leave it. -/
theorem JAt.frm (h : JAt base B l D L w0 pre v W) (hd : DecAt W db []  ∨ ∃ cs, Blk W db 94 cs) (hb : base ≤ db) (hs : base ≤ W.heap.size) (hf : Frm (fun k => k = db) W W') : JAt base B l D L w0 pre v W' := by
  obtain ⟨cs, hB⟩ : ∃ cs, Blk W db 94 cs := by
    rcases hd with ⟨n, a, b, c, d, h, _⟩ | h
    · exact ⟨_, h⟩
    · exact h
  have h1 := h.lt
  refine ⟨h.box.frm hf (fun e => h.box.ne_ hB (by decide) e), own_frm h.row hf (fun k hk e => own_ne h.row hB (by decide) (by rw [hk, e])), ?_, ?_, ?_⟩
  · exact h.bel.trans (hf.to_below hs (fun i e => by have e : i = db := e; omega))
  · exact (hf.block l h1.2.1 (fun e => hB.ne_rec h.rec_ (show db = l from Eq.symm e))).trans h.rec_
  · exact (hf.block D h1.2.2 (fun e => hB.ne_dfr h.dfr (show db = D from Eq.symm e))).trans h.dfr
theorem YTurn.blk {g : Nat} {t : TypeId} {cs : Array Value} (h : YTurn B l v v' W W') (j : JAt base B l D L w0 pre v W) (hg : Blk W g t cs) (h1 : t ≠ 73) (h2 : (21 : TypeId) ≠ t) : Blk W' g t cs :=
  hg.frm h.frm (by
    rintro (e | e | e)
    · exact hg.ne_rec j.rec_ e
    · exact hg.ne_ j.box h1 e
    · exact own_ne j.row hg h2 e.symm)
theorem YTurn.dec (h : YTurn B l v v' W W') (j : JAt base B l D L w0 pre v W) {t : List Int} (hd : DecAt W db t) : DecAt W' db t := by
  obtain ⟨n, a, b, c, d, hB, hR⟩ := hd
  exact ⟨n, a, b, c, d, h.blk j hB (by decide) (by decide), hR⟩
/-- Scalars that wait to be yielded lie on. -/
theorem YTurn.own {s : Nat} {u : Value} {m : Nat} {xs : List Value} (h : YTurn B l v v' W W') (j : JAt base B l D L w0 pre v W) (hu : W.ownsRow s 21 1 u m xs) (hne : ∀ k, u.ownBlock = some k → v.ownBlock ≠ some k) :
    W'.ownsRow s 21 1 u m xs ∧ ∀ k, u.ownBlock = some k → v'.ownBlock ≠ some k := by
  have hc : ∀ k, u.ownBlock = some k → ∃ cs, Blk W k 21 cs := by
    intro k hk
    rcases hu.2 with ⟨rfl, _⟩ | ⟨g, cap, cur, rfl, _, hh, _⟩
    · cases hk
    · have : g = k := by simpa [Value.ownBlock] using hk
      subst this
      exact ⟨cur, hh⟩
  refine ⟨own_frm hu h.frm ?_, ?_⟩
  · intro k hk
    obtain ⟨cs, hB⟩ := hc k hk
    rintro (e | e | e)
    · exact hB.ne_rec j.rec_ e
    · exact hB.ne_ j.box (by decide) e
    · exact hne k hk e
  · intro k hk hk'
    rcases h.at_ with h1 | ⟨g, h1, h2⟩
    · rw [h1] at hk'; exact hne k hk hk'
    · rw [h1] at hk'
      injection hk' with hk'
      have := (hu.lt k hk).2
      omega
end
theorem stepF_len (t : List Int) (c : Int) : (stepF t c).1.length ≤ 2 := by
  have h1 : (firstF c).1.length ≤ 1 := by unfold firstF; (repeat' split) <;> simp
  unfold stepF
  (repeat' split) <;> simp <;> omega
theorem readF_len : ∀ (b t : List Int), (readF t b).1.length ≤ 2 * b.length
  | [], t => by simp [readF]
  | c :: b, t => by
    have h1 := stepF_len t c
    have h2 := readF_len b (stepF t c).2
    rw [readF, List.length_append, List.length_cons]
    omega
theorem begB_bytes {t : List Int} : ∀ (b : List Int), (∀ x ∈ t, IsByte x) → (∀ x ∈ b, IsByte x) → ∀ x ∈ (readF t b).2, IsByte x
  | [], h, _ => by simpa [readF] using h
  | c :: b, h, hb => by
    have hc := hb c (by simp)
    rw [readF]
    refine begB_bytes b ?_ (fun x hx => hb x (by simp [hx]))
    have hf : ∀ x ∈ (firstF c).2, IsByte x := by
      unfold firstF
      intro x hx
      (repeat' split at hx) <;> simp at hx
      subst hx; exact hc
    intro x hx
    unfold stepF at hx
    split at hx
    · exact hf x hx
    · split at hx
      · simp at hx
      · split at hx
        · rcases List.mem_append.1 hx with h1 | h1
          · exact h x h1
          · simp at h1; subst h1; exact hc
        · exact hf x hx
set_option maxRecDepth 100000 in
set_option maxHeartbeats 4000000 in
theorem iter_in (m l D base B bb : Nat) (L : Loop) (w0 : World) (A : Option Addr) (n c : Nat) (b : List Int)
    (hY : ∀ pre x v W, JAt base B l D L w0 pre v W → pre.length < 3000000 → YieldAt Fence.wide m Try.prog l #[.int .i32 x] W fun e W' => e = .returned (.bool true) ∧ ∃ v', JAt base B l D L w0 (pre ++ [x]) v' W' ∧ YTurn B l v v' W W')
    (W : World) (hbb : Blk W bb 51 #[.slice A n c]) (hrd : Rd w0 base 1 A n (b.map b8)) (hq : ∀ x ∈ b, IsByte x) (hn : n ≤ 1000000) (v0 : Value) (hs0 : base ≤ W.heap.size) (h0 : JAt base B l D L w0 [] v0 W) :
    CallsIn Fence.wide (m + 1) Try.prog 80 #[.func (.yield l) #[] #[], .pointer (some ⟨bb, 0, none⟩)] W fun e W' => (∃ v, e = .returned v) ∧ ∃ v', JAt base B l D L w0 (allF b) v' W' := by
  have hlen := hrd.len1
  have cb := hbb.cell 0
  have HL := hide hlen
  have HQ := hide hq
  have HR := hide hrd
  have HY := hide hY
  have hd0 : DecAt (W.alloc (.cells (decC 0 0 0 0 0) 94)) W.heap.size [] := ⟨0, 0, 0, 0, 0, Blk.new _ _ _, rfl, rfl⟩
  have hj0 : JAt base B l D L w0 [] v0 (W.alloc (.cells (decC 0 0 0 0 0) 94)) := by
    have h1 := h0.lt
    refine ⟨h0.box.alloc _, h0.row.alloc _, h0.bel.alloc hs0 _, (Below.heap_alloc _ _ _ h1.2.1).trans h0.rec_, (Below.heap_alloc _ _ _ h1.2.2).trans h0.dfr⟩
  have HD0 := hide (And.intro hd0 hj0)
  have hbl := hbb.lt
  clear hlen hq hrd hY hbb hd0 hj0
  refine callsIn_of_wp Try.func80 rfl trivial ?_ rfl
  simp only [Try.ntmps80, List.size_toArray, List.length_cons, List.length_nil, Nat.reduceAdd, Nat.reduceSub, Array.replicate_succ, Array.replicate_zero, List.push_toArray, List.append_toArray, List.nil_append, List.cons_append]
  gi_wp2
  obtain ⟨db, hdb⟩ : ∃ db, W.heap.size = db := ⟨_, rfl⟩
  rw [hdb] at HD0 hs0 hbl
  simp only [hdb]
  have HDB := hide hdb
  clear h0 cb hdb
  gi_loopw [12] (fun s12 wr => ∃ (k : Nat) (v : Value), s12 = .int .i64 k ∧ k ≤ n ∧ JAt base B l D L w0 (readF [] (b.take k)).1 v wr ∧ DecAt wr db (readF [] (b.take k)).2 ∧ Hid (db < wr.heap.size)) (fun s12 _ => n - (intOf s12).toNat)
  case atStart => exact ⟨0, v0, rfl, Nat.zero_le _, HD0.out.2, HD0.out.1, by have := HDB.out; show db < _; simp; omega⟩
  case round =>
    clear HD0
    obtain ⟨k, v, rfl, hk, hj, hd, HZ⟩ := hrel
    have hzb : base ≤ wr.heap.size := by have := HZ.out; omega
    by_cases hlt : k < n
    · obtain ⟨x, hx⟩ : ∃ x, b[k]? = some x := ⟨_, List.getElem?_eq_getElem (by rw [HL.out]; exact hlt)⟩
      obtain ⟨bl, off, y, rfl, hbB, ey, cy⟩ := (HR.out.below hj.bel).at1 hlt
      rw [hx] at ey
      injection ey with ey
      subst ey
      have hxb := HQ.out x (List.mem_of_getElem? hx)
      have hrb := begB_bytes (b.take k) (t := []) (fun _ h => by cases h) (fun z hz => HQ.out z (List.mem_of_mem_take hz))
      have ST := hide (step_any db _ x wr hxb.1 hxb.2 hrb hd)
      have HS := hide (readF_snoc (b.take k) [] x)
      have HT := hide (take_snoc hx)
      have hlen1 := readF_len (b.take k) []
      have hlen2 := stepF_len (readF [] (b.take k)).2 x
      rw [List.length_take, HL.out] at hlen1
      obtain ⟨pre, hpre⟩ : ∃ pre, (readF [] (b.take k)).1 = pre := ⟨_, rfl⟩
      obtain ⟨t, ht⟩ : ∃ t, (readF [] (b.take k)).2 = t := ⟨_, rfl⟩
      obtain ⟨ls, hls⟩ : ∃ ls, (stepF t x).1 = ls := ⟨_, rfl⟩
      obtain ⟨t2, ht2⟩ : ∃ t2, (stepF t x).2 = t2 := ⟨_, rfl⟩
      obtain ⟨p, hp⟩ : ∃ p, ls.length = p := ⟨_, rfl⟩
      rw [hpre] at hj hlen1 HS
      rw [ht] at hd ST HS hlen2
      rw [hls] at ST HS hlen2
      rw [ht2] at ST HS
      rw [hp] at hlen2
      unfold DecPost at ST
      rw [hp] at ST
      have HJ := hide hj
      have HDD := hide hd
      have HP := hide hp
      unfold b8 at cy
      clear hpre ht hls ht2 hp hrb hx hj hd
      gi_wp2_with (refine ⟨trivial, ?_⟩; gi_at_call 81; refine (callsIn_wide.2 ST.out).mono ?_; rintro e W1 ⟨A1, c1, rfl, hown1, hd1, hf1⟩; have HJ1 := hide (HJ.out.frm (.inr (by obtain ⟨_, _, _, _, _, h, _⟩ := HDD.out; exact ⟨_, h⟩)) hs0 hzb hf1); have HZ1 := hide (Nat.lt_of_lt_of_le HZ.out hf1.size); have HO1 := hide hown1; have HD1 := hide hd1; have HN1 := hide (show ∀ s, (Value.slice A1 p c1).ownBlock = some s → v.ownBlock ≠ some s from fun s e e2 => by have h1 := (hown1.lt s e).1; have h2 := (HJ.out.row.lt s e2).2; omega); clear hown1 hd1 hf1)
      gi_loopw [19] (fun s19 wx => ∃ (i : Nat) (v : Value), s19 = .int .i64 i ∧ i ≤ p ∧ JAt base B l D L w0 (pre ++ ls.take i) v wx ∧ Hid (DecAt wx db t2) ∧ Hid (db < wx.heap.size) ∧ wx.ownsRow wr.heap.size 21 1 (.slice A1 p c1) p (ls.map r32) ∧ Hid (∀ s, (Value.slice A1 p c1).ownBlock = some s → v.ownBlock ≠ some s)) (fun s19 _ => p - (intOf s19).toNat)
      case atStart => exact ⟨0, v, rfl, Nat.zero_le _, by rw [List.take_zero, List.append_nil]; exact HJ1.out, HD1.out, HZ1.out, HO1.out, HN1.out⟩
      case round =>
        clear HJ1 HD1 HZ1 HO1 HN1
        obtain ⟨i, v2, rfl, hi, hj2, HD2, HZ2, hown2, HN2⟩ := hrel
        by_cases hip : i < p
        · obtain ⟨bl2, off2, z, e2, _, ez, cz⟩ := (Rd.of_own hown2).at1 hip
          subst e2
          obtain ⟨fn, tmps, assign, body, hy, hR⟩ := HY.out (pre ++ ls.take i) z v2 _ hj2 (by simp; omega)
          have HTs := hide (take_snoc ez)
          unfold r32 at cz
          gi_wp2
          refine hR.mono ?_
          rintro e W3 ⟨rfl, v3, hj3, hT3⟩
          have ho3 := hT3.own hj2 hown2 HN2.out
          gi_wp2
          go_roundw
          case rel => exact ⟨i + 1, v3, by go_num, by omega, by rw [HTs.out, ← List.append_assoc]; exact hj3, hT3.dec hj2 HD2.out, Nat.lt_of_lt_of_le HZ2.out hT3.frm.size, ho3.1, ho3.2⟩
          case measure => simp [intOf]; omega
        · obtain rfl : i = p := by omega
          gi_wp2
          have e1 : readF [] (b.take (k + 1)) = (pre ++ ls, t2) := by rw [HT.out, HS.out]
          have e2 : ls.take i = ls := List.take_of_length_le (by rw [HP.out]; exact Nat.le_refl _)
          rw [e2] at hj2
          refine ⟨⟨k + 1, v2, by go_num, by omega, by rw [e1]; exact hj2, by rw [e1]; exact HD2.out, HZ2.out⟩, by simp [intOf]; omega⟩
    · obtain rfl : n = k := by omega
      have HA := hide (read_all b)
      have e0 : b.take n = b := List.take_of_length_le (by rw [HL.out]; exact Nat.le_refl _)
      rw [e0] at hj hd
      have EN := hide (end_any db _ wr hd)
      have hlen1 := readF_len b []
      rw [HL.out] at hlen1
      obtain ⟨pre, hpre⟩ : ∃ pre, (readF [] b).1 = pre := ⟨_, rfl⟩
      obtain ⟨t, ht⟩ : ∃ t, (readF [] b).2 = t := ⟨_, rfl⟩
      obtain ⟨ls, hls⟩ : ∃ ls, endF t = ls := ⟨_, rfl⟩
      obtain ⟨p, hp⟩ : ∃ p, ls.length = p := ⟨_, rfl⟩
      have hlen2 : p ≤ 1 := by rw [← hp, ← hls]; unfold endF; split <;> simp
      rw [hpre] at hj hlen1 HA
      rw [ht] at hd EN HA
      rw [hls] at EN HA
      unfold DecPost at EN
      rw [hp] at EN
      have HJ := hide hj
      have HDD := hide hd
      have HP := hide hp
      clear hpre ht hls hp hj hd e0
      gi_wp2_with (refine ⟨trivial, ?_⟩; gi_at_call 82; refine (callsIn_wide.2 EN.out).mono ?_; rintro e W1 ⟨A1, c1, rfl, hown1, hd1, hf1⟩; have HJ1 := hide (HJ.out.frm (.inr (by obtain ⟨_, _, _, _, _, h, _⟩ := HDD.out; exact ⟨_, h⟩)) hs0 hzb hf1); have HO1 := hide hown1; have HN1 := hide (show ∀ s, (Value.slice A1 p c1).ownBlock = some s → v.ownBlock ≠ some s from fun s e e2 => by have h1 := (hown1.lt s e).1; have h2 := (HJ.out.row.lt s e2).2; omega); clear hown1 hd1 hf1)
      gi_loopw [31] (fun s31 wx => ∃ (i : Nat) (v : Value), s31 = .int .i64 i ∧ i ≤ p ∧ JAt base B l D L w0 (pre ++ ls.take i) v wx ∧ wx.ownsRow wr.heap.size 21 1 (.slice A1 p c1) p (ls.map r32) ∧ Hid (∀ s, (Value.slice A1 p c1).ownBlock = some s → v.ownBlock ≠ some s)) (fun s31 _ => p - (intOf s31).toNat)
      case atStart => exact ⟨0, v, rfl, Nat.zero_le _, by rw [List.take_zero, List.append_nil]; exact HJ1.out, HO1.out, HN1.out⟩
      case round =>
        clear HJ1 HO1 HN1
        obtain ⟨i, v2, rfl, hi, hj2, hown2, HN2⟩ := hrel
        by_cases hip : i < p
        · obtain ⟨bl2, off2, z, e2, _, ez, cz⟩ := (Rd.of_own hown2).at1 hip
          subst e2
          obtain ⟨fn, tmps, assign, body, hy, hR⟩ := HY.out (pre ++ ls.take i) z v2 _ hj2 (by simp; omega)
          have HTs := hide (take_snoc ez)
          unfold r32 at cz
          gi_wp2
          refine hR.mono ?_
          rintro e W3 ⟨rfl, v3, hj3, hT3⟩
          have ho3 := hT3.own hj2 hown2 HN2.out
          gi_wp2
          go_roundw
          case rel => exact ⟨i + 1, v3, by go_num, by omega, by rw [HTs.out, ← List.append_assoc]; exact hj3, ho3.1, ho3.2⟩
          case measure => simp [intOf]; omega
        · obtain rfl : i = p := by omega
          gi_wp2
          have e2 : ls.take i = ls := List.take_of_length_le (by rw [HP.out]; exact Nat.le_refl _)
          rw [e2, ← HA.out] at hj2
          go_end0
          exact ⟨⟨_, rfl⟩, v2, hj2⟩
end Go.Proofs.Ytoaeadjihpbhgaa
