/-
  The plain law of the best entries: a heap that holds the best ones so far. No program in sight.
-/
import Derived.Test.YtndnjdocdfjmcaaRank
namespace Go.Proofs.Ytndnjdocdfjmcaa
set_option linter.unusedVariables false
/-- The best ones. -/
def topN (n : Nat) (l : List Ent) : List Ent := (srtE l).take n
theorem topN_cons (n : Nat) (e : Ent) (l : List Ent) : topN n (e :: l) = (insE e (topN n l)).take n := take_insE e (srtE l) n
theorem topN_len (n : Nat) (l : List Ent) : (topN n l).length ≤ n := by unfold topN; rw [List.length_take]; omega
theorem topN_srt {n : Nat} {l : List Ent} (ht : Tot l) (hn : l.Nodup) : Srt (topN n l) := (srtE_srt ht hn).sublist (List.take_sublist ..)
theorem topN_mem {n : Nat} {l : List Ent} {x : Ent} (h : x ∈ topN n l) : x ∈ l := (srtE_perm l).mem_iff.1 (List.mem_of_mem_take h)
theorem ins_top_srt {n : Nat} {e : Ent} {l : List Ent} (ht : Tot (e :: l)) (hn : (e :: l).Nodup) : Srt (insE e (topN n l)) := by
  obtain ⟨h1, h2⟩ := List.nodup_cons.1 hn
  refine insE_srt (topN_srt (ht.sub fun x hx => List.mem_cons_of_mem _ hx) h2) (fun x hx => ?_)
  have hxl := topN_mem hx
  exact ht x (List.mem_cons_of_mem _ hxl) e (List.mem_cons_self ..) (fun e' => h1 (e' ▸ hxl))
/-- The worst one taken out of a heap. -/
theorem pop_worst {h T : List Ent} {w r : Ent} (ho : HeapOK ltE h h.length) (hp : h.Perm (T ++ [w])) (hs : Srt (T ++ [w])) (hr : h[0]? = some r) :
    r = w ∧ (popF ltE h).Perm T ∧ HeapOK ltE (popF ltE h) (popF ltE h).length := by
  obtain ⟨h1, h2, h3, h4⟩ := pop_heap ordE ho hr
  have hrw : r = w := worst_last hs (hp.mem_iff.1 (List.mem_of_getElem? hr)) (fun a ha => h4 a (hp.mem_iff.2 ha))
  subst hrw
  refine ⟨rfl, ?_, h1⟩
  have h5 : (r :: popF ltE h).Perm (r :: T) := (h2.trans hp).trans (List.perm_append_comm (l₁ := T) (l₂ := [r]))
  exact (List.perm_cons r).1 h5
theorem heap_push {h l : List Ent} {n : Nat} (e : Ent) (ho : HeapOK ltE h h.length) (hp : h.Perm (topN n l)) :
    HeapOK ltE (upF ltE (h ++ [e]) h.length) (upF ltE (h ++ [e]) h.length).length ∧ (upF ltE (h ++ [e]) h.length).Perm (insE e (topN n l)) ∧ (upF ltE (h ++ [e]) h.length).length = h.length + 1 := by
  obtain ⟨h1, h2⟩ := push_heap ordE ho e
  have hl : (upF ltE (h ++ [e]) h.length).length = h.length + 1 := by rw [h2.length_eq]; simp
  refine ⟨by rw [hl]; exact h1, ?_, hl⟩
  refine h2.trans ((List.perm_append_comm (l₁ := h) (l₂ := [e])).trans ?_)
  exact ((hp.cons e)).trans (insE_perm e _).symm
/-- Room for one more. -/
theorem push_fits {h l : List Ent} {n : Nat} (e : Ent) (hp : h.Perm (insE e (topN n l))) (hl : h.length ≤ n) : h.Perm (topN n (e :: l)) := by
  rw [topN_cons, List.take_of_length_le (by rw [← hp.length_eq]; exact hl)]
  exact hp
/-- No room: the worst one goes. -/
theorem push_full {h l : List Ent} {n : Nat} (e : Ent) (ho : HeapOK ltE h h.length) (hp : h.Perm (insE e (topN n l))) (hl : h.length = n + 1) (ht : Tot (e :: l)) (hn : (e :: l).Nodup) :
    ∃ r, h[0]? = some r ∧ (popF ltE h).Perm (topN n (e :: l)) ∧ HeapOK ltE (popF ltE h) (popF ltE h).length ∧ (popF ltE h).length = n := by
  have hT := hp.length_eq
  obtain ⟨r, hr⟩ : ∃ r, h[0]? = some r := ⟨_, List.getElem?_eq_getElem (by omega)⟩
  have hs := ins_top_srt (n := n) ht hn
  obtain ⟨T, w, hTw⟩ : ∃ T w, insE e (topN n l) = T ++ [w] := by
    rcases List.eq_nil_or_concat (insE e (topN n l)) with h1 | ⟨T, w, h1⟩
    · rw [h1, hl] at hT; cases hT
    · exact ⟨T, w, by rw [h1, List.concat_eq_append]⟩
  rw [hTw, List.length_append, List.length_singleton] at hT
  rw [hTw] at hp hs
  obtain ⟨h1, h2, h3⟩ := pop_worst ho hp hs hr
  refine ⟨r, hr, ?_, h3, by rw [popF_len]; omega⟩
  rw [topN_cons, hTw, List.take_append_of_le_length (by omega), List.take_of_length_le (by omega)]
  exact h2
/-- All that are taken, in order. -/
theorem topN_all {n : Nat} {l M L : List Ent} {tk : Ent → Bool} (hl : l.Perm (M.filter tk)) (hM : M.Perm L) (hL : Srt L) : topN n l = (L.filter tk).take n := by
  unfold topN
  have h1 : l.Perm (L.filter tk) := hl.trans (hM.filter _)
  have hS := hL.filter tk
  rw [srt_unique (srtE_srt ((tot_srt hS).sub fun x hx => h1.mem_iff.1 hx) (h1.nodup_iff.2 (srt_nodup hS))) hS ((srtE_perm l).trans h1)]
end Go.Proofs.Ytndnjdocdfjmcaa
