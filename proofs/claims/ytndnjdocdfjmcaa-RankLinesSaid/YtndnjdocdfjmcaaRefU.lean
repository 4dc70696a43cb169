/-
  The document's better and Use, walked. No condition but bounds.
-/
import Derived.Test.YtndnjdocdfjmcaaRefD
namespace Go.Proofs.Ytndnjdocdfjmcaa
open Go.RowKit Go.Proofs
set_option linter.unusedVariables false
set_option maxHeartbeats 2000000 in
theorem rbetter_any (a b : Ent) (w : World) : Calls Try.prog 32 #[entA a, entA b] w fun e w' => e = .returned (.bool (betB a b)) ∧ Below w.heap.size w w' := by
  obtain ⟨ta, ca, la⟩ := a
  obtain ⟨tb, cb, lb⟩ := b
  have HL := hide (show betB ⟨ta, ca, la⟩ ⟨tb, cb, lb⟩ = if ca = cb then decide (lb < la) else decide (cb < ca) from rfl)
  unfold entA
  simp only
  by_cases hc : ca = cb
  · subst hc
    have HR := hide (show betB ⟨ta, ca, la⟩ ⟨tb, ca, lb⟩ = decide (lb < la) by rw [HL.out, if_pos rfl])
    go_enter Try.func32, Try.ntmps32
    go_wp2
    go_ret
    rw [HR.out]
    exact ⟨by simp, ((Below.refl _ _).alloc (Nat.le_refl _) _).alloc (by simp) _⟩
  · by_cases hlt : cb < ca
    · have d1 : decide (cb < ca) = true := by simpa using hlt
      have d2 : decide ((cb : Int) < ca) = true := by simp; omega
      have HR := hide (show betB ⟨ta, ca, la⟩ ⟨tb, cb, lb⟩ = true by rw [HL.out, if_neg hc, d1])
      go_enter Try.func32, Try.ntmps32
      go_wp2
      go_ret
      rw [HR.out]
      exact ⟨by simp, ((Below.refl _ _).alloc (Nat.le_refl _) _).alloc (by simp) _⟩
    · have d1 : decide (cb < ca) = false := by simpa using hlt
      have d2 : decide ((cb : Int) < ca) = false := by simp; omega
      have e1 : (ca == cb) = false := by simpa using hc
      have e2 : ((ca : Int) == (cb : Int)) = false := by rw [beq_eq_false_iff_ne]; omega
      have HR := hide (show betB ⟨ta, ca, la⟩ ⟨tb, cb, lb⟩ = false by rw [HL.out, if_neg hc, d1])
      go_enter Try.func32, Try.ntmps32
      go_wp2
      go_ret
      rw [HR.out]
      exact ⟨by simp, ((Below.refl _ _).alloc (Nat.le_refl _) _).alloc (by simp) _⟩
theorem lk_snoc {L : List Ent} {t : ByteArray} {i : Nat} {x : Ent} (h : L[i]? = some x) (hp : L.Pairwise (fun a b => a.text ≠ b.text)) : lk (L.take (i + 1)) t = if x.text = t then some x else lk (L.take i) t := by
  rw [take_snoc h]
  unfold lk
  rw [List.find?_append]
  by_cases hx : x.text = t
  · rw [if_pos hx]
    have hn : (L.take i).find? (fun e => decide (e.text = t)) = none := by
      rw [List.find?_eq_none]
      intro y hy
      have hs : (L.take (i + 1)).Pairwise (fun a b => a.text ≠ b.text) := hp.sublist (List.take_sublist ..)
      rw [take_snoc h] at hs
      have := (List.pairwise_append.1 hs).2.2 y hy x (by simp)
      rw [hx] at this
      simpa using this
    rw [hn]
    simp [hx]
  · rw [if_neg hx]
    cases hf : (L.take i).find? (fun e => decide (e.text = t)) with
    | some y => rfl
    | none => simp [hx]
theorem insE_split {e : Ent} : ∀ {l : List Ent} {k : Nat}, (∀ x ∈ l.take k, betB x e = true) → (∀ x, l[k]? = some x → betB x e = false) → k ≤ l.length → insE e l = l.take k ++ e :: l.drop k
  | [], k, _, _, hk => by
    have : k = 0 := by simpa using hk
    subst this; rfl
  | x :: r, 0, _, h2, _ => by
    unfold insE
    rw [h2 x rfl]; rfl
  | x :: r, k + 1, h1, h2, hk => by
    unfold insE
    rw [if_pos (h1 x (by simp))]
    rw [insE_split (l := r) (k := k) (fun y hy => h1 y (by simp [hy])) (fun y hy => h2 y hy) (by simpa using hk)]
    rfl
end Go.Proofs.Ytndnjdocdfjmcaa
