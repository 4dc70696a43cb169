/-
  param.Parse walked: the numbers of a head. No condition but bounds.
-/
import Derived.Test.YthbjjhoajecpcaaParam
import Derived.Deep.QuietTactic
import Derived.Deep.RegionLaw
namespace Go.Proofs.Ythbjjhoajecpcaa
open Go.RowKit Go.Proofs
set_option linter.unusedVariables false
theorem hmf (fn : Fn) (first cap : Array Value) (w : World) : (Instr.makeFunc fn first cap).run Try.prog w = .ok (.func fn first cap) w := rfl
/-- A box of numbers. -/
def QInv (w0 : World) (g : Nat) (l : List Int) (W : World) : Prop := ∃ A c, Blk W g 48 #[.slice A l.length c] ∧ W.ownsRow w0.heap.size 3 1 (.slice A l.length c) l.length (l.map iC) ∧ Below w0.heap.size w0 W
theorem QInv.drewN {w0 W : World} {g : Nat} {l : List Int} (h : QInv w0 g l W) (q : Nat) : QInv w0 g l (W.drewN q) := by
  obtain ⟨A, c, h1, h2, h3⟩ := h
  exact ⟨A, c, h1, h2, below_drewN' h3 q⟩
theorem q_end {w0 w w3 : World} {g : Nat} {l : List Int} {v : Int} {A A3 : Option Addr} {n c c3 : Nat} (h1 : Blk w g 48 #[.slice A n c]) (h2 : w.ownsRow w0.heap.size 3 1 (.slice A n c) n (l.map iC)) (h3 : Below w0.heap.size w0 w) (hn : l.length = n)
    (app : App (w.drew.alloc (.cells #[.int .i64 v] 3)) w0.heap.size 3 1 (.slice A n c) (.slice A3 (n + 1) c3) (n + 1) (l.map iC ++ [.int .i64 v]) w3) (hg : w0.heap.size ≤ g := by assumption) :
    QInv w0 g (l ++ [v]) (w3.setCell ⟨g, 0, none⟩ (.slice A3 (n + 1) c3)) := by
  subst hn
  have o2 : (w.drew).ownsRow w0.heap.size 3 1 (.slice A l.length c) l.length (l.map iC) := h2
  have a1 := app.blk (h1.drew.alloc _) (o2.alloc _) (by decide)
  have z0 := h3.size
  have b3 : Below w0.heap.size w0 w3 := app.below (o2.alloc _) (h3.drew.alloc (by exact z0) _) (Nat.le_refl _) (by simp; omega)
  refine ⟨A3, c3, ?_, ?_, b3.setCell (p := ⟨g, 0, none⟩) hg _⟩
  · have s1 := a1.set_ 0 (.slice A3 (l.length + 1) c3)
    simpa using s1
  · have := own_far (p := ⟨g, 0, none⟩) app.own (own_ne app.own a1 (by decide)) (.slice A3 (l.length + 1) c3)
    simpa [iC] using this
set_option maxHeartbeats 1000000 in
theorem f57_any (w0 : World) (g : Nat) (l p : List Int) (w : World) (h : QInv w0 g l w) (hg : w0.heap.size ≤ g) (hl : l.length ≤ 100) (hp : p.length ≤ 100000) (hd : ∀ x ∈ p, 48 ≤ x ∧ x ≤ 57) :
    Calls Try.prog 57 #[.string (strOfNums p), .pointer (some ⟨g, 0, none⟩)] w fun e w' => e = .returned (.tuple #[]) ∧ QInv w0 g (l ++ [valueF p]) w' := by
  obtain ⟨A, c, h1, h2, h3⟩ := h
  have V := hide (fun W => value_any p W p.length (strOfNums_size p) hp hd)
  obtain ⟨v, hv⟩ : ∃ v, valueF p = v := ⟨_, rfl⟩
  rw [hv] at V ⊢
  have c1 := h1.cell 0
  have f1 := h1.frozen 0
  simp at c1
  have hb := h3.size
  obtain ⟨n, hn⟩ : ∃ n, l.length = n := ⟨_, rfl⟩
  rw [hn] at c1 h1 h2 hl
  have gl := h1.lt
  have H1 := hide h1
  have H2 := hide h2
  have H3 := hide h3
  have HN := hide hn
  clear h1 h2 h3 hd hv hp hn
  go_enter Try.func57, Try.ntmps57
  go_region_law (first
    | (refine step_append1n Try.sl48 (by rfl) _ _ (by rfl) w0.heap.size (.slice A n c) n _ #[.int .i64 v] w.drew 1 (by rfl) (by rfl) rfl H2.out rfl (by intro u hu; simp at hu; subst hu; rfl) (by simp only [maxLen]; omega) (by omega) hb ?_; intro A3 c3 w3 app; have k3 := hide (app.blk (H1.out.drew.alloc _) (World.ownsRow.alloc (w := w.drew) H2.out _) (by decide)); have z0 := k3.out.cell 0; have zf := k3.out.frozen 0; simp at z0)
    | (go_simp; go_at_call 58; (refine (V.out _).mono ?_; rintro e w1 ⟨rfl, hw1⟩; obtain rfl := hw1.symm)))
  all_goals
    go_end0
    exact ⟨rfl, q_end H1.out H2.out H3.out HN.out app⟩
/-- A group's numbers. -/
def groupF (p : List Int) : List Int := ((splitF 58 p).take 8).map valueF
/-- A box of rows of numbers. -/
def PInv (w0 : World) (g : Nat) (L : List (List Int)) (W : World) : Prop :=
  ∃ A c cells, Blk W g 39 #[.slice A L.length c] ∧ W.ownsRow w0.heap.size 48 1 (.slice A L.length c) L.length cells ∧ IRows W cells L ∧ Below w0.heap.size w0 W
theorem PInv.drewN {w0 W : World} {g : Nat} {L : List (List Int)} (h : PInv w0 g L W) (q : Nat) : PInv w0 g L (W.drewN q) := by
  obtain ⟨A, c, cells, h1, h2, h3, h4⟩ := h
  exact ⟨A, c, cells, h1, h2, h3, below_drewN' h4 q⟩
theorem p_end {w0 w w2 w3 : World} {g : Nat} {L : List (List Int)} {l : List Int} {A A2 A3 : Option Addr} {n c c2 c3 : Nat} {cells : List Value} (h1 : Blk w g 39 #[.slice A n c]) (h2 : w.ownsRow w0.heap.size 48 1 (.slice A n c) n cells) (hr : IRows w cells L) (h3 : Below w0.heap.size w0 w) (hn : L.length = n) (hg : w0.heap.size ≤ g)
    (hb : Below w.heap.size w w2) (o2 : w2.ownsRow w.heap.size 3 1 (.slice A2 l.length c2) l.length (l.map iC))
    (app : App (w2.alloc (.cells #[.slice A2 l.length c2] 48)) w0.heap.size 48 1 (.slice A n c) (.slice A3 (n + 1) c3) (n + 1) (cells ++ [.slice A2 l.length c2]) w3) :
    PInv w0 g (L ++ [l]) (w3.setCell ⟨g, 0, none⟩ (.slice A3 (n + 1) c3)) := by
  subst hn
  have k1 : Blk w2 g 39 _ := h1.below hb h1.lt
  have k2 := own_call h2 hb
  have a1 := app.blk (k1.alloc _) (k2.alloc _) (by decide)
  have z2 := hb.size
  have z0 := h3.size
  have b3 : Below w0.heap.size w0 w3 := app.below (k2.alloc _) ((below_in h3 hb (Nat.le_refl _)).alloc (by omega) _) (Nat.le_refl _) (by simp; omega)
  have s1 := a1.set_ 0 (.slice A3 (L.length + 1) c3)
  have keep : ∀ h cs, Blk w2 h 3 cs → Blk (w3.setCell ⟨g, 0, none⟩ (.slice A3 (L.length + 1) c3)) h 3 cs := fun h cs hh =>
    (app.blk (hh.alloc _) (k2.alloc _) (by decide)).far (p := ⟨g, 0, none⟩) (Blk.ne_ (app.blk (hh.alloc _) (k2.alloc _) (by decide)) a1 (by decide)) _
  refine ⟨A3, c3, cells ++ [.slice A2 l.length c2], ?_, ?_, ?_, b3.setCell (p := ⟨g, 0, none⟩) hg _⟩
  · simpa using s1
  · have := own_far (p := ⟨g, 0, none⟩) app.own (own_ne app.own a1 (by decide)) (.slice A3 (L.length + 1) c3)
    simpa using this
  · exact ((hr.keep3 (fun h cs hh => hh.below hb hh.lt)).snoc (ints_own o2)).keep3 keep
set_option maxHeartbeats 1000000 in
theorem f56_any (w0 : World) (g : Nat) (L : List (List Int)) (p : List Int) (w : World) (h : PInv w0 g L w) (hg : w0.heap.size ≤ g) (hL : L.length ≤ 100) (hp : p.length ≤ 100000) (hd : ∀ x ∈ p, 48 ≤ x ∧ x ≤ 58) :
    Calls Try.prog 56 #[.string (strOfNums p), .pointer (some ⟨g, 0, none⟩)] w fun e w' => e = .returned (.tuple #[]) ∧ PInv w0 g (L ++ [groupF p]) w' := by
  obtain ⟨A, c, cells, h1, h2, hr, h3⟩ := h
  have mf := hmf
  have E := peach_any p 58 8 57 #[.pointer (some ⟨w.heap.size, 0, none⟩)] (fun ps W => QInv w w.heap.size (ps.map valueF) W) (w.alloc (.cells #[.slice none 0 0] 48)) (by omega) (fun x hx => by have := hd x hx; omega) (by omega) (by omega) (by omega) (fun _ _ => rfl)
    ⟨none, 0, Blk.new _ _ _, World.ownsRow_nil _ _ _ _, (Below.refl _ _).alloc (Nat.le_refl _) _⟩ (fun ps W q h => h.drewN q)
    (fun ps q W hI hlen hql hqm => by
      have := f57_any w w.heap.size (ps.map valueF) q W hI (Nat.le_refl _) (by simp; omega) (by omega) (fun x hx => by have := hd x (hqm x hx).1; have := (hqm x hx).2; omega)
      rw [List.map_append]
      exact this)
  have HE := hide (show Calls Try.prog 55 #[.string (strOfNums p), .string (strOfNums [58]), .int .i64 8, .func (.func 57) #[] #[.pointer (some ⟨w.heap.size, 0, none⟩)]] (w.alloc (.cells #[.slice none 0 0] 48)) (fun e w' => e = .returned (.tuple #[]) ∧ QInv w w.heap.size (groupF p) w') from E)
  obtain ⟨l, hl⟩ : ∃ l, groupF p = l := ⟨_, rfl⟩
  rw [hl] at HE ⊢
  have gl := h1.lt
  obtain ⟨n, hn⟩ : ∃ n, L.length = n := ⟨_, rfl⟩
  rw [hn] at h1 h2 hL
  have hb := h3.size
  have H1 := hide h1
  have H2 := hide h2
  have H3 := hide h3
  have HR := hide hr
  have HN := hide hn
  have es : (⟨#[58]⟩ : ByteArray) = strOfNums [58] := rfl
  clear E h1 h2 h3 hr hn hl hd
  go_enter Try.func56, Try.ntmps56
  rw [es]
  go_wp2_with (first
    | (go_at_call 55; go_must (refine HE.out.mono ?_; rintro e w2 ⟨rfl, hQ⟩; obtain ⟨A2, c2, q1, q2, q3⟩ := hQ; have d1 := (H1.out.below q3 gl).cell 0; have d2 := q1.cell 0; have hz := q3.size; have O2 := hide (own_call H2.out q3); have Q2 := hide q2; have Q3 := hide q3; have B1 := hide (H1.out.below q3 gl); simp at d1 d2; clear q1 q2 q3))
    | (at_builtin; go_must (refine wpList_append1 Try.sl39 rfl _ _ rfl w0.heap.size (.slice A n c) n cells #[.slice A2 l.length c2] w2 1 rfl rfl rfl O2.out rfl (by intro u hu; simp at hu; subst hu; rfl) (by simp only [maxLen]; omega) (by omega) (by omega) ?_; intro A3 c3 w3 app; have k3 := hide (app.blk (B1.out.alloc _) (O2.out.alloc _) (by decide)); have z0 := k3.out.cell 0; have zf := k3.out.frozen 0; simp at z0)))
  go_end0
  exact ⟨rfl, p_end H1.out H2.out HR.out H3.out HN.out hg Q3.out Q2.out app⟩
/-- A head's groups. -/
def numsF (l : List Int) : List (List Int) := ((splitF 59 l).take 32).map groupF
/-- What Parse hands back. -/
def NumsPost (ll : List (List Int)) (w : World) (e : Ending) (w' : World) : Prop := ∃ v, e = .returned (.tuple #[v, .bool true]) ∧ NumsAt w' v ll ∧ Below w.heap.size w w'
set_option maxHeartbeats 1000000 in
theorem parse_any (l : List Int) (w : World) (hp : l.length ≤ 100000) (hd : ∀ x ∈ l, 48 ≤ x ∧ x ≤ 59) : Calls Try.prog 44 #[.string (strOfNums l)] w (NumsPost (numsF l) w) := by
  have HH := hide (head_any l w hd)
  have mf := hmf
  have E : ∀ w1, Below w.heap.size w w1 → Calls Try.prog 55 #[.string (strOfNums l), .string (strOfNums [59]), .int .i64 32, .func (.func 56) #[] #[.pointer (some ⟨w1.heap.size, 0, none⟩)]] (w1.alloc (.cells #[.slice none 0 0] 39)) (fun e w' => e = .returned (.tuple #[]) ∧ PInv w1 w1.heap.size (numsF l) w') := fun w1 hb =>
    peach_any l 59 32 56 #[.pointer (some ⟨w1.heap.size, 0, none⟩)] (fun ps W => PInv w1 w1.heap.size (ps.map groupF) W) (w1.alloc (.cells #[.slice none 0 0] 39)) (by omega) (fun x hx => by have := hd x hx; omega) (by omega) (by omega) (by omega) (fun _ _ => rfl)
    ⟨none, 0, [], Blk.new _ _ _, World.ownsRow_nil _ _ _ _, IRows.nil _, (Below.refl _ _).alloc (Nat.le_refl _) _⟩ (fun ps W q h => h.drewN q)
    (fun ps q W hI hlen hql hqm => by
      have := f56_any w1 w1.heap.size (ps.map groupF) q W hI (Nat.le_refl _) (by simp; omega) (by omega) (fun x hx => by have := hd x (hqm x hx).1; have := (hqm x hx).2; omega)
      rw [List.map_append]
      exact this)
  have HE := hide E
  obtain ⟨ll, hll⟩ : ∃ ll, numsF l = ll := ⟨_, rfl⟩
  rw [hll] at HE ⊢
  have es : (⟨#[59]⟩ : ByteArray) = strOfNums [59] := rfl
  clear E hd hll
  go_enter Try.func44, Try.ntmps44
  rw [es]
  go_wp2_with (first
    | (go_at_call 54; go_must (refine HH.out.mono ?_; rintro e w1 ⟨rfl, hb⟩; have HB := hide hb; have HE1 := hide (HE.out w1 hb); clear hb))
    | (go_at_call 55; go_must (refine HE1.out.mono ?_; rintro e w2 ⟨rfl, hQ⟩; obtain ⟨A2, c2, cells, q1, q2, q3, q4⟩ := hQ; have d1 := q1.cell 0; have Q2 := hide q2; have Q3 := hide q3; have Q4 := hide q4; simp at d1; clear q1 q2 q3 q4)))
  go_ret2
  exact ⟨_, rfl, nums_own Q2.out Q3.out, below_in HB.out Q4.out (Nat.le_refl _)⟩
end Go.Proofs.Ythbjjhoajecpcaa
