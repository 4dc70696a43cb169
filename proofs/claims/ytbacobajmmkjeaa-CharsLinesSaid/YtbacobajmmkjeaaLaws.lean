/-
  The laws' walks as the lifting wants them. No condition but what the arguments' kinds bear.
-/
import Derived.Test.YtbacobajmmkjeaaReads
import Derived.Test.YtbacobajmmkjeaaLawMaps
import Derived.Test.YtbacobajmmkjeaaLawOnce
import Derived.Test.YtbacobajmmkjeaaLawLines
import Derived.Test.YtbacobajmmkjeaaLawAll
namespace Go.Proofs.Ytbacobajmmkjeaa
open Go.RowKit Go.Proofs
set_option linter.unusedVariables false
theorem charsMaps_walk (w : World) (s : St) (hs : True) (r : Int) (wr : (Lit.int .i32 r).wf = true) :
    Calls Try.prog 3 #[.agg (stc s).toArray, .int .i32 r] w fun e w' => e = .returned (.bool true) ∧ Below w.heap.size w w' :=
  lawmaps_walk w s.a s.b s.c s.d s.u s.o r (bounds_i32 wr).1 (bounds_i32 wr).2
theorem charsOnce_walk (w : World) (s : St) (hs : True) (r : Int) (wr : (Lit.int .i32 r).wf = true) (q : Int) (wq : (Lit.int .i32 q).wf = true) :
    Calls Try.prog 5 #[.agg (stc s).toArray, .int .i32 r, .int .i32 q] w fun e w' => e = .returned (.bool true) ∧ Below w.heap.size w w' :=
  lawonce_walk w s.a s.b s.c s.d s.u s.o r q (bounds_i32 wr).1 (bounds_i32 wr).2 (bounds_i32 wq).1 (bounds_i32 wq).2
theorem charsLines_walk (w : World) (k : Int) (wk : (Lit.int .u8 k).wf = true) (x : Int) (wx : (Lit.int .u8 x).wf = true) (r : Int) (wr : (Lit.int .i32 r).wf = true) :
    Calls Try.prog 7 #[.int .u8 k, .int .u8 x, .int .i32 r] w fun e w' => e = .returned (.bool true) ∧ Below w.heap.size w w' :=
  lawlines_walk w k x r (bounds_u8 wk).1 (bounds_u8 wk).2 (bounds_u8 wx).1 (bounds_u8 wx).2 (bounds_i32 wr).1 (bounds_i32 wr).2
theorem charsAll_walk (w : World) (s : St) (hs : True) (A : Option Addr) (n c : Nat) (l : List Int) (hl : l.length = n) (h1 : n ≤ c) (h2 : c ≤ maxLen) (ha : Rd w w.heap.size 1 A n (l.map rn)) (hq : ∀ x ∈ l, -2147483648 ≤ x ∧ x ≤ 2147483647) :
    Calls Try.prog 4 #[.agg (stc s).toArray, .slice A n c] w fun e w' => e = .returned (.bool true) ∧ Below w.heap.size w w' :=
  lawall_walk w s.a s.b s.c s.d s.u s.o A n c l ha hq
end Go.Proofs.Ytbacobajmmkjeaa
