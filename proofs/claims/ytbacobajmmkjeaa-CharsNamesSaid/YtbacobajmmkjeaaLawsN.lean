/-
  The walk of CharsNames as the lifting wants it. No condition but what the arguments' kinds bear.
-/
import Derived.Test.YtbacobajmmkjeaaReads
import Derived.Test.YtbacobajmmkjeaaLawNames
namespace Go.Proofs.Ytbacobajmmkjeaa
open Go.RowKit Go.Proofs
set_option linter.unusedVariables false
theorem charsNames_walk (w : World) (s : St) (hs : True) (t : ByteArray) (ht : t.size ≤ maxLen) (x : Int) (wx : (Lit.int .u8 x).wf = true) :
    Calls Try.prog 6 #[.agg (stc s).toArray, .string t, .int .u8 x] w fun e w' => e = .returned (.bool true) ∧ Below w.heap.size w w' :=
  lawnames_walk w s.a s.b s.c s.d s.u s.o x t (bounds_u8 wx).1 (bounds_u8 wx).2
end Go.Proofs.Ytbacobajmmkjeaa
