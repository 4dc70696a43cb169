/-
  FindNext's walk as the lifting wants it. No condition but what the arguments' kinds bear.
-/
import Derived.Test.YtglonmjacacjaaaLawNext
namespace Go.Proofs.Ytglonmjacacjaaa
open Go.RowKit Go.Proofs
set_option linter.unusedVariables false
theorem findNext_walk (w : World) (t : ByteArray) (ht : t.size ≤ maxLen) (s : ByteArray) (hs : s.size ≤ maxLen) (f : Int) (wf : (Lit.int .i64 f).wf = true) :
    Calls Try.prog 7 #[.string t, .string s, .int .i64 f] w fun e w' => e = .returned (.bool true) ∧ Below w.heap.size w w' := lawnext_walk w t ht s hs f
end Go.Proofs.Ytglonmjacacjaaa
