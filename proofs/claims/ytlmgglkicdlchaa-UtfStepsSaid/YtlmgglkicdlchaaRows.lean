/-
  No cell of these rows narrows 'for every input' (looked for: loops, veiled, ifaces, maps, wideKeys, modest, calm, conditions, laid).
  DERIVED. THE GIVEN ROWS OF THIS SEAT. 7 by the template 'for every input the law returns true; each argument reads behind the call as it read before'; 0 by the template 'total and deterministic' (their statements: YtlmgglkicdlchaaTotals.lean).
  GIVEN WITH THE SEED: the statements are not yours to turn. If you find one false, say at which input.
  Laid BY PROGRAM, IN A SANDBOX (cutbox-rows.mjs): the forced cells as the released guide's own fill.sh prints them over the translation 9af2ba783117ea4a… (all of the seat's roots in one cut). By AI agents, Wed Nov 11 2026. No macro, syntax, notation, axiom, sorry.
-/
import Derived.Test.YtlmgglkicdlchaaChecked
import GoSem.Claim
import GoSem.ClaimJoined
import GoSem.ClaimMapViews
import Derived.JoinedTies
import Derived.KernelRfl
namespace Go.Proofs.Ytlmgglkicdlchaa
/- THE CELL 'sum', in the pinned program and in every row, IS THE sha256 OF THE DUMP (.gsa) THAT YtlmgglkicdlchaaProg.lean LOADS. Nothing in Lean hashes anything: it is a label: what it is worth is what the hold of that sum in a sandbox is worth. -/
noncomputable def Try.pinned : Pinned := { name := "ytlmgglkicdlchaa", sum := "9af2ba783117ea4a962e5a93642f8110ebf5fa2323a2fd8597751933601eb680", checked := Try.checked }
namespace Rows
def none {H : Type} : Left H := { results := [], args := [] }

/-- 'marqueelaw01.UtfAll': WHATEVER THE INPUT: true; the input reads as it did. -/
def utfAllSpec : ChangeSpec := { name := "utfAll", fn := fun _ => fun
  | [d] => { results := [.lit (.bool true)], args := [d] }
  | _ => none }
def utfAllRow : OpenClaim := { program := "ytlmgglkicdlchaa", sum := "9af2ba783117ea4a962e5a93642f8110ebf5fa2323a2fd8597751933601eb680", func := "marquee/marqueelaw01.UtfAll", spec := "utfAll", unfollowed := true, recurses := true, apart := false }
def UtfAllSaid : Prop := utfAllRow.holds Try.pinned (OpenSpec.ofChange utfAllSpec)

/-- ITS FALSE NEIGHBOUR: 'it returns false'. Refute it at one input. -/
def utfAllWrong : ChangeSpec := { name := "utfAll", fn := fun _ => fun
  | [d] => { results := [.lit (.bool false)], args := [d] }
  | _ => none }
def UtfAllWrongFalsely : Prop := utfAllRow.holds Try.pinned (OpenSpec.ofChange utfAllWrong)

/-- 'marqueelaw01.UtfSizes': WHATEVER THE INPUT: true; the input reads as it did. -/
def utfSizesSpec : ChangeSpec := { name := "utfSizes", fn := fun _ => fun
  | [d] => { results := [.lit (.bool true)], args := [d] }
  | _ => none }
def utfSizesRow : OpenClaim := { program := "ytlmgglkicdlchaa", sum := "9af2ba783117ea4a962e5a93642f8110ebf5fa2323a2fd8597751933601eb680", func := "marquee/marqueelaw01.UtfSizes", spec := "utfSizes", unfollowed := true, recurses := true, apart := false }
def UtfSizesSaid : Prop := utfSizesRow.holds Try.pinned (OpenSpec.ofChange utfSizesSpec)

/-- ITS FALSE NEIGHBOUR: 'it returns false'. Refute it at one input. -/
def utfSizesWrong : ChangeSpec := { name := "utfSizes", fn := fun _ => fun
  | [d] => { results := [.lit (.bool false)], args := [d] }
  | _ => none }
def UtfSizesWrongFalsely : Prop := utfSizesRow.holds Try.pinned (OpenSpec.ofChange utfSizesWrong)

/-- 'marqueelaw01.UtfSteps': WHATEVER THE INPUT: true; the input reads as it did. -/
def utfStepsSpec : ChangeSpec := { name := "utfSteps", fn := fun _ => fun
  | [d] => { results := [.lit (.bool true)], args := [d] }
  | _ => none }
def utfStepsRow : OpenClaim := { program := "ytlmgglkicdlchaa", sum := "9af2ba783117ea4a962e5a93642f8110ebf5fa2323a2fd8597751933601eb680", func := "marquee/marqueelaw01.UtfSteps", spec := "utfSteps", unfollowed := true, recurses := true, apart := false }
def UtfStepsSaid : Prop := utfStepsRow.holds Try.pinned (OpenSpec.ofChange utfStepsSpec)

/-- ITS FALSE NEIGHBOUR: 'it returns false'. Refute it at one input. -/
def utfStepsWrong : ChangeSpec := { name := "utfSteps", fn := fun _ => fun
  | [d] => { results := [.lit (.bool false)], args := [d] }
  | _ => none }
def UtfStepsWrongFalsely : Prop := utfStepsRow.holds Try.pinned (OpenSpec.ofChange utfStepsWrong)

/-- 'marqueelaw01.UtfEnds': WHATEVER THE INPUT: true; the input reads as it did. -/
def utfEndsSpec : ChangeSpec := { name := "utfEnds", fn := fun _ => fun
  | [d1, d2] => { results := [.lit (.bool true)], args := [d1, d2] }
  | _ => none }
def utfEndsRow : OpenClaim := { program := "ytlmgglkicdlchaa", sum := "9af2ba783117ea4a962e5a93642f8110ebf5fa2323a2fd8597751933601eb680", func := "marquee/marqueelaw01.UtfEnds", spec := "utfEnds", unfollowed := true, recurses := true, apart := false }
def UtfEndsSaid : Prop := utfEndsRow.holds Try.pinned (OpenSpec.ofChange utfEndsSpec)

/-- ITS FALSE NEIGHBOUR: 'it returns false'. Refute it at one input. -/
def utfEndsWrong : ChangeSpec := { name := "utfEnds", fn := fun _ => fun
  | [d1, d2] => { results := [.lit (.bool false)], args := [d1, d2] }
  | _ => none }
def UtfEndsWrongFalsely : Prop := utfEndsRow.holds Try.pinned (OpenSpec.ofChange utfEndsWrong)

/-- 'marqueelaw01.UtfNone': WHATEVER THE INPUT: true; the input reads as it did. -/
def utfNoneSpec : ChangeSpec := { name := "utfNone", fn := fun _ => fun
  | [d] => { results := [.lit (.bool true)], args := [d] }
  | _ => none }
def utfNoneRow : OpenClaim := { program := "ytlmgglkicdlchaa", sum := "9af2ba783117ea4a962e5a93642f8110ebf5fa2323a2fd8597751933601eb680", func := "marquee/marqueelaw01.UtfNone", spec := "utfNone", unfollowed := true, recurses := true, apart := false }
def UtfNoneSaid : Prop := utfNoneRow.holds Try.pinned (OpenSpec.ofChange utfNoneSpec)

/-- ITS FALSE NEIGHBOUR: 'it returns false'. Refute it at one input. -/
def utfNoneWrong : ChangeSpec := { name := "utfNone", fn := fun _ => fun
  | [d] => { results := [.lit (.bool false)], args := [d] }
  | _ => none }
def UtfNoneWrongFalsely : Prop := utfNoneRow.holds Try.pinned (OpenSpec.ofChange utfNoneWrong)

/-- 'marqueelaw01.UtfPuts': WHATEVER THE INPUT: true; the input reads as it did. -/
def utfPutsSpec : ChangeSpec := { name := "utfPuts", fn := fun _ => fun
  | [d] => { results := [.lit (.bool true)], args := [d] }
  | _ => none }
def utfPutsRow : OpenClaim := { program := "ytlmgglkicdlchaa", sum := "9af2ba783117ea4a962e5a93642f8110ebf5fa2323a2fd8597751933601eb680", func := "marquee/marqueelaw01.UtfPuts", spec := "utfPuts", unfollowed := true, recurses := true, apart := false }
def UtfPutsSaid : Prop := utfPutsRow.holds Try.pinned (OpenSpec.ofChange utfPutsSpec)

/-- ITS FALSE NEIGHBOUR: 'it returns false'. Refute it at one input. -/
def utfPutsWrong : ChangeSpec := { name := "utfPuts", fn := fun _ => fun
  | [d] => { results := [.lit (.bool false)], args := [d] }
  | _ => none }
def UtfPutsWrongFalsely : Prop := utfPutsRow.holds Try.pinned (OpenSpec.ofChange utfPutsWrong)

/-- 'marqueelaw01.UtfJoins': WHATEVER THE INPUT: true; the input reads as it did. -/
def utfJoinsSpec : ChangeSpec := { name := "utfJoins", fn := fun _ => fun
  | [d1, d2] => { results := [.lit (.bool true)], args := [d1, d2] }
  | _ => none }
def utfJoinsRow : OpenClaim := { program := "ytlmgglkicdlchaa", sum := "9af2ba783117ea4a962e5a93642f8110ebf5fa2323a2fd8597751933601eb680", func := "marquee/marqueelaw01.UtfJoins", spec := "utfJoins", unfollowed := true, recurses := true, apart := false }
def UtfJoinsSaid : Prop := utfJoinsRow.holds Try.pinned (OpenSpec.ofChange utfJoinsSpec)

/-- ITS FALSE NEIGHBOUR: 'it returns false'. Refute it at one input. -/
def utfJoinsWrong : ChangeSpec := { name := "utfJoins", fn := fun _ => fun
  | [d1, d2] => { results := [.lit (.bool false)], args := [d1, d2] }
  | _ => none }
def UtfJoinsWrongFalsely : Prop := utfJoinsRow.holds Try.pinned (OpenSpec.ofChange utfJoinsWrong)

/- THE SECOND FORM. 'bulk': how many values and letters a reading holds, each counted each time it is reached (what is shared counts as often as it is met; a slice's spare places count too). A statement '..UptoSaid' is the law's where the arguments, and the package variables that the reading takes, are together of bulk at most 1048576: NARROWER than '..Said'. Prove '..Said' where nothing that the law and all that it calls make is longer than what came in: it says more and counts as full. Else prove '..UptoSaid'. A law counts once. -/
mutual
def uptoBulk {H : Type} : DataW H → Nat
  | .lit (.string bytes) => bytes.length + 1
  | .lit _ => 1
  | .nil => 1
  | .ptr d => uptoBulk d + 1
  | .slice elems spare => uptoBulkAll elems + uptoBulkAll spare + 1
  | .agg parts => uptoBulkAll parts + 1
  | .iface _ d => uptoBulk d + 1
  | .map entries => uptoBulkEntries entries + 1
  | .held _ => 1
def uptoBulkAll {H : Type} : List (DataW H) → Nat
  | [] => 0
  | d :: r => uptoBulk d + uptoBulkAll r
def uptoBulkEntries {H : Type} : List (Lit × DataW H) → Nat
  | [] => 0
  | x :: r => uptoBulkEntry x + uptoBulkEntries r
def uptoBulkEntry {H : Type} : Lit × DataW H → Nat
  | (.string bytes, d) => bytes.length + uptoBulk d + 1
  | (_, d) => uptoBulk d + 1
 end
def uptoSmall : (H : Type) → List (DataW H) → Bool := fun _ ds => decide (uptoBulkAll ds ≤ 1048576)
def OpenSpec.upto (s : _root_.Go.ChangeSpec) : _root_.Go.OpenSpec := { _root_.Go.OpenSpec.ofChange s with cond := some uptoSmall }

/-- 'marqueelaw01.UtfAll', WHERE WHAT IT READS IS OF BULK AT MOST 1048576: true; the input reads as it did. -/
def utfAllUptoRow : OpenClaim := { program := "ytlmgglkicdlchaa", sum := "9af2ba783117ea4a962e5a93642f8110ebf5fa2323a2fd8597751933601eb680", func := "marquee/marqueelaw01.UtfAll", spec := "utfAll", unfollowed := true, recurses := true, apart := false, narrowed := true }
def UtfAllUptoSaid : Prop := utfAllUptoRow.holds Try.pinned (OpenSpec.upto utfAllSpec)

/-- 'marqueelaw01.UtfSizes', WHERE WHAT IT READS IS OF BULK AT MOST 1048576: true; the input reads as it did. -/
def utfSizesUptoRow : OpenClaim := { program := "ytlmgglkicdlchaa", sum := "9af2ba783117ea4a962e5a93642f8110ebf5fa2323a2fd8597751933601eb680", func := "marquee/marqueelaw01.UtfSizes", spec := "utfSizes", unfollowed := true, recurses := true, apart := false, narrowed := true }
def UtfSizesUptoSaid : Prop := utfSizesUptoRow.holds Try.pinned (OpenSpec.upto utfSizesSpec)

/-- 'marqueelaw01.UtfSteps', WHERE WHAT IT READS IS OF BULK AT MOST 1048576: true; the input reads as it did. -/
def utfStepsUptoRow : OpenClaim := { program := "ytlmgglkicdlchaa", sum := "9af2ba783117ea4a962e5a93642f8110ebf5fa2323a2fd8597751933601eb680", func := "marquee/marqueelaw01.UtfSteps", spec := "utfSteps", unfollowed := true, recurses := true, apart := false, narrowed := true }
def UtfStepsUptoSaid : Prop := utfStepsUptoRow.holds Try.pinned (OpenSpec.upto utfStepsSpec)

/-- 'marqueelaw01.UtfEnds', WHERE WHAT IT READS IS OF BULK AT MOST 1048576: true; the input reads as it did. -/
def utfEndsUptoRow : OpenClaim := { program := "ytlmgglkicdlchaa", sum := "9af2ba783117ea4a962e5a93642f8110ebf5fa2323a2fd8597751933601eb680", func := "marquee/marqueelaw01.UtfEnds", spec := "utfEnds", unfollowed := true, recurses := true, apart := false, narrowed := true }
def UtfEndsUptoSaid : Prop := utfEndsUptoRow.holds Try.pinned (OpenSpec.upto utfEndsSpec)

/-- 'marqueelaw01.UtfNone', WHERE WHAT IT READS IS OF BULK AT MOST 1048576: true; the input reads as it did. -/
def utfNoneUptoRow : OpenClaim := { program := "ytlmgglkicdlchaa", sum := "9af2ba783117ea4a962e5a93642f8110ebf5fa2323a2fd8597751933601eb680", func := "marquee/marqueelaw01.UtfNone", spec := "utfNone", unfollowed := true, recurses := true, apart := false, narrowed := true }
def UtfNoneUptoSaid : Prop := utfNoneUptoRow.holds Try.pinned (OpenSpec.upto utfNoneSpec)

/-- 'marqueelaw01.UtfPuts', WHERE WHAT IT READS IS OF BULK AT MOST 1048576: true; the input reads as it did. -/
def utfPutsUptoRow : OpenClaim := { program := "ytlmgglkicdlchaa", sum := "9af2ba783117ea4a962e5a93642f8110ebf5fa2323a2fd8597751933601eb680", func := "marquee/marqueelaw01.UtfPuts", spec := "utfPuts", unfollowed := true, recurses := true, apart := false, narrowed := true }
def UtfPutsUptoSaid : Prop := utfPutsUptoRow.holds Try.pinned (OpenSpec.upto utfPutsSpec)

/-- 'marqueelaw01.UtfJoins', WHERE WHAT IT READS IS OF BULK AT MOST 1048576: true; the input reads as it did. -/
def utfJoinsUptoRow : OpenClaim := { program := "ytlmgglkicdlchaa", sum := "9af2ba783117ea4a962e5a93642f8110ebf5fa2323a2fd8597751933601eb680", func := "marquee/marqueelaw01.UtfJoins", spec := "utfJoins", unfollowed := true, recurses := true, apart := false, narrowed := true }
def UtfJoinsUptoSaid : Prop := utfJoinsUptoRow.holds Try.pinned (OpenSpec.upto utfJoinsSpec)

end Rows
end Go.Proofs.Ytlmgglkicdlchaa
