/-
  No cell of these rows narrows 'for every input' (looked for: loops, veiled, ifaces, maps, wideKeys, modest, calm, conditions, laid).
  DERIVED. THE GIVEN ROWS OF THIS SEAT. 7 by the template 'for every input the law returns true; each argument reads behind the call as it read before'; 0 by the template 'total and deterministic' (their statements: YthbjjhoajecpcaaTotals.lean).
  GIVEN WITH THE SEED: the statements are not yours to turn. If you find one false, say at which input.
  Laid BY PROGRAM, IN A SANDBOX (cutbox-rows.mjs): the forced cells as the released guide's own fill.sh prints them over the translation b112d56d80a9cea3… (all of the seat's roots in one cut). By AI agents, Wed Nov 11 2026. No macro, syntax, notation, axiom, sorry.
-/
import Derived.Test.YthbjjhoajecpcaaChecked
import GoSem.Claim
import GoSem.ClaimJoined
import GoSem.ClaimMapViews
import Derived.JoinedTies
import Derived.KernelRfl
namespace Go.Proofs.Ythbjjhoajecpcaa
/- THE CELL 'sum', in the pinned program and in every row, IS THE sha256 OF THE DUMP (.gsa) THAT YthbjjhoajecpcaaProg.lean LOADS. Nothing in Lean hashes anything: it is a label: what it is worth is what the hold of that sum in a sandbox is worth. -/
noncomputable def Try.pinned : Pinned := { name := "ythbjjhoajecpcaa", sum := "b112d56d80a9cea39468fb3d6557650721a9875ae7ffe2621829d1e3ad9ae87c", checked := Try.checked }
namespace Rows
def none {H : Type} : Left H := { results := [], args := [] }

/-- 'marqueelaw04.ParseHolds': WHATEVER THE INPUT: true; the input reads as it did. -/
def parseHoldsSpec : ChangeSpec := { name := "parseHolds", fn := fun _ => fun
  | [d1, d2, d3] => { results := [.lit (.bool true)], args := [d1, d2, d3] }
  | _ => none }
def parseHoldsRow : OpenClaim := { program := "ythbjjhoajecpcaa", sum := "b112d56d80a9cea39468fb3d6557650721a9875ae7ffe2621829d1e3ad9ae87c", func := "marquee/marqueelaw04.ParseHolds", spec := "parseHolds", inPlace := ["internal/bytealg.IndexByteString", "internal/bytealg.IndexString"], unfollowed := true, recurses := true, named := ["internal/bytealg.MaxLen"], apart := false }
def ParseHoldsSaid : Prop := parseHoldsRow.holds Try.pinned (OpenSpec.ofChange parseHoldsSpec)

/-- ITS FALSE NEIGHBOUR: 'it returns false'. Refute it at one input. -/
def parseHoldsWrong : ChangeSpec := { name := "parseHolds", fn := fun _ => fun
  | [d1, d2, d3] => { results := [.lit (.bool false)], args := [d1, d2, d3] }
  | _ => none }
def ParseHoldsWrongFalsely : Prop := parseHoldsRow.holds Try.pinned (OpenSpec.ofChange parseHoldsWrong)

/-- 'marqueelaw04.ParseAll': WHATEVER THE INPUT: true; the input reads as it did. -/
def parseAllSpec : ChangeSpec := { name := "parseAll", fn := fun _ => fun
  | [d1, d2] => { results := [.lit (.bool true)], args := [d1, d2] }
  | _ => none }
def parseAllRow : OpenClaim := { program := "ythbjjhoajecpcaa", sum := "b112d56d80a9cea39468fb3d6557650721a9875ae7ffe2621829d1e3ad9ae87c", func := "marquee/marqueelaw04.ParseAll", spec := "parseAll", inPlace := ["internal/bytealg.IndexByteString", "internal/bytealg.IndexString"], unfollowed := true, recurses := true, named := ["internal/bytealg.MaxLen"], apart := false }
def ParseAllSaid : Prop := parseAllRow.holds Try.pinned (OpenSpec.ofChange parseAllSpec)

/-- ITS FALSE NEIGHBOUR: 'it returns false'. Refute it at one input. -/
def parseAllWrong : ChangeSpec := { name := "parseAll", fn := fun _ => fun
  | [d1, d2] => { results := [.lit (.bool false)], args := [d1, d2] }
  | _ => none }
def ParseAllWrongFalsely : Prop := parseAllRow.holds Try.pinned (OpenSpec.ofChange parseAllWrong)

/-- 'marqueelaw04.ParseSteps': WHATEVER THE INPUT: true; the input reads as it did. -/
def parseStepsSpec : ChangeSpec := { name := "parseSteps", fn := fun _ => fun
  | [d1, d2] => { results := [.lit (.bool true)], args := [d1, d2] }
  | _ => none }
def parseStepsRow : OpenClaim := { program := "ythbjjhoajecpcaa", sum := "b112d56d80a9cea39468fb3d6557650721a9875ae7ffe2621829d1e3ad9ae87c", func := "marquee/marqueelaw04.ParseSteps", spec := "parseSteps", inPlace := ["internal/bytealg.IndexByteString", "internal/bytealg.IndexString"], unfollowed := true, recurses := true, named := ["internal/bytealg.MaxLen"], apart := false }
def ParseStepsSaid : Prop := parseStepsRow.holds Try.pinned (OpenSpec.ofChange parseStepsSpec)

/-- ITS FALSE NEIGHBOUR: 'it returns false'. Refute it at one input. -/
def parseStepsWrong : ChangeSpec := { name := "parseSteps", fn := fun _ => fun
  | [d1, d2] => { results := [.lit (.bool false)], args := [d1, d2] }
  | _ => none }
def ParseStepsWrongFalsely : Prop := parseStepsRow.holds Try.pinned (OpenSpec.ofChange parseStepsWrong)

/-- 'marqueelaw04.ParseCuts': WHATEVER THE INPUT: true; the input reads as it did. -/
def parseCutsSpec : ChangeSpec := { name := "parseCuts", fn := fun _ => fun
  | [d1, d2, d3] => { results := [.lit (.bool true)], args := [d1, d2, d3] }
  | _ => none }
def parseCutsRow : OpenClaim := { program := "ythbjjhoajecpcaa", sum := "b112d56d80a9cea39468fb3d6557650721a9875ae7ffe2621829d1e3ad9ae87c", func := "marquee/marqueelaw04.ParseCuts", spec := "parseCuts", inPlace := ["internal/bytealg.IndexByteString", "internal/bytealg.IndexString"], unfollowed := true, recurses := true, named := ["internal/bytealg.MaxLen"], apart := false }
def ParseCutsSaid : Prop := parseCutsRow.holds Try.pinned (OpenSpec.ofChange parseCutsSpec)

/-- ITS FALSE NEIGHBOUR: 'it returns false'. Refute it at one input. -/
def parseCutsWrong : ChangeSpec := { name := "parseCuts", fn := fun _ => fun
  | [d1, d2, d3] => { results := [.lit (.bool false)], args := [d1, d2, d3] }
  | _ => none }
def ParseCutsWrongFalsely : Prop := parseCutsRow.holds Try.pinned (OpenSpec.ofChange parseCutsWrong)

/-- 'marqueelaw04.ParseCancels': WHATEVER THE INPUT: true; the input reads as it did. -/
def parseCancelsSpec : ChangeSpec := { name := "parseCancels", fn := fun _ => fun
  | [d1, d2, d3] => { results := [.lit (.bool true)], args := [d1, d2, d3] }
  | _ => none }
def parseCancelsRow : OpenClaim := { program := "ythbjjhoajecpcaa", sum := "b112d56d80a9cea39468fb3d6557650721a9875ae7ffe2621829d1e3ad9ae87c", func := "marquee/marqueelaw04.ParseCancels", spec := "parseCancels", inPlace := ["internal/bytealg.IndexByteString", "internal/bytealg.IndexString"], unfollowed := true, recurses := true, named := ["internal/bytealg.MaxLen"], apart := false }
def ParseCancelsSaid : Prop := parseCancelsRow.holds Try.pinned (OpenSpec.ofChange parseCancelsSpec)

/-- ITS FALSE NEIGHBOUR: 'it returns false'. Refute it at one input. -/
def parseCancelsWrong : ChangeSpec := { name := "parseCancels", fn := fun _ => fun
  | [d1, d2, d3] => { results := [.lit (.bool false)], args := [d1, d2, d3] }
  | _ => none }
def ParseCancelsWrongFalsely : Prop := parseCancelsRow.holds Try.pinned (OpenSpec.ofChange parseCancelsWrong)

/-- 'marqueelaw04.ParseCopies': WHATEVER THE INPUT: true; the input reads as it did. -/
def parseCopiesSpec : ChangeSpec := { name := "parseCopies", fn := fun _ => fun
  | [d1, d2, d3] => { results := [.lit (.bool true)], args := [d1, d2, d3] }
  | _ => none }
def parseCopiesRow : OpenClaim := { program := "ythbjjhoajecpcaa", sum := "b112d56d80a9cea39468fb3d6557650721a9875ae7ffe2621829d1e3ad9ae87c", func := "marquee/marqueelaw04.ParseCopies", spec := "parseCopies", inPlace := ["internal/bytealg.IndexByteString", "internal/bytealg.IndexString"], unfollowed := true, recurses := true, named := ["internal/bytealg.MaxLen"], apart := false }
def ParseCopiesSaid : Prop := parseCopiesRow.holds Try.pinned (OpenSpec.ofChange parseCopiesSpec)

/-- ITS FALSE NEIGHBOUR: 'it returns false'. Refute it at one input. -/
def parseCopiesWrong : ChangeSpec := { name := "parseCopies", fn := fun _ => fun
  | [d1, d2, d3] => { results := [.lit (.bool false)], args := [d1, d2, d3] }
  | _ => none }
def ParseCopiesWrongFalsely : Prop := parseCopiesRow.holds Try.pinned (OpenSpec.ofChange parseCopiesWrong)

/-- 'marqueelaw04.ParseNone': WHATEVER THE INPUT: true; the input reads as it did. -/
def parseNoneSpec : ChangeSpec := { name := "parseNone", fn := fun _ => fun
  | [d1, d2] => { results := [.lit (.bool true)], args := [d1, d2] }
  | _ => none }
def parseNoneRow : OpenClaim := { program := "ythbjjhoajecpcaa", sum := "b112d56d80a9cea39468fb3d6557650721a9875ae7ffe2621829d1e3ad9ae87c", func := "marquee/marqueelaw04.ParseNone", spec := "parseNone", inPlace := ["internal/bytealg.IndexByteString", "internal/bytealg.IndexString"], unfollowed := true, recurses := true, named := ["internal/bytealg.MaxLen"], apart := false }
def ParseNoneSaid : Prop := parseNoneRow.holds Try.pinned (OpenSpec.ofChange parseNoneSpec)

/-- ITS FALSE NEIGHBOUR: 'it returns false'. Refute it at one input. -/
def parseNoneWrong : ChangeSpec := { name := "parseNone", fn := fun _ => fun
  | [d1, d2] => { results := [.lit (.bool false)], args := [d1, d2] }
  | _ => none }
def ParseNoneWrongFalsely : Prop := parseNoneRow.holds Try.pinned (OpenSpec.ofChange parseNoneWrong)

/- THE SECOND FORM. 'bulk': how many values and letters a reading holds, each counted each time it is reached (what is shared counts as often as it is met; a slice's spare places count too). A statement '..UptoSaid' is the law's where the arguments, and the package variables that the reading takes, are together of bulk at most 1048576: NARROWER than '..Said'. Prove '..Said' where nothing that the law and all that it calls make is longer than what came in: it says more and counts as full. Else prove '..UptoSaid'. A law counts once. -/
mutual
def uptoBulk {H : Type} : DataW H → Nat
  | .lit (.string bytes) => bytes.length + 1
  | .lit _ => 1
  | .nil => 1
  | .ptr d => uptoBulk d + 1
  | .slice elems spare => uptoBulkAll elems + uptoBulkAll spare + 1
  | .agg parts => uptoBulkAll parts + 1
  | .iface _ d => uptoBulk d + 1
  | .map entries => uptoBulkEntries entries + 1
  | .held _ => 1
def uptoBulkAll {H : Type} : List (DataW H) → Nat
  | [] => 0
  | d :: r => uptoBulk d + uptoBulkAll r
def uptoBulkEntries {H : Type} : List (Lit × DataW H) → Nat
  | [] => 0
  | x :: r => uptoBulkEntry x + uptoBulkEntries r
def uptoBulkEntry {H : Type} : Lit × DataW H → Nat
  | (.string bytes, d) => bytes.length + uptoBulk d + 1
  | (_, d) => uptoBulk d + 1
 end
def uptoSmall : (H : Type) → List (DataW H) → Bool := fun _ ds => decide (uptoBulkAll ds ≤ 1048576)
def OpenSpec.upto (s : _root_.Go.ChangeSpec) : _root_.Go.OpenSpec := { _root_.Go.OpenSpec.ofChange s with cond := some uptoSmall }

/-- 'marqueelaw04.ParseHolds', WHERE WHAT IT READS IS OF BULK AT MOST 1048576: true; the input reads as it did. -/
def parseHoldsUptoRow : OpenClaim := { program := "ythbjjhoajecpcaa", sum := "b112d56d80a9cea39468fb3d6557650721a9875ae7ffe2621829d1e3ad9ae87c", func := "marquee/marqueelaw04.ParseHolds", spec := "parseHolds", inPlace := ["internal/bytealg.IndexByteString", "internal/bytealg.IndexString"], unfollowed := true, recurses := true, named := ["internal/bytealg.MaxLen"], apart := false, narrowed := true }
def ParseHoldsUptoSaid : Prop := parseHoldsUptoRow.holds Try.pinned (OpenSpec.upto parseHoldsSpec)

/-- 'marqueelaw04.ParseAll', WHERE WHAT IT READS IS OF BULK AT MOST 1048576: true; the input reads as it did. -/
def parseAllUptoRow : OpenClaim := { program := "ythbjjhoajecpcaa", sum := "b112d56d80a9cea39468fb3d6557650721a9875ae7ffe2621829d1e3ad9ae87c", func := "marquee/marqueelaw04.ParseAll", spec := "parseAll", inPlace := ["internal/bytealg.IndexByteString", "internal/bytealg.IndexString"], unfollowed := true, recurses := true, named := ["internal/bytealg.MaxLen"], apart := false, narrowed := true }
def ParseAllUptoSaid : Prop := parseAllUptoRow.holds Try.pinned (OpenSpec.upto parseAllSpec)

/-- 'marqueelaw04.ParseSteps', WHERE WHAT IT READS IS OF BULK AT MOST 1048576: true; the input reads as it did. -/
def parseStepsUptoRow : OpenClaim := { program := "ythbjjhoajecpcaa", sum := "b112d56d80a9cea39468fb3d6557650721a9875ae7ffe2621829d1e3ad9ae87c", func := "marquee/marqueelaw04.ParseSteps", spec := "parseSteps", inPlace := ["internal/bytealg.IndexByteString", "internal/bytealg.IndexString"], unfollowed := true, recurses := true, named := ["internal/bytealg.MaxLen"], apart := false, narrowed := true }
def ParseStepsUptoSaid : Prop := parseStepsUptoRow.holds Try.pinned (OpenSpec.upto parseStepsSpec)

/-- 'marqueelaw04.ParseCuts', WHERE WHAT IT READS IS OF BULK AT MOST 1048576: true; the input reads as it did. -/
def parseCutsUptoRow : OpenClaim := { program := "ythbjjhoajecpcaa", sum := "b112d56d80a9cea39468fb3d6557650721a9875ae7ffe2621829d1e3ad9ae87c", func := "marquee/marqueelaw04.ParseCuts", spec := "parseCuts", inPlace := ["internal/bytealg.IndexByteString", "internal/bytealg.IndexString"], unfollowed := true, recurses := true, named := ["internal/bytealg.MaxLen"], apart := false, narrowed := true }
def ParseCutsUptoSaid : Prop := parseCutsUptoRow.holds Try.pinned (OpenSpec.upto parseCutsSpec)

/-- 'marqueelaw04.ParseCancels', WHERE WHAT IT READS IS OF BULK AT MOST 1048576: true; the input reads as it did. -/
def parseCancelsUptoRow : OpenClaim := { program := "ythbjjhoajecpcaa", sum := "b112d56d80a9cea39468fb3d6557650721a9875ae7ffe2621829d1e3ad9ae87c", func := "marquee/marqueelaw04.ParseCancels", spec := "parseCancels", inPlace := ["internal/bytealg.IndexByteString", "internal/bytealg.IndexString"], unfollowed := true, recurses := true, named := ["internal/bytealg.MaxLen"], apart := false, narrowed := true }
def ParseCancelsUptoSaid : Prop := parseCancelsUptoRow.holds Try.pinned (OpenSpec.upto parseCancelsSpec)

/-- 'marqueelaw04.ParseCopies', WHERE WHAT IT READS IS OF BULK AT MOST 1048576: true; the input reads as it did. -/
def parseCopiesUptoRow : OpenClaim := { program := "ythbjjhoajecpcaa", sum := "b112d56d80a9cea39468fb3d6557650721a9875ae7ffe2621829d1e3ad9ae87c", func := "marquee/marqueelaw04.ParseCopies", spec := "parseCopies", inPlace := ["internal/bytealg.IndexByteString", "internal/bytealg.IndexString"], unfollowed := true, recurses := true, named := ["internal/bytealg.MaxLen"], apart := false, narrowed := true }
def ParseCopiesUptoSaid : Prop := parseCopiesUptoRow.holds Try.pinned (OpenSpec.upto parseCopiesSpec)

/-- 'marqueelaw04.ParseNone', WHERE WHAT IT READS IS OF BULK AT MOST 1048576: true; the input reads as it did. -/
def parseNoneUptoRow : OpenClaim := { program := "ythbjjhoajecpcaa", sum := "b112d56d80a9cea39468fb3d6557650721a9875ae7ffe2621829d1e3ad9ae87c", func := "marquee/marqueelaw04.ParseNone", spec := "parseNone", inPlace := ["internal/bytealg.IndexByteString", "internal/bytealg.IndexString"], unfollowed := true, recurses := true, named := ["internal/bytealg.MaxLen"], apart := false, narrowed := true }
def ParseNoneUptoSaid : Prop := parseNoneUptoRow.holds Try.pinned (OpenSpec.upto parseNoneSpec)

end Rows
end Go.Proofs.Ythbjjhoajecpcaa
