/-
  No cell of these rows narrows 'for every input' (looked for: loops, veiled, ifaces, maps, wideKeys, modest, calm, conditions, laid).
  DERIVED. THE GIVEN ROWS OF THIS SEAT. 5 by the template 'for every input the law returns true; each argument reads behind the call as it read before'; 0 by the template 'total and deterministic' (their statements: YtoaeadjihpbhgaaTotals.lean).
  GIVEN WITH THE SEED: the statements are not yours to turn. If you find one false, say at which input.
  Laid BY PROGRAM, IN A SANDBOX (cutbox-rows.mjs): the forced cells as the released guide's own fill.sh prints them over the translation 089bb3cf44368d21… (all of the seat's roots in one cut). By AI agents, Wed Nov 11 2026. No macro, syntax, notation, axiom, sorry.
-/
import Derived.Test.YtoaeadjihpbhgaaChecked
import GoSem.Claim
import GoSem.ClaimJoined
import GoSem.ClaimMapViews
import Derived.JoinedTies
import Derived.KernelRfl
namespace Go.Proofs.Ytoaeadjihpbhgaa
/- THE CELL 'sum', in the pinned program and in every row, IS THE sha256 OF THE DUMP (.gsa) THAT YtoaeadjihpbhgaaProg.lean LOADS. Nothing in Lean hashes anything: it is a label: what it is worth is what the hold of that sum in a sandbox is worth. -/
noncomputable def Try.pinned : Pinned := { name := "ytoaeadjihpbhgaa", sum := "089bb3cf44368d2175a61ab38e9bd3be69f04488fbd8961051e4edd622a33d3c", checked := Try.checked }
namespace Rows
def none {H : Type} : Left H := { results := [], args := [] }

/-- 'marqueelaw07.CellsPlays': WHATEVER THE INPUT: true; the input reads as it did. -/
def cellsPlaysSpec : ChangeSpec := { name := "cellsPlays", fn := fun _ => fun
  | [d1, d2, d3] => { results := [.lit (.bool true)], args := [d1, d2, d3] }
  | _ => none }
def cellsPlaysRow : OpenClaim := { program := "ytoaeadjihpbhgaa", sum := "089bb3cf44368d2175a61ab38e9bd3be69f04488fbd8961051e4edd622a33d3c", func := "marquee/marqueelaw07.CellsPlays", spec := "cellsPlays", inPlace := ["internal/abi.NoEscape"], unfollowed := true, recurses := true, apart := false }
def CellsPlaysSaid : Prop := cellsPlaysRow.holds Try.pinned (OpenSpec.ofChange cellsPlaysSpec)

/-- ITS FALSE NEIGHBOUR: 'it returns false'. Refute it at one input. -/
def cellsPlaysWrong : ChangeSpec := { name := "cellsPlays", fn := fun _ => fun
  | [d1, d2, d3] => { results := [.lit (.bool false)], args := [d1, d2, d3] }
  | _ => none }
def CellsPlaysWrongFalsely : Prop := cellsPlaysRow.holds Try.pinned (OpenSpec.ofChange cellsPlaysWrong)

/-- 'marqueelaw07.CellsOwn': WHATEVER THE INPUT: true; the input reads as it did. -/
def cellsOwnSpec : ChangeSpec := { name := "cellsOwn", fn := fun _ => fun
  | [d1, d2] => { results := [.lit (.bool true)], args := [d1, d2] }
  | _ => none }
def cellsOwnRow : OpenClaim := { program := "ytoaeadjihpbhgaa", sum := "089bb3cf44368d2175a61ab38e9bd3be69f04488fbd8961051e4edd622a33d3c", func := "marquee/marqueelaw07.CellsOwn", spec := "cellsOwn", inPlace := ["internal/abi.NoEscape"], unfollowed := true, recurses := true, apart := false }
def CellsOwnSaid : Prop := cellsOwnRow.holds Try.pinned (OpenSpec.ofChange cellsOwnSpec)

/-- ITS FALSE NEIGHBOUR: 'it returns false'. Refute it at one input. -/
def cellsOwnWrong : ChangeSpec := { name := "cellsOwn", fn := fun _ => fun
  | [d1, d2] => { results := [.lit (.bool false)], args := [d1, d2] }
  | _ => none }
def CellsOwnWrongFalsely : Prop := cellsOwnRow.holds Try.pinned (OpenSpec.ofChange cellsOwnWrong)

/-- 'marqueelaw07.CellsRight': WHATEVER THE INPUT: true; the input reads as it did. -/
def cellsRightSpec : ChangeSpec := { name := "cellsRight", fn := fun _ => fun
  | [d] => { results := [.lit (.bool true)], args := [d] }
  | _ => none }
def cellsRightRow : OpenClaim := { program := "ytoaeadjihpbhgaa", sum := "089bb3cf44368d2175a61ab38e9bd3be69f04488fbd8961051e4edd622a33d3c", func := "marquee/marqueelaw07.CellsRight", spec := "cellsRight", inPlace := ["internal/abi.NoEscape"], unfollowed := true, recurses := true, apart := false }
def CellsRightSaid : Prop := cellsRightRow.holds Try.pinned (OpenSpec.ofChange cellsRightSpec)

/-- ITS FALSE NEIGHBOUR: 'it returns false'. Refute it at one input. -/
def cellsRightWrong : ChangeSpec := { name := "cellsRight", fn := fun _ => fun
  | [d] => { results := [.lit (.bool false)], args := [d] }
  | _ => none }
def CellsRightWrongFalsely : Prop := cellsRightRow.holds Try.pinned (OpenSpec.ofChange cellsRightWrong)

/-- 'marqueelaw07.CellsBlanks': WHATEVER THE INPUT: true; the input reads as it did. -/
def cellsBlanksSpec : ChangeSpec := { name := "cellsBlanks", fn := fun _ => fun
  | [d1, d2] => { results := [.lit (.bool true)], args := [d1, d2] }
  | _ => none }
def cellsBlanksRow : OpenClaim := { program := "ytoaeadjihpbhgaa", sum := "089bb3cf44368d2175a61ab38e9bd3be69f04488fbd8961051e4edd622a33d3c", func := "marquee/marqueelaw07.CellsBlanks", spec := "cellsBlanks", inPlace := ["internal/abi.NoEscape"], unfollowed := true, recurses := true, apart := false }
def CellsBlanksSaid : Prop := cellsBlanksRow.holds Try.pinned (OpenSpec.ofChange cellsBlanksSpec)

/-- ITS FALSE NEIGHBOUR: 'it returns false'. Refute it at one input. -/
def cellsBlanksWrong : ChangeSpec := { name := "cellsBlanks", fn := fun _ => fun
  | [d1, d2] => { results := [.lit (.bool false)], args := [d1, d2] }
  | _ => none }
def CellsBlanksWrongFalsely : Prop := cellsBlanksRow.holds Try.pinned (OpenSpec.ofChange cellsBlanksWrong)

/-- 'marqueelaw07.CellsKeep': WHATEVER THE INPUT: true; the input reads as it did. -/
def cellsKeepSpec : ChangeSpec := { name := "cellsKeep", fn := fun _ => fun
  | [d1, d2] => { results := [.lit (.bool true)], args := [d1, d2] }
  | _ => none }
def cellsKeepRow : OpenClaim := { program := "ytoaeadjihpbhgaa", sum := "089bb3cf44368d2175a61ab38e9bd3be69f04488fbd8961051e4edd622a33d3c", func := "marquee/marqueelaw07.CellsKeep", spec := "cellsKeep", inPlace := ["internal/abi.NoEscape"], unfollowed := true, recurses := true, apart := false }
def CellsKeepSaid : Prop := cellsKeepRow.holds Try.pinned (OpenSpec.ofChange cellsKeepSpec)

/-- ITS FALSE NEIGHBOUR: 'it returns false'. Refute it at one input. -/
def cellsKeepWrong : ChangeSpec := { name := "cellsKeep", fn := fun _ => fun
  | [d1, d2] => { results := [.lit (.bool false)], args := [d1, d2] }
  | _ => none }
def CellsKeepWrongFalsely : Prop := cellsKeepRow.holds Try.pinned (OpenSpec.ofChange cellsKeepWrong)

/- THE SECOND FORM. 'bulk': how many values and letters a reading holds, each counted each time it is reached (what is shared counts as often as it is met; a slice's spare places count too). A statement '..UptoSaid' is the law's where the arguments, and the package variables that the reading takes, are together of bulk at most 1048576: NARROWER than '..Said'. Prove '..Said' where nothing that the law and all that it calls make is longer than what came in: it says more and counts as full. Else prove '..UptoSaid'. A law counts once. -/
mutual
def uptoBulk {H : Type} : DataW H → Nat
  | .lit (.string bytes) => bytes.length + 1
  | .lit _ => 1
  | .nil => 1
  | .ptr d => uptoBulk d + 1
  | .slice elems spare => uptoBulkAll elems + uptoBulkAll spare + 1
  | .agg parts => uptoBulkAll parts + 1
  | .iface _ d => uptoBulk d + 1
  | .map entries => uptoBulkEntries entries + 1
  | .held _ => 1
def uptoBulkAll {H : Type} : List (DataW H) → Nat
  | [] => 0
  | d :: r => uptoBulk d + uptoBulkAll r
def uptoBulkEntries {H : Type} : List (Lit × DataW H) → Nat
  | [] => 0
  | x :: r => uptoBulkEntry x + uptoBulkEntries r
def uptoBulkEntry {H : Type} : Lit × DataW H → Nat
  | (.string bytes, d) => bytes.length + uptoBulk d + 1
  | (_, d) => uptoBulk d + 1
 end
def uptoSmall : (H : Type) → List (DataW H) → Bool := fun _ ds => decide (uptoBulkAll ds ≤ 1048576)
def OpenSpec.upto (s : _root_.Go.ChangeSpec) : _root_.Go.OpenSpec := { _root_.Go.OpenSpec.ofChange s with cond := some uptoSmall }

/-- 'marqueelaw07.CellsPlays', WHERE WHAT IT READS IS OF BULK AT MOST 1048576: true; the input reads as it did. -/
def cellsPlaysUptoRow : OpenClaim := { program := "ytoaeadjihpbhgaa", sum := "089bb3cf44368d2175a61ab38e9bd3be69f04488fbd8961051e4edd622a33d3c", func := "marquee/marqueelaw07.CellsPlays", spec := "cellsPlays", inPlace := ["internal/abi.NoEscape"], unfollowed := true, recurses := true, apart := false, narrowed := true }
def CellsPlaysUptoSaid : Prop := cellsPlaysUptoRow.holds Try.pinned (OpenSpec.upto cellsPlaysSpec)

/-- 'marqueelaw07.CellsOwn', WHERE WHAT IT READS IS OF BULK AT MOST 1048576: true; the input reads as it did. -/
def cellsOwnUptoRow : OpenClaim := { program := "ytoaeadjihpbhgaa", sum := "089bb3cf44368d2175a61ab38e9bd3be69f04488fbd8961051e4edd622a33d3c", func := "marquee/marqueelaw07.CellsOwn", spec := "cellsOwn", inPlace := ["internal/abi.NoEscape"], unfollowed := true, recurses := true, apart := false, narrowed := true }
def CellsOwnUptoSaid : Prop := cellsOwnUptoRow.holds Try.pinned (OpenSpec.upto cellsOwnSpec)

/-- 'marqueelaw07.CellsRight', WHERE WHAT IT READS IS OF BULK AT MOST 1048576: true; the input reads as it did. -/
def cellsRightUptoRow : OpenClaim := { program := "ytoaeadjihpbhgaa", sum := "089bb3cf44368d2175a61ab38e9bd3be69f04488fbd8961051e4edd622a33d3c", func := "marquee/marqueelaw07.CellsRight", spec := "cellsRight", inPlace := ["internal/abi.NoEscape"], unfollowed := true, recurses := true, apart := false, narrowed := true }
def CellsRightUptoSaid : Prop := cellsRightUptoRow.holds Try.pinned (OpenSpec.upto cellsRightSpec)

/-- 'marqueelaw07.CellsBlanks', WHERE WHAT IT READS IS OF BULK AT MOST 1048576: true; the input reads as it did. -/
def cellsBlanksUptoRow : OpenClaim := { program := "ytoaeadjihpbhgaa", sum := "089bb3cf44368d2175a61ab38e9bd3be69f04488fbd8961051e4edd622a33d3c", func := "marquee/marqueelaw07.CellsBlanks", spec := "cellsBlanks", inPlace := ["internal/abi.NoEscape"], unfollowed := true, recurses := true, apart := false, narrowed := true }
def CellsBlanksUptoSaid : Prop := cellsBlanksUptoRow.holds Try.pinned (OpenSpec.upto cellsBlanksSpec)

/-- 'marqueelaw07.CellsKeep', WHERE WHAT IT READS IS OF BULK AT MOST 1048576: true; the input reads as it did. -/
def cellsKeepUptoRow : OpenClaim := { program := "ytoaeadjihpbhgaa", sum := "089bb3cf44368d2175a61ab38e9bd3be69f04488fbd8961051e4edd622a33d3c", func := "marquee/marqueelaw07.CellsKeep", spec := "cellsKeep", inPlace := ["internal/abi.NoEscape"], unfollowed := true, recurses := true, apart := false, narrowed := true }
def CellsKeepUptoSaid : Prop := cellsKeepUptoRow.holds Try.pinned (OpenSpec.upto cellsKeepSpec)

end Rows
end Go.Proofs.Ytoaeadjihpbhgaa
