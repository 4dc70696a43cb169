/-
  No cell of these rows narrows 'for every input' (looked for: loops, veiled, ifaces, maps, wideKeys, modest, calm, conditions, laid).
  DERIVED. THE GIVEN ROWS OF THIS SEAT. 6 by the template 'for every input the law returns true; each argument reads behind the call as it read before'; 0 by the template 'total and deterministic' (their statements: YtbaapdhfbhnlcaaTotals.lean).
  GIVEN WITH THE SEED: the statements are not yours to turn. If you find one false, say at which input.
  Laid BY PROGRAM, IN A SANDBOX (cutbox-rows.mjs): the forced cells as the released guide's own fill.sh prints them over the translation 4fcf219730d1b825… (all of the seat's roots in one cut). By AI agents, Wed Nov 11 2026. No macro, syntax, notation, axiom, sorry.
-/
import Derived.Test.YtbaapdhfbhnlcaaChecked
import GoSem.Claim
import GoSem.ClaimJoined
import GoSem.ClaimMapViews
import Derived.JoinedTies
import Derived.KernelRfl
namespace Go.Proofs.Ytbaapdhfbhnlcaa
/- THE CELL 'sum', in the pinned program and in every row, IS THE sha256 OF THE DUMP (.gsa) THAT YtbaapdhfbhnlcaaProg.lean LOADS. Nothing in Lean hashes anything: it is a label: what it is worth is what the hold of that sum in a sandbox is worth. -/
noncomputable def Try.pinned : Pinned := { name := "ytbaapdhfbhnlcaa", sum := "4fcf219730d1b8253dbadda716c0040f634d10ca033c08182c15ceaf94d3ad9d", checked := Try.checked }
namespace Rows
def none {H : Type} : Left H := { results := [], args := [] }

/-- 'marqueelaw02.WidthOf': WHATEVER THE INPUT: true; the input reads as it did. -/
def widthOfSpec : ChangeSpec := { name := "widthOf", fn := fun _ => fun
  | [d] => { results := [.lit (.bool true)], args := [d] }
  | _ => none }
def widthOfRow : OpenClaim := { program := "ytbaapdhfbhnlcaa", sum := "4fcf219730d1b8253dbadda716c0040f634d10ca033c08182c15ceaf94d3ad9d", func := "marquee/marqueelaw02.WidthOf", spec := "widthOf", unfollowed := true, recurses := true, apart := false }
def WidthOfSaid : Prop := widthOfRow.holds Try.pinned (OpenSpec.ofChange widthOfSpec)

/-- ITS FALSE NEIGHBOUR: 'it returns false'. Refute it at one input. -/
def widthOfWrong : ChangeSpec := { name := "widthOf", fn := fun _ => fun
  | [d] => { results := [.lit (.bool false)], args := [d] }
  | _ => none }
def WidthOfWrongFalsely : Prop := widthOfRow.holds Try.pinned (OpenSpec.ofChange widthOfWrong)

/-- 'marqueelaw02.WidthText': WHATEVER THE INPUT: true; the input reads as it did. -/
def widthTextSpec : ChangeSpec := { name := "widthText", fn := fun _ => fun
  | [d] => { results := [.lit (.bool true)], args := [d] }
  | _ => none }
def widthTextRow : OpenClaim := { program := "ytbaapdhfbhnlcaa", sum := "4fcf219730d1b8253dbadda716c0040f634d10ca033c08182c15ceaf94d3ad9d", func := "marquee/marqueelaw02.WidthText", spec := "widthText", unfollowed := true, recurses := true, apart := false }
def WidthTextSaid : Prop := widthTextRow.holds Try.pinned (OpenSpec.ofChange widthTextSpec)

/-- ITS FALSE NEIGHBOUR: 'it returns false'. Refute it at one input. -/
def widthTextWrong : ChangeSpec := { name := "widthText", fn := fun _ => fun
  | [d] => { results := [.lit (.bool false)], args := [d] }
  | _ => none }
def WidthTextWrongFalsely : Prop := widthTextRow.holds Try.pinned (OpenSpec.ofChange widthTextWrong)

/-- 'marqueelaw02.WidthClusters': WHATEVER THE INPUT: true; the input reads as it did. -/
def widthClustersSpec : ChangeSpec := { name := "widthClusters", fn := fun _ => fun
  | [d] => { results := [.lit (.bool true)], args := [d] }
  | _ => none }
def widthClustersRow : OpenClaim := { program := "ytbaapdhfbhnlcaa", sum := "4fcf219730d1b8253dbadda716c0040f634d10ca033c08182c15ceaf94d3ad9d", func := "marquee/marqueelaw02.WidthClusters", spec := "widthClusters", unfollowed := true, recurses := true, apart := false }
def WidthClustersSaid : Prop := widthClustersRow.holds Try.pinned (OpenSpec.ofChange widthClustersSpec)

/-- ITS FALSE NEIGHBOUR: 'it returns false'. Refute it at one input. -/
def widthClustersWrong : ChangeSpec := { name := "widthClusters", fn := fun _ => fun
  | [d] => { results := [.lit (.bool false)], args := [d] }
  | _ => none }
def WidthClustersWrongFalsely : Prop := widthClustersRow.holds Try.pinned (OpenSpec.ofChange widthClustersWrong)

/-- 'marqueelaw02.WidthFits': WHATEVER THE INPUT: true; the input reads as it did. -/
def widthFitsSpec : ChangeSpec := { name := "widthFits", fn := fun _ => fun
  | [d1, d2] => { results := [.lit (.bool true)], args := [d1, d2] }
  | _ => none }
def widthFitsRow : OpenClaim := { program := "ytbaapdhfbhnlcaa", sum := "4fcf219730d1b8253dbadda716c0040f634d10ca033c08182c15ceaf94d3ad9d", func := "marquee/marqueelaw02.WidthFits", spec := "widthFits", unfollowed := true, recurses := true, apart := false }
def WidthFitsSaid : Prop := widthFitsRow.holds Try.pinned (OpenSpec.ofChange widthFitsSpec)

/-- ITS FALSE NEIGHBOUR: 'it returns false'. Refute it at one input. -/
def widthFitsWrong : ChangeSpec := { name := "widthFits", fn := fun _ => fun
  | [d1, d2] => { results := [.lit (.bool false)], args := [d1, d2] }
  | _ => none }
def WidthFitsWrongFalsely : Prop := widthFitsRow.holds Try.pinned (OpenSpec.ofChange widthFitsWrong)

/-- 'marqueelaw02.WidthGreedy': WHATEVER THE INPUT: true; the input reads as it did. -/
def widthGreedySpec : ChangeSpec := { name := "widthGreedy", fn := fun _ => fun
  | [d1, d2] => { results := [.lit (.bool true)], args := [d1, d2] }
  | _ => none }
def widthGreedyRow : OpenClaim := { program := "ytbaapdhfbhnlcaa", sum := "4fcf219730d1b8253dbadda716c0040f634d10ca033c08182c15ceaf94d3ad9d", func := "marquee/marqueelaw02.WidthGreedy", spec := "widthGreedy", unfollowed := true, recurses := true, apart := false }
def WidthGreedySaid : Prop := widthGreedyRow.holds Try.pinned (OpenSpec.ofChange widthGreedySpec)

/-- ITS FALSE NEIGHBOUR: 'it returns false'. Refute it at one input. -/
def widthGreedyWrong : ChangeSpec := { name := "widthGreedy", fn := fun _ => fun
  | [d1, d2] => { results := [.lit (.bool false)], args := [d1, d2] }
  | _ => none }
def WidthGreedyWrongFalsely : Prop := widthGreedyRow.holds Try.pinned (OpenSpec.ofChange widthGreedyWrong)

/-- 'marqueelaw02.WidthRanges': WHATEVER THE INPUT: true; the input reads as it did. -/
def widthRangesSpec : ChangeSpec := { name := "widthRanges", fn := fun _ => fun
  | [d1, d2, d3] => { results := [.lit (.bool true)], args := [d1, d2, d3] }
  | _ => none }
def widthRangesRow : OpenClaim := { program := "ytbaapdhfbhnlcaa", sum := "4fcf219730d1b8253dbadda716c0040f634d10ca033c08182c15ceaf94d3ad9d", func := "marquee/marqueelaw02.WidthRanges", spec := "widthRanges", unfollowed := true, recurses := true, apart := false }
def WidthRangesSaid : Prop := widthRangesRow.holds Try.pinned (OpenSpec.ofChange widthRangesSpec)

/-- ITS FALSE NEIGHBOUR: 'it returns false'. Refute it at one input. -/
def widthRangesWrong : ChangeSpec := { name := "widthRanges", fn := fun _ => fun
  | [d1, d2, d3] => { results := [.lit (.bool false)], args := [d1, d2, d3] }
  | _ => none }
def WidthRangesWrongFalsely : Prop := widthRangesRow.holds Try.pinned (OpenSpec.ofChange widthRangesWrong)

/- THE SECOND FORM. 'bulk': how many values and letters a reading holds, each counted each time it is reached (what is shared counts as often as it is met; a slice's spare places count too). A statement '..UptoSaid' is the law's where the arguments, and the package variables that the reading takes, are together of bulk at most 1048576: NARROWER than '..Said'. Prove '..Said' where nothing that the law and all that it calls make is longer than what came in: it says more and counts as full. Else prove '..UptoSaid'. A law counts once. -/
mutual
def uptoBulk {H : Type} : DataW H → Nat
  | .lit (.string bytes) => bytes.length + 1
  | .lit _ => 1
  | .nil => 1
  | .ptr d => uptoBulk d + 1
  | .slice elems spare => uptoBulkAll elems + uptoBulkAll spare + 1
  | .agg parts => uptoBulkAll parts + 1
  | .iface _ d => uptoBulk d + 1
  | .map entries => uptoBulkEntries entries + 1
  | .held _ => 1
def uptoBulkAll {H : Type} : List (DataW H) → Nat
  | [] => 0
  | d :: r => uptoBulk d + uptoBulkAll r
def uptoBulkEntries {H : Type} : List (Lit × DataW H) → Nat
  | [] => 0
  | x :: r => uptoBulkEntry x + uptoBulkEntries r
def uptoBulkEntry {H : Type} : Lit × DataW H → Nat
  | (.string bytes, d) => bytes.length + uptoBulk d + 1
  | (_, d) => uptoBulk d + 1
 end
def uptoSmall : (H : Type) → List (DataW H) → Bool := fun _ ds => decide (uptoBulkAll ds ≤ 1048576)
def OpenSpec.upto (s : _root_.Go.ChangeSpec) : _root_.Go.OpenSpec := { _root_.Go.OpenSpec.ofChange s with cond := some uptoSmall }

/-- 'marqueelaw02.WidthOf', WHERE WHAT IT READS IS OF BULK AT MOST 1048576: true; the input reads as it did. -/
def widthOfUptoRow : OpenClaim := { program := "ytbaapdhfbhnlcaa", sum := "4fcf219730d1b8253dbadda716c0040f634d10ca033c08182c15ceaf94d3ad9d", func := "marquee/marqueelaw02.WidthOf", spec := "widthOf", unfollowed := true, recurses := true, apart := false, narrowed := true }
def WidthOfUptoSaid : Prop := widthOfUptoRow.holds Try.pinned (OpenSpec.upto widthOfSpec)

/-- 'marqueelaw02.WidthText', WHERE WHAT IT READS IS OF BULK AT MOST 1048576: true; the input reads as it did. -/
def widthTextUptoRow : OpenClaim := { program := "ytbaapdhfbhnlcaa", sum := "4fcf219730d1b8253dbadda716c0040f634d10ca033c08182c15ceaf94d3ad9d", func := "marquee/marqueelaw02.WidthText", spec := "widthText", unfollowed := true, recurses := true, apart := false, narrowed := true }
def WidthTextUptoSaid : Prop := widthTextUptoRow.holds Try.pinned (OpenSpec.upto widthTextSpec)

/-- 'marqueelaw02.WidthClusters', WHERE WHAT IT READS IS OF BULK AT MOST 1048576: true; the input reads as it did. -/
def widthClustersUptoRow : OpenClaim := { program := "ytbaapdhfbhnlcaa", sum := "4fcf219730d1b8253dbadda716c0040f634d10ca033c08182c15ceaf94d3ad9d", func := "marquee/marqueelaw02.WidthClusters", spec := "widthClusters", unfollowed := true, recurses := true, apart := false, narrowed := true }
def WidthClustersUptoSaid : Prop := widthClustersUptoRow.holds Try.pinned (OpenSpec.upto widthClustersSpec)

/-- 'marqueelaw02.WidthFits', WHERE WHAT IT READS IS OF BULK AT MOST 1048576: true; the input reads as it did. -/
def widthFitsUptoRow : OpenClaim := { program := "ytbaapdhfbhnlcaa", sum := "4fcf219730d1b8253dbadda716c0040f634d10ca033c08182c15ceaf94d3ad9d", func := "marquee/marqueelaw02.WidthFits", spec := "widthFits", unfollowed := true, recurses := true, apart := false, narrowed := true }
def WidthFitsUptoSaid : Prop := widthFitsUptoRow.holds Try.pinned (OpenSpec.upto widthFitsSpec)

/-- 'marqueelaw02.WidthGreedy', WHERE WHAT IT READS IS OF BULK AT MOST 1048576: true; the input reads as it did. -/
def widthGreedyUptoRow : OpenClaim := { program := "ytbaapdhfbhnlcaa", sum := "4fcf219730d1b8253dbadda716c0040f634d10ca033c08182c15ceaf94d3ad9d", func := "marquee/marqueelaw02.WidthGreedy", spec := "widthGreedy", unfollowed := true, recurses := true, apart := false, narrowed := true }
def WidthGreedyUptoSaid : Prop := widthGreedyUptoRow.holds Try.pinned (OpenSpec.upto widthGreedySpec)

/-- 'marqueelaw02.WidthRanges', WHERE WHAT IT READS IS OF BULK AT MOST 1048576: true; the input reads as it did. -/
def widthRangesUptoRow : OpenClaim := { program := "ytbaapdhfbhnlcaa", sum := "4fcf219730d1b8253dbadda716c0040f634d10ca033c08182c15ceaf94d3ad9d", func := "marquee/marqueelaw02.WidthRanges", spec := "widthRanges", unfollowed := true, recurses := true, apart := false, narrowed := true }
def WidthRangesUptoSaid : Prop := widthRangesUptoRow.holds Try.pinned (OpenSpec.upto widthRangesSpec)

end Rows
end Go.Proofs.Ytbaapdhfbhnlcaa
