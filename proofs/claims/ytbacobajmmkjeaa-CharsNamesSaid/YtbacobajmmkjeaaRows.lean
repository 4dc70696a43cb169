/-
  No cell of these rows narrows 'for every input' (looked for: loops, veiled, ifaces, maps, wideKeys, modest, calm, conditions, laid).
  DERIVED. THE GIVEN ROWS OF THIS SEAT. 5 by the template 'for every input the law returns true; each argument reads behind the call as it read before'; 0 by the template 'total and deterministic' (their statements: YtbacobajmmkjeaaTotals.lean).
  GIVEN WITH THE SEED: the statements are not yours to turn. If you find one false, say at which input.
  Laid BY PROGRAM, IN A SANDBOX (cutbox-rows.mjs): the forced cells as the released guide's own fill.sh prints them over the translation 40df4f368ae8535b… (all of the seat's roots in one cut). By AI agents, Wed Nov 11 2026. No macro, syntax, notation, axiom, sorry.
-/
import Derived.Test.YtbacobajmmkjeaaChecked
import GoSem.Claim
import GoSem.ClaimJoined
import GoSem.ClaimMapViews
import Derived.JoinedTies
import Derived.KernelRfl
namespace Go.Proofs.Ytbacobajmmkjeaa
/- THE CELL 'sum', in the pinned program and in every row, IS THE sha256 OF THE DUMP (.gsa) THAT YtbacobajmmkjeaaProg.lean LOADS. Nothing in Lean hashes anything: it is a label: what it is worth is what the hold of that sum in a sandbox is worth. -/
noncomputable def Try.pinned : Pinned := { name := "ytbacobajmmkjeaa", sum := "40df4f368ae8535bf006e58a652c4798ea5e2350998afad91c5fb82c283330e8", checked := Try.checked }
namespace Rows
def none {H : Type} : Left H := { results := [], args := [] }

/-- 'marqueelaw06.CharsMaps': WHATEVER THE INPUT: true; the input reads as it did. -/
def charsMapsSpec : ChangeSpec := { name := "charsMaps", fn := fun _ => fun
  | [d1, d2] => { results := [.lit (.bool true)], args := [d1, d2] }
  | _ => none }
def charsMapsRow : OpenClaim := { program := "ytbacobajmmkjeaa", sum := "40df4f368ae8535bf006e58a652c4798ea5e2350998afad91c5fb82c283330e8", func := "marquee/marqueelaw06.CharsMaps", spec := "charsMaps", apart := false }
def CharsMapsSaid : Prop := charsMapsRow.holds Try.pinned (OpenSpec.ofChange charsMapsSpec)

/-- ITS FALSE NEIGHBOUR: 'it returns false'. Refute it at one input. -/
def charsMapsWrong : ChangeSpec := { name := "charsMaps", fn := fun _ => fun
  | [d1, d2] => { results := [.lit (.bool false)], args := [d1, d2] }
  | _ => none }
def CharsMapsWrongFalsely : Prop := charsMapsRow.holds Try.pinned (OpenSpec.ofChange charsMapsWrong)

/-- 'marqueelaw06.CharsAll': WHATEVER THE INPUT: true; the input reads as it did. -/
def charsAllSpec : ChangeSpec := { name := "charsAll", fn := fun _ => fun
  | [d1, d2] => { results := [.lit (.bool true)], args := [d1, d2] }
  | _ => none }
def charsAllRow : OpenClaim := { program := "ytbacobajmmkjeaa", sum := "40df4f368ae8535bf006e58a652c4798ea5e2350998afad91c5fb82c283330e8", func := "marquee/marqueelaw06.CharsAll", spec := "charsAll", apart := false }
def CharsAllSaid : Prop := charsAllRow.holds Try.pinned (OpenSpec.ofChange charsAllSpec)

/-- ITS FALSE NEIGHBOUR: 'it returns false'. Refute it at one input. -/
def charsAllWrong : ChangeSpec := { name := "charsAll", fn := fun _ => fun
  | [d1, d2] => { results := [.lit (.bool false)], args := [d1, d2] }
  | _ => none }
def CharsAllWrongFalsely : Prop := charsAllRow.holds Try.pinned (OpenSpec.ofChange charsAllWrong)

/-- 'marqueelaw06.CharsOnce': WHATEVER THE INPUT: true; the input reads as it did. -/
def charsOnceSpec : ChangeSpec := { name := "charsOnce", fn := fun _ => fun
  | [d1, d2, d3] => { results := [.lit (.bool true)], args := [d1, d2, d3] }
  | _ => none }
def charsOnceRow : OpenClaim := { program := "ytbacobajmmkjeaa", sum := "40df4f368ae8535bf006e58a652c4798ea5e2350998afad91c5fb82c283330e8", func := "marquee/marqueelaw06.CharsOnce", spec := "charsOnce", apart := false }
def CharsOnceSaid : Prop := charsOnceRow.holds Try.pinned (OpenSpec.ofChange charsOnceSpec)

/-- ITS FALSE NEIGHBOUR: 'it returns false'. Refute it at one input. -/
def charsOnceWrong : ChangeSpec := { name := "charsOnce", fn := fun _ => fun
  | [d1, d2, d3] => { results := [.lit (.bool false)], args := [d1, d2, d3] }
  | _ => none }
def CharsOnceWrongFalsely : Prop := charsOnceRow.holds Try.pinned (OpenSpec.ofChange charsOnceWrong)

/-- 'marqueelaw06.CharsNames': WHATEVER THE INPUT: true; the input reads as it did. -/
def charsNamesSpec : ChangeSpec := { name := "charsNames", fn := fun _ => fun
  | [d1, d2, d3] => { results := [.lit (.bool true)], args := [d1, d2, d3] }
  | _ => none }
def charsNamesRow : OpenClaim := { program := "ytbacobajmmkjeaa", sum := "40df4f368ae8535bf006e58a652c4798ea5e2350998afad91c5fb82c283330e8", func := "marquee/marqueelaw06.CharsNames", spec := "charsNames", apart := false }
def CharsNamesSaid : Prop := charsNamesRow.holds Try.pinned (OpenSpec.ofChange charsNamesSpec)

/-- ITS FALSE NEIGHBOUR: 'it returns false'. Refute it at one input. -/
def charsNamesWrong : ChangeSpec := { name := "charsNames", fn := fun _ => fun
  | [d1, d2, d3] => { results := [.lit (.bool false)], args := [d1, d2, d3] }
  | _ => none }
def CharsNamesWrongFalsely : Prop := charsNamesRow.holds Try.pinned (OpenSpec.ofChange charsNamesWrong)

/-- 'marqueelaw06.CharsLines': WHATEVER THE INPUT: true; the input reads as it did. -/
def charsLinesSpec : ChangeSpec := { name := "charsLines", fn := fun _ => fun
  | [d1, d2, d3] => { results := [.lit (.bool true)], args := [d1, d2, d3] }
  | _ => none }
def charsLinesRow : OpenClaim := { program := "ytbacobajmmkjeaa", sum := "40df4f368ae8535bf006e58a652c4798ea5e2350998afad91c5fb82c283330e8", func := "marquee/marqueelaw06.CharsLines", spec := "charsLines", apart := false }
def CharsLinesSaid : Prop := charsLinesRow.holds Try.pinned (OpenSpec.ofChange charsLinesSpec)

/-- ITS FALSE NEIGHBOUR: 'it returns false'. Refute it at one input. -/
def charsLinesWrong : ChangeSpec := { name := "charsLines", fn := fun _ => fun
  | [d1, d2, d3] => { results := [.lit (.bool false)], args := [d1, d2, d3] }
  | _ => none }
def CharsLinesWrongFalsely : Prop := charsLinesRow.holds Try.pinned (OpenSpec.ofChange charsLinesWrong)

/- THE SECOND FORM. 'bulk': how many values and letters a reading holds, each counted each time it is reached (what is shared counts as often as it is met; a slice's spare places count too). A statement '..UptoSaid' is the law's where the arguments, and the package variables that the reading takes, are together of bulk at most 1048576: NARROWER than '..Said'. Prove '..Said' where nothing that the law and all that it calls make is longer than what came in: it says more and counts as full. Else prove '..UptoSaid'. A law counts once. -/
mutual
def uptoBulk {H : Type} : DataW H → Nat
  | .lit (.string bytes) => bytes.length + 1
  | .lit _ => 1
  | .nil => 1
  | .ptr d => uptoBulk d + 1
  | .slice elems spare => uptoBulkAll elems + uptoBulkAll spare + 1
  | .agg parts => uptoBulkAll parts + 1
  | .iface _ d => uptoBulk d + 1
  | .map entries => uptoBulkEntries entries + 1
  | .held _ => 1
def uptoBulkAll {H : Type} : List (DataW H) → Nat
  | [] => 0
  | d :: r => uptoBulk d + uptoBulkAll r
def uptoBulkEntries {H : Type} : List (Lit × DataW H) → Nat
  | [] => 0
  | x :: r => uptoBulkEntry x + uptoBulkEntries r
def uptoBulkEntry {H : Type} : Lit × DataW H → Nat
  | (.string bytes, d) => bytes.length + uptoBulk d + 1
  | (_, d) => uptoBulk d + 1
 end
def uptoSmall : (H : Type) → List (DataW H) → Bool := fun _ ds => decide (uptoBulkAll ds ≤ 1048576)
def OpenSpec.upto (s : _root_.Go.ChangeSpec) : _root_.Go.OpenSpec := { _root_.Go.OpenSpec.ofChange s with cond := some uptoSmall }

/-- 'marqueelaw06.CharsMaps', WHERE WHAT IT READS IS OF BULK AT MOST 1048576: true; the input reads as it did. -/
def charsMapsUptoRow : OpenClaim := { program := "ytbacobajmmkjeaa", sum := "40df4f368ae8535bf006e58a652c4798ea5e2350998afad91c5fb82c283330e8", func := "marquee/marqueelaw06.CharsMaps", spec := "charsMaps", apart := false, narrowed := true }
def CharsMapsUptoSaid : Prop := charsMapsUptoRow.holds Try.pinned (OpenSpec.upto charsMapsSpec)

/-- 'marqueelaw06.CharsAll', WHERE WHAT IT READS IS OF BULK AT MOST 1048576: true; the input reads as it did. -/
def charsAllUptoRow : OpenClaim := { program := "ytbacobajmmkjeaa", sum := "40df4f368ae8535bf006e58a652c4798ea5e2350998afad91c5fb82c283330e8", func := "marquee/marqueelaw06.CharsAll", spec := "charsAll", apart := false, narrowed := true }
def CharsAllUptoSaid : Prop := charsAllUptoRow.holds Try.pinned (OpenSpec.upto charsAllSpec)

/-- 'marqueelaw06.CharsOnce', WHERE WHAT IT READS IS OF BULK AT MOST 1048576: true; the input reads as it did. -/
def charsOnceUptoRow : OpenClaim := { program := "ytbacobajmmkjeaa", sum := "40df4f368ae8535bf006e58a652c4798ea5e2350998afad91c5fb82c283330e8", func := "marquee/marqueelaw06.CharsOnce", spec := "charsOnce", apart := false, narrowed := true }
def CharsOnceUptoSaid : Prop := charsOnceUptoRow.holds Try.pinned (OpenSpec.upto charsOnceSpec)

/-- 'marqueelaw06.CharsNames', WHERE WHAT IT READS IS OF BULK AT MOST 1048576: true; the input reads as it did. -/
def charsNamesUptoRow : OpenClaim := { program := "ytbacobajmmkjeaa", sum := "40df4f368ae8535bf006e58a652c4798ea5e2350998afad91c5fb82c283330e8", func := "marquee/marqueelaw06.CharsNames", spec := "charsNames", apart := false, narrowed := true }
def CharsNamesUptoSaid : Prop := charsNamesUptoRow.holds Try.pinned (OpenSpec.upto charsNamesSpec)

/-- 'marqueelaw06.CharsLines', WHERE WHAT IT READS IS OF BULK AT MOST 1048576: true; the input reads as it did. -/
def charsLinesUptoRow : OpenClaim := { program := "ytbacobajmmkjeaa", sum := "40df4f368ae8535bf006e58a652c4798ea5e2350998afad91c5fb82c283330e8", func := "marquee/marqueelaw06.CharsLines", spec := "charsLines", apart := false, narrowed := true }
def CharsLinesUptoSaid : Prop := charsLinesUptoRow.holds Try.pinned (OpenSpec.upto charsLinesSpec)

end Rows
end Go.Proofs.Ytbacobajmmkjeaa
