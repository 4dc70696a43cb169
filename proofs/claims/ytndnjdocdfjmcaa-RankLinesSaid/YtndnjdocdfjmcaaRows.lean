/-
  No cell of these rows narrows 'for every input' (looked for: loops, veiled, ifaces, maps, wideKeys, modest, calm, conditions, laid).
  DERIVED. THE GIVEN ROWS OF THIS SEAT. 6 by the template 'for every input the law returns true; each argument reads behind the call as it read before'; 0 by the template 'total and deterministic' (their statements: YtndnjdocdfjmcaaTotals.lean).
  GIVEN WITH THE SEED: the statements are not yours to turn. If you find one false, say at which input.
  Laid BY PROGRAM, IN A SANDBOX (cutbox-rows.mjs): the forced cells as the released guide's own fill.sh prints them over the translation de0179ea8d15b93d… (all of the seat's roots in one cut). By AI agents, Wed Nov 11 2026. No macro, syntax, notation, axiom, sorry.
-/
import Derived.Test.YtndnjdocdfjmcaaChecked
import GoSem.Claim
import GoSem.ClaimJoined
import GoSem.ClaimMapViews
import Derived.JoinedTies
import Derived.KernelRfl
namespace Go.Proofs.Ytndnjdocdfjmcaa
/- THE CELL 'sum', in the pinned program and in every row, IS THE sha256 OF THE DUMP (.gsa) THAT YtndnjdocdfjmcaaProg.lean LOADS. Nothing in Lean hashes anything: it is a label: what it is worth is what the hold of that sum in a sandbox is worth. -/
noncomputable def Try.pinned : Pinned := { name := "ytndnjdocdfjmcaa", sum := "de0179ea8d15b93d1d6cd631004c4dff5760974c79f8afbb1ffa47c6d931c89a", checked := Try.checked }
namespace Rows
def none {H : Type} : Left H := { results := [], args := [] }

/-- 'marqueelaw27.RankBounds': WHATEVER THE INPUT: true; the input reads as it did. -/
def rankBoundsSpec : ChangeSpec := { name := "rankBounds", fn := fun _ => fun
  | [d1, d2] => { results := [.lit (.bool true)], args := [d1, d2] }
  | _ => none }
def rankBoundsRow : OpenClaim := { program := "ytndnjdocdfjmcaa", sum := "de0179ea8d15b93d1d6cd631004c4dff5760974c79f8afbb1ffa47c6d931c89a", func := "marquee/marqueelaw27.RankBounds", spec := "rankBounds", unfollowed := true, recurses := true, apart := false }
def RankBoundsSaid : Prop := rankBoundsRow.holds Try.pinned (OpenSpec.ofChange rankBoundsSpec)

/-- ITS FALSE NEIGHBOUR: 'it returns false'. Refute it at one input. -/
def rankBoundsWrong : ChangeSpec := { name := "rankBounds", fn := fun _ => fun
  | [d1, d2] => { results := [.lit (.bool false)], args := [d1, d2] }
  | _ => none }
def RankBoundsWrongFalsely : Prop := rankBoundsRow.holds Try.pinned (OpenSpec.ofChange rankBoundsWrong)

/-- 'marqueelaw27.RankLines': WHATEVER THE INPUT: true; the input reads as it did. -/
def rankLinesSpec : ChangeSpec := { name := "rankLines", fn := fun _ => fun
  | [d] => { results := [.lit (.bool true)], args := [d] }
  | _ => none }
def rankLinesRow : OpenClaim := { program := "ytndnjdocdfjmcaa", sum := "de0179ea8d15b93d1d6cd631004c4dff5760974c79f8afbb1ffa47c6d931c89a", func := "marquee/marqueelaw27.RankLines", spec := "rankLines", unfollowed := true, recurses := true, apart := false }
def RankLinesSaid : Prop := rankLinesRow.holds Try.pinned (OpenSpec.ofChange rankLinesSpec)

/-- ITS FALSE NEIGHBOUR: 'it returns false'. Refute it at one input. -/
def rankLinesWrong : ChangeSpec := { name := "rankLines", fn := fun _ => fun
  | [d] => { results := [.lit (.bool false)], args := [d] }
  | _ => none }
def RankLinesWrongFalsely : Prop := rankLinesRow.holds Try.pinned (OpenSpec.ofChange rankLinesWrong)

/-- 'marqueelaw27.RankTops': WHATEVER THE INPUT: true; the input reads as it did. -/
def rankTopsSpec : ChangeSpec := { name := "rankTops", fn := fun _ => fun
  | [d1, d2, d3] => { results := [.lit (.bool true)], args := [d1, d2, d3] }
  | _ => none }
def rankTopsRow : OpenClaim := { program := "ytndnjdocdfjmcaa", sum := "de0179ea8d15b93d1d6cd631004c4dff5760974c79f8afbb1ffa47c6d931c89a", func := "marquee/marqueelaw27.RankTops", spec := "rankTops", unfollowed := true, recurses := true, apart := false }
def RankTopsSaid : Prop := rankTopsRow.holds Try.pinned (OpenSpec.ofChange rankTopsSpec)

/-- ITS FALSE NEIGHBOUR: 'it returns false'. Refute it at one input. -/
def rankTopsWrong : ChangeSpec := { name := "rankTops", fn := fun _ => fun
  | [d1, d2, d3] => { results := [.lit (.bool false)], args := [d1, d2, d3] }
  | _ => none }
def RankTopsWrongFalsely : Prop := rankTopsRow.holds Try.pinned (OpenSpec.ofChange rankTopsWrong)

/-- 'marqueelaw27.RankOf': WHATEVER THE INPUT: true; the input reads as it did. -/
def rankOfSpec : ChangeSpec := { name := "rankOf", fn := fun _ => fun
  | [d1, d2, d3] => { results := [.lit (.bool true)], args := [d1, d2, d3] }
  | _ => none }
def rankOfRow : OpenClaim := { program := "ytndnjdocdfjmcaa", sum := "de0179ea8d15b93d1d6cd631004c4dff5760974c79f8afbb1ffa47c6d931c89a", func := "marquee/marqueelaw27.RankOf", spec := "rankOf", unfollowed := true, recurses := true, apart := false }
def RankOfSaid : Prop := rankOfRow.holds Try.pinned (OpenSpec.ofChange rankOfSpec)

/-- ITS FALSE NEIGHBOUR: 'it returns false'. Refute it at one input. -/
def rankOfWrong : ChangeSpec := { name := "rankOf", fn := fun _ => fun
  | [d1, d2, d3] => { results := [.lit (.bool false)], args := [d1, d2, d3] }
  | _ => none }
def RankOfWrongFalsely : Prop := rankOfRow.holds Try.pinned (OpenSpec.ofChange rankOfWrong)

/-- 'marqueelaw27.RankBegins': WHATEVER THE INPUT: true; the input reads as it did. -/
def rankBeginsSpec : ChangeSpec := { name := "rankBegins", fn := fun _ => fun
  | [d1, d2, d3] => { results := [.lit (.bool true)], args := [d1, d2, d3] }
  | _ => none }
def rankBeginsRow : OpenClaim := { program := "ytndnjdocdfjmcaa", sum := "de0179ea8d15b93d1d6cd631004c4dff5760974c79f8afbb1ffa47c6d931c89a", func := "marquee/marqueelaw27.RankBegins", spec := "rankBegins", unfollowed := true, recurses := true, apart := false }
def RankBeginsSaid : Prop := rankBeginsRow.holds Try.pinned (OpenSpec.ofChange rankBeginsSpec)

/-- ITS FALSE NEIGHBOUR: 'it returns false'. Refute it at one input. -/
def rankBeginsWrong : ChangeSpec := { name := "rankBegins", fn := fun _ => fun
  | [d1, d2, d3] => { results := [.lit (.bool false)], args := [d1, d2, d3] }
  | _ => none }
def RankBeginsWrongFalsely : Prop := rankBeginsRow.holds Try.pinned (OpenSpec.ofChange rankBeginsWrong)

/-- 'marqueelaw27.RankNone': WHATEVER THE INPUT: true; the input reads as it did. -/
def rankNoneSpec : ChangeSpec := { name := "rankNone", fn := fun _ => fun
  | [d1, d2] => { results := [.lit (.bool true)], args := [d1, d2] }
  | _ => none }
def rankNoneRow : OpenClaim := { program := "ytndnjdocdfjmcaa", sum := "de0179ea8d15b93d1d6cd631004c4dff5760974c79f8afbb1ffa47c6d931c89a", func := "marquee/marqueelaw27.RankNone", spec := "rankNone", unfollowed := true, recurses := true, apart := false }
def RankNoneSaid : Prop := rankNoneRow.holds Try.pinned (OpenSpec.ofChange rankNoneSpec)

/-- ITS FALSE NEIGHBOUR: 'it returns false'. Refute it at one input. -/
def rankNoneWrong : ChangeSpec := { name := "rankNone", fn := fun _ => fun
  | [d1, d2] => { results := [.lit (.bool false)], args := [d1, d2] }
  | _ => none }
def RankNoneWrongFalsely : Prop := rankNoneRow.holds Try.pinned (OpenSpec.ofChange rankNoneWrong)

/- THE SECOND FORM. 'bulk': how many values and letters a reading holds, each counted each time it is reached (what is shared counts as often as it is met; a slice's spare places count too). A statement '..UptoSaid' is the law's where the arguments, and the package variables that the reading takes, are together of bulk at most 1048576: NARROWER than '..Said'. Prove '..Said' where nothing that the law and all that it calls make is longer than what came in: it says more and counts as full. Else prove '..UptoSaid'. A law counts once. -/
mutual
def uptoBulk {H : Type} : DataW H → Nat
  | .lit (.string bytes) => bytes.length + 1
  | .lit _ => 1
  | .nil => 1
  | .ptr d => uptoBulk d + 1
  | .slice elems spare => uptoBulkAll elems + uptoBulkAll spare + 1
  | .agg parts => uptoBulkAll parts + 1
  | .iface _ d => uptoBulk d + 1
  | .map entries => uptoBulkEntries entries + 1
  | .held _ => 1
def uptoBulkAll {H : Type} : List (DataW H) → Nat
  | [] => 0
  | d :: r => uptoBulk d + uptoBulkAll r
def uptoBulkEntries {H : Type} : List (Lit × DataW H) → Nat
  | [] => 0
  | x :: r => uptoBulkEntry x + uptoBulkEntries r
def uptoBulkEntry {H : Type} : Lit × DataW H → Nat
  | (.string bytes, d) => bytes.length + uptoBulk d + 1
  | (_, d) => uptoBulk d + 1
 end
def uptoSmall : (H : Type) → List (DataW H) → Bool := fun _ ds => decide (uptoBulkAll ds ≤ 1048576)
def OpenSpec.upto (s : _root_.Go.ChangeSpec) : _root_.Go.OpenSpec := { _root_.Go.OpenSpec.ofChange s with cond := some uptoSmall }

/-- 'marqueelaw27.RankBounds', WHERE WHAT IT READS IS OF BULK AT MOST 1048576: true; the input reads as it did. -/
def rankBoundsUptoRow : OpenClaim := { program := "ytndnjdocdfjmcaa", sum := "de0179ea8d15b93d1d6cd631004c4dff5760974c79f8afbb1ffa47c6d931c89a", func := "marquee/marqueelaw27.RankBounds", spec := "rankBounds", unfollowed := true, recurses := true, apart := false, narrowed := true }
def RankBoundsUptoSaid : Prop := rankBoundsUptoRow.holds Try.pinned (OpenSpec.upto rankBoundsSpec)

/-- 'marqueelaw27.RankLines', WHERE WHAT IT READS IS OF BULK AT MOST 1048576: true; the input reads as it did. -/
def rankLinesUptoRow : OpenClaim := { program := "ytndnjdocdfjmcaa", sum := "de0179ea8d15b93d1d6cd631004c4dff5760974c79f8afbb1ffa47c6d931c89a", func := "marquee/marqueelaw27.RankLines", spec := "rankLines", unfollowed := true, recurses := true, apart := false, narrowed := true }
def RankLinesUptoSaid : Prop := rankLinesUptoRow.holds Try.pinned (OpenSpec.upto rankLinesSpec)

/-- 'marqueelaw27.RankTops', WHERE WHAT IT READS IS OF BULK AT MOST 1048576: true; the input reads as it did. -/
def rankTopsUptoRow : OpenClaim := { program := "ytndnjdocdfjmcaa", sum := "de0179ea8d15b93d1d6cd631004c4dff5760974c79f8afbb1ffa47c6d931c89a", func := "marquee/marqueelaw27.RankTops", spec := "rankTops", unfollowed := true, recurses := true, apart := false, narrowed := true }
def RankTopsUptoSaid : Prop := rankTopsUptoRow.holds Try.pinned (OpenSpec.upto rankTopsSpec)

/-- 'marqueelaw27.RankOf', WHERE WHAT IT READS IS OF BULK AT MOST 1048576: true; the input reads as it did. -/
def rankOfUptoRow : OpenClaim := { program := "ytndnjdocdfjmcaa", sum := "de0179ea8d15b93d1d6cd631004c4dff5760974c79f8afbb1ffa47c6d931c89a", func := "marquee/marqueelaw27.RankOf", spec := "rankOf", unfollowed := true, recurses := true, apart := false, narrowed := true }
def RankOfUptoSaid : Prop := rankOfUptoRow.holds Try.pinned (OpenSpec.upto rankOfSpec)

/-- 'marqueelaw27.RankBegins', WHERE WHAT IT READS IS OF BULK AT MOST 1048576: true; the input reads as it did. -/
def rankBeginsUptoRow : OpenClaim := { program := "ytndnjdocdfjmcaa", sum := "de0179ea8d15b93d1d6cd631004c4dff5760974c79f8afbb1ffa47c6d931c89a", func := "marquee/marqueelaw27.RankBegins", spec := "rankBegins", unfollowed := true, recurses := true, apart := false, narrowed := true }
def RankBeginsUptoSaid : Prop := rankBeginsUptoRow.holds Try.pinned (OpenSpec.upto rankBeginsSpec)

/-- 'marqueelaw27.RankNone', WHERE WHAT IT READS IS OF BULK AT MOST 1048576: true; the input reads as it did. -/
def rankNoneUptoRow : OpenClaim := { program := "ytndnjdocdfjmcaa", sum := "de0179ea8d15b93d1d6cd631004c4dff5760974c79f8afbb1ffa47c6d931c89a", func := "marquee/marqueelaw27.RankNone", spec := "rankNone", unfollowed := true, recurses := true, apart := false, narrowed := true }
def RankNoneUptoSaid : Prop := rankNoneUptoRow.holds Try.pinned (OpenSpec.upto rankNoneSpec)

end Rows
end Go.Proofs.Ytndnjdocdfjmcaa
