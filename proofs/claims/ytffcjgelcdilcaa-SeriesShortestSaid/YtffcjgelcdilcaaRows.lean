/-
  No cell of these rows narrows 'for every input' (looked for: loops, veiled, ifaces, maps, wideKeys, modest, calm, conditions, laid).
  DERIVED. THE GIVEN ROWS OF THIS SEAT. 11 by the template 'for every input the law returns true; each argument reads behind the call as it read before'; 0 by the template 'total and deterministic' (their statements: YtffcjgelcdilcaaTotals.lean).
  GIVEN WITH THE SEED: the statements are not yours to turn. If you find one false, say at which input.
  Laid BY PROGRAM, IN A SANDBOX (cutbox-rows.mjs): the forced cells as the released guide's own fill.sh prints them over the translation 02030afb791e744f… (all of the seat's roots in one cut). By AI agents, Wed Nov 11 2026. No macro, syntax, notation, axiom, sorry.
-/
import Derived.Test.YtffcjgelcdilcaaChecked
import GoSem.Claim
import GoSem.ClaimJoined
import GoSem.ClaimMapViews
import Derived.JoinedTies
import Derived.KernelRfl
namespace Go.Proofs.Ytffcjgelcdilcaa
/- THE CELL 'sum', in the pinned program and in every row, IS THE sha256 OF THE DUMP (.gsa) THAT YtffcjgelcdilcaaProg.lean LOADS. Nothing in Lean hashes anything: it is a label: what it is worth is what the hold of that sum in a sandbox is worth. -/
noncomputable def Try.pinned : Pinned := { name := "ytffcjgelcdilcaa", sum := "02030afb791e744f46c7400567dc1bd4b5bd1e7470b5be8e963dd538af047c57", checked := Try.checked }
namespace Rows
def none {H : Type} : Left H := { results := [], args := [] }

/-- 'affidavitlaw04.SeriesRight': WHATEVER THE INPUT: true; the input reads as it did. -/
def seriesRightSpec : ChangeSpec := { name := "seriesRight", fn := fun _ => fun
  | [d1, d2, d3, d4] => { results := [.lit (.bool true)], args := [d1, d2, d3, d4] }
  | _ => none }
def seriesRightRow : OpenClaim := { program := "ytffcjgelcdilcaa", sum := "02030afb791e744f46c7400567dc1bd4b5bd1e7470b5be8e963dd538af047c57", func := "affidavit/affidavitlaw04.SeriesRight", spec := "seriesRight", unfollowed := true, recurses := true, named := ["math/bits.divideError", "math/bits.overflowError"], apart := false }
def SeriesRightSaid : Prop := seriesRightRow.holds Try.pinned (OpenSpec.ofChange seriesRightSpec)

/-- ITS FALSE NEIGHBOUR: 'it returns false'. Refute it at one input. -/
def seriesRightWrong : ChangeSpec := { name := "seriesRight", fn := fun _ => fun
  | [d1, d2, d3, d4] => { results := [.lit (.bool false)], args := [d1, d2, d3, d4] }
  | _ => none }
def SeriesRightWrongFalsely : Prop := seriesRightRow.holds Try.pinned (OpenSpec.ofChange seriesRightWrong)

/-- 'affidavitlaw04.SeriesShortest': WHATEVER THE INPUT: true; the input reads as it did. -/
def seriesShortestSpec : ChangeSpec := { name := "seriesShortest", fn := fun _ => fun
  | [d1, d2] => { results := [.lit (.bool true)], args := [d1, d2] }
  | _ => none }
def seriesShortestRow : OpenClaim := { program := "ytffcjgelcdilcaa", sum := "02030afb791e744f46c7400567dc1bd4b5bd1e7470b5be8e963dd538af047c57", func := "affidavit/affidavitlaw04.SeriesShortest", spec := "seriesShortest", unfollowed := true, recurses := true, named := ["math/bits.divideError", "math/bits.overflowError"], apart := false }
def SeriesShortestSaid : Prop := seriesShortestRow.holds Try.pinned (OpenSpec.ofChange seriesShortestSpec)

/-- ITS FALSE NEIGHBOUR: 'it returns false'. Refute it at one input. -/
def seriesShortestWrong : ChangeSpec := { name := "seriesShortest", fn := fun _ => fun
  | [d1, d2] => { results := [.lit (.bool false)], args := [d1, d2] }
  | _ => none }
def SeriesShortestWrongFalsely : Prop := seriesShortestRow.holds Try.pinned (OpenSpec.ofChange seriesShortestWrong)

/-- 'affidavitlaw04.SeriesMore': WHATEVER THE INPUT: true; the input reads as it did. -/
def seriesMoreSpec : ChangeSpec := { name := "seriesMore", fn := fun _ => fun
  | [d1, d2, d3, d4] => { results := [.lit (.bool true)], args := [d1, d2, d3, d4] }
  | _ => none }
def seriesMoreRow : OpenClaim := { program := "ytffcjgelcdilcaa", sum := "02030afb791e744f46c7400567dc1bd4b5bd1e7470b5be8e963dd538af047c57", func := "affidavit/affidavitlaw04.SeriesMore", spec := "seriesMore", unfollowed := true, recurses := true, named := ["math/bits.divideError", "math/bits.overflowError"], apart := false }
def SeriesMoreSaid : Prop := seriesMoreRow.holds Try.pinned (OpenSpec.ofChange seriesMoreSpec)

/-- ITS FALSE NEIGHBOUR: 'it returns false'. Refute it at one input. -/
def seriesMoreWrong : ChangeSpec := { name := "seriesMore", fn := fun _ => fun
  | [d1, d2, d3, d4] => { results := [.lit (.bool false)], args := [d1, d2, d3, d4] }
  | _ => none }
def SeriesMoreWrongFalsely : Prop := seriesMoreRow.holds Try.pinned (OpenSpec.ofChange seriesMoreWrong)

/-- 'affidavitlaw04.SeriesSums': WHATEVER THE INPUT: true; the input reads as it did. -/
def seriesSumsSpec : ChangeSpec := { name := "seriesSums", fn := fun _ => fun
  | [d1, d2, d3, d4, d5] => { results := [.lit (.bool true)], args := [d1, d2, d3, d4, d5] }
  | _ => none }
def seriesSumsRow : OpenClaim := { program := "ytffcjgelcdilcaa", sum := "02030afb791e744f46c7400567dc1bd4b5bd1e7470b5be8e963dd538af047c57", func := "affidavit/affidavitlaw04.SeriesSums", spec := "seriesSums", unfollowed := true, recurses := true, named := ["math/bits.divideError", "math/bits.overflowError"], apart := false }
def SeriesSumsSaid : Prop := seriesSumsRow.holds Try.pinned (OpenSpec.ofChange seriesSumsSpec)

/-- ITS FALSE NEIGHBOUR: 'it returns false'. Refute it at one input. -/
def seriesSumsWrong : ChangeSpec := { name := "seriesSums", fn := fun _ => fun
  | [d1, d2, d3, d4, d5] => { results := [.lit (.bool false)], args := [d1, d2, d3, d4, d5] }
  | _ => none }
def SeriesSumsWrongFalsely : Prop := seriesSumsRow.holds Try.pinned (OpenSpec.ofChange seriesSumsWrong)

/-- 'affidavitlaw04.SeriesFinds': WHATEVER THE INPUT: true; the input reads as it did. -/
def seriesFindsSpec : ChangeSpec := { name := "seriesFinds", fn := fun _ => fun
  | [d1, d2, d3] => { results := [.lit (.bool true)], args := [d1, d2, d3] }
  | _ => none }
def seriesFindsRow : OpenClaim := { program := "ytffcjgelcdilcaa", sum := "02030afb791e744f46c7400567dc1bd4b5bd1e7470b5be8e963dd538af047c57", func := "affidavit/affidavitlaw04.SeriesFinds", spec := "seriesFinds", unfollowed := true, recurses := true, named := ["math/bits.divideError", "math/bits.overflowError"], apart := false }
def SeriesFindsSaid : Prop := seriesFindsRow.holds Try.pinned (OpenSpec.ofChange seriesFindsSpec)

/-- ITS FALSE NEIGHBOUR: 'it returns false'. Refute it at one input. -/
def seriesFindsWrong : ChangeSpec := { name := "seriesFinds", fn := fun _ => fun
  | [d1, d2, d3] => { results := [.lit (.bool false)], args := [d1, d2, d3] }
  | _ => none }
def SeriesFindsWrongFalsely : Prop := seriesFindsRow.holds Try.pinned (OpenSpec.ofChange seriesFindsWrong)

/-- 'affidavitlaw03.PolyRoots': WHATEVER THE INPUT: true; the input reads as it did. -/
def polyRootsSpec : ChangeSpec := { name := "polyRoots", fn := fun _ => fun
  | [d1, d2, d3] => { results := [.lit (.bool true)], args := [d1, d2, d3] }
  | _ => none }
def polyRootsRow : OpenClaim := { program := "ytffcjgelcdilcaa", sum := "02030afb791e744f46c7400567dc1bd4b5bd1e7470b5be8e963dd538af047c57", func := "affidavit/affidavitlaw03.PolyRoots", spec := "polyRoots", unfollowed := true, recurses := true, named := ["math/bits.divideError", "math/bits.overflowError"], apart := false }
def PolyRootsSaid : Prop := polyRootsRow.holds Try.pinned (OpenSpec.ofChange polyRootsSpec)

/-- ITS FALSE NEIGHBOUR: 'it returns false'. Refute it at one input. -/
def polyRootsWrong : ChangeSpec := { name := "polyRoots", fn := fun _ => fun
  | [d1, d2, d3] => { results := [.lit (.bool false)], args := [d1, d2, d3] }
  | _ => none }
def PolyRootsWrongFalsely : Prop := polyRootsRow.holds Try.pinned (OpenSpec.ofChange polyRootsWrong)

/-- 'affidavitlaw03.PolySame': WHATEVER THE INPUT: true; the input reads as it did. -/
def polySameSpec : ChangeSpec := { name := "polySame", fn := fun _ => fun
  | [d1, d2, d3] => { results := [.lit (.bool true)], args := [d1, d2, d3] }
  | _ => none }
def polySameRow : OpenClaim := { program := "ytffcjgelcdilcaa", sum := "02030afb791e744f46c7400567dc1bd4b5bd1e7470b5be8e963dd538af047c57", func := "affidavit/affidavitlaw03.PolySame", spec := "polySame", unfollowed := true, recurses := true, named := ["math/bits.divideError", "math/bits.overflowError"], apart := false }
def PolySameSaid : Prop := polySameRow.holds Try.pinned (OpenSpec.ofChange polySameSpec)

/-- ITS FALSE NEIGHBOUR: 'it returns false'. Refute it at one input. -/
def polySameWrong : ChangeSpec := { name := "polySame", fn := fun _ => fun
  | [d1, d2, d3] => { results := [.lit (.bool false)], args := [d1, d2, d3] }
  | _ => none }
def PolySameWrongFalsely : Prop := polySameRow.holds Try.pinned (OpenSpec.ofChange polySameWrong)

/-- 'affidavitlaw03.PolyDivides': WHATEVER THE INPUT: true; the input reads as it did. -/
def polyDividesSpec : ChangeSpec := { name := "polyDivides", fn := fun _ => fun
  | [d1, d2, d3] => { results := [.lit (.bool true)], args := [d1, d2, d3] }
  | _ => none }
def polyDividesRow : OpenClaim := { program := "ytffcjgelcdilcaa", sum := "02030afb791e744f46c7400567dc1bd4b5bd1e7470b5be8e963dd538af047c57", func := "affidavit/affidavitlaw03.PolyDivides", spec := "polyDivides", unfollowed := true, recurses := true, named := ["math/bits.divideError", "math/bits.overflowError"], apart := false }
def PolyDividesSaid : Prop := polyDividesRow.holds Try.pinned (OpenSpec.ofChange polyDividesSpec)

/-- ITS FALSE NEIGHBOUR: 'it returns false'. Refute it at one input. -/
def polyDividesWrong : ChangeSpec := { name := "polyDivides", fn := fun _ => fun
  | [d1, d2, d3] => { results := [.lit (.bool false)], args := [d1, d2, d3] }
  | _ => none }
def PolyDividesWrongFalsely : Prop := polyDividesRow.holds Try.pinned (OpenSpec.ofChange polyDividesWrong)

/-- 'affidavitlaw03.PolyGreatest': WHATEVER THE INPUT: true; the input reads as it did. -/
def polyGreatestSpec : ChangeSpec := { name := "polyGreatest", fn := fun _ => fun
  | [d1, d2, d3, d4] => { results := [.lit (.bool true)], args := [d1, d2, d3, d4] }
  | _ => none }
def polyGreatestRow : OpenClaim := { program := "ytffcjgelcdilcaa", sum := "02030afb791e744f46c7400567dc1bd4b5bd1e7470b5be8e963dd538af047c57", func := "affidavit/affidavitlaw03.PolyGreatest", spec := "polyGreatest", unfollowed := true, recurses := true, named := ["math/bits.divideError", "math/bits.overflowError"], apart := false }
def PolyGreatestSaid : Prop := polyGreatestRow.holds Try.pinned (OpenSpec.ofChange polyGreatestSpec)

/-- ITS FALSE NEIGHBOUR: 'it returns false'. Refute it at one input. -/
def polyGreatestWrong : ChangeSpec := { name := "polyGreatest", fn := fun _ => fun
  | [d1, d2, d3, d4] => { results := [.lit (.bool false)], args := [d1, d2, d3, d4] }
  | _ => none }
def PolyGreatestWrongFalsely : Prop := polyGreatestRow.holds Try.pinned (OpenSpec.ofChange polyGreatestWrong)

/-- 'affidavitlaw03.PolyPlaces': WHATEVER THE INPUT: true; the input reads as it did. -/
def polyPlacesSpec : ChangeSpec := { name := "polyPlaces", fn := fun _ => fun
  | [d1, d2, d3, d4] => { results := [.lit (.bool true)], args := [d1, d2, d3, d4] }
  | _ => none }
def polyPlacesRow : OpenClaim := { program := "ytffcjgelcdilcaa", sum := "02030afb791e744f46c7400567dc1bd4b5bd1e7470b5be8e963dd538af047c57", func := "affidavit/affidavitlaw03.PolyPlaces", spec := "polyPlaces", unfollowed := true, recurses := true, named := ["math/bits.divideError", "math/bits.overflowError"], apart := false }
def PolyPlacesSaid : Prop := polyPlacesRow.holds Try.pinned (OpenSpec.ofChange polyPlacesSpec)

/-- ITS FALSE NEIGHBOUR: 'it returns false'. Refute it at one input. -/
def polyPlacesWrong : ChangeSpec := { name := "polyPlaces", fn := fun _ => fun
  | [d1, d2, d3, d4] => { results := [.lit (.bool false)], args := [d1, d2, d3, d4] }
  | _ => none }
def PolyPlacesWrongFalsely : Prop := polyPlacesRow.holds Try.pinned (OpenSpec.ofChange polyPlacesWrong)

/-- 'affidavitlaw03.PolyRing': WHATEVER THE INPUT: true; the input reads as it did. -/
def polyRingSpec : ChangeSpec := { name := "polyRing", fn := fun _ => fun
  | [d1, d2, d3, d4] => { results := [.lit (.bool true)], args := [d1, d2, d3, d4] }
  | _ => none }
def polyRingRow : OpenClaim := { program := "ytffcjgelcdilcaa", sum := "02030afb791e744f46c7400567dc1bd4b5bd1e7470b5be8e963dd538af047c57", func := "affidavit/affidavitlaw03.PolyRing", spec := "polyRing", unfollowed := true, recurses := true, named := ["math/bits.divideError", "math/bits.overflowError"], apart := false }
def PolyRingSaid : Prop := polyRingRow.holds Try.pinned (OpenSpec.ofChange polyRingSpec)

/-- ITS FALSE NEIGHBOUR: 'it returns false'. Refute it at one input. -/
def polyRingWrong : ChangeSpec := { name := "polyRing", fn := fun _ => fun
  | [d1, d2, d3, d4] => { results := [.lit (.bool false)], args := [d1, d2, d3, d4] }
  | _ => none }
def PolyRingWrongFalsely : Prop := polyRingRow.holds Try.pinned (OpenSpec.ofChange polyRingWrong)

/- THE SECOND FORM. 'bulk': how many values and letters a reading holds, each counted each time it is reached (what is shared counts as often as it is met; a slice's spare places count too). A statement '..UptoSaid' is the law's where the arguments, and the package variables that the reading takes, are together of bulk at most 1048576: NARROWER than '..Said'. Prove '..Said' where nothing that the law and all that it calls make is longer than what came in: it says more and counts as full. Else prove '..UptoSaid'. A law counts once. -/
mutual
def uptoBulk {H : Type} : DataW H → Nat
  | .lit (.string bytes) => bytes.length + 1
  | .lit _ => 1
  | .nil => 1
  | .ptr d => uptoBulk d + 1
  | .slice elems spare => uptoBulkAll elems + uptoBulkAll spare + 1
  | .agg parts => uptoBulkAll parts + 1
  | .iface _ d => uptoBulk d + 1
  | .map entries => uptoBulkEntries entries + 1
  | .held _ => 1
def uptoBulkAll {H : Type} : List (DataW H) → Nat
  | [] => 0
  | d :: r => uptoBulk d + uptoBulkAll r
def uptoBulkEntries {H : Type} : List (Lit × DataW H) → Nat
  | [] => 0
  | x :: r => uptoBulkEntry x + uptoBulkEntries r
def uptoBulkEntry {H : Type} : Lit × DataW H → Nat
  | (.string bytes, d) => bytes.length + uptoBulk d + 1
  | (_, d) => uptoBulk d + 1
 end
def uptoSmall : (H : Type) → List (DataW H) → Bool := fun _ ds => decide (uptoBulkAll ds ≤ 1048576)
def OpenSpec.upto (s : _root_.Go.ChangeSpec) : _root_.Go.OpenSpec := { _root_.Go.OpenSpec.ofChange s with cond := some uptoSmall }

/-- 'affidavitlaw04.SeriesRight', WHERE WHAT IT READS IS OF BULK AT MOST 1048576: true; the input reads as it did. -/
def seriesRightUptoRow : OpenClaim := { program := "ytffcjgelcdilcaa", sum := "02030afb791e744f46c7400567dc1bd4b5bd1e7470b5be8e963dd538af047c57", func := "affidavit/affidavitlaw04.SeriesRight", spec := "seriesRight", unfollowed := true, recurses := true, named := ["math/bits.divideError", "math/bits.overflowError"], apart := false, narrowed := true }
def SeriesRightUptoSaid : Prop := seriesRightUptoRow.holds Try.pinned (OpenSpec.upto seriesRightSpec)

/-- 'affidavitlaw04.SeriesShortest', WHERE WHAT IT READS IS OF BULK AT MOST 1048576: true; the input reads as it did. -/
def seriesShortestUptoRow : OpenClaim := { program := "ytffcjgelcdilcaa", sum := "02030afb791e744f46c7400567dc1bd4b5bd1e7470b5be8e963dd538af047c57", func := "affidavit/affidavitlaw04.SeriesShortest", spec := "seriesShortest", unfollowed := true, recurses := true, named := ["math/bits.divideError", "math/bits.overflowError"], apart := false, narrowed := true }
def SeriesShortestUptoSaid : Prop := seriesShortestUptoRow.holds Try.pinned (OpenSpec.upto seriesShortestSpec)

/-- 'affidavitlaw04.SeriesMore', WHERE WHAT IT READS IS OF BULK AT MOST 1048576: true; the input reads as it did. -/
def seriesMoreUptoRow : OpenClaim := { program := "ytffcjgelcdilcaa", sum := "02030afb791e744f46c7400567dc1bd4b5bd1e7470b5be8e963dd538af047c57", func := "affidavit/affidavitlaw04.SeriesMore", spec := "seriesMore", unfollowed := true, recurses := true, named := ["math/bits.divideError", "math/bits.overflowError"], apart := false, narrowed := true }
def SeriesMoreUptoSaid : Prop := seriesMoreUptoRow.holds Try.pinned (OpenSpec.upto seriesMoreSpec)

/-- 'affidavitlaw04.SeriesSums', WHERE WHAT IT READS IS OF BULK AT MOST 1048576: true; the input reads as it did. -/
def seriesSumsUptoRow : OpenClaim := { program := "ytffcjgelcdilcaa", sum := "02030afb791e744f46c7400567dc1bd4b5bd1e7470b5be8e963dd538af047c57", func := "affidavit/affidavitlaw04.SeriesSums", spec := "seriesSums", unfollowed := true, recurses := true, named := ["math/bits.divideError", "math/bits.overflowError"], apart := false, narrowed := true }
def SeriesSumsUptoSaid : Prop := seriesSumsUptoRow.holds Try.pinned (OpenSpec.upto seriesSumsSpec)

/-- 'affidavitlaw04.SeriesFinds', WHERE WHAT IT READS IS OF BULK AT MOST 1048576: true; the input reads as it did. -/
def seriesFindsUptoRow : OpenClaim := { program := "ytffcjgelcdilcaa", sum := "02030afb791e744f46c7400567dc1bd4b5bd1e7470b5be8e963dd538af047c57", func := "affidavit/affidavitlaw04.SeriesFinds", spec := "seriesFinds", unfollowed := true, recurses := true, named := ["math/bits.divideError", "math/bits.overflowError"], apart := false, narrowed := true }
def SeriesFindsUptoSaid : Prop := seriesFindsUptoRow.holds Try.pinned (OpenSpec.upto seriesFindsSpec)

/-- 'affidavitlaw03.PolyRoots', WHERE WHAT IT READS IS OF BULK AT MOST 1048576: true; the input reads as it did. -/
def polyRootsUptoRow : OpenClaim := { program := "ytffcjgelcdilcaa", sum := "02030afb791e744f46c7400567dc1bd4b5bd1e7470b5be8e963dd538af047c57", func := "affidavit/affidavitlaw03.PolyRoots", spec := "polyRoots", unfollowed := true, recurses := true, named := ["math/bits.divideError", "math/bits.overflowError"], apart := false, narrowed := true }
def PolyRootsUptoSaid : Prop := polyRootsUptoRow.holds Try.pinned (OpenSpec.upto polyRootsSpec)

/-- 'affidavitlaw03.PolySame', WHERE WHAT IT READS IS OF BULK AT MOST 1048576: true; the input reads as it did. -/
def polySameUptoRow : OpenClaim := { program := "ytffcjgelcdilcaa", sum := "02030afb791e744f46c7400567dc1bd4b5bd1e7470b5be8e963dd538af047c57", func := "affidavit/affidavitlaw03.PolySame", spec := "polySame", unfollowed := true, recurses := true, named := ["math/bits.divideError", "math/bits.overflowError"], apart := false, narrowed := true }
def PolySameUptoSaid : Prop := polySameUptoRow.holds Try.pinned (OpenSpec.upto polySameSpec)

/-- 'affidavitlaw03.PolyDivides', WHERE WHAT IT READS IS OF BULK AT MOST 1048576: true; the input reads as it did. -/
def polyDividesUptoRow : OpenClaim := { program := "ytffcjgelcdilcaa", sum := "02030afb791e744f46c7400567dc1bd4b5bd1e7470b5be8e963dd538af047c57", func := "affidavit/affidavitlaw03.PolyDivides", spec := "polyDivides", unfollowed := true, recurses := true, named := ["math/bits.divideError", "math/bits.overflowError"], apart := false, narrowed := true }
def PolyDividesUptoSaid : Prop := polyDividesUptoRow.holds Try.pinned (OpenSpec.upto polyDividesSpec)

/-- 'affidavitlaw03.PolyGreatest', WHERE WHAT IT READS IS OF BULK AT MOST 1048576: true; the input reads as it did. -/
def polyGreatestUptoRow : OpenClaim := { program := "ytffcjgelcdilcaa", sum := "02030afb791e744f46c7400567dc1bd4b5bd1e7470b5be8e963dd538af047c57", func := "affidavit/affidavitlaw03.PolyGreatest", spec := "polyGreatest", unfollowed := true, recurses := true, named := ["math/bits.divideError", "math/bits.overflowError"], apart := false, narrowed := true }
def PolyGreatestUptoSaid : Prop := polyGreatestUptoRow.holds Try.pinned (OpenSpec.upto polyGreatestSpec)

/-- 'affidavitlaw03.PolyPlaces', WHERE WHAT IT READS IS OF BULK AT MOST 1048576: true; the input reads as it did. -/
def polyPlacesUptoRow : OpenClaim := { program := "ytffcjgelcdilcaa", sum := "02030afb791e744f46c7400567dc1bd4b5bd1e7470b5be8e963dd538af047c57", func := "affidavit/affidavitlaw03.PolyPlaces", spec := "polyPlaces", unfollowed := true, recurses := true, named := ["math/bits.divideError", "math/bits.overflowError"], apart := false, narrowed := true }
def PolyPlacesUptoSaid : Prop := polyPlacesUptoRow.holds Try.pinned (OpenSpec.upto polyPlacesSpec)

/-- 'affidavitlaw03.PolyRing', WHERE WHAT IT READS IS OF BULK AT MOST 1048576: true; the input reads as it did. -/
def polyRingUptoRow : OpenClaim := { program := "ytffcjgelcdilcaa", sum := "02030afb791e744f46c7400567dc1bd4b5bd1e7470b5be8e963dd538af047c57", func := "affidavit/affidavitlaw03.PolyRing", spec := "polyRing", unfollowed := true, recurses := true, named := ["math/bits.divideError", "math/bits.overflowError"], apart := false, narrowed := true }
def PolyRingUptoSaid : Prop := polyRingUptoRow.holds Try.pinned (OpenSpec.upto polyRingSpec)

end Rows
end Go.Proofs.Ytffcjgelcdilcaa
