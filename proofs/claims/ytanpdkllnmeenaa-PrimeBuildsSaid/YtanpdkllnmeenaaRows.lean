/-
  No cell of these rows narrows 'for every input' (looked for: loops, veiled, ifaces, maps, wideKeys, modest, calm, conditions, laid).
  DERIVED. THE GIVEN ROWS OF THIS SEAT. 6 by the template 'for every input the law returns true; each argument reads behind the call as it read before'; 0 by the template 'total and deterministic' (their statements: YtanpdkllnmeenaaTotals.lean).
  GIVEN WITH THE SEED: the statements are not yours to turn. If you find one false, say at which input.
  Laid BY PROGRAM, IN A SANDBOX (cutbox-rows.mjs): the forced cells as the released guide's own fill.sh prints them over the translation 8358b4629a37fc53… (all of the seat's roots in one cut). By AI agents, Wed Nov 11 2026. No macro, syntax, notation, axiom, sorry.
-/
import Derived.Test.YtanpdkllnmeenaaChecked
import GoSem.Claim
import GoSem.ClaimJoined
import GoSem.ClaimMapViews
import Derived.JoinedTies
import Derived.KernelRfl
namespace Go.Proofs.Ytanpdkllnmeenaa
/- THE CELL 'sum', in the pinned program and in every row, IS THE sha256 OF THE DUMP (.gsa) THAT YtanpdkllnmeenaaProg.lean LOADS. Nothing in Lean hashes anything: it is a label: what it is worth is what the hold of that sum in a sandbox is worth. -/
noncomputable def Try.pinned : Pinned := { name := "ytanpdkllnmeenaa", sum := "8358b4629a37fc53455410677b6362b8d878f0315e6d6e9b0dd74bce9316292b", checked := Try.checked }
namespace Rows
def none {H : Type} : Left H := { results := [], args := [] }

/-- 'affidavitlaw02.PrimeRight': WHATEVER THE INPUT: true; the input reads as it did. -/
def primeRightSpec : ChangeSpec := { name := "primeRight", fn := fun _ => fun
  | [d1, d2] => { results := [.lit (.bool true)], args := [d1, d2] }
  | _ => none }
def primeRightRow : OpenClaim := { program := "ytanpdkllnmeenaa", sum := "8358b4629a37fc53455410677b6362b8d878f0315e6d6e9b0dd74bce9316292b", func := "affidavit/affidavitlaw02.PrimeRight", spec := "primeRight", unfollowed := true, recurses := true, named := ["math/bits.divideError", "math/bits.overflowError"], apart := false }
def PrimeRightSaid : Prop := primeRightRow.holds Try.pinned (OpenSpec.ofChange primeRightSpec)

/-- ITS FALSE NEIGHBOUR: 'it returns false'. Refute it at one input. -/
def primeRightWrong : ChangeSpec := { name := "primeRight", fn := fun _ => fun
  | [d1, d2] => { results := [.lit (.bool false)], args := [d1, d2] }
  | _ => none }
def PrimeRightWrongFalsely : Prop := primeRightRow.holds Try.pinned (OpenSpec.ofChange primeRightWrong)

/-- 'affidavitlaw02.PrimeParts': WHATEVER THE INPUT: true; the input reads as it did. -/
def primePartsSpec : ChangeSpec := { name := "primeParts", fn := fun _ => fun
  | [d1, d2] => { results := [.lit (.bool true)], args := [d1, d2] }
  | _ => none }
def primePartsRow : OpenClaim := { program := "ytanpdkllnmeenaa", sum := "8358b4629a37fc53455410677b6362b8d878f0315e6d6e9b0dd74bce9316292b", func := "affidavit/affidavitlaw02.PrimeParts", spec := "primeParts", unfollowed := true, recurses := true, named := ["math/bits.divideError", "math/bits.overflowError"], apart := false }
def PrimePartsSaid : Prop := primePartsRow.holds Try.pinned (OpenSpec.ofChange primePartsSpec)

/-- ITS FALSE NEIGHBOUR: 'it returns false'. Refute it at one input. -/
def primePartsWrong : ChangeSpec := { name := "primeParts", fn := fun _ => fun
  | [d1, d2] => { results := [.lit (.bool false)], args := [d1, d2] }
  | _ => none }
def PrimePartsWrongFalsely : Prop := primePartsRow.holds Try.pinned (OpenSpec.ofChange primePartsWrong)

/-- 'affidavitlaw02.PrimeBuilds': WHATEVER THE INPUT: true; the input reads as it did. -/
def primeBuildsSpec : ChangeSpec := { name := "primeBuilds", fn := fun _ => fun
  | [d] => { results := [.lit (.bool true)], args := [d] }
  | _ => none }
def primeBuildsRow : OpenClaim := { program := "ytanpdkllnmeenaa", sum := "8358b4629a37fc53455410677b6362b8d878f0315e6d6e9b0dd74bce9316292b", func := "affidavit/affidavitlaw02.PrimeBuilds", spec := "primeBuilds", unfollowed := true, recurses := true, named := ["math/bits.divideError", "math/bits.overflowError"], apart := false }
def PrimeBuildsSaid : Prop := primeBuildsRow.holds Try.pinned (OpenSpec.ofChange primeBuildsSpec)

/-- ITS FALSE NEIGHBOUR: 'it returns false'. Refute it at one input. -/
def primeBuildsWrong : ChangeSpec := { name := "primeBuilds", fn := fun _ => fun
  | [d] => { results := [.lit (.bool false)], args := [d] }
  | _ => none }
def PrimeBuildsWrongFalsely : Prop := primeBuildsRow.holds Try.pinned (OpenSpec.ofChange primeBuildsWrong)

/-- 'affidavitlaw02.PrimeCut': WHATEVER THE INPUT: true; the input reads as it did. -/
def primeCutSpec : ChangeSpec := { name := "primeCut", fn := fun _ => fun
  | [d1, d2] => { results := [.lit (.bool true)], args := [d1, d2] }
  | _ => none }
def primeCutRow : OpenClaim := { program := "ytanpdkllnmeenaa", sum := "8358b4629a37fc53455410677b6362b8d878f0315e6d6e9b0dd74bce9316292b", func := "affidavit/affidavitlaw02.PrimeCut", spec := "primeCut", unfollowed := true, recurses := true, named := ["math/bits.divideError", "math/bits.overflowError"], apart := false }
def PrimeCutSaid : Prop := primeCutRow.holds Try.pinned (OpenSpec.ofChange primeCutSpec)

/-- ITS FALSE NEIGHBOUR: 'it returns false'. Refute it at one input. -/
def primeCutWrong : ChangeSpec := { name := "primeCut", fn := fun _ => fun
  | [d1, d2] => { results := [.lit (.bool false)], args := [d1, d2] }
  | _ => none }
def PrimeCutWrongFalsely : Prop := primeCutRow.holds Try.pinned (OpenSpec.ofChange primeCutWrong)

/-- 'affidavitlaw02.PrimePowers': WHATEVER THE INPUT: true; the input reads as it did. -/
def primePowersSpec : ChangeSpec := { name := "primePowers", fn := fun _ => fun
  | [d] => { results := [.lit (.bool true)], args := [d] }
  | _ => none }
def primePowersRow : OpenClaim := { program := "ytanpdkllnmeenaa", sum := "8358b4629a37fc53455410677b6362b8d878f0315e6d6e9b0dd74bce9316292b", func := "affidavit/affidavitlaw02.PrimePowers", spec := "primePowers", unfollowed := true, recurses := true, named := ["math/bits.divideError", "math/bits.overflowError"], apart := false }
def PrimePowersSaid : Prop := primePowersRow.holds Try.pinned (OpenSpec.ofChange primePowersSpec)

/-- ITS FALSE NEIGHBOUR: 'it returns false'. Refute it at one input. -/
def primePowersWrong : ChangeSpec := { name := "primePowers", fn := fun _ => fun
  | [d] => { results := [.lit (.bool false)], args := [d] }
  | _ => none }
def PrimePowersWrongFalsely : Prop := primePowersRow.holds Try.pinned (OpenSpec.ofChange primePowersWrong)

/-- 'affidavitlaw02.PrimeShown': WHATEVER THE INPUT: true; the input reads as it did. -/
def primeShownSpec : ChangeSpec := { name := "primeShown", fn := fun _ => fun
  | [d1, d2] => { results := [.lit (.bool true)], args := [d1, d2] }
  | _ => none }
def primeShownRow : OpenClaim := { program := "ytanpdkllnmeenaa", sum := "8358b4629a37fc53455410677b6362b8d878f0315e6d6e9b0dd74bce9316292b", func := "affidavit/affidavitlaw02.PrimeShown", spec := "primeShown", unfollowed := true, recurses := true, named := ["math/bits.divideError", "math/bits.overflowError"], apart := false }
def PrimeShownSaid : Prop := primeShownRow.holds Try.pinned (OpenSpec.ofChange primeShownSpec)

/-- ITS FALSE NEIGHBOUR: 'it returns false'. Refute it at one input. -/
def primeShownWrong : ChangeSpec := { name := "primeShown", fn := fun _ => fun
  | [d1, d2] => { results := [.lit (.bool false)], args := [d1, d2] }
  | _ => none }
def PrimeShownWrongFalsely : Prop := primeShownRow.holds Try.pinned (OpenSpec.ofChange primeShownWrong)

/- THE SECOND FORM. 'bulk': how many values and letters a reading holds, each counted each time it is reached (what is shared counts as often as it is met; a slice's spare places count too). A statement '..UptoSaid' is the law's where the arguments, and the package variables that the reading takes, are together of bulk at most 1048576: NARROWER than '..Said'. Prove '..Said' where nothing that the law and all that it calls make is longer than what came in: it says more and counts as full. Else prove '..UptoSaid'. A law counts once. -/
mutual
def uptoBulk {H : Type} : DataW H → Nat
  | .lit (.string bytes) => bytes.length + 1
  | .lit _ => 1
  | .nil => 1
  | .ptr d => uptoBulk d + 1
  | .slice elems spare => uptoBulkAll elems + uptoBulkAll spare + 1
  | .agg parts => uptoBulkAll parts + 1
  | .iface _ d => uptoBulk d + 1
  | .map entries => uptoBulkEntries entries + 1
  | .held _ => 1
def uptoBulkAll {H : Type} : List (DataW H) → Nat
  | [] => 0
  | d :: r => uptoBulk d + uptoBulkAll r
def uptoBulkEntries {H : Type} : List (Lit × DataW H) → Nat
  | [] => 0
  | x :: r => uptoBulkEntry x + uptoBulkEntries r
def uptoBulkEntry {H : Type} : Lit × DataW H → Nat
  | (.string bytes, d) => bytes.length + uptoBulk d + 1
  | (_, d) => uptoBulk d + 1
 end
def uptoSmall : (H : Type) → List (DataW H) → Bool := fun _ ds => decide (uptoBulkAll ds ≤ 1048576)
def OpenSpec.upto (s : _root_.Go.ChangeSpec) : _root_.Go.OpenSpec := { _root_.Go.OpenSpec.ofChange s with cond := some uptoSmall }

/-- 'affidavitlaw02.PrimeRight', WHERE WHAT IT READS IS OF BULK AT MOST 1048576: true; the input reads as it did. -/
def primeRightUptoRow : OpenClaim := { program := "ytanpdkllnmeenaa", sum := "8358b4629a37fc53455410677b6362b8d878f0315e6d6e9b0dd74bce9316292b", func := "affidavit/affidavitlaw02.PrimeRight", spec := "primeRight", unfollowed := true, recurses := true, named := ["math/bits.divideError", "math/bits.overflowError"], apart := false, narrowed := true }
def PrimeRightUptoSaid : Prop := primeRightUptoRow.holds Try.pinned (OpenSpec.upto primeRightSpec)

/-- 'affidavitlaw02.PrimeParts', WHERE WHAT IT READS IS OF BULK AT MOST 1048576: true; the input reads as it did. -/
def primePartsUptoRow : OpenClaim := { program := "ytanpdkllnmeenaa", sum := "8358b4629a37fc53455410677b6362b8d878f0315e6d6e9b0dd74bce9316292b", func := "affidavit/affidavitlaw02.PrimeParts", spec := "primeParts", unfollowed := true, recurses := true, named := ["math/bits.divideError", "math/bits.overflowError"], apart := false, narrowed := true }
def PrimePartsUptoSaid : Prop := primePartsUptoRow.holds Try.pinned (OpenSpec.upto primePartsSpec)

/-- 'affidavitlaw02.PrimeBuilds', WHERE WHAT IT READS IS OF BULK AT MOST 1048576: true; the input reads as it did. -/
def primeBuildsUptoRow : OpenClaim := { program := "ytanpdkllnmeenaa", sum := "8358b4629a37fc53455410677b6362b8d878f0315e6d6e9b0dd74bce9316292b", func := "affidavit/affidavitlaw02.PrimeBuilds", spec := "primeBuilds", unfollowed := true, recurses := true, named := ["math/bits.divideError", "math/bits.overflowError"], apart := false, narrowed := true }
def PrimeBuildsUptoSaid : Prop := primeBuildsUptoRow.holds Try.pinned (OpenSpec.upto primeBuildsSpec)

/-- 'affidavitlaw02.PrimeCut', WHERE WHAT IT READS IS OF BULK AT MOST 1048576: true; the input reads as it did. -/
def primeCutUptoRow : OpenClaim := { program := "ytanpdkllnmeenaa", sum := "8358b4629a37fc53455410677b6362b8d878f0315e6d6e9b0dd74bce9316292b", func := "affidavit/affidavitlaw02.PrimeCut", spec := "primeCut", unfollowed := true, recurses := true, named := ["math/bits.divideError", "math/bits.overflowError"], apart := false, narrowed := true }
def PrimeCutUptoSaid : Prop := primeCutUptoRow.holds Try.pinned (OpenSpec.upto primeCutSpec)

/-- 'affidavitlaw02.PrimePowers', WHERE WHAT IT READS IS OF BULK AT MOST 1048576: true; the input reads as it did. -/
def primePowersUptoRow : OpenClaim := { program := "ytanpdkllnmeenaa", sum := "8358b4629a37fc53455410677b6362b8d878f0315e6d6e9b0dd74bce9316292b", func := "affidavit/affidavitlaw02.PrimePowers", spec := "primePowers", unfollowed := true, recurses := true, named := ["math/bits.divideError", "math/bits.overflowError"], apart := false, narrowed := true }
def PrimePowersUptoSaid : Prop := primePowersUptoRow.holds Try.pinned (OpenSpec.upto primePowersSpec)

/-- 'affidavitlaw02.PrimeShown', WHERE WHAT IT READS IS OF BULK AT MOST 1048576: true; the input reads as it did. -/
def primeShownUptoRow : OpenClaim := { program := "ytanpdkllnmeenaa", sum := "8358b4629a37fc53455410677b6362b8d878f0315e6d6e9b0dd74bce9316292b", func := "affidavit/affidavitlaw02.PrimeShown", spec := "primeShown", unfollowed := true, recurses := true, named := ["math/bits.divideError", "math/bits.overflowError"], apart := false, narrowed := true }
def PrimeShownUptoSaid : Prop := primeShownUptoRow.holds Try.pinned (OpenSpec.upto primeShownSpec)

end Rows
end Go.Proofs.Ytanpdkllnmeenaa
