/-
  No cell of these rows narrows 'for every input' (looked for: loops, veiled, ifaces, maps, wideKeys, modest, calm, conditions, laid).
  DERIVED. THE GIVEN ROWS OF THIS SEAT. 5 by the template 'for every input the law returns true; each argument reads behind the call as it read before'; 0 by the template 'total and deterministic' (their statements: YtghkngdcmlhmeaaTotals.lean).
  GIVEN WITH THE SEED: the statements are not yours to turn. If you find one false, say at which input.
  Laid BY PROGRAM, IN A SANDBOX (cutbox-rows.mjs): the forced cells as the released guide's own fill.sh prints them over the translation 3856f7db44b54b5e… (all of the seat's roots in one cut). By AI agents, Wed Nov 11 2026. No macro, syntax, notation, axiom, sorry.
-/
import Derived.Test.YtghkngdcmlhmeaaChecked
import GoSem.Claim
import GoSem.ClaimJoined
import GoSem.ClaimMapViews
import Derived.JoinedTies
import Derived.KernelRfl
namespace Go.Proofs.Ytghkngdcmlhmeaa
/- THE CELL 'sum', in the pinned program and in every row, IS THE sha256 OF THE DUMP (.gsa) THAT YtghkngdcmlhmeaaProg.lean LOADS. Nothing in Lean hashes anything: it is a label: what it is worth is what the hold of that sum in a sandbox is worth. -/
noncomputable def Try.pinned : Pinned := { name := "ytghkngdcmlhmeaa", sum := "3856f7db44b54b5e04ab282428715ce8d2d519809e404bbbfc78244b56d37149", checked := Try.checked }
namespace Rows
def none {H : Type} : Left H := { results := [], args := [] }

/-- 'affidavitlaw20.QueueRight': WHATEVER THE INPUT: true; the input reads as it did. -/
def queueRightSpec : ChangeSpec := { name := "queueRight", fn := fun _ => fun
  | [d1, d2, d3, d4] => { results := [.lit (.bool true)], args := [d1, d2, d3, d4] }
  | _ => none }
def queueRightRow : OpenClaim := { program := "ytghkngdcmlhmeaa", sum := "3856f7db44b54b5e04ab282428715ce8d2d519809e404bbbfc78244b56d37149", func := "affidavit/affidavitlaw20.QueueRight", spec := "queueRight", inPlace := ["internal/bytealg.Compare"], unfollowed := true, recurses := true, apart := false }
def QueueRightSaid : Prop := queueRightRow.holds Try.pinned (OpenSpec.ofChange queueRightSpec)

/-- ITS FALSE NEIGHBOUR: 'it returns false'. Refute it at one input. -/
def queueRightWrong : ChangeSpec := { name := "queueRight", fn := fun _ => fun
  | [d1, d2, d3, d4] => { results := [.lit (.bool false)], args := [d1, d2, d3, d4] }
  | _ => none }
def QueueRightWrongFalsely : Prop := queueRightRow.holds Try.pinned (OpenSpec.ofChange queueRightWrong)

/-- 'affidavitlaw20.QueueOrder': WHATEVER THE INPUT: true; the input reads as it did. -/
def queueOrderSpec : ChangeSpec := { name := "queueOrder", fn := fun _ => fun
  | [d1, d2, d3] => { results := [.lit (.bool true)], args := [d1, d2, d3] }
  | _ => none }
def queueOrderRow : OpenClaim := { program := "ytghkngdcmlhmeaa", sum := "3856f7db44b54b5e04ab282428715ce8d2d519809e404bbbfc78244b56d37149", func := "affidavit/affidavitlaw20.QueueOrder", spec := "queueOrder", inPlace := ["internal/bytealg.Compare"], unfollowed := true, recurses := true, apart := false }
def QueueOrderSaid : Prop := queueOrderRow.holds Try.pinned (OpenSpec.ofChange queueOrderSpec)

/-- ITS FALSE NEIGHBOUR: 'it returns false'. Refute it at one input. -/
def queueOrderWrong : ChangeSpec := { name := "queueOrder", fn := fun _ => fun
  | [d1, d2, d3] => { results := [.lit (.bool false)], args := [d1, d2, d3] }
  | _ => none }
def QueueOrderWrongFalsely : Prop := queueOrderRow.holds Try.pinned (OpenSpec.ofChange queueOrderWrong)

/-- 'affidavitlaw20.QueueParts': WHATEVER THE INPUT: true; the input reads as it did. -/
def queuePartsSpec : ChangeSpec := { name := "queueParts", fn := fun _ => fun
  | [d1, d2, d3, d4, d5] => { results := [.lit (.bool true)], args := [d1, d2, d3, d4, d5] }
  | _ => none }
def queuePartsRow : OpenClaim := { program := "ytghkngdcmlhmeaa", sum := "3856f7db44b54b5e04ab282428715ce8d2d519809e404bbbfc78244b56d37149", func := "affidavit/affidavitlaw20.QueueParts", spec := "queueParts", inPlace := ["internal/bytealg.Compare"], unfollowed := true, recurses := true, apart := false }
def QueuePartsSaid : Prop := queuePartsRow.holds Try.pinned (OpenSpec.ofChange queuePartsSpec)

/-- ITS FALSE NEIGHBOUR: 'it returns false'. Refute it at one input. -/
def queuePartsWrong : ChangeSpec := { name := "queueParts", fn := fun _ => fun
  | [d1, d2, d3, d4, d5] => { results := [.lit (.bool false)], args := [d1, d2, d3, d4, d5] }
  | _ => none }
def QueuePartsWrongFalsely : Prop := queuePartsRow.holds Try.pinned (OpenSpec.ofChange queuePartsWrong)

/-- 'affidavitlaw21.NetFates': WHATEVER THE INPUT: true; the input reads as it did. -/
def netFatesSpec : ChangeSpec := { name := "netFates", fn := fun _ => fun
  | [d1, d2] => { results := [.lit (.bool true)], args := [d1, d2] }
  | _ => none }
def netFatesRow : OpenClaim := { program := "ytghkngdcmlhmeaa", sum := "3856f7db44b54b5e04ab282428715ce8d2d519809e404bbbfc78244b56d37149", func := "affidavit/affidavitlaw21.NetFates", spec := "netFates", unfollowed := true, recurses := true, apart := false }
def NetFatesSaid : Prop := netFatesRow.holds Try.pinned (OpenSpec.ofChange netFatesSpec)

/-- ITS FALSE NEIGHBOUR: 'it returns false'. Refute it at one input. -/
def netFatesWrong : ChangeSpec := { name := "netFates", fn := fun _ => fun
  | [d1, d2] => { results := [.lit (.bool false)], args := [d1, d2] }
  | _ => none }
def NetFatesWrongFalsely : Prop := netFatesRow.holds Try.pinned (OpenSpec.ofChange netFatesWrong)

/-- 'affidavitlaw21.NetQuiet': WHATEVER THE INPUT: true; the input reads as it did. -/
def netQuietSpec : ChangeSpec := { name := "netQuiet", fn := fun _ => fun
  | [d1, d2] => { results := [.lit (.bool true)], args := [d1, d2] }
  | _ => none }
def netQuietRow : OpenClaim := { program := "ytghkngdcmlhmeaa", sum := "3856f7db44b54b5e04ab282428715ce8d2d519809e404bbbfc78244b56d37149", func := "affidavit/affidavitlaw21.NetQuiet", spec := "netQuiet", unfollowed := true, recurses := true, apart := false }
def NetQuietSaid : Prop := netQuietRow.holds Try.pinned (OpenSpec.ofChange netQuietSpec)

/-- ITS FALSE NEIGHBOUR: 'it returns false'. Refute it at one input. -/
def netQuietWrong : ChangeSpec := { name := "netQuiet", fn := fun _ => fun
  | [d1, d2] => { results := [.lit (.bool false)], args := [d1, d2] }
  | _ => none }
def NetQuietWrongFalsely : Prop := netQuietRow.holds Try.pinned (OpenSpec.ofChange netQuietWrong)

/- THE SECOND FORM. 'bulk': how many values and letters a reading holds, each counted each time it is reached (what is shared counts as often as it is met; a slice's spare places count too). A statement '..UptoSaid' is the law's where the arguments, and the package variables that the reading takes, are together of bulk at most 1048576: NARROWER than '..Said'. Prove '..Said' where nothing that the law and all that it calls make is longer than what came in: it says more and counts as full. Else prove '..UptoSaid'. A law counts once. -/
mutual
def uptoBulk {H : Type} : DataW H → Nat
  | .lit (.string bytes) => bytes.length + 1
  | .lit _ => 1
  | .nil => 1
  | .ptr d => uptoBulk d + 1
  | .slice elems spare => uptoBulkAll elems + uptoBulkAll spare + 1
  | .agg parts => uptoBulkAll parts + 1
  | .iface _ d => uptoBulk d + 1
  | .map entries => uptoBulkEntries entries + 1
  | .held _ => 1
def uptoBulkAll {H : Type} : List (DataW H) → Nat
  | [] => 0
  | d :: r => uptoBulk d + uptoBulkAll r
def uptoBulkEntries {H : Type} : List (Lit × DataW H) → Nat
  | [] => 0
  | x :: r => uptoBulkEntry x + uptoBulkEntries r
def uptoBulkEntry {H : Type} : Lit × DataW H → Nat
  | (.string bytes, d) => bytes.length + uptoBulk d + 1
  | (_, d) => uptoBulk d + 1
 end
def uptoSmall : (H : Type) → List (DataW H) → Bool := fun _ ds => decide (uptoBulkAll ds ≤ 1048576)
def OpenSpec.upto (s : _root_.Go.ChangeSpec) : _root_.Go.OpenSpec := { _root_.Go.OpenSpec.ofChange s with cond := some uptoSmall }

/-- 'affidavitlaw20.QueueRight', WHERE WHAT IT READS IS OF BULK AT MOST 1048576: true; the input reads as it did. -/
def queueRightUptoRow : OpenClaim := { program := "ytghkngdcmlhmeaa", sum := "3856f7db44b54b5e04ab282428715ce8d2d519809e404bbbfc78244b56d37149", func := "affidavit/affidavitlaw20.QueueRight", spec := "queueRight", inPlace := ["internal/bytealg.Compare"], unfollowed := true, recurses := true, apart := false, narrowed := true }
def QueueRightUptoSaid : Prop := queueRightUptoRow.holds Try.pinned (OpenSpec.upto queueRightSpec)

/-- 'affidavitlaw20.QueueOrder', WHERE WHAT IT READS IS OF BULK AT MOST 1048576: true; the input reads as it did. -/
def queueOrderUptoRow : OpenClaim := { program := "ytghkngdcmlhmeaa", sum := "3856f7db44b54b5e04ab282428715ce8d2d519809e404bbbfc78244b56d37149", func := "affidavit/affidavitlaw20.QueueOrder", spec := "queueOrder", inPlace := ["internal/bytealg.Compare"], unfollowed := true, recurses := true, apart := false, narrowed := true }
def QueueOrderUptoSaid : Prop := queueOrderUptoRow.holds Try.pinned (OpenSpec.upto queueOrderSpec)

/-- 'affidavitlaw20.QueueParts', WHERE WHAT IT READS IS OF BULK AT MOST 1048576: true; the input reads as it did. -/
def queuePartsUptoRow : OpenClaim := { program := "ytghkngdcmlhmeaa", sum := "3856f7db44b54b5e04ab282428715ce8d2d519809e404bbbfc78244b56d37149", func := "affidavit/affidavitlaw20.QueueParts", spec := "queueParts", inPlace := ["internal/bytealg.Compare"], unfollowed := true, recurses := true, apart := false, narrowed := true }
def QueuePartsUptoSaid : Prop := queuePartsUptoRow.holds Try.pinned (OpenSpec.upto queuePartsSpec)

/-- 'affidavitlaw21.NetFates', WHERE WHAT IT READS IS OF BULK AT MOST 1048576: true; the input reads as it did. -/
def netFatesUptoRow : OpenClaim := { program := "ytghkngdcmlhmeaa", sum := "3856f7db44b54b5e04ab282428715ce8d2d519809e404bbbfc78244b56d37149", func := "affidavit/affidavitlaw21.NetFates", spec := "netFates", unfollowed := true, recurses := true, apart := false, narrowed := true }
def NetFatesUptoSaid : Prop := netFatesUptoRow.holds Try.pinned (OpenSpec.upto netFatesSpec)

/-- 'affidavitlaw21.NetQuiet', WHERE WHAT IT READS IS OF BULK AT MOST 1048576: true; the input reads as it did. -/
def netQuietUptoRow : OpenClaim := { program := "ytghkngdcmlhmeaa", sum := "3856f7db44b54b5e04ab282428715ce8d2d519809e404bbbfc78244b56d37149", func := "affidavit/affidavitlaw21.NetQuiet", spec := "netQuiet", unfollowed := true, recurses := true, apart := false, narrowed := true }
def NetQuietUptoSaid : Prop := netQuietUptoRow.holds Try.pinned (OpenSpec.upto netQuietSpec)

end Rows
end Go.Proofs.Ytghkngdcmlhmeaa
