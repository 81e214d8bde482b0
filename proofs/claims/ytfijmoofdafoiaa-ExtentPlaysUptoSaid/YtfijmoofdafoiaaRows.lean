/-
  No cell of these rows narrows 'for every input' (looked for: loops, veiled, ifaces, maps, wideKeys, modest, calm, conditions, laid).
  DERIVED. THE GIVEN ROWS OF THIS SEAT. 4 by the template 'for every input the law returns true; each argument reads behind the call as it read before'; 0 by the template 'total and deterministic' (their statements: YtfijmoofdafoiaaTotals.lean).
  GIVEN WITH THE SEED: the statements are not yours to turn. If you find one false, say at which input.
  Laid BY PROGRAM, IN A SANDBOX (cutbox-rows.mjs): the forced cells as the released guide's own fill.sh prints them over the translation c8398935f1ca2417… (all of the seat's roots in one cut). By AI agents, Wed Nov 11 2026. No macro, syntax, notation, axiom, sorry.
-/
import Derived.Test.YtfijmoofdafoiaaChecked
import GoSem.Claim
import GoSem.ClaimJoined
import GoSem.ClaimMapViews
import Derived.JoinedTies
import Derived.KernelRfl
namespace Go.Proofs.Ytfijmoofdafoiaa
/- THE CELL 'sum', in the pinned program and in every row, IS THE sha256 OF THE DUMP (.gsa) THAT YtfijmoofdafoiaaProg.lean LOADS. Nothing in Lean hashes anything: it is a label: what it is worth is what the hold of that sum in a sandbox is worth. -/
noncomputable def Try.pinned : Pinned := { name := "ytfijmoofdafoiaa", sum := "c8398935f1ca24172df9ef34c2de9590b728f0538f8688ce43cde497c64107cd", checked := Try.checked }
namespace Rows
def none {H : Type} : Left H := { results := [], args := [] }

/-- 'amberlaw10.ExtentWalls': WHATEVER THE INPUT: true; the input reads as it did. -/
def extentWallsSpec : ChangeSpec := { name := "extentWalls", fn := fun _ => fun
  | [d1, d2, d3] => { results := [.lit (.bool true)], args := [d1, d2, d3] }
  | _ => none }
def extentWallsRow : OpenClaim := { program := "ytfijmoofdafoiaa", sum := "c8398935f1ca24172df9ef34c2de9590b728f0538f8688ce43cde497c64107cd", func := "amber/amberlaw10.ExtentWalls", spec := "extentWalls", unfollowed := true, recurses := true, apart := false }
def ExtentWallsSaid : Prop := extentWallsRow.holds Try.pinned (OpenSpec.ofChange extentWallsSpec)

/-- ITS FALSE NEIGHBOUR: 'it returns false'. Refute it at one input. -/
def extentWallsWrong : ChangeSpec := { name := "extentWalls", fn := fun _ => fun
  | [d1, d2, d3] => { results := [.lit (.bool false)], args := [d1, d2, d3] }
  | _ => none }
def ExtentWallsWrongFalsely : Prop := extentWallsRow.holds Try.pinned (OpenSpec.ofChange extentWallsWrong)

/-- 'amberlaw10.ExtentApart': WHATEVER THE INPUT: true; the input reads as it did. -/
def extentApartSpec : ChangeSpec := { name := "extentApart", fn := fun _ => fun
  | [d1, d2, d3] => { results := [.lit (.bool true)], args := [d1, d2, d3] }
  | _ => none }
def extentApartRow : OpenClaim := { program := "ytfijmoofdafoiaa", sum := "c8398935f1ca24172df9ef34c2de9590b728f0538f8688ce43cde497c64107cd", func := "amber/amberlaw10.ExtentApart", spec := "extentApart", unfollowed := true, recurses := true, apart := false }
def ExtentApartSaid : Prop := extentApartRow.holds Try.pinned (OpenSpec.ofChange extentApartSpec)

/-- ITS FALSE NEIGHBOUR: 'it returns false'. Refute it at one input. -/
def extentApartWrong : ChangeSpec := { name := "extentApart", fn := fun _ => fun
  | [d1, d2, d3] => { results := [.lit (.bool false)], args := [d1, d2, d3] }
  | _ => none }
def ExtentApartWrongFalsely : Prop := extentApartRow.holds Try.pinned (OpenSpec.ofChange extentApartWrong)

/-- 'amberlaw10.ExtentQuiet': WHATEVER THE INPUT: true; the input reads as it did. -/
def extentQuietSpec : ChangeSpec := { name := "extentQuiet", fn := fun _ => fun
  | [d1, d2, d3] => { results := [.lit (.bool true)], args := [d1, d2, d3] }
  | _ => none }
def extentQuietRow : OpenClaim := { program := "ytfijmoofdafoiaa", sum := "c8398935f1ca24172df9ef34c2de9590b728f0538f8688ce43cde497c64107cd", func := "amber/amberlaw10.ExtentQuiet", spec := "extentQuiet", unfollowed := true, recurses := true, apart := false }
def ExtentQuietSaid : Prop := extentQuietRow.holds Try.pinned (OpenSpec.ofChange extentQuietSpec)

/-- ITS FALSE NEIGHBOUR: 'it returns false'. Refute it at one input. -/
def extentQuietWrong : ChangeSpec := { name := "extentQuiet", fn := fun _ => fun
  | [d1, d2, d3] => { results := [.lit (.bool false)], args := [d1, d2, d3] }
  | _ => none }
def ExtentQuietWrongFalsely : Prop := extentQuietRow.holds Try.pinned (OpenSpec.ofChange extentQuietWrong)

/-- 'amberlaw10.ExtentPlays': WHATEVER THE INPUT: true; the input reads as it did. -/
def extentPlaysSpec : ChangeSpec := { name := "extentPlays", fn := fun _ => fun
  | [d] => { results := [.lit (.bool true)], args := [d] }
  | _ => none }
def extentPlaysRow : OpenClaim := { program := "ytfijmoofdafoiaa", sum := "c8398935f1ca24172df9ef34c2de9590b728f0538f8688ce43cde497c64107cd", func := "amber/amberlaw10.ExtentPlays", spec := "extentPlays", unfollowed := true, recurses := true, apart := false }
def ExtentPlaysSaid : Prop := extentPlaysRow.holds Try.pinned (OpenSpec.ofChange extentPlaysSpec)

/-- ITS FALSE NEIGHBOUR: 'it returns false'. Refute it at one input. -/
def extentPlaysWrong : ChangeSpec := { name := "extentPlays", fn := fun _ => fun
  | [d] => { results := [.lit (.bool false)], args := [d] }
  | _ => none }
def ExtentPlaysWrongFalsely : Prop := extentPlaysRow.holds Try.pinned (OpenSpec.ofChange extentPlaysWrong)

/- THE SECOND FORM. 'bulk': how many values and letters a reading holds, each counted each time it is reached (what is shared counts as often as it is met; a slice's spare places count too). A statement '..UptoSaid' is the law's where the arguments, and the package variables that the reading takes, are together of bulk at most 1048576: NARROWER than '..Said'. Prove '..Said' where nothing that the law and all that it calls make is longer than what came in: it says more and counts as full. Else prove '..UptoSaid'. A law counts once. -/
mutual
def uptoBulk {H : Type} : DataW H → Nat
  | .lit (.string bytes) => bytes.length + 1
  | .lit _ => 1
  | .nil => 1
  | .ptr d => uptoBulk d + 1
  | .slice elems spare => uptoBulkAll elems + uptoBulkAll spare + 1
  | .agg parts => uptoBulkAll parts + 1
  | .iface _ d => uptoBulk d + 1
  | .map entries => uptoBulkEntries entries + 1
  | .held _ => 1
def uptoBulkAll {H : Type} : List (DataW H) → Nat
  | [] => 0
  | d :: r => uptoBulk d + uptoBulkAll r
def uptoBulkEntries {H : Type} : List (Lit × DataW H) → Nat
  | [] => 0
  | x :: r => uptoBulkEntry x + uptoBulkEntries r
def uptoBulkEntry {H : Type} : Lit × DataW H → Nat
  | (.string bytes, d) => bytes.length + uptoBulk d + 1
  | (_, d) => uptoBulk d + 1
 end
def uptoSmall : (H : Type) → List (DataW H) → Bool := fun _ ds => decide (uptoBulkAll ds ≤ 1048576)
def OpenSpec.upto (s : _root_.Go.ChangeSpec) : _root_.Go.OpenSpec := { _root_.Go.OpenSpec.ofChange s with cond := some uptoSmall }

/-- 'amberlaw10.ExtentWalls', WHERE WHAT IT READS IS OF BULK AT MOST 1048576: true; the input reads as it did. -/
def extentWallsUptoRow : OpenClaim := { program := "ytfijmoofdafoiaa", sum := "c8398935f1ca24172df9ef34c2de9590b728f0538f8688ce43cde497c64107cd", func := "amber/amberlaw10.ExtentWalls", spec := "extentWalls", unfollowed := true, recurses := true, apart := false, narrowed := true }
def ExtentWallsUptoSaid : Prop := extentWallsUptoRow.holds Try.pinned (OpenSpec.upto extentWallsSpec)

/-- 'amberlaw10.ExtentApart', WHERE WHAT IT READS IS OF BULK AT MOST 1048576: true; the input reads as it did. -/
def extentApartUptoRow : OpenClaim := { program := "ytfijmoofdafoiaa", sum := "c8398935f1ca24172df9ef34c2de9590b728f0538f8688ce43cde497c64107cd", func := "amber/amberlaw10.ExtentApart", spec := "extentApart", unfollowed := true, recurses := true, apart := false, narrowed := true }
def ExtentApartUptoSaid : Prop := extentApartUptoRow.holds Try.pinned (OpenSpec.upto extentApartSpec)

/-- 'amberlaw10.ExtentQuiet', WHERE WHAT IT READS IS OF BULK AT MOST 1048576: true; the input reads as it did. -/
def extentQuietUptoRow : OpenClaim := { program := "ytfijmoofdafoiaa", sum := "c8398935f1ca24172df9ef34c2de9590b728f0538f8688ce43cde497c64107cd", func := "amber/amberlaw10.ExtentQuiet", spec := "extentQuiet", unfollowed := true, recurses := true, apart := false, narrowed := true }
def ExtentQuietUptoSaid : Prop := extentQuietUptoRow.holds Try.pinned (OpenSpec.upto extentQuietSpec)

/-- 'amberlaw10.ExtentPlays', WHERE WHAT IT READS IS OF BULK AT MOST 1048576: true; the input reads as it did. -/
def extentPlaysUptoRow : OpenClaim := { program := "ytfijmoofdafoiaa", sum := "c8398935f1ca24172df9ef34c2de9590b728f0538f8688ce43cde497c64107cd", func := "amber/amberlaw10.ExtentPlays", spec := "extentPlays", unfollowed := true, recurses := true, apart := false, narrowed := true }
def ExtentPlaysUptoSaid : Prop := extentPlaysUptoRow.holds Try.pinned (OpenSpec.upto extentPlaysSpec)

end Rows
end Go.Proofs.Ytfijmoofdafoiaa
