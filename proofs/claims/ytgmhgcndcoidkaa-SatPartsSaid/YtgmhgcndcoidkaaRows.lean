/-
  No cell of these rows narrows 'for every input' (looked for: loops, veiled, ifaces, maps, wideKeys, modest, calm, conditions, laid).
  DERIVED. THE GIVEN ROWS OF THIS SEAT. 6 by the template 'for every input the law returns true; each argument reads behind the call as it read before'; 0 by the template 'total and deterministic' (their statements: YtgmhgcndcoidkaaTotals.lean).
  GIVEN WITH THE SEED: the statements are not yours to turn. If you find one false, say at which input.
  Laid BY PROGRAM, IN A SANDBOX (cutbox-rows.mjs): the forced cells as the released guide's own fill.sh prints them over the translation 8bef782e935ea4e9… (all of the seat's roots in one cut). By AI agents, Wed Nov 11 2026. No macro, syntax, notation, axiom, sorry.
-/
import Derived.Test.YtgmhgcndcoidkaaChecked
import GoSem.Claim
import GoSem.ClaimJoined
import GoSem.ClaimMapViews
import Derived.JoinedTies
import Derived.KernelRfl
namespace Go.Proofs.Ytgmhgcndcoidkaa
/- THE CELL 'sum', in the pinned program and in every row, IS THE sha256 OF THE DUMP (.gsa) THAT YtgmhgcndcoidkaaProg.lean LOADS. Nothing in Lean hashes anything: it is a label: what it is worth is what the hold of that sum in a sandbox is worth. -/
noncomputable def Try.pinned : Pinned := { name := "ytgmhgcndcoidkaa", sum := "8bef782e935ea4e9dc660534d6437394e029e7dc3dbfa8de6d86e5f3a5c8bfae", checked := Try.checked }
namespace Rows
def none {H : Type} : Left H := { results := [], args := [] }

/-- 'flywheellaw01.SatHolds': WHATEVER THE INPUT: true; the input reads as it did. -/
def satHoldsSpec : ChangeSpec := { name := "satHolds", fn := fun _ => fun
  | [d1, d2, d3] => { results := [.lit (.bool true)], args := [d1, d2, d3] }
  | _ => none }
def satHoldsRow : OpenClaim := { program := "ytgmhgcndcoidkaa", sum := "8bef782e935ea4e9dc660534d6437394e029e7dc3dbfa8de6d86e5f3a5c8bfae", func := "flywheel/flywheellaw01.SatHolds", spec := "satHolds", inPlace := ["math/bits.Add64", "math/bits.Sub64"], apart := false }
def SatHoldsSaid : Prop := satHoldsRow.holds Try.pinned (OpenSpec.ofChange satHoldsSpec)

/-- ITS FALSE NEIGHBOUR: 'it returns false'. Refute it at one input. -/
def satHoldsWrong : ChangeSpec := { name := "satHolds", fn := fun _ => fun
  | [d1, d2, d3] => { results := [.lit (.bool false)], args := [d1, d2, d3] }
  | _ => none }
def SatHoldsWrongFalsely : Prop := satHoldsRow.holds Try.pinned (OpenSpec.ofChange satHoldsWrong)

/-- 'flywheellaw01.SatSums': WHATEVER THE INPUT: true; the input reads as it did. -/
def satSumsSpec : ChangeSpec := { name := "satSums", fn := fun _ => fun
  | [d] => { results := [.lit (.bool true)], args := [d] }
  | _ => none }
def satSumsRow : OpenClaim := { program := "ytgmhgcndcoidkaa", sum := "8bef782e935ea4e9dc660534d6437394e029e7dc3dbfa8de6d86e5f3a5c8bfae", func := "flywheel/flywheellaw01.SatSums", spec := "satSums", inPlace := ["math/bits.Add64", "math/bits.Sub64"], apart := false }
def SatSumsSaid : Prop := satSumsRow.holds Try.pinned (OpenSpec.ofChange satSumsSpec)

/-- ITS FALSE NEIGHBOUR: 'it returns false'. Refute it at one input. -/
def satSumsWrong : ChangeSpec := { name := "satSums", fn := fun _ => fun
  | [d] => { results := [.lit (.bool false)], args := [d] }
  | _ => none }
def SatSumsWrongFalsely : Prop := satSumsRow.holds Try.pinned (OpenSpec.ofChange satSumsWrong)

/-- 'flywheellaw01.SatParts': WHATEVER THE INPUT: true; the input reads as it did. -/
def satPartsSpec : ChangeSpec := { name := "satParts", fn := fun _ => fun
  | [d1, d2] => { results := [.lit (.bool true)], args := [d1, d2] }
  | _ => none }
def satPartsRow : OpenClaim := { program := "ytgmhgcndcoidkaa", sum := "8bef782e935ea4e9dc660534d6437394e029e7dc3dbfa8de6d86e5f3a5c8bfae", func := "flywheel/flywheellaw01.SatParts", spec := "satParts", inPlace := ["math/bits.Add64", "math/bits.Sub64"], apart := false }
def SatPartsSaid : Prop := satPartsRow.holds Try.pinned (OpenSpec.ofChange satPartsSpec)

/-- ITS FALSE NEIGHBOUR: 'it returns false'. Refute it at one input. -/
def satPartsWrong : ChangeSpec := { name := "satParts", fn := fun _ => fun
  | [d1, d2] => { results := [.lit (.bool false)], args := [d1, d2] }
  | _ => none }
def SatPartsWrongFalsely : Prop := satPartsRow.holds Try.pinned (OpenSpec.ofChange satPartsWrong)

/-- 'flywheellaw01.SatFits': WHATEVER THE INPUT: true; the input reads as it did. -/
def satFitsSpec : ChangeSpec := { name := "satFits", fn := fun _ => fun
  | [d1, d2, d3] => { results := [.lit (.bool true)], args := [d1, d2, d3] }
  | _ => none }
def satFitsRow : OpenClaim := { program := "ytgmhgcndcoidkaa", sum := "8bef782e935ea4e9dc660534d6437394e029e7dc3dbfa8de6d86e5f3a5c8bfae", func := "flywheel/flywheellaw01.SatFits", spec := "satFits", inPlace := ["math/bits.Add64", "math/bits.Sub64"], apart := false }
def SatFitsSaid : Prop := satFitsRow.holds Try.pinned (OpenSpec.ofChange satFitsSpec)

/-- ITS FALSE NEIGHBOUR: 'it returns false'. Refute it at one input. -/
def satFitsWrong : ChangeSpec := { name := "satFits", fn := fun _ => fun
  | [d1, d2, d3] => { results := [.lit (.bool false)], args := [d1, d2, d3] }
  | _ => none }
def SatFitsWrongFalsely : Prop := satFitsRow.holds Try.pinned (OpenSpec.ofChange satFitsWrong)

/-- 'flywheellaw01.SatDoes': WHATEVER THE INPUT: true; the input reads as it did. -/
def satDoesSpec : ChangeSpec := { name := "satDoes", fn := fun _ => fun
  | [d1, d2] => { results := [.lit (.bool true)], args := [d1, d2] }
  | _ => none }
def satDoesRow : OpenClaim := { program := "ytgmhgcndcoidkaa", sum := "8bef782e935ea4e9dc660534d6437394e029e7dc3dbfa8de6d86e5f3a5c8bfae", func := "flywheel/flywheellaw01.SatDoes", spec := "satDoes", inPlace := ["math/bits.Add64", "math/bits.Sub64"], apart := false }
def SatDoesSaid : Prop := satDoesRow.holds Try.pinned (OpenSpec.ofChange satDoesSpec)

/-- ITS FALSE NEIGHBOUR: 'it returns false'. Refute it at one input. -/
def satDoesWrong : ChangeSpec := { name := "satDoes", fn := fun _ => fun
  | [d1, d2] => { results := [.lit (.bool false)], args := [d1, d2] }
  | _ => none }
def SatDoesWrongFalsely : Prop := satDoesRow.holds Try.pinned (OpenSpec.ofChange satDoesWrong)

/-- 'flywheellaw01.SatOrder': WHATEVER THE INPUT: true; the input reads as it did. -/
def satOrderSpec : ChangeSpec := { name := "satOrder", fn := fun _ => fun
  | [d1, d2, d3] => { results := [.lit (.bool true)], args := [d1, d2, d3] }
  | _ => none }
def satOrderRow : OpenClaim := { program := "ytgmhgcndcoidkaa", sum := "8bef782e935ea4e9dc660534d6437394e029e7dc3dbfa8de6d86e5f3a5c8bfae", func := "flywheel/flywheellaw01.SatOrder", spec := "satOrder", inPlace := ["math/bits.Add64", "math/bits.Sub64"], apart := false }
def SatOrderSaid : Prop := satOrderRow.holds Try.pinned (OpenSpec.ofChange satOrderSpec)

/-- ITS FALSE NEIGHBOUR: 'it returns false'. Refute it at one input. -/
def satOrderWrong : ChangeSpec := { name := "satOrder", fn := fun _ => fun
  | [d1, d2, d3] => { results := [.lit (.bool false)], args := [d1, d2, d3] }
  | _ => none }
def SatOrderWrongFalsely : Prop := satOrderRow.holds Try.pinned (OpenSpec.ofChange satOrderWrong)

/- THE SECOND FORM. 'bulk': how many values and letters a reading holds, each counted each time it is reached (what is shared counts as often as it is met; a slice's spare places count too). A statement '..UptoSaid' is the law's where the arguments, and the package variables that the reading takes, are together of bulk at most 1048576: NARROWER than '..Said'. Prove '..Said' where nothing that the law and all that it calls make is longer than what came in: it says more and counts as full. Else prove '..UptoSaid'. A law counts once. -/
mutual
def uptoBulk {H : Type} : DataW H → Nat
  | .lit (.string bytes) => bytes.length + 1
  | .lit _ => 1
  | .nil => 1
  | .ptr d => uptoBulk d + 1
  | .slice elems spare => uptoBulkAll elems + uptoBulkAll spare + 1
  | .agg parts => uptoBulkAll parts + 1
  | .iface _ d => uptoBulk d + 1
  | .map entries => uptoBulkEntries entries + 1
  | .held _ => 1
def uptoBulkAll {H : Type} : List (DataW H) → Nat
  | [] => 0
  | d :: r => uptoBulk d + uptoBulkAll r
def uptoBulkEntries {H : Type} : List (Lit × DataW H) → Nat
  | [] => 0
  | x :: r => uptoBulkEntry x + uptoBulkEntries r
def uptoBulkEntry {H : Type} : Lit × DataW H → Nat
  | (.string bytes, d) => bytes.length + uptoBulk d + 1
  | (_, d) => uptoBulk d + 1
 end
def uptoSmall : (H : Type) → List (DataW H) → Bool := fun _ ds => decide (uptoBulkAll ds ≤ 1048576)
def OpenSpec.upto (s : _root_.Go.ChangeSpec) : _root_.Go.OpenSpec := { _root_.Go.OpenSpec.ofChange s with cond := some uptoSmall }

/-- 'flywheellaw01.SatHolds', WHERE WHAT IT READS IS OF BULK AT MOST 1048576: true; the input reads as it did. -/
def satHoldsUptoRow : OpenClaim := { program := "ytgmhgcndcoidkaa", sum := "8bef782e935ea4e9dc660534d6437394e029e7dc3dbfa8de6d86e5f3a5c8bfae", func := "flywheel/flywheellaw01.SatHolds", spec := "satHolds", inPlace := ["math/bits.Add64", "math/bits.Sub64"], apart := false, narrowed := true }
def SatHoldsUptoSaid : Prop := satHoldsUptoRow.holds Try.pinned (OpenSpec.upto satHoldsSpec)

/-- 'flywheellaw01.SatSums', WHERE WHAT IT READS IS OF BULK AT MOST 1048576: true; the input reads as it did. -/
def satSumsUptoRow : OpenClaim := { program := "ytgmhgcndcoidkaa", sum := "8bef782e935ea4e9dc660534d6437394e029e7dc3dbfa8de6d86e5f3a5c8bfae", func := "flywheel/flywheellaw01.SatSums", spec := "satSums", inPlace := ["math/bits.Add64", "math/bits.Sub64"], apart := false, narrowed := true }
def SatSumsUptoSaid : Prop := satSumsUptoRow.holds Try.pinned (OpenSpec.upto satSumsSpec)

/-- 'flywheellaw01.SatParts', WHERE WHAT IT READS IS OF BULK AT MOST 1048576: true; the input reads as it did. -/
def satPartsUptoRow : OpenClaim := { program := "ytgmhgcndcoidkaa", sum := "8bef782e935ea4e9dc660534d6437394e029e7dc3dbfa8de6d86e5f3a5c8bfae", func := "flywheel/flywheellaw01.SatParts", spec := "satParts", inPlace := ["math/bits.Add64", "math/bits.Sub64"], apart := false, narrowed := true }
def SatPartsUptoSaid : Prop := satPartsUptoRow.holds Try.pinned (OpenSpec.upto satPartsSpec)

/-- 'flywheellaw01.SatFits', WHERE WHAT IT READS IS OF BULK AT MOST 1048576: true; the input reads as it did. -/
def satFitsUptoRow : OpenClaim := { program := "ytgmhgcndcoidkaa", sum := "8bef782e935ea4e9dc660534d6437394e029e7dc3dbfa8de6d86e5f3a5c8bfae", func := "flywheel/flywheellaw01.SatFits", spec := "satFits", inPlace := ["math/bits.Add64", "math/bits.Sub64"], apart := false, narrowed := true }
def SatFitsUptoSaid : Prop := satFitsUptoRow.holds Try.pinned (OpenSpec.upto satFitsSpec)

/-- 'flywheellaw01.SatDoes', WHERE WHAT IT READS IS OF BULK AT MOST 1048576: true; the input reads as it did. -/
def satDoesUptoRow : OpenClaim := { program := "ytgmhgcndcoidkaa", sum := "8bef782e935ea4e9dc660534d6437394e029e7dc3dbfa8de6d86e5f3a5c8bfae", func := "flywheel/flywheellaw01.SatDoes", spec := "satDoes", inPlace := ["math/bits.Add64", "math/bits.Sub64"], apart := false, narrowed := true }
def SatDoesUptoSaid : Prop := satDoesUptoRow.holds Try.pinned (OpenSpec.upto satDoesSpec)

/-- 'flywheellaw01.SatOrder', WHERE WHAT IT READS IS OF BULK AT MOST 1048576: true; the input reads as it did. -/
def satOrderUptoRow : OpenClaim := { program := "ytgmhgcndcoidkaa", sum := "8bef782e935ea4e9dc660534d6437394e029e7dc3dbfa8de6d86e5f3a5c8bfae", func := "flywheel/flywheellaw01.SatOrder", spec := "satOrder", inPlace := ["math/bits.Add64", "math/bits.Sub64"], apart := false, narrowed := true }
def SatOrderUptoSaid : Prop := satOrderUptoRow.holds Try.pinned (OpenSpec.upto satOrderSpec)

end Rows
end Go.Proofs.Ytgmhgcndcoidkaa
