/-
  No cell of these rows narrows 'for every input' (looked for: loops, veiled, ifaces, maps, wideKeys, modest, calm, conditions, laid).
  DERIVED. THE GIVEN ROWS OF THIS SEAT. 5 by the template 'for every input the law returns true; each argument reads behind the call as it read before'; 0 by the template 'total and deterministic' (their statements: YtmkaflfhmpddbaaTotals.lean).
  GIVEN WITH THE SEED: the statements are not yours to turn. If you find one false, say at which input.
  Laid BY PROGRAM, IN A SANDBOX (cutbox-rows.mjs): the forced cells as the released guide's own fill.sh prints them over the translation a13ccf7d1294d626… (all of the seat's roots in one cut). By AI agents, Wed Nov 11 2026. No macro, syntax, notation, axiom, sorry.
-/
import Derived.Test.YtmkaflfhmpddbaaChecked
import GoSem.Claim
import GoSem.ClaimJoined
import GoSem.ClaimMapViews
import Derived.JoinedTies
import Derived.KernelRfl
namespace Go.Proofs.Ytmkaflfhmpddbaa
/- THE CELL 'sum', in the pinned program and in every row, IS THE sha256 OF THE DUMP (.gsa) THAT YtmkaflfhmpddbaaProg.lean LOADS. Nothing in Lean hashes anything: it is a label: what it is worth is what the hold of that sum in a sandbox is worth. -/
noncomputable def Try.pinned : Pinned := { name := "ytmkaflfhmpddbaa", sum := "a13ccf7d1294d626a93cd95c36c5573d0572366608938209dba76a91003e0f72", checked := Try.checked }
namespace Rows
def none {H : Type} : Left H := { results := [], args := [] }

/-- 'flywheellaw09.CcfbEncodes': WHATEVER THE INPUT: true; the input reads as it did. -/
def ccfbEncodesSpec : ChangeSpec := { name := "ccfbEncodes", fn := fun _ => fun
  | [d] => { results := [.lit (.bool true)], args := [d] }
  | _ => none }
def ccfbEncodesRow : OpenClaim := { program := "ytmkaflfhmpddbaa", sum := "a13ccf7d1294d626a93cd95c36c5573d0572366608938209dba76a91003e0f72", func := "flywheel/flywheellaw09.CcfbEncodes", spec := "ccfbEncodes", apart := false }
def CcfbEncodesSaid : Prop := ccfbEncodesRow.holds Try.pinned (OpenSpec.ofChange ccfbEncodesSpec)

/-- ITS FALSE NEIGHBOUR: 'it returns false'. Refute it at one input. -/
def ccfbEncodesWrong : ChangeSpec := { name := "ccfbEncodes", fn := fun _ => fun
  | [d] => { results := [.lit (.bool false)], args := [d] }
  | _ => none }
def CcfbEncodesWrongFalsely : Prop := ccfbEncodesRow.holds Try.pinned (OpenSpec.ofChange ccfbEncodesWrong)

/-- 'flywheellaw09.CcfbDecodes': WHATEVER THE INPUT: true; the input reads as it did. -/
def ccfbDecodesSpec : ChangeSpec := { name := "ccfbDecodes", fn := fun _ => fun
  | [d] => { results := [.lit (.bool true)], args := [d] }
  | _ => none }
def ccfbDecodesRow : OpenClaim := { program := "ytmkaflfhmpddbaa", sum := "a13ccf7d1294d626a93cd95c36c5573d0572366608938209dba76a91003e0f72", func := "flywheel/flywheellaw09.CcfbDecodes", spec := "ccfbDecodes", apart := false }
def CcfbDecodesSaid : Prop := ccfbDecodesRow.holds Try.pinned (OpenSpec.ofChange ccfbDecodesSpec)

/-- ITS FALSE NEIGHBOUR: 'it returns false'. Refute it at one input. -/
def ccfbDecodesWrong : ChangeSpec := { name := "ccfbDecodes", fn := fun _ => fun
  | [d] => { results := [.lit (.bool false)], args := [d] }
  | _ => none }
def CcfbDecodesWrongFalsely : Prop := ccfbDecodesRow.holds Try.pinned (OpenSpec.ofChange ccfbDecodesWrong)

/-- 'flywheellaw09.CcfbBack': WHATEVER THE INPUT: true; the input reads as it did. -/
def ccfbBackSpec : ChangeSpec := { name := "ccfbBack", fn := fun _ => fun
  | [d1, d2] => { results := [.lit (.bool true)], args := [d1, d2] }
  | _ => none }
def ccfbBackRow : OpenClaim := { program := "ytmkaflfhmpddbaa", sum := "a13ccf7d1294d626a93cd95c36c5573d0572366608938209dba76a91003e0f72", func := "flywheel/flywheellaw09.CcfbBack", spec := "ccfbBack", apart := false }
def CcfbBackSaid : Prop := ccfbBackRow.holds Try.pinned (OpenSpec.ofChange ccfbBackSpec)

/-- ITS FALSE NEIGHBOUR: 'it returns false'. Refute it at one input. -/
def ccfbBackWrong : ChangeSpec := { name := "ccfbBack", fn := fun _ => fun
  | [d1, d2] => { results := [.lit (.bool false)], args := [d1, d2] }
  | _ => none }
def CcfbBackWrongFalsely : Prop := ccfbBackRow.holds Try.pinned (OpenSpec.ofChange ccfbBackWrong)

/-- 'flywheellaw09.CcfbCuts': WHATEVER THE INPUT: true; the input reads as it did. -/
def ccfbCutsSpec : ChangeSpec := { name := "ccfbCuts", fn := fun _ => fun
  | [d1, d2] => { results := [.lit (.bool true)], args := [d1, d2] }
  | _ => none }
def ccfbCutsRow : OpenClaim := { program := "ytmkaflfhmpddbaa", sum := "a13ccf7d1294d626a93cd95c36c5573d0572366608938209dba76a91003e0f72", func := "flywheel/flywheellaw09.CcfbCuts", spec := "ccfbCuts", apart := false }
def CcfbCutsSaid : Prop := ccfbCutsRow.holds Try.pinned (OpenSpec.ofChange ccfbCutsSpec)

/-- ITS FALSE NEIGHBOUR: 'it returns false'. Refute it at one input. -/
def ccfbCutsWrong : ChangeSpec := { name := "ccfbCuts", fn := fun _ => fun
  | [d1, d2] => { results := [.lit (.bool false)], args := [d1, d2] }
  | _ => none }
def CcfbCutsWrongFalsely : Prop := ccfbCutsRow.holds Try.pinned (OpenSpec.ofChange ccfbCutsWrong)

/-- 'flywheellaw09.CcfbSize': WHATEVER THE INPUT: true; the input reads as it did. -/
def ccfbSizeSpec : ChangeSpec := { name := "ccfbSize", fn := fun _ => fun
  | [d] => { results := [.lit (.bool true)], args := [d] }
  | _ => none }
def ccfbSizeRow : OpenClaim := { program := "ytmkaflfhmpddbaa", sum := "a13ccf7d1294d626a93cd95c36c5573d0572366608938209dba76a91003e0f72", func := "flywheel/flywheellaw09.CcfbSize", spec := "ccfbSize", apart := false }
def CcfbSizeSaid : Prop := ccfbSizeRow.holds Try.pinned (OpenSpec.ofChange ccfbSizeSpec)

/-- ITS FALSE NEIGHBOUR: 'it returns false'. Refute it at one input. -/
def ccfbSizeWrong : ChangeSpec := { name := "ccfbSize", fn := fun _ => fun
  | [d] => { results := [.lit (.bool false)], args := [d] }
  | _ => none }
def CcfbSizeWrongFalsely : Prop := ccfbSizeRow.holds Try.pinned (OpenSpec.ofChange ccfbSizeWrong)

/- THE SECOND FORM. 'bulk': how many values and letters a reading holds, each counted each time it is reached (what is shared counts as often as it is met; a slice's spare places count too). A statement '..UptoSaid' is the law's where the arguments, and the package variables that the reading takes, are together of bulk at most 1048576: NARROWER than '..Said'. Prove '..Said' where nothing that the law and all that it calls make is longer than what came in: it says more and counts as full. Else prove '..UptoSaid'. A law counts once. -/
mutual
def uptoBulk {H : Type} : DataW H → Nat
  | .lit (.string bytes) => bytes.length + 1
  | .lit _ => 1
  | .nil => 1
  | .ptr d => uptoBulk d + 1
  | .slice elems spare => uptoBulkAll elems + uptoBulkAll spare + 1
  | .agg parts => uptoBulkAll parts + 1
  | .iface _ d => uptoBulk d + 1
  | .map entries => uptoBulkEntries entries + 1
  | .held _ => 1
def uptoBulkAll {H : Type} : List (DataW H) → Nat
  | [] => 0
  | d :: r => uptoBulk d + uptoBulkAll r
def uptoBulkEntries {H : Type} : List (Lit × DataW H) → Nat
  | [] => 0
  | x :: r => uptoBulkEntry x + uptoBulkEntries r
def uptoBulkEntry {H : Type} : Lit × DataW H → Nat
  | (.string bytes, d) => bytes.length + uptoBulk d + 1
  | (_, d) => uptoBulk d + 1
 end
def uptoSmall : (H : Type) → List (DataW H) → Bool := fun _ ds => decide (uptoBulkAll ds ≤ 1048576)
def OpenSpec.upto (s : _root_.Go.ChangeSpec) : _root_.Go.OpenSpec := { _root_.Go.OpenSpec.ofChange s with cond := some uptoSmall }

/-- 'flywheellaw09.CcfbEncodes', WHERE WHAT IT READS IS OF BULK AT MOST 1048576: true; the input reads as it did. -/
def ccfbEncodesUptoRow : OpenClaim := { program := "ytmkaflfhmpddbaa", sum := "a13ccf7d1294d626a93cd95c36c5573d0572366608938209dba76a91003e0f72", func := "flywheel/flywheellaw09.CcfbEncodes", spec := "ccfbEncodes", apart := false, narrowed := true }
def CcfbEncodesUptoSaid : Prop := ccfbEncodesUptoRow.holds Try.pinned (OpenSpec.upto ccfbEncodesSpec)

/-- 'flywheellaw09.CcfbDecodes', WHERE WHAT IT READS IS OF BULK AT MOST 1048576: true; the input reads as it did. -/
def ccfbDecodesUptoRow : OpenClaim := { program := "ytmkaflfhmpddbaa", sum := "a13ccf7d1294d626a93cd95c36c5573d0572366608938209dba76a91003e0f72", func := "flywheel/flywheellaw09.CcfbDecodes", spec := "ccfbDecodes", apart := false, narrowed := true }
def CcfbDecodesUptoSaid : Prop := ccfbDecodesUptoRow.holds Try.pinned (OpenSpec.upto ccfbDecodesSpec)

/-- 'flywheellaw09.CcfbBack', WHERE WHAT IT READS IS OF BULK AT MOST 1048576: true; the input reads as it did. -/
def ccfbBackUptoRow : OpenClaim := { program := "ytmkaflfhmpddbaa", sum := "a13ccf7d1294d626a93cd95c36c5573d0572366608938209dba76a91003e0f72", func := "flywheel/flywheellaw09.CcfbBack", spec := "ccfbBack", apart := false, narrowed := true }
def CcfbBackUptoSaid : Prop := ccfbBackUptoRow.holds Try.pinned (OpenSpec.upto ccfbBackSpec)

/-- 'flywheellaw09.CcfbCuts', WHERE WHAT IT READS IS OF BULK AT MOST 1048576: true; the input reads as it did. -/
def ccfbCutsUptoRow : OpenClaim := { program := "ytmkaflfhmpddbaa", sum := "a13ccf7d1294d626a93cd95c36c5573d0572366608938209dba76a91003e0f72", func := "flywheel/flywheellaw09.CcfbCuts", spec := "ccfbCuts", apart := false, narrowed := true }
def CcfbCutsUptoSaid : Prop := ccfbCutsUptoRow.holds Try.pinned (OpenSpec.upto ccfbCutsSpec)

/-- 'flywheellaw09.CcfbSize', WHERE WHAT IT READS IS OF BULK AT MOST 1048576: true; the input reads as it did. -/
def ccfbSizeUptoRow : OpenClaim := { program := "ytmkaflfhmpddbaa", sum := "a13ccf7d1294d626a93cd95c36c5573d0572366608938209dba76a91003e0f72", func := "flywheel/flywheellaw09.CcfbSize", spec := "ccfbSize", apart := false, narrowed := true }
def CcfbSizeUptoSaid : Prop := ccfbSizeUptoRow.holds Try.pinned (OpenSpec.upto ccfbSizeSpec)

end Rows
end Go.Proofs.Ytmkaflfhmpddbaa
