/-
  No cell of these rows narrows 'for every input' (looked for: loops, veiled, ifaces, maps, wideKeys, modest, calm, conditions, laid).
  DERIVED. THE GIVEN ROWS OF THIS SEAT. 5 by the template 'for every input the law returns true; each argument reads behind the call as it read before'; 0 by the template 'total and deterministic' (their statements: YtmedlplgeeeodaaTotals.lean).
  GIVEN WITH THE SEED: the statements are not yours to turn. If you find one false, say at which input.
  Laid BY PROGRAM, IN A SANDBOX (cutbox-rows.mjs): the forced cells as the released guide's own fill.sh prints them over the translation b3651a90f74dc142… (all of the seat's roots in one cut). By AI agents, Wed Nov 11 2026. No macro, syntax, notation, axiom, sorry.
-/
import Derived.Test.YtmedlplgeeeodaaChecked
import GoSem.Claim
import GoSem.ClaimJoined
import GoSem.ClaimMapViews
import Derived.JoinedTies
import Derived.KernelRfl
namespace Go.Proofs.Ytmedlplgeeeodaa
/- THE CELL 'sum', in the pinned program and in every row, IS THE sha256 OF THE DUMP (.gsa) THAT YtmedlplgeeeodaaProg.lean LOADS. Nothing in Lean hashes anything: it is a label: what it is worth is what the hold of that sum in a sandbox is worth. -/
noncomputable def Try.pinned : Pinned := { name := "ytmedlplgeeeodaa", sum := "b3651a90f74dc1425310842551f16588382f0ae6edabd0c26ddda44ed7d94450", checked := Try.checked }
namespace Rows
def none {H : Type} : Left H := { results := [], args := [] }

/-- 'flywheellaw10.TwccEncodes': WHATEVER THE INPUT: true; the input reads as it did. -/
def twccEncodesSpec : ChangeSpec := { name := "twccEncodes", fn := fun _ => fun
  | [d] => { results := [.lit (.bool true)], args := [d] }
  | _ => none }
def twccEncodesRow : OpenClaim := { program := "ytmedlplgeeeodaa", sum := "b3651a90f74dc1425310842551f16588382f0ae6edabd0c26ddda44ed7d94450", func := "flywheel/flywheellaw10.TwccEncodes", spec := "twccEncodes", unfollowed := true, recurses := true, apart := false }
def TwccEncodesSaid : Prop := twccEncodesRow.holds Try.pinned (OpenSpec.ofChange twccEncodesSpec)

/-- ITS FALSE NEIGHBOUR: 'it returns false'. Refute it at one input. -/
def twccEncodesWrong : ChangeSpec := { name := "twccEncodes", fn := fun _ => fun
  | [d] => { results := [.lit (.bool false)], args := [d] }
  | _ => none }
def TwccEncodesWrongFalsely : Prop := twccEncodesRow.holds Try.pinned (OpenSpec.ofChange twccEncodesWrong)

/-- 'flywheellaw10.TwccDecodes': WHATEVER THE INPUT: true; the input reads as it did. -/
def twccDecodesSpec : ChangeSpec := { name := "twccDecodes", fn := fun _ => fun
  | [d] => { results := [.lit (.bool true)], args := [d] }
  | _ => none }
def twccDecodesRow : OpenClaim := { program := "ytmedlplgeeeodaa", sum := "b3651a90f74dc1425310842551f16588382f0ae6edabd0c26ddda44ed7d94450", func := "flywheel/flywheellaw10.TwccDecodes", spec := "twccDecodes", unfollowed := true, recurses := true, apart := false }
def TwccDecodesSaid : Prop := twccDecodesRow.holds Try.pinned (OpenSpec.ofChange twccDecodesSpec)

/-- ITS FALSE NEIGHBOUR: 'it returns false'. Refute it at one input. -/
def twccDecodesWrong : ChangeSpec := { name := "twccDecodes", fn := fun _ => fun
  | [d] => { results := [.lit (.bool false)], args := [d] }
  | _ => none }
def TwccDecodesWrongFalsely : Prop := twccDecodesRow.holds Try.pinned (OpenSpec.ofChange twccDecodesWrong)

/-- 'flywheellaw10.TwccBack': WHATEVER THE INPUT: true; the input reads as it did. -/
def twccBackSpec : ChangeSpec := { name := "twccBack", fn := fun _ => fun
  | [d1, d2] => { results := [.lit (.bool true)], args := [d1, d2] }
  | _ => none }
def twccBackRow : OpenClaim := { program := "ytmedlplgeeeodaa", sum := "b3651a90f74dc1425310842551f16588382f0ae6edabd0c26ddda44ed7d94450", func := "flywheel/flywheellaw10.TwccBack", spec := "twccBack", unfollowed := true, recurses := true, apart := false }
def TwccBackSaid : Prop := twccBackRow.holds Try.pinned (OpenSpec.ofChange twccBackSpec)

/-- ITS FALSE NEIGHBOUR: 'it returns false'. Refute it at one input. -/
def twccBackWrong : ChangeSpec := { name := "twccBack", fn := fun _ => fun
  | [d1, d2] => { results := [.lit (.bool false)], args := [d1, d2] }
  | _ => none }
def TwccBackWrongFalsely : Prop := twccBackRow.holds Try.pinned (OpenSpec.ofChange twccBackWrong)

/-- 'flywheellaw10.TwccSmall': WHATEVER THE INPUT: true; the input reads as it did. -/
def twccSmallSpec : ChangeSpec := { name := "twccSmall", fn := fun _ => fun
  | [d1, d2, d3] => { results := [.lit (.bool true)], args := [d1, d2, d3] }
  | _ => none }
def twccSmallRow : OpenClaim := { program := "ytmedlplgeeeodaa", sum := "b3651a90f74dc1425310842551f16588382f0ae6edabd0c26ddda44ed7d94450", func := "flywheel/flywheellaw10.TwccSmall", spec := "twccSmall", unfollowed := true, recurses := true, apart := false }
def TwccSmallSaid : Prop := twccSmallRow.holds Try.pinned (OpenSpec.ofChange twccSmallSpec)

/-- ITS FALSE NEIGHBOUR: 'it returns false'. Refute it at one input. -/
def twccSmallWrong : ChangeSpec := { name := "twccSmall", fn := fun _ => fun
  | [d1, d2, d3] => { results := [.lit (.bool false)], args := [d1, d2, d3] }
  | _ => none }
def TwccSmallWrongFalsely : Prop := twccSmallRow.holds Try.pinned (OpenSpec.ofChange twccSmallWrong)

/-- 'flywheellaw10.TwccChunks': WHATEVER THE INPUT: true; the input reads as it did. -/
def twccChunksSpec : ChangeSpec := { name := "twccChunks", fn := fun _ => fun
  | [d] => { results := [.lit (.bool true)], args := [d] }
  | _ => none }
def twccChunksRow : OpenClaim := { program := "ytmedlplgeeeodaa", sum := "b3651a90f74dc1425310842551f16588382f0ae6edabd0c26ddda44ed7d94450", func := "flywheel/flywheellaw10.TwccChunks", spec := "twccChunks", unfollowed := true, recurses := true, apart := false }
def TwccChunksSaid : Prop := twccChunksRow.holds Try.pinned (OpenSpec.ofChange twccChunksSpec)

/-- ITS FALSE NEIGHBOUR: 'it returns false'. Refute it at one input. -/
def twccChunksWrong : ChangeSpec := { name := "twccChunks", fn := fun _ => fun
  | [d] => { results := [.lit (.bool false)], args := [d] }
  | _ => none }
def TwccChunksWrongFalsely : Prop := twccChunksRow.holds Try.pinned (OpenSpec.ofChange twccChunksWrong)

/- THE SECOND FORM. 'bulk': how many values and letters a reading holds, each counted each time it is reached (what is shared counts as often as it is met; a slice's spare places count too). A statement '..UptoSaid' is the law's where the arguments, and the package variables that the reading takes, are together of bulk at most 1048576: NARROWER than '..Said'. Prove '..Said' where nothing that the law and all that it calls make is longer than what came in: it says more and counts as full. Else prove '..UptoSaid'. A law counts once. -/
mutual
def uptoBulk {H : Type} : DataW H → Nat
  | .lit (.string bytes) => bytes.length + 1
  | .lit _ => 1
  | .nil => 1
  | .ptr d => uptoBulk d + 1
  | .slice elems spare => uptoBulkAll elems + uptoBulkAll spare + 1
  | .agg parts => uptoBulkAll parts + 1
  | .iface _ d => uptoBulk d + 1
  | .map entries => uptoBulkEntries entries + 1
  | .held _ => 1
def uptoBulkAll {H : Type} : List (DataW H) → Nat
  | [] => 0
  | d :: r => uptoBulk d + uptoBulkAll r
def uptoBulkEntries {H : Type} : List (Lit × DataW H) → Nat
  | [] => 0
  | x :: r => uptoBulkEntry x + uptoBulkEntries r
def uptoBulkEntry {H : Type} : Lit × DataW H → Nat
  | (.string bytes, d) => bytes.length + uptoBulk d + 1
  | (_, d) => uptoBulk d + 1
 end
def uptoSmall : (H : Type) → List (DataW H) → Bool := fun _ ds => decide (uptoBulkAll ds ≤ 1048576)
def OpenSpec.upto (s : _root_.Go.ChangeSpec) : _root_.Go.OpenSpec := { _root_.Go.OpenSpec.ofChange s with cond := some uptoSmall }

/-- 'flywheellaw10.TwccEncodes', WHERE WHAT IT READS IS OF BULK AT MOST 1048576: true; the input reads as it did. -/
def twccEncodesUptoRow : OpenClaim := { program := "ytmedlplgeeeodaa", sum := "b3651a90f74dc1425310842551f16588382f0ae6edabd0c26ddda44ed7d94450", func := "flywheel/flywheellaw10.TwccEncodes", spec := "twccEncodes", unfollowed := true, recurses := true, apart := false, narrowed := true }
def TwccEncodesUptoSaid : Prop := twccEncodesUptoRow.holds Try.pinned (OpenSpec.upto twccEncodesSpec)

/-- 'flywheellaw10.TwccDecodes', WHERE WHAT IT READS IS OF BULK AT MOST 1048576: true; the input reads as it did. -/
def twccDecodesUptoRow : OpenClaim := { program := "ytmedlplgeeeodaa", sum := "b3651a90f74dc1425310842551f16588382f0ae6edabd0c26ddda44ed7d94450", func := "flywheel/flywheellaw10.TwccDecodes", spec := "twccDecodes", unfollowed := true, recurses := true, apart := false, narrowed := true }
def TwccDecodesUptoSaid : Prop := twccDecodesUptoRow.holds Try.pinned (OpenSpec.upto twccDecodesSpec)

/-- 'flywheellaw10.TwccBack', WHERE WHAT IT READS IS OF BULK AT MOST 1048576: true; the input reads as it did. -/
def twccBackUptoRow : OpenClaim := { program := "ytmedlplgeeeodaa", sum := "b3651a90f74dc1425310842551f16588382f0ae6edabd0c26ddda44ed7d94450", func := "flywheel/flywheellaw10.TwccBack", spec := "twccBack", unfollowed := true, recurses := true, apart := false, narrowed := true }
def TwccBackUptoSaid : Prop := twccBackUptoRow.holds Try.pinned (OpenSpec.upto twccBackSpec)

/-- 'flywheellaw10.TwccSmall', WHERE WHAT IT READS IS OF BULK AT MOST 1048576: true; the input reads as it did. -/
def twccSmallUptoRow : OpenClaim := { program := "ytmedlplgeeeodaa", sum := "b3651a90f74dc1425310842551f16588382f0ae6edabd0c26ddda44ed7d94450", func := "flywheel/flywheellaw10.TwccSmall", spec := "twccSmall", unfollowed := true, recurses := true, apart := false, narrowed := true }
def TwccSmallUptoSaid : Prop := twccSmallUptoRow.holds Try.pinned (OpenSpec.upto twccSmallSpec)

/-- 'flywheellaw10.TwccChunks', WHERE WHAT IT READS IS OF BULK AT MOST 1048576: true; the input reads as it did. -/
def twccChunksUptoRow : OpenClaim := { program := "ytmedlplgeeeodaa", sum := "b3651a90f74dc1425310842551f16588382f0ae6edabd0c26ddda44ed7d94450", func := "flywheel/flywheellaw10.TwccChunks", spec := "twccChunks", unfollowed := true, recurses := true, apart := false, narrowed := true }
def TwccChunksUptoSaid : Prop := twccChunksUptoRow.holds Try.pinned (OpenSpec.upto twccChunksSpec)

end Rows
end Go.Proofs.Ytmedlplgeeeodaa
