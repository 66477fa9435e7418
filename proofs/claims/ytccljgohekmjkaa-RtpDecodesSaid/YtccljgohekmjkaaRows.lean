/-
  No cell of these rows narrows 'for every input' (looked for: loops, veiled, ifaces, maps, wideKeys, modest, calm, conditions, laid).
  DERIVED. THE GIVEN ROWS OF THIS SEAT. 5 by the template 'for every input the law returns true; each argument reads behind the call as it read before'; 0 by the template 'total and deterministic' (their statements: YtccljgohekmjkaaTotals.lean).
  GIVEN WITH THE SEED: the statements are not yours to turn. If you find one false, say at which input.
  Laid BY PROGRAM, IN A SANDBOX (cutbox-rows.mjs): the forced cells as the released guide's own fill.sh prints them over the translation cef478ce670d0a8a… (all of the seat's roots in one cut). By AI agents, Wed Nov 11 2026. No macro, syntax, notation, axiom, sorry.
-/
import Derived.Test.YtccljgohekmjkaaChecked
import GoSem.Claim
import GoSem.ClaimJoined
import GoSem.ClaimMapViews
import Derived.JoinedTies
import Derived.KernelRfl
namespace Go.Proofs.Ytccljgohekmjkaa
/- THE CELL 'sum', in the pinned program and in every row, IS THE sha256 OF THE DUMP (.gsa) THAT YtccljgohekmjkaaProg.lean LOADS. Nothing in Lean hashes anything: it is a label: what it is worth is what the hold of that sum in a sandbox is worth. -/
noncomputable def Try.pinned : Pinned := { name := "ytccljgohekmjkaa", sum := "cef478ce670d0a8a95ac76bcba25c7a54fb7c0e238139b7e31e5a2a08b6fda68", checked := Try.checked }
namespace Rows
def none {H : Type} : Left H := { results := [], args := [] }

/-- 'flywheellaw07.RtpEncodes': WHATEVER THE INPUT: true; the input reads as it did. -/
def rtpEncodesSpec : ChangeSpec := { name := "rtpEncodes", fn := fun _ => fun
  | [d] => { results := [.lit (.bool true)], args := [d] }
  | _ => none }
def rtpEncodesRow : OpenClaim := { program := "ytccljgohekmjkaa", sum := "cef478ce670d0a8a95ac76bcba25c7a54fb7c0e238139b7e31e5a2a08b6fda68", func := "flywheel/flywheellaw07.RtpEncodes", spec := "rtpEncodes", apart := false }
def RtpEncodesSaid : Prop := rtpEncodesRow.holds Try.pinned (OpenSpec.ofChange rtpEncodesSpec)

/-- ITS FALSE NEIGHBOUR: 'it returns false'. Refute it at one input. -/
def rtpEncodesWrong : ChangeSpec := { name := "rtpEncodes", fn := fun _ => fun
  | [d] => { results := [.lit (.bool false)], args := [d] }
  | _ => none }
def RtpEncodesWrongFalsely : Prop := rtpEncodesRow.holds Try.pinned (OpenSpec.ofChange rtpEncodesWrong)

/-- 'flywheellaw07.RtpDecodes': WHATEVER THE INPUT: true; the input reads as it did. -/
def rtpDecodesSpec : ChangeSpec := { name := "rtpDecodes", fn := fun _ => fun
  | [d] => { results := [.lit (.bool true)], args := [d] }
  | _ => none }
def rtpDecodesRow : OpenClaim := { program := "ytccljgohekmjkaa", sum := "cef478ce670d0a8a95ac76bcba25c7a54fb7c0e238139b7e31e5a2a08b6fda68", func := "flywheel/flywheellaw07.RtpDecodes", spec := "rtpDecodes", apart := false }
def RtpDecodesSaid : Prop := rtpDecodesRow.holds Try.pinned (OpenSpec.ofChange rtpDecodesSpec)

/-- ITS FALSE NEIGHBOUR: 'it returns false'. Refute it at one input. -/
def rtpDecodesWrong : ChangeSpec := { name := "rtpDecodes", fn := fun _ => fun
  | [d] => { results := [.lit (.bool false)], args := [d] }
  | _ => none }
def RtpDecodesWrongFalsely : Prop := rtpDecodesRow.holds Try.pinned (OpenSpec.ofChange rtpDecodesWrong)

/-- 'flywheellaw07.RtpBack': WHATEVER THE INPUT: true; the input reads as it did. -/
def rtpBackSpec : ChangeSpec := { name := "rtpBack", fn := fun _ => fun
  | [d1, d2, d3] => { results := [.lit (.bool true)], args := [d1, d2, d3] }
  | _ => none }
def rtpBackRow : OpenClaim := { program := "ytccljgohekmjkaa", sum := "cef478ce670d0a8a95ac76bcba25c7a54fb7c0e238139b7e31e5a2a08b6fda68", func := "flywheel/flywheellaw07.RtpBack", spec := "rtpBack", apart := false }
def RtpBackSaid : Prop := rtpBackRow.holds Try.pinned (OpenSpec.ofChange rtpBackSpec)

/-- ITS FALSE NEIGHBOUR: 'it returns false'. Refute it at one input. -/
def rtpBackWrong : ChangeSpec := { name := "rtpBack", fn := fun _ => fun
  | [d1, d2, d3] => { results := [.lit (.bool false)], args := [d1, d2, d3] }
  | _ => none }
def RtpBackWrongFalsely : Prop := rtpBackRow.holds Try.pinned (OpenSpec.ofChange rtpBackWrong)

/-- 'flywheellaw07.RtpCuts': WHATEVER THE INPUT: true; the input reads as it did. -/
def rtpCutsSpec : ChangeSpec := { name := "rtpCuts", fn := fun _ => fun
  | [d1, d2] => { results := [.lit (.bool true)], args := [d1, d2] }
  | _ => none }
def rtpCutsRow : OpenClaim := { program := "ytccljgohekmjkaa", sum := "cef478ce670d0a8a95ac76bcba25c7a54fb7c0e238139b7e31e5a2a08b6fda68", func := "flywheel/flywheellaw07.RtpCuts", spec := "rtpCuts", apart := false }
def RtpCutsSaid : Prop := rtpCutsRow.holds Try.pinned (OpenSpec.ofChange rtpCutsSpec)

/-- ITS FALSE NEIGHBOUR: 'it returns false'. Refute it at one input. -/
def rtpCutsWrong : ChangeSpec := { name := "rtpCuts", fn := fun _ => fun
  | [d1, d2] => { results := [.lit (.bool false)], args := [d1, d2] }
  | _ => none }
def RtpCutsWrongFalsely : Prop := rtpCutsRow.holds Try.pinned (OpenSpec.ofChange rtpCutsWrong)

/-- 'flywheellaw07.RtpSizes': WHATEVER THE INPUT: true; the input reads as it did. -/
def rtpSizesSpec : ChangeSpec := { name := "rtpSizes", fn := fun _ => fun
  | [d] => { results := [.lit (.bool true)], args := [d] }
  | _ => none }
def rtpSizesRow : OpenClaim := { program := "ytccljgohekmjkaa", sum := "cef478ce670d0a8a95ac76bcba25c7a54fb7c0e238139b7e31e5a2a08b6fda68", func := "flywheel/flywheellaw07.RtpSizes", spec := "rtpSizes", apart := false }
def RtpSizesSaid : Prop := rtpSizesRow.holds Try.pinned (OpenSpec.ofChange rtpSizesSpec)

/-- ITS FALSE NEIGHBOUR: 'it returns false'. Refute it at one input. -/
def rtpSizesWrong : ChangeSpec := { name := "rtpSizes", fn := fun _ => fun
  | [d] => { results := [.lit (.bool false)], args := [d] }
  | _ => none }
def RtpSizesWrongFalsely : Prop := rtpSizesRow.holds Try.pinned (OpenSpec.ofChange rtpSizesWrong)

/- THE SECOND FORM. 'bulk': how many values and letters a reading holds, each counted each time it is reached (what is shared counts as often as it is met; a slice's spare places count too). A statement '..UptoSaid' is the law's where the arguments, and the package variables that the reading takes, are together of bulk at most 1048576: NARROWER than '..Said'. Prove '..Said' where nothing that the law and all that it calls make is longer than what came in: it says more and counts as full. Else prove '..UptoSaid'. A law counts once. -/
mutual
def uptoBulk {H : Type} : DataW H → Nat
  | .lit (.string bytes) => bytes.length + 1
  | .lit _ => 1
  | .nil => 1
  | .ptr d => uptoBulk d + 1
  | .slice elems spare => uptoBulkAll elems + uptoBulkAll spare + 1
  | .agg parts => uptoBulkAll parts + 1
  | .iface _ d => uptoBulk d + 1
  | .map entries => uptoBulkEntries entries + 1
  | .held _ => 1
def uptoBulkAll {H : Type} : List (DataW H) → Nat
  | [] => 0
  | d :: r => uptoBulk d + uptoBulkAll r
def uptoBulkEntries {H : Type} : List (Lit × DataW H) → Nat
  | [] => 0
  | x :: r => uptoBulkEntry x + uptoBulkEntries r
def uptoBulkEntry {H : Type} : Lit × DataW H → Nat
  | (.string bytes, d) => bytes.length + uptoBulk d + 1
  | (_, d) => uptoBulk d + 1
 end
def uptoSmall : (H : Type) → List (DataW H) → Bool := fun _ ds => decide (uptoBulkAll ds ≤ 1048576)
def OpenSpec.upto (s : _root_.Go.ChangeSpec) : _root_.Go.OpenSpec := { _root_.Go.OpenSpec.ofChange s with cond := some uptoSmall }

/-- 'flywheellaw07.RtpEncodes', WHERE WHAT IT READS IS OF BULK AT MOST 1048576: true; the input reads as it did. -/
def rtpEncodesUptoRow : OpenClaim := { program := "ytccljgohekmjkaa", sum := "cef478ce670d0a8a95ac76bcba25c7a54fb7c0e238139b7e31e5a2a08b6fda68", func := "flywheel/flywheellaw07.RtpEncodes", spec := "rtpEncodes", apart := false, narrowed := true }
def RtpEncodesUptoSaid : Prop := rtpEncodesUptoRow.holds Try.pinned (OpenSpec.upto rtpEncodesSpec)

/-- 'flywheellaw07.RtpDecodes', WHERE WHAT IT READS IS OF BULK AT MOST 1048576: true; the input reads as it did. -/
def rtpDecodesUptoRow : OpenClaim := { program := "ytccljgohekmjkaa", sum := "cef478ce670d0a8a95ac76bcba25c7a54fb7c0e238139b7e31e5a2a08b6fda68", func := "flywheel/flywheellaw07.RtpDecodes", spec := "rtpDecodes", apart := false, narrowed := true }
def RtpDecodesUptoSaid : Prop := rtpDecodesUptoRow.holds Try.pinned (OpenSpec.upto rtpDecodesSpec)

/-- 'flywheellaw07.RtpBack', WHERE WHAT IT READS IS OF BULK AT MOST 1048576: true; the input reads as it did. -/
def rtpBackUptoRow : OpenClaim := { program := "ytccljgohekmjkaa", sum := "cef478ce670d0a8a95ac76bcba25c7a54fb7c0e238139b7e31e5a2a08b6fda68", func := "flywheel/flywheellaw07.RtpBack", spec := "rtpBack", apart := false, narrowed := true }
def RtpBackUptoSaid : Prop := rtpBackUptoRow.holds Try.pinned (OpenSpec.upto rtpBackSpec)

/-- 'flywheellaw07.RtpCuts', WHERE WHAT IT READS IS OF BULK AT MOST 1048576: true; the input reads as it did. -/
def rtpCutsUptoRow : OpenClaim := { program := "ytccljgohekmjkaa", sum := "cef478ce670d0a8a95ac76bcba25c7a54fb7c0e238139b7e31e5a2a08b6fda68", func := "flywheel/flywheellaw07.RtpCuts", spec := "rtpCuts", apart := false, narrowed := true }
def RtpCutsUptoSaid : Prop := rtpCutsUptoRow.holds Try.pinned (OpenSpec.upto rtpCutsSpec)

/-- 'flywheellaw07.RtpSizes', WHERE WHAT IT READS IS OF BULK AT MOST 1048576: true; the input reads as it did. -/
def rtpSizesUptoRow : OpenClaim := { program := "ytccljgohekmjkaa", sum := "cef478ce670d0a8a95ac76bcba25c7a54fb7c0e238139b7e31e5a2a08b6fda68", func := "flywheel/flywheellaw07.RtpSizes", spec := "rtpSizes", apart := false, narrowed := true }
def RtpSizesUptoSaid : Prop := rtpSizesUptoRow.holds Try.pinned (OpenSpec.upto rtpSizesSpec)

end Rows
end Go.Proofs.Ytccljgohekmjkaa
