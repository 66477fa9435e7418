/-
  No cell of these rows narrows 'for every input' (looked for: loops, veiled, ifaces, maps, wideKeys, modest, calm, conditions, laid).
  DERIVED. THE GIVEN ROWS OF THIS SEAT. 7 by the template 'for every input the law returns true; each argument reads behind the call as it read before'; 0 by the template 'total and deterministic' (their statements: YtkjjkepiihdihaaTotals.lean).
  GIVEN WITH THE SEED: the statements are not yours to turn. If you find one false, say at which input.
  Laid BY PROGRAM, IN A SANDBOX (cutbox-rows.mjs): the forced cells as the released guide's own fill.sh prints them over the translation 09433b76e26a548c… (all of the seat's roots in one cut). By AI agents, Wed Nov 11 2026. No macro, syntax, notation, axiom, sorry.
-/
import Derived.Test.YtkjjkepiihdihaaChecked
import GoSem.Claim
import GoSem.ClaimJoined
import GoSem.ClaimMapViews
import Derived.JoinedTies
import Derived.KernelRfl
namespace Go.Proofs.Ytkjjkepiihdihaa
/- THE CELL 'sum', in the pinned program and in every row, IS THE sha256 OF THE DUMP (.gsa) THAT YtkjjkepiihdihaaProg.lean LOADS. Nothing in Lean hashes anything: it is a label: what it is worth is what the hold of that sum in a sandbox is worth. -/
noncomputable def Try.pinned : Pinned := { name := "ytkjjkepiihdihaa", sum := "09433b76e26a548c2d37b19fefd2952b2870da0fa34b10a081ec73bc35ab1e50", checked := Try.checked }
namespace Rows
def none {H : Type} : Left H := { results := [], args := [] }

/-- 'flywheellaw25.PacerBudget': WHATEVER THE INPUT: true; the input reads as it did. -/
def pacerBudgetSpec : ChangeSpec := { name := "pacerBudget", fn := fun _ => fun
  | [d1, d2] => { results := [.lit (.bool true)], args := [d1, d2] }
  | _ => none }
def pacerBudgetRow : OpenClaim := { program := "ytkjjkepiihdihaa", sum := "09433b76e26a548c2d37b19fefd2952b2870da0fa34b10a081ec73bc35ab1e50", func := "flywheel/flywheellaw25.PacerBudget", spec := "pacerBudget", inPlace := ["math/bits.Add64"], apart := false }
def PacerBudgetSaid : Prop := pacerBudgetRow.holds Try.pinned (OpenSpec.ofChange pacerBudgetSpec)

/-- ITS FALSE NEIGHBOUR: 'it returns false'. Refute it at one input. -/
def pacerBudgetWrong : ChangeSpec := { name := "pacerBudget", fn := fun _ => fun
  | [d1, d2] => { results := [.lit (.bool false)], args := [d1, d2] }
  | _ => none }
def PacerBudgetWrongFalsely : Prop := pacerBudgetRow.holds Try.pinned (OpenSpec.ofChange pacerBudgetWrong)

/-- 'flywheellaw25.PacerOrder': WHATEVER THE INPUT: true; the input reads as it did. -/
def pacerOrderSpec : ChangeSpec := { name := "pacerOrder", fn := fun _ => fun
  | [d] => { results := [.lit (.bool true)], args := [d] }
  | _ => none }
def pacerOrderRow : OpenClaim := { program := "ytkjjkepiihdihaa", sum := "09433b76e26a548c2d37b19fefd2952b2870da0fa34b10a081ec73bc35ab1e50", func := "flywheel/flywheellaw25.PacerOrder", spec := "pacerOrder", inPlace := ["math/bits.Add64"], apart := false }
def PacerOrderSaid : Prop := pacerOrderRow.holds Try.pinned (OpenSpec.ofChange pacerOrderSpec)

/-- ITS FALSE NEIGHBOUR: 'it returns false'. Refute it at one input. -/
def pacerOrderWrong : ChangeSpec := { name := "pacerOrder", fn := fun _ => fun
  | [d] => { results := [.lit (.bool false)], args := [d] }
  | _ => none }
def PacerOrderWrongFalsely : Prop := pacerOrderRow.holds Try.pinned (OpenSpec.ofChange pacerOrderWrong)

/-- 'flywheellaw25.PacerGate': WHATEVER THE INPUT: true; the input reads as it did. -/
def pacerGateSpec : ChangeSpec := { name := "pacerGate", fn := fun _ => fun
  | [d1, d2, d3] => { results := [.lit (.bool true)], args := [d1, d2, d3] }
  | _ => none }
def pacerGateRow : OpenClaim := { program := "ytkjjkepiihdihaa", sum := "09433b76e26a548c2d37b19fefd2952b2870da0fa34b10a081ec73bc35ab1e50", func := "flywheel/flywheellaw25.PacerGate", spec := "pacerGate", inPlace := ["math/bits.Add64"], apart := false }
def PacerGateSaid : Prop := pacerGateRow.holds Try.pinned (OpenSpec.ofChange pacerGateSpec)

/-- ITS FALSE NEIGHBOUR: 'it returns false'. Refute it at one input. -/
def pacerGateWrong : ChangeSpec := { name := "pacerGate", fn := fun _ => fun
  | [d1, d2, d3] => { results := [.lit (.bool false)], args := [d1, d2, d3] }
  | _ => none }
def PacerGateWrongFalsely : Prop := pacerGateRow.holds Try.pinned (OpenSpec.ofChange pacerGateWrong)

/-- 'flywheellaw25.PacerAlone': WHATEVER THE INPUT: true; the input reads as it did. -/
def pacerAloneSpec : ChangeSpec := { name := "pacerAlone", fn := fun _ => fun
  | [d1, d2, d3] => { results := [.lit (.bool true)], args := [d1, d2, d3] }
  | _ => none }
def pacerAloneRow : OpenClaim := { program := "ytkjjkepiihdihaa", sum := "09433b76e26a548c2d37b19fefd2952b2870da0fa34b10a081ec73bc35ab1e50", func := "flywheel/flywheellaw25.PacerAlone", spec := "pacerAlone", inPlace := ["math/bits.Add64"], apart := false }
def PacerAloneSaid : Prop := pacerAloneRow.holds Try.pinned (OpenSpec.ofChange pacerAloneSpec)

/-- ITS FALSE NEIGHBOUR: 'it returns false'. Refute it at one input. -/
def pacerAloneWrong : ChangeSpec := { name := "pacerAlone", fn := fun _ => fun
  | [d1, d2, d3] => { results := [.lit (.bool false)], args := [d1, d2, d3] }
  | _ => none }
def PacerAloneWrongFalsely : Prop := pacerAloneRow.holds Try.pinned (OpenSpec.ofChange pacerAloneWrong)

/-- 'flywheellaw25.PacerFull': WHATEVER THE INPUT: true; the input reads as it did. -/
def pacerFullSpec : ChangeSpec := { name := "pacerFull", fn := fun _ => fun
  | [d1, d2, d3] => { results := [.lit (.bool true)], args := [d1, d2, d3] }
  | _ => none }
def pacerFullRow : OpenClaim := { program := "ytkjjkepiihdihaa", sum := "09433b76e26a548c2d37b19fefd2952b2870da0fa34b10a081ec73bc35ab1e50", func := "flywheel/flywheellaw25.PacerFull", spec := "pacerFull", inPlace := ["math/bits.Add64"], apart := false }
def PacerFullSaid : Prop := pacerFullRow.holds Try.pinned (OpenSpec.ofChange pacerFullSpec)

/-- ITS FALSE NEIGHBOUR: 'it returns false'. Refute it at one input. -/
def pacerFullWrong : ChangeSpec := { name := "pacerFull", fn := fun _ => fun
  | [d1, d2, d3] => { results := [.lit (.bool false)], args := [d1, d2, d3] }
  | _ => none }
def PacerFullWrongFalsely : Prop := pacerFullRow.holds Try.pinned (OpenSpec.ofChange pacerFullWrong)

/-- 'flywheellaw25.PacerPlays': WHATEVER THE INPUT: true; the input reads as it did. -/
def pacerPlaysSpec : ChangeSpec := { name := "pacerPlays", fn := fun _ => fun
  | [d1, d2, d3] => { results := [.lit (.bool true)], args := [d1, d2, d3] }
  | _ => none }
def pacerPlaysRow : OpenClaim := { program := "ytkjjkepiihdihaa", sum := "09433b76e26a548c2d37b19fefd2952b2870da0fa34b10a081ec73bc35ab1e50", func := "flywheel/flywheellaw25.PacerPlays", spec := "pacerPlays", inPlace := ["math/bits.Add64", "math/bits.Sub64"], apart := false }
def PacerPlaysSaid : Prop := pacerPlaysRow.holds Try.pinned (OpenSpec.ofChange pacerPlaysSpec)

/-- ITS FALSE NEIGHBOUR: 'it returns false'. Refute it at one input. -/
def pacerPlaysWrong : ChangeSpec := { name := "pacerPlays", fn := fun _ => fun
  | [d1, d2, d3] => { results := [.lit (.bool false)], args := [d1, d2, d3] }
  | _ => none }
def PacerPlaysWrongFalsely : Prop := pacerPlaysRow.holds Try.pinned (OpenSpec.ofChange pacerPlaysWrong)

/-- 'flywheellaw25.PacerNone': WHATEVER THE INPUT: true; the input reads as it did. -/
def pacerNoneSpec : ChangeSpec := { name := "pacerNone", fn := fun _ => fun
  | [d] => { results := [.lit (.bool true)], args := [d] }
  | _ => none }
def pacerNoneRow : OpenClaim := { program := "ytkjjkepiihdihaa", sum := "09433b76e26a548c2d37b19fefd2952b2870da0fa34b10a081ec73bc35ab1e50", func := "flywheel/flywheellaw25.PacerNone", spec := "pacerNone", inPlace := ["math/bits.Add64", "math/bits.Sub64"], apart := false }
def PacerNoneSaid : Prop := pacerNoneRow.holds Try.pinned (OpenSpec.ofChange pacerNoneSpec)

/-- ITS FALSE NEIGHBOUR: 'it returns false'. Refute it at one input. -/
def pacerNoneWrong : ChangeSpec := { name := "pacerNone", fn := fun _ => fun
  | [d] => { results := [.lit (.bool false)], args := [d] }
  | _ => none }
def PacerNoneWrongFalsely : Prop := pacerNoneRow.holds Try.pinned (OpenSpec.ofChange pacerNoneWrong)

/- THE SECOND FORM. 'bulk': how many values and letters a reading holds, each counted each time it is reached (what is shared counts as often as it is met; a slice's spare places count too). A statement '..UptoSaid' is the law's where the arguments, and the package variables that the reading takes, are together of bulk at most 1048576: NARROWER than '..Said'. Prove '..Said' where nothing that the law and all that it calls make is longer than what came in: it says more and counts as full. Else prove '..UptoSaid'. A law counts once. -/
mutual
def uptoBulk {H : Type} : DataW H → Nat
  | .lit (.string bytes) => bytes.length + 1
  | .lit _ => 1
  | .nil => 1
  | .ptr d => uptoBulk d + 1
  | .slice elems spare => uptoBulkAll elems + uptoBulkAll spare + 1
  | .agg parts => uptoBulkAll parts + 1
  | .iface _ d => uptoBulk d + 1
  | .map entries => uptoBulkEntries entries + 1
  | .held _ => 1
def uptoBulkAll {H : Type} : List (DataW H) → Nat
  | [] => 0
  | d :: r => uptoBulk d + uptoBulkAll r
def uptoBulkEntries {H : Type} : List (Lit × DataW H) → Nat
  | [] => 0
  | x :: r => uptoBulkEntry x + uptoBulkEntries r
def uptoBulkEntry {H : Type} : Lit × DataW H → Nat
  | (.string bytes, d) => bytes.length + uptoBulk d + 1
  | (_, d) => uptoBulk d + 1
 end
def uptoSmall : (H : Type) → List (DataW H) → Bool := fun _ ds => decide (uptoBulkAll ds ≤ 1048576)
def OpenSpec.upto (s : _root_.Go.ChangeSpec) : _root_.Go.OpenSpec := { _root_.Go.OpenSpec.ofChange s with cond := some uptoSmall }

/-- 'flywheellaw25.PacerBudget', WHERE WHAT IT READS IS OF BULK AT MOST 1048576: true; the input reads as it did. -/
def pacerBudgetUptoRow : OpenClaim := { program := "ytkjjkepiihdihaa", sum := "09433b76e26a548c2d37b19fefd2952b2870da0fa34b10a081ec73bc35ab1e50", func := "flywheel/flywheellaw25.PacerBudget", spec := "pacerBudget", inPlace := ["math/bits.Add64"], apart := false, narrowed := true }
def PacerBudgetUptoSaid : Prop := pacerBudgetUptoRow.holds Try.pinned (OpenSpec.upto pacerBudgetSpec)

/-- 'flywheellaw25.PacerOrder', WHERE WHAT IT READS IS OF BULK AT MOST 1048576: true; the input reads as it did. -/
def pacerOrderUptoRow : OpenClaim := { program := "ytkjjkepiihdihaa", sum := "09433b76e26a548c2d37b19fefd2952b2870da0fa34b10a081ec73bc35ab1e50", func := "flywheel/flywheellaw25.PacerOrder", spec := "pacerOrder", inPlace := ["math/bits.Add64"], apart := false, narrowed := true }
def PacerOrderUptoSaid : Prop := pacerOrderUptoRow.holds Try.pinned (OpenSpec.upto pacerOrderSpec)

/-- 'flywheellaw25.PacerGate', WHERE WHAT IT READS IS OF BULK AT MOST 1048576: true; the input reads as it did. -/
def pacerGateUptoRow : OpenClaim := { program := "ytkjjkepiihdihaa", sum := "09433b76e26a548c2d37b19fefd2952b2870da0fa34b10a081ec73bc35ab1e50", func := "flywheel/flywheellaw25.PacerGate", spec := "pacerGate", inPlace := ["math/bits.Add64"], apart := false, narrowed := true }
def PacerGateUptoSaid : Prop := pacerGateUptoRow.holds Try.pinned (OpenSpec.upto pacerGateSpec)

/-- 'flywheellaw25.PacerAlone', WHERE WHAT IT READS IS OF BULK AT MOST 1048576: true; the input reads as it did. -/
def pacerAloneUptoRow : OpenClaim := { program := "ytkjjkepiihdihaa", sum := "09433b76e26a548c2d37b19fefd2952b2870da0fa34b10a081ec73bc35ab1e50", func := "flywheel/flywheellaw25.PacerAlone", spec := "pacerAlone", inPlace := ["math/bits.Add64"], apart := false, narrowed := true }
def PacerAloneUptoSaid : Prop := pacerAloneUptoRow.holds Try.pinned (OpenSpec.upto pacerAloneSpec)

/-- 'flywheellaw25.PacerFull', WHERE WHAT IT READS IS OF BULK AT MOST 1048576: true; the input reads as it did. -/
def pacerFullUptoRow : OpenClaim := { program := "ytkjjkepiihdihaa", sum := "09433b76e26a548c2d37b19fefd2952b2870da0fa34b10a081ec73bc35ab1e50", func := "flywheel/flywheellaw25.PacerFull", spec := "pacerFull", inPlace := ["math/bits.Add64"], apart := false, narrowed := true }
def PacerFullUptoSaid : Prop := pacerFullUptoRow.holds Try.pinned (OpenSpec.upto pacerFullSpec)

/-- 'flywheellaw25.PacerPlays', WHERE WHAT IT READS IS OF BULK AT MOST 1048576: true; the input reads as it did. -/
def pacerPlaysUptoRow : OpenClaim := { program := "ytkjjkepiihdihaa", sum := "09433b76e26a548c2d37b19fefd2952b2870da0fa34b10a081ec73bc35ab1e50", func := "flywheel/flywheellaw25.PacerPlays", spec := "pacerPlays", inPlace := ["math/bits.Add64", "math/bits.Sub64"], apart := false, narrowed := true }
def PacerPlaysUptoSaid : Prop := pacerPlaysUptoRow.holds Try.pinned (OpenSpec.upto pacerPlaysSpec)

/-- 'flywheellaw25.PacerNone', WHERE WHAT IT READS IS OF BULK AT MOST 1048576: true; the input reads as it did. -/
def pacerNoneUptoRow : OpenClaim := { program := "ytkjjkepiihdihaa", sum := "09433b76e26a548c2d37b19fefd2952b2870da0fa34b10a081ec73bc35ab1e50", func := "flywheel/flywheellaw25.PacerNone", spec := "pacerNone", inPlace := ["math/bits.Add64", "math/bits.Sub64"], apart := false, narrowed := true }
def PacerNoneUptoSaid : Prop := pacerNoneUptoRow.holds Try.pinned (OpenSpec.upto pacerNoneSpec)

end Rows
end Go.Proofs.Ytkjjkepiihdihaa
