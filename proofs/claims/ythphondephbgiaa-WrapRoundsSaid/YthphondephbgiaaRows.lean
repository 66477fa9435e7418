/-
  No cell of these rows narrows 'for every input' (looked for: loops, veiled, ifaces, maps, wideKeys, modest, calm, conditions, laid).
  DERIVED. THE GIVEN ROWS OF THIS SEAT. 6 by the template 'for every input the law returns true; each argument reads behind the call as it read before'; 0 by the template 'total and deterministic' (their statements: YthphondephbgiaaTotals.lean).
  GIVEN WITH THE SEED: the statements are not yours to turn. If you find one false, say at which input.
  Laid BY PROGRAM, IN A SANDBOX (cutbox-rows.mjs): the forced cells as the released guide's own fill.sh prints them over the translation 1890674d4be320ce… (all of the seat's roots in one cut). By AI agents, Wed Nov 11 2026. No macro, syntax, notation, axiom, sorry.
-/
import Derived.Test.YthphondephbgiaaChecked
import GoSem.Claim
import GoSem.ClaimJoined
import GoSem.ClaimMapViews
import Derived.JoinedTies
import Derived.KernelRfl
namespace Go.Proofs.Ythphondephbgiaa
/- THE CELL 'sum', in the pinned program and in every row, IS THE sha256 OF THE DUMP (.gsa) THAT YthphondephbgiaaProg.lean LOADS. Nothing in Lean hashes anything: it is a label: what it is worth is what the hold of that sum in a sandbox is worth. -/
noncomputable def Try.pinned : Pinned := { name := "ythphondephbgiaa", sum := "1890674d4be320ce19a18276266c91ee07fc7dfdc0f844ffee90caaa1f126e57", checked := Try.checked }
namespace Rows
def none {H : Type} : Left H := { results := [], args := [] }

/-- 'flywheellaw05.WrapDoes': WHATEVER THE INPUT: true; the input reads as it did. -/
def wrapDoesSpec : ChangeSpec := { name := "wrapDoes", fn := fun _ => fun
  | [d1, d2, d3] => { results := [.lit (.bool true)], args := [d1, d2, d3] }
  | _ => none }
def wrapDoesRow : OpenClaim := { program := "ythphondephbgiaa", sum := "1890674d4be320ce19a18276266c91ee07fc7dfdc0f844ffee90caaa1f126e57", func := "flywheel/flywheellaw05.WrapDoes", spec := "wrapDoes", apart := false }
def WrapDoesSaid : Prop := wrapDoesRow.holds Try.pinned (OpenSpec.ofChange wrapDoesSpec)

/-- ITS FALSE NEIGHBOUR: 'it returns false'. Refute it at one input. -/
def wrapDoesWrong : ChangeSpec := { name := "wrapDoes", fn := fun _ => fun
  | [d1, d2, d3] => { results := [.lit (.bool false)], args := [d1, d2, d3] }
  | _ => none }
def WrapDoesWrongFalsely : Prop := wrapDoesRow.holds Try.pinned (OpenSpec.ofChange wrapDoesWrong)

/-- 'flywheellaw05.WrapAfter': WHATEVER THE INPUT: true; the input reads as it did. -/
def wrapAfterSpec : ChangeSpec := { name := "wrapAfter", fn := fun _ => fun
  | [d1, d2, d3] => { results := [.lit (.bool true)], args := [d1, d2, d3] }
  | _ => none }
def wrapAfterRow : OpenClaim := { program := "ythphondephbgiaa", sum := "1890674d4be320ce19a18276266c91ee07fc7dfdc0f844ffee90caaa1f126e57", func := "flywheel/flywheellaw05.WrapAfter", spec := "wrapAfter", apart := false }
def WrapAfterSaid : Prop := wrapAfterRow.holds Try.pinned (OpenSpec.ofChange wrapAfterSpec)

/-- ITS FALSE NEIGHBOUR: 'it returns false'. Refute it at one input. -/
def wrapAfterWrong : ChangeSpec := { name := "wrapAfter", fn := fun _ => fun
  | [d1, d2, d3] => { results := [.lit (.bool false)], args := [d1, d2, d3] }
  | _ => none }
def WrapAfterWrongFalsely : Prop := wrapAfterRow.holds Try.pinned (OpenSpec.ofChange wrapAfterWrong)

/-- 'flywheellaw05.WrapBack': WHATEVER THE INPUT: true; the input reads as it did. -/
def wrapBackSpec : ChangeSpec := { name := "wrapBack", fn := fun _ => fun
  | [d1, d2, d3] => { results := [.lit (.bool true)], args := [d1, d2, d3] }
  | _ => none }
def wrapBackRow : OpenClaim := { program := "ythphondephbgiaa", sum := "1890674d4be320ce19a18276266c91ee07fc7dfdc0f844ffee90caaa1f126e57", func := "flywheel/flywheellaw05.WrapBack", spec := "wrapBack", apart := false }
def WrapBackSaid : Prop := wrapBackRow.holds Try.pinned (OpenSpec.ofChange wrapBackSpec)

/-- ITS FALSE NEIGHBOUR: 'it returns false'. Refute it at one input. -/
def wrapBackWrong : ChangeSpec := { name := "wrapBack", fn := fun _ => fun
  | [d1, d2, d3] => { results := [.lit (.bool false)], args := [d1, d2, d3] }
  | _ => none }
def WrapBackWrongFalsely : Prop := wrapBackRow.holds Try.pinned (OpenSpec.ofChange wrapBackWrong)

/-- 'flywheellaw05.WrapOrder': WHATEVER THE INPUT: true; the input reads as it did. -/
def wrapOrderSpec : ChangeSpec := { name := "wrapOrder", fn := fun _ => fun
  | [d1, d2, d3] => { results := [.lit (.bool true)], args := [d1, d2, d3] }
  | _ => none }
def wrapOrderRow : OpenClaim := { program := "ythphondephbgiaa", sum := "1890674d4be320ce19a18276266c91ee07fc7dfdc0f844ffee90caaa1f126e57", func := "flywheel/flywheellaw05.WrapOrder", spec := "wrapOrder", apart := false }
def WrapOrderSaid : Prop := wrapOrderRow.holds Try.pinned (OpenSpec.ofChange wrapOrderSpec)

/-- ITS FALSE NEIGHBOUR: 'it returns false'. Refute it at one input. -/
def wrapOrderWrong : ChangeSpec := { name := "wrapOrder", fn := fun _ => fun
  | [d1, d2, d3] => { results := [.lit (.bool false)], args := [d1, d2, d3] }
  | _ => none }
def WrapOrderWrongFalsely : Prop := wrapOrderRow.holds Try.pinned (OpenSpec.ofChange wrapOrderWrong)

/-- 'flywheellaw05.WrapNearest': WHATEVER THE INPUT: true; the input reads as it did. -/
def wrapNearestSpec : ChangeSpec := { name := "wrapNearest", fn := fun _ => fun
  | [d1, d2, d3] => { results := [.lit (.bool true)], args := [d1, d2, d3] }
  | _ => none }
def wrapNearestRow : OpenClaim := { program := "ythphondephbgiaa", sum := "1890674d4be320ce19a18276266c91ee07fc7dfdc0f844ffee90caaa1f126e57", func := "flywheel/flywheellaw05.WrapNearest", spec := "wrapNearest", apart := false }
def WrapNearestSaid : Prop := wrapNearestRow.holds Try.pinned (OpenSpec.ofChange wrapNearestSpec)

/-- ITS FALSE NEIGHBOUR: 'it returns false'. Refute it at one input. -/
def wrapNearestWrong : ChangeSpec := { name := "wrapNearest", fn := fun _ => fun
  | [d1, d2, d3] => { results := [.lit (.bool false)], args := [d1, d2, d3] }
  | _ => none }
def WrapNearestWrongFalsely : Prop := wrapNearestRow.holds Try.pinned (OpenSpec.ofChange wrapNearestWrong)

/-- 'flywheellaw05.WrapRounds': WHATEVER THE INPUT: true; the input reads as it did. -/
def wrapRoundsSpec : ChangeSpec := { name := "wrapRounds", fn := fun _ => fun
  | [d1, d2, d3] => { results := [.lit (.bool true)], args := [d1, d2, d3] }
  | _ => none }
def wrapRoundsRow : OpenClaim := { program := "ythphondephbgiaa", sum := "1890674d4be320ce19a18276266c91ee07fc7dfdc0f844ffee90caaa1f126e57", func := "flywheel/flywheellaw05.WrapRounds", spec := "wrapRounds", apart := false }
def WrapRoundsSaid : Prop := wrapRoundsRow.holds Try.pinned (OpenSpec.ofChange wrapRoundsSpec)

/-- ITS FALSE NEIGHBOUR: 'it returns false'. Refute it at one input. -/
def wrapRoundsWrong : ChangeSpec := { name := "wrapRounds", fn := fun _ => fun
  | [d1, d2, d3] => { results := [.lit (.bool false)], args := [d1, d2, d3] }
  | _ => none }
def WrapRoundsWrongFalsely : Prop := wrapRoundsRow.holds Try.pinned (OpenSpec.ofChange wrapRoundsWrong)

/- THE SECOND FORM. 'bulk': how many values and letters a reading holds, each counted each time it is reached (what is shared counts as often as it is met; a slice's spare places count too). A statement '..UptoSaid' is the law's where the arguments, and the package variables that the reading takes, are together of bulk at most 1048576: NARROWER than '..Said'. Prove '..Said' where nothing that the law and all that it calls make is longer than what came in: it says more and counts as full. Else prove '..UptoSaid'. A law counts once. -/
mutual
def uptoBulk {H : Type} : DataW H → Nat
  | .lit (.string bytes) => bytes.length + 1
  | .lit _ => 1
  | .nil => 1
  | .ptr d => uptoBulk d + 1
  | .slice elems spare => uptoBulkAll elems + uptoBulkAll spare + 1
  | .agg parts => uptoBulkAll parts + 1
  | .iface _ d => uptoBulk d + 1
  | .map entries => uptoBulkEntries entries + 1
  | .held _ => 1
def uptoBulkAll {H : Type} : List (DataW H) → Nat
  | [] => 0
  | d :: r => uptoBulk d + uptoBulkAll r
def uptoBulkEntries {H : Type} : List (Lit × DataW H) → Nat
  | [] => 0
  | x :: r => uptoBulkEntry x + uptoBulkEntries r
def uptoBulkEntry {H : Type} : Lit × DataW H → Nat
  | (.string bytes, d) => bytes.length + uptoBulk d + 1
  | (_, d) => uptoBulk d + 1
 end
def uptoSmall : (H : Type) → List (DataW H) → Bool := fun _ ds => decide (uptoBulkAll ds ≤ 1048576)
def OpenSpec.upto (s : _root_.Go.ChangeSpec) : _root_.Go.OpenSpec := { _root_.Go.OpenSpec.ofChange s with cond := some uptoSmall }

/-- 'flywheellaw05.WrapDoes', WHERE WHAT IT READS IS OF BULK AT MOST 1048576: true; the input reads as it did. -/
def wrapDoesUptoRow : OpenClaim := { program := "ythphondephbgiaa", sum := "1890674d4be320ce19a18276266c91ee07fc7dfdc0f844ffee90caaa1f126e57", func := "flywheel/flywheellaw05.WrapDoes", spec := "wrapDoes", apart := false, narrowed := true }
def WrapDoesUptoSaid : Prop := wrapDoesUptoRow.holds Try.pinned (OpenSpec.upto wrapDoesSpec)

/-- 'flywheellaw05.WrapAfter', WHERE WHAT IT READS IS OF BULK AT MOST 1048576: true; the input reads as it did. -/
def wrapAfterUptoRow : OpenClaim := { program := "ythphondephbgiaa", sum := "1890674d4be320ce19a18276266c91ee07fc7dfdc0f844ffee90caaa1f126e57", func := "flywheel/flywheellaw05.WrapAfter", spec := "wrapAfter", apart := false, narrowed := true }
def WrapAfterUptoSaid : Prop := wrapAfterUptoRow.holds Try.pinned (OpenSpec.upto wrapAfterSpec)

/-- 'flywheellaw05.WrapBack', WHERE WHAT IT READS IS OF BULK AT MOST 1048576: true; the input reads as it did. -/
def wrapBackUptoRow : OpenClaim := { program := "ythphondephbgiaa", sum := "1890674d4be320ce19a18276266c91ee07fc7dfdc0f844ffee90caaa1f126e57", func := "flywheel/flywheellaw05.WrapBack", spec := "wrapBack", apart := false, narrowed := true }
def WrapBackUptoSaid : Prop := wrapBackUptoRow.holds Try.pinned (OpenSpec.upto wrapBackSpec)

/-- 'flywheellaw05.WrapOrder', WHERE WHAT IT READS IS OF BULK AT MOST 1048576: true; the input reads as it did. -/
def wrapOrderUptoRow : OpenClaim := { program := "ythphondephbgiaa", sum := "1890674d4be320ce19a18276266c91ee07fc7dfdc0f844ffee90caaa1f126e57", func := "flywheel/flywheellaw05.WrapOrder", spec := "wrapOrder", apart := false, narrowed := true }
def WrapOrderUptoSaid : Prop := wrapOrderUptoRow.holds Try.pinned (OpenSpec.upto wrapOrderSpec)

/-- 'flywheellaw05.WrapNearest', WHERE WHAT IT READS IS OF BULK AT MOST 1048576: true; the input reads as it did. -/
def wrapNearestUptoRow : OpenClaim := { program := "ythphondephbgiaa", sum := "1890674d4be320ce19a18276266c91ee07fc7dfdc0f844ffee90caaa1f126e57", func := "flywheel/flywheellaw05.WrapNearest", spec := "wrapNearest", apart := false, narrowed := true }
def WrapNearestUptoSaid : Prop := wrapNearestUptoRow.holds Try.pinned (OpenSpec.upto wrapNearestSpec)

/-- 'flywheellaw05.WrapRounds', WHERE WHAT IT READS IS OF BULK AT MOST 1048576: true; the input reads as it did. -/
def wrapRoundsUptoRow : OpenClaim := { program := "ythphondephbgiaa", sum := "1890674d4be320ce19a18276266c91ee07fc7dfdc0f844ffee90caaa1f126e57", func := "flywheel/flywheellaw05.WrapRounds", spec := "wrapRounds", apart := false, narrowed := true }
def WrapRoundsUptoSaid : Prop := wrapRoundsUptoRow.holds Try.pinned (OpenSpec.upto wrapRoundsSpec)

end Rows
end Go.Proofs.Ythphondephbgiaa
