/-
  No cell of these rows narrows 'for every input' (looked for: loops, veiled, ifaces, maps, wideKeys, modest, calm, conditions, laid).
  DERIVED. THE GIVEN ROWS OF THIS SEAT. 5 by the template 'for every input the law returns true; each argument reads behind the call as it read before'; 0 by the template 'total and deterministic' (their statements: YtlidofldkomdbaaTotals.lean).
  GIVEN WITH THE SEED: the statements are not yours to turn. If you find one false, say at which input.
  Laid BY PROGRAM, IN A SANDBOX (cutbox-rows.mjs): the forced cells as the released guide's own fill.sh prints them over the translation a3487ed99f88ba63… (all of the seat's roots in one cut). By AI agents, Wed Nov 11 2026. No macro, syntax, notation, axiom, sorry.
-/
import Derived.Test.YtlidofldkomdbaaChecked
import GoSem.Claim
import GoSem.ClaimJoined
import GoSem.ClaimMapViews
import Derived.JoinedTies
import Derived.KernelRfl
namespace Go.Proofs.Ytlidofldkomdbaa
/- THE CELL 'sum', in the pinned program and in every row, IS THE sha256 OF THE DUMP (.gsa) THAT YtlidofldkomdbaaProg.lean LOADS. Nothing in Lean hashes anything: it is a label: what it is worth is what the hold of that sum in a sandbox is worth. -/
noncomputable def Try.pinned : Pinned := { name := "ytlidofldkomdbaa", sum := "a3487ed99f88ba63b4e414eb1245abccc42dd94b36ca936e25f2b5f318c243f0", checked := Try.checked }
namespace Rows
def none {H : Type} : Left H := { results := [], args := [] }

/-- 'flywheellaw15.BaseForgets': WHATEVER THE INPUT: true; the input reads as it did. -/
def baseForgetsSpec : ChangeSpec := { name := "baseForgets", fn := fun _ => fun
  | [d1, d2, d3] => { results := [.lit (.bool true)], args := [d1, d2, d3] }
  | _ => none }
def baseForgetsRow : OpenClaim := { program := "ytlidofldkomdbaa", sum := "a3487ed99f88ba63b4e414eb1245abccc42dd94b36ca936e25f2b5f318c243f0", func := "flywheel/flywheellaw15.BaseForgets", spec := "baseForgets", apart := false }
def BaseForgetsSaid : Prop := baseForgetsRow.holds Try.pinned (OpenSpec.ofChange baseForgetsSpec)

/-- ITS FALSE NEIGHBOUR: 'it returns false'. Refute it at one input. -/
def baseForgetsWrong : ChangeSpec := { name := "baseForgets", fn := fun _ => fun
  | [d1, d2, d3] => { results := [.lit (.bool false)], args := [d1, d2, d3] }
  | _ => none }
def BaseForgetsWrongFalsely : Prop := baseForgetsRow.holds Try.pinned (OpenSpec.ofChange baseForgetsWrong)

/-- 'flywheellaw15.BaseLeasts': WHATEVER THE INPUT: true; the input reads as it did. -/
def baseLeastsSpec : ChangeSpec := { name := "baseLeasts", fn := fun _ => fun
  | [d1, d2] => { results := [.lit (.bool true)], args := [d1, d2] }
  | _ => none }
def baseLeastsRow : OpenClaim := { program := "ytlidofldkomdbaa", sum := "a3487ed99f88ba63b4e414eb1245abccc42dd94b36ca936e25f2b5f318c243f0", func := "flywheel/flywheellaw15.BaseLeasts", spec := "baseLeasts", apart := false }
def BaseLeastsSaid : Prop := baseLeastsRow.holds Try.pinned (OpenSpec.ofChange baseLeastsSpec)

/-- ITS FALSE NEIGHBOUR: 'it returns false'. Refute it at one input. -/
def baseLeastsWrong : ChangeSpec := { name := "baseLeasts", fn := fun _ => fun
  | [d1, d2] => { results := [.lit (.bool false)], args := [d1, d2] }
  | _ => none }
def BaseLeastsWrongFalsely : Prop := baseLeastsRow.holds Try.pinned (OpenSpec.ofChange baseLeastsWrong)

/-- 'flywheellaw15.BasePlays': WHATEVER THE INPUT: true; the input reads as it did. -/
def basePlaysSpec : ChangeSpec := { name := "basePlays", fn := fun _ => fun
  | [d1, d2, d3] => { results := [.lit (.bool true)], args := [d1, d2, d3] }
  | _ => none }
def basePlaysRow : OpenClaim := { program := "ytlidofldkomdbaa", sum := "a3487ed99f88ba63b4e414eb1245abccc42dd94b36ca936e25f2b5f318c243f0", func := "flywheel/flywheellaw15.BasePlays", spec := "basePlays", apart := false }
def BasePlaysSaid : Prop := basePlaysRow.holds Try.pinned (OpenSpec.ofChange basePlaysSpec)

/-- ITS FALSE NEIGHBOUR: 'it returns false'. Refute it at one input. -/
def basePlaysWrong : ChangeSpec := { name := "basePlays", fn := fun _ => fun
  | [d1, d2, d3] => { results := [.lit (.bool false)], args := [d1, d2, d3] }
  | _ => none }
def BasePlaysWrongFalsely : Prop := basePlaysRow.holds Try.pinned (OpenSpec.ofChange basePlaysWrong)

/-- 'flywheellaw15.BaseAbove': WHATEVER THE INPUT: true; the input reads as it did. -/
def baseAboveSpec : ChangeSpec := { name := "baseAbove", fn := fun _ => fun
  | [d1, d2, d3] => { results := [.lit (.bool true)], args := [d1, d2, d3] }
  | _ => none }
def baseAboveRow : OpenClaim := { program := "ytlidofldkomdbaa", sum := "a3487ed99f88ba63b4e414eb1245abccc42dd94b36ca936e25f2b5f318c243f0", func := "flywheel/flywheellaw15.BaseAbove", spec := "baseAbove", apart := false }
def BaseAboveSaid : Prop := baseAboveRow.holds Try.pinned (OpenSpec.ofChange baseAboveSpec)

/-- ITS FALSE NEIGHBOUR: 'it returns false'. Refute it at one input. -/
def baseAboveWrong : ChangeSpec := { name := "baseAbove", fn := fun _ => fun
  | [d1, d2, d3] => { results := [.lit (.bool false)], args := [d1, d2, d3] }
  | _ => none }
def BaseAboveWrongFalsely : Prop := baseAboveRow.holds Try.pinned (OpenSpec.ofChange baseAboveWrong)

/-- 'flywheellaw15.BaseNone': WHATEVER THE INPUT: true; the input reads as it did. -/
def baseNoneSpec : ChangeSpec := { name := "baseNone", fn := fun _ => fun
  | [d1, d2] => { results := [.lit (.bool true)], args := [d1, d2] }
  | _ => none }
def baseNoneRow : OpenClaim := { program := "ytlidofldkomdbaa", sum := "a3487ed99f88ba63b4e414eb1245abccc42dd94b36ca936e25f2b5f318c243f0", func := "flywheel/flywheellaw15.BaseNone", spec := "baseNone", apart := false }
def BaseNoneSaid : Prop := baseNoneRow.holds Try.pinned (OpenSpec.ofChange baseNoneSpec)

/-- ITS FALSE NEIGHBOUR: 'it returns false'. Refute it at one input. -/
def baseNoneWrong : ChangeSpec := { name := "baseNone", fn := fun _ => fun
  | [d1, d2] => { results := [.lit (.bool false)], args := [d1, d2] }
  | _ => none }
def BaseNoneWrongFalsely : Prop := baseNoneRow.holds Try.pinned (OpenSpec.ofChange baseNoneWrong)

/- THE SECOND FORM. 'bulk': how many values and letters a reading holds, each counted each time it is reached (what is shared counts as often as it is met; a slice's spare places count too). A statement '..UptoSaid' is the law's where the arguments, and the package variables that the reading takes, are together of bulk at most 1048576: NARROWER than '..Said'. Prove '..Said' where nothing that the law and all that it calls make is longer than what came in: it says more and counts as full. Else prove '..UptoSaid'. A law counts once. -/
mutual
def uptoBulk {H : Type} : DataW H → Nat
  | .lit (.string bytes) => bytes.length + 1
  | .lit _ => 1
  | .nil => 1
  | .ptr d => uptoBulk d + 1
  | .slice elems spare => uptoBulkAll elems + uptoBulkAll spare + 1
  | .agg parts => uptoBulkAll parts + 1
  | .iface _ d => uptoBulk d + 1
  | .map entries => uptoBulkEntries entries + 1
  | .held _ => 1
def uptoBulkAll {H : Type} : List (DataW H) → Nat
  | [] => 0
  | d :: r => uptoBulk d + uptoBulkAll r
def uptoBulkEntries {H : Type} : List (Lit × DataW H) → Nat
  | [] => 0
  | x :: r => uptoBulkEntry x + uptoBulkEntries r
def uptoBulkEntry {H : Type} : Lit × DataW H → Nat
  | (.string bytes, d) => bytes.length + uptoBulk d + 1
  | (_, d) => uptoBulk d + 1
 end
def uptoSmall : (H : Type) → List (DataW H) → Bool := fun _ ds => decide (uptoBulkAll ds ≤ 1048576)
def OpenSpec.upto (s : _root_.Go.ChangeSpec) : _root_.Go.OpenSpec := { _root_.Go.OpenSpec.ofChange s with cond := some uptoSmall }

/-- 'flywheellaw15.BaseForgets', WHERE WHAT IT READS IS OF BULK AT MOST 1048576: true; the input reads as it did. -/
def baseForgetsUptoRow : OpenClaim := { program := "ytlidofldkomdbaa", sum := "a3487ed99f88ba63b4e414eb1245abccc42dd94b36ca936e25f2b5f318c243f0", func := "flywheel/flywheellaw15.BaseForgets", spec := "baseForgets", apart := false, narrowed := true }
def BaseForgetsUptoSaid : Prop := baseForgetsUptoRow.holds Try.pinned (OpenSpec.upto baseForgetsSpec)

/-- 'flywheellaw15.BaseLeasts', WHERE WHAT IT READS IS OF BULK AT MOST 1048576: true; the input reads as it did. -/
def baseLeastsUptoRow : OpenClaim := { program := "ytlidofldkomdbaa", sum := "a3487ed99f88ba63b4e414eb1245abccc42dd94b36ca936e25f2b5f318c243f0", func := "flywheel/flywheellaw15.BaseLeasts", spec := "baseLeasts", apart := false, narrowed := true }
def BaseLeastsUptoSaid : Prop := baseLeastsUptoRow.holds Try.pinned (OpenSpec.upto baseLeastsSpec)

/-- 'flywheellaw15.BasePlays', WHERE WHAT IT READS IS OF BULK AT MOST 1048576: true; the input reads as it did. -/
def basePlaysUptoRow : OpenClaim := { program := "ytlidofldkomdbaa", sum := "a3487ed99f88ba63b4e414eb1245abccc42dd94b36ca936e25f2b5f318c243f0", func := "flywheel/flywheellaw15.BasePlays", spec := "basePlays", apart := false, narrowed := true }
def BasePlaysUptoSaid : Prop := basePlaysUptoRow.holds Try.pinned (OpenSpec.upto basePlaysSpec)

/-- 'flywheellaw15.BaseAbove', WHERE WHAT IT READS IS OF BULK AT MOST 1048576: true; the input reads as it did. -/
def baseAboveUptoRow : OpenClaim := { program := "ytlidofldkomdbaa", sum := "a3487ed99f88ba63b4e414eb1245abccc42dd94b36ca936e25f2b5f318c243f0", func := "flywheel/flywheellaw15.BaseAbove", spec := "baseAbove", apart := false, narrowed := true }
def BaseAboveUptoSaid : Prop := baseAboveUptoRow.holds Try.pinned (OpenSpec.upto baseAboveSpec)

/-- 'flywheellaw15.BaseNone', WHERE WHAT IT READS IS OF BULK AT MOST 1048576: true; the input reads as it did. -/
def baseNoneUptoRow : OpenClaim := { program := "ytlidofldkomdbaa", sum := "a3487ed99f88ba63b4e414eb1245abccc42dd94b36ca936e25f2b5f318c243f0", func := "flywheel/flywheellaw15.BaseNone", spec := "baseNone", apart := false, narrowed := true }
def BaseNoneUptoSaid : Prop := baseNoneUptoRow.holds Try.pinned (OpenSpec.upto baseNoneSpec)

end Rows
end Go.Proofs.Ytlidofldkomdbaa
