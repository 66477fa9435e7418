/-
  No cell of these rows narrows 'for every input' (looked for: loops, veiled, ifaces, maps, wideKeys, modest, calm, conditions, laid).
  DERIVED. THE GIVEN ROWS OF THIS SEAT. 5 by the template 'for every input the law returns true; each argument reads behind the call as it read before'; 0 by the template 'total and deterministic' (their statements: YtdpaknpiedoblaaTotals.lean).
  GIVEN WITH THE SEED: the statements are not yours to turn. If you find one false, say at which input.
  Laid BY PROGRAM, IN A SANDBOX (cutbox-rows.mjs): the forced cells as the released guide's own fill.sh prints them over the translation d130adfd40780962… (all of the seat's roots in one cut). By AI agents, Wed Nov 11 2026. No macro, syntax, notation, axiom, sorry.
-/
import Derived.Test.YtdpaknpiedoblaaChecked
import GoSem.Claim
import GoSem.ClaimJoined
import GoSem.ClaimMapViews
import Derived.JoinedTies
import Derived.KernelRfl
namespace Go.Proofs.Ytdpaknpiedoblaa
/- THE CELL 'sum', in the pinned program and in every row, IS THE sha256 OF THE DUMP (.gsa) THAT YtdpaknpiedoblaaProg.lean LOADS. Nothing in Lean hashes anything: it is a label: what it is worth is what the hold of that sum in a sandbox is worth. -/
noncomputable def Try.pinned : Pinned := { name := "ytdpaknpiedoblaa", sum := "d130adfd4078096246f1712c0f7ae567c9d6dd6ab868d0979f26373a34f71dcd", checked := Try.checked }
namespace Rows
def none {H : Type} : Left H := { results := [], args := [] }

/-- 'flywheellaw16.GroupSums': WHATEVER THE INPUT: true; the input reads as it did. -/
def groupSumsSpec : ChangeSpec := { name := "groupSums", fn := fun _ => fun
  | [d1, d2, d3] => { results := [.lit (.bool true)], args := [d1, d2, d3] }
  | _ => none }
def groupSumsRow : OpenClaim := { program := "ytdpaknpiedoblaa", sum := "d130adfd4078096246f1712c0f7ae567c9d6dd6ab868d0979f26373a34f71dcd", func := "flywheel/flywheellaw16.GroupSums", spec := "groupSums", inPlace := ["math/bits.Sub64", "math/bits.Add64"], apart := false }
def GroupSumsSaid : Prop := groupSumsRow.holds Try.pinned (OpenSpec.ofChange groupSumsSpec)

/-- ITS FALSE NEIGHBOUR: 'it returns false'. Refute it at one input. -/
def groupSumsWrong : ChangeSpec := { name := "groupSums", fn := fun _ => fun
  | [d1, d2, d3] => { results := [.lit (.bool false)], args := [d1, d2, d3] }
  | _ => none }
def GroupSumsWrongFalsely : Prop := groupSumsRow.holds Try.pinned (OpenSpec.ofChange groupSumsWrong)

/-- 'flywheellaw16.GroupPlays': WHATEVER THE INPUT: true; the input reads as it did. -/
def groupPlaysSpec : ChangeSpec := { name := "groupPlays", fn := fun _ => fun
  | [d1, d2] => { results := [.lit (.bool true)], args := [d1, d2] }
  | _ => none }
def groupPlaysRow : OpenClaim := { program := "ytdpaknpiedoblaa", sum := "d130adfd4078096246f1712c0f7ae567c9d6dd6ab868d0979f26373a34f71dcd", func := "flywheel/flywheellaw16.GroupPlays", spec := "groupPlays", inPlace := ["math/bits.Sub64", "math/bits.Add64"], apart := false }
def GroupPlaysSaid : Prop := groupPlaysRow.holds Try.pinned (OpenSpec.ofChange groupPlaysSpec)

/-- ITS FALSE NEIGHBOUR: 'it returns false'. Refute it at one input. -/
def groupPlaysWrong : ChangeSpec := { name := "groupPlays", fn := fun _ => fun
  | [d1, d2] => { results := [.lit (.bool false)], args := [d1, d2] }
  | _ => none }
def GroupPlaysWrongFalsely : Prop := groupPlaysRow.holds Try.pinned (OpenSpec.ofChange groupPlaysWrong)

/-- 'flywheellaw16.GroupLate': WHATEVER THE INPUT: true; the input reads as it did. -/
def groupLateSpec : ChangeSpec := { name := "groupLate", fn := fun _ => fun
  | [d1, d2] => { results := [.lit (.bool true)], args := [d1, d2] }
  | _ => none }
def groupLateRow : OpenClaim := { program := "ytdpaknpiedoblaa", sum := "d130adfd4078096246f1712c0f7ae567c9d6dd6ab868d0979f26373a34f71dcd", func := "flywheel/flywheellaw16.GroupLate", spec := "groupLate", inPlace := ["math/bits.Sub64", "math/bits.Add64"], apart := false }
def GroupLateSaid : Prop := groupLateRow.holds Try.pinned (OpenSpec.ofChange groupLateSpec)

/-- ITS FALSE NEIGHBOUR: 'it returns false'. Refute it at one input. -/
def groupLateWrong : ChangeSpec := { name := "groupLate", fn := fun _ => fun
  | [d1, d2] => { results := [.lit (.bool false)], args := [d1, d2] }
  | _ => none }
def GroupLateWrongFalsely : Prop := groupLateRow.holds Try.pinned (OpenSpec.ofChange groupLateWrong)

/-- 'flywheellaw16.GroupNone': WHATEVER THE INPUT: true; the input reads as it did. -/
def groupNoneSpec : ChangeSpec := { name := "groupNone", fn := fun _ => fun
  | [d] => { results := [.lit (.bool true)], args := [d] }
  | _ => none }
def groupNoneRow : OpenClaim := { program := "ytdpaknpiedoblaa", sum := "d130adfd4078096246f1712c0f7ae567c9d6dd6ab868d0979f26373a34f71dcd", func := "flywheel/flywheellaw16.GroupNone", spec := "groupNone", inPlace := ["math/bits.Sub64", "math/bits.Add64"], apart := false }
def GroupNoneSaid : Prop := groupNoneRow.holds Try.pinned (OpenSpec.ofChange groupNoneSpec)

/-- ITS FALSE NEIGHBOUR: 'it returns false'. Refute it at one input. -/
def groupNoneWrong : ChangeSpec := { name := "groupNone", fn := fun _ => fun
  | [d] => { results := [.lit (.bool false)], args := [d] }
  | _ => none }
def GroupNoneWrongFalsely : Prop := groupNoneRow.holds Try.pinned (OpenSpec.ofChange groupNoneWrong)

/-- 'flywheellaw16.GroupOne': WHATEVER THE INPUT: true; the input reads as it did. -/
def groupOneSpec : ChangeSpec := { name := "groupOne", fn := fun _ => fun
  | [d1, d2] => { results := [.lit (.bool true)], args := [d1, d2] }
  | _ => none }
def groupOneRow : OpenClaim := { program := "ytdpaknpiedoblaa", sum := "d130adfd4078096246f1712c0f7ae567c9d6dd6ab868d0979f26373a34f71dcd", func := "flywheel/flywheellaw16.GroupOne", spec := "groupOne", inPlace := ["math/bits.Sub64", "math/bits.Add64"], apart := false }
def GroupOneSaid : Prop := groupOneRow.holds Try.pinned (OpenSpec.ofChange groupOneSpec)

/-- ITS FALSE NEIGHBOUR: 'it returns false'. Refute it at one input. -/
def groupOneWrong : ChangeSpec := { name := "groupOne", fn := fun _ => fun
  | [d1, d2] => { results := [.lit (.bool false)], args := [d1, d2] }
  | _ => none }
def GroupOneWrongFalsely : Prop := groupOneRow.holds Try.pinned (OpenSpec.ofChange groupOneWrong)

/- THE SECOND FORM. 'bulk': how many values and letters a reading holds, each counted each time it is reached (what is shared counts as often as it is met; a slice's spare places count too). A statement '..UptoSaid' is the law's where the arguments, and the package variables that the reading takes, are together of bulk at most 1048576: NARROWER than '..Said'. Prove '..Said' where nothing that the law and all that it calls make is longer than what came in: it says more and counts as full. Else prove '..UptoSaid'. A law counts once. -/
mutual
def uptoBulk {H : Type} : DataW H → Nat
  | .lit (.string bytes) => bytes.length + 1
  | .lit _ => 1
  | .nil => 1
  | .ptr d => uptoBulk d + 1
  | .slice elems spare => uptoBulkAll elems + uptoBulkAll spare + 1
  | .agg parts => uptoBulkAll parts + 1
  | .iface _ d => uptoBulk d + 1
  | .map entries => uptoBulkEntries entries + 1
  | .held _ => 1
def uptoBulkAll {H : Type} : List (DataW H) → Nat
  | [] => 0
  | d :: r => uptoBulk d + uptoBulkAll r
def uptoBulkEntries {H : Type} : List (Lit × DataW H) → Nat
  | [] => 0
  | x :: r => uptoBulkEntry x + uptoBulkEntries r
def uptoBulkEntry {H : Type} : Lit × DataW H → Nat
  | (.string bytes, d) => bytes.length + uptoBulk d + 1
  | (_, d) => uptoBulk d + 1
 end
def uptoSmall : (H : Type) → List (DataW H) → Bool := fun _ ds => decide (uptoBulkAll ds ≤ 1048576)
def OpenSpec.upto (s : _root_.Go.ChangeSpec) : _root_.Go.OpenSpec := { _root_.Go.OpenSpec.ofChange s with cond := some uptoSmall }

/-- 'flywheellaw16.GroupSums', WHERE WHAT IT READS IS OF BULK AT MOST 1048576: true; the input reads as it did. -/
def groupSumsUptoRow : OpenClaim := { program := "ytdpaknpiedoblaa", sum := "d130adfd4078096246f1712c0f7ae567c9d6dd6ab868d0979f26373a34f71dcd", func := "flywheel/flywheellaw16.GroupSums", spec := "groupSums", inPlace := ["math/bits.Sub64", "math/bits.Add64"], apart := false, narrowed := true }
def GroupSumsUptoSaid : Prop := groupSumsUptoRow.holds Try.pinned (OpenSpec.upto groupSumsSpec)

/-- 'flywheellaw16.GroupPlays', WHERE WHAT IT READS IS OF BULK AT MOST 1048576: true; the input reads as it did. -/
def groupPlaysUptoRow : OpenClaim := { program := "ytdpaknpiedoblaa", sum := "d130adfd4078096246f1712c0f7ae567c9d6dd6ab868d0979f26373a34f71dcd", func := "flywheel/flywheellaw16.GroupPlays", spec := "groupPlays", inPlace := ["math/bits.Sub64", "math/bits.Add64"], apart := false, narrowed := true }
def GroupPlaysUptoSaid : Prop := groupPlaysUptoRow.holds Try.pinned (OpenSpec.upto groupPlaysSpec)

/-- 'flywheellaw16.GroupLate', WHERE WHAT IT READS IS OF BULK AT MOST 1048576: true; the input reads as it did. -/
def groupLateUptoRow : OpenClaim := { program := "ytdpaknpiedoblaa", sum := "d130adfd4078096246f1712c0f7ae567c9d6dd6ab868d0979f26373a34f71dcd", func := "flywheel/flywheellaw16.GroupLate", spec := "groupLate", inPlace := ["math/bits.Sub64", "math/bits.Add64"], apart := false, narrowed := true }
def GroupLateUptoSaid : Prop := groupLateUptoRow.holds Try.pinned (OpenSpec.upto groupLateSpec)

/-- 'flywheellaw16.GroupNone', WHERE WHAT IT READS IS OF BULK AT MOST 1048576: true; the input reads as it did. -/
def groupNoneUptoRow : OpenClaim := { program := "ytdpaknpiedoblaa", sum := "d130adfd4078096246f1712c0f7ae567c9d6dd6ab868d0979f26373a34f71dcd", func := "flywheel/flywheellaw16.GroupNone", spec := "groupNone", inPlace := ["math/bits.Sub64", "math/bits.Add64"], apart := false, narrowed := true }
def GroupNoneUptoSaid : Prop := groupNoneUptoRow.holds Try.pinned (OpenSpec.upto groupNoneSpec)

/-- 'flywheellaw16.GroupOne', WHERE WHAT IT READS IS OF BULK AT MOST 1048576: true; the input reads as it did. -/
def groupOneUptoRow : OpenClaim := { program := "ytdpaknpiedoblaa", sum := "d130adfd4078096246f1712c0f7ae567c9d6dd6ab868d0979f26373a34f71dcd", func := "flywheel/flywheellaw16.GroupOne", spec := "groupOne", inPlace := ["math/bits.Sub64", "math/bits.Add64"], apart := false, narrowed := true }
def GroupOneUptoSaid : Prop := groupOneUptoRow.holds Try.pinned (OpenSpec.upto groupOneSpec)

end Rows
end Go.Proofs.Ytdpaknpiedoblaa
