/-
  No cell of these rows narrows 'for every input' (looked for: loops, veiled, ifaces, maps, wideKeys, modest, calm, conditions, laid).
  DERIVED. THE GIVEN ROWS OF THIS SEAT. 7 by the template 'for every input the law returns true; each argument reads behind the call as it read before'; 0 by the template 'total and deterministic' (their statements: YtclieljalegmkaaTotals.lean).
  GIVEN WITH THE SEED: the statements are not yours to turn. If you find one false, say at which input.
  Laid BY PROGRAM, IN A SANDBOX (cutbox-rows.mjs): the forced cells as the released guide's own fill.sh prints them over the translation 43cc1d54f550de52… (all of the seat's roots in one cut). By AI agents, Wed Nov 11 2026. No macro, syntax, notation, axiom, sorry.
-/
import Derived.Test.YtclieljalegmkaaChecked
import GoSem.Claim
import GoSem.ClaimJoined
import GoSem.ClaimMapViews
import Derived.JoinedTies
import Derived.KernelRfl
namespace Go.Proofs.Ytclieljalegmkaa
/- THE CELL 'sum', in the pinned program and in every row, IS THE sha256 OF THE DUMP (.gsa) THAT YtclieljalegmkaaProg.lean LOADS. Nothing in Lean hashes anything: it is a label: what it is worth is what the hold of that sum in a sandbox is worth. -/
noncomputable def Try.pinned : Pinned := { name := "ytclieljalegmkaa", sum := "43cc1d54f550de52e971be55e0e7138c956857e8943bb8f5ff6db680c2e481cf", checked := Try.checked }
namespace Rows
def none {H : Type} : Left H := { results := [], args := [] }

/-- 'flywheellaw21.PhaseSums': WHATEVER THE INPUT: true; the input reads as it did. -/
def phaseSumsSpec : ChangeSpec := { name := "phaseSums", fn := fun _ => fun
  | [d] => { results := [.lit (.bool true)], args := [d] }
  | _ => none }
def phaseSumsRow : OpenClaim := { program := "ytclieljalegmkaa", sum := "43cc1d54f550de52e971be55e0e7138c956857e8943bb8f5ff6db680c2e481cf", func := "flywheel/flywheellaw21.PhaseSums", spec := "phaseSums", apart := false }
def PhaseSumsSaid : Prop := phaseSumsRow.holds Try.pinned (OpenSpec.ofChange phaseSumsSpec)

/-- ITS FALSE NEIGHBOUR: 'it returns false'. Refute it at one input. -/
def phaseSumsWrong : ChangeSpec := { name := "phaseSums", fn := fun _ => fun
  | [d] => { results := [.lit (.bool false)], args := [d] }
  | _ => none }
def PhaseSumsWrongFalsely : Prop := phaseSumsRow.holds Try.pinned (OpenSpec.ofChange phaseSumsWrong)

/-- 'flywheellaw21.PhaseTurns': WHATEVER THE INPUT: true; the input reads as it did. -/
def phaseTurnsSpec : ChangeSpec := { name := "phaseTurns", fn := fun _ => fun
  | [d1, d2, d3] => { results := [.lit (.bool true)], args := [d1, d2, d3] }
  | _ => none }
def phaseTurnsRow : OpenClaim := { program := "ytclieljalegmkaa", sum := "43cc1d54f550de52e971be55e0e7138c956857e8943bb8f5ff6db680c2e481cf", func := "flywheel/flywheellaw21.PhaseTurns", spec := "phaseTurns", apart := false }
def PhaseTurnsSaid : Prop := phaseTurnsRow.holds Try.pinned (OpenSpec.ofChange phaseTurnsSpec)

/-- ITS FALSE NEIGHBOUR: 'it returns false'. Refute it at one input. -/
def phaseTurnsWrong : ChangeSpec := { name := "phaseTurns", fn := fun _ => fun
  | [d1, d2, d3] => { results := [.lit (.bool false)], args := [d1, d2, d3] }
  | _ => none }
def PhaseTurnsWrongFalsely : Prop := phaseTurnsRow.holds Try.pinned (OpenSpec.ofChange phaseTurnsWrong)

/-- 'flywheellaw21.PhaseAll': WHATEVER THE INPUT: true; the input reads as it did. -/
def phaseAllSpec : ChangeSpec := { name := "phaseAll", fn := fun _ => fun
  | [d] => { results := [.lit (.bool true)], args := [d] }
  | _ => none }
def phaseAllRow : OpenClaim := { program := "ytclieljalegmkaa", sum := "43cc1d54f550de52e971be55e0e7138c956857e8943bb8f5ff6db680c2e481cf", func := "flywheel/flywheellaw21.PhaseAll", spec := "phaseAll", apart := false }
def PhaseAllSaid : Prop := phaseAllRow.holds Try.pinned (OpenSpec.ofChange phaseAllSpec)

/-- ITS FALSE NEIGHBOUR: 'it returns false'. Refute it at one input. -/
def phaseAllWrong : ChangeSpec := { name := "phaseAll", fn := fun _ => fun
  | [d] => { results := [.lit (.bool false)], args := [d] }
  | _ => none }
def PhaseAllWrongFalsely : Prop := phaseAllRow.holds Try.pinned (OpenSpec.ofChange phaseAllWrong)

/-- 'flywheellaw21.PhaseMoves': WHATEVER THE INPUT: true; the input reads as it did. -/
def phaseMovesSpec : ChangeSpec := { name := "phaseMoves", fn := fun _ => fun
  | [d1, d2] => { results := [.lit (.bool true)], args := [d1, d2] }
  | _ => none }
def phaseMovesRow : OpenClaim := { program := "ytclieljalegmkaa", sum := "43cc1d54f550de52e971be55e0e7138c956857e8943bb8f5ff6db680c2e481cf", func := "flywheel/flywheellaw21.PhaseMoves", spec := "phaseMoves", apart := false }
def PhaseMovesSaid : Prop := phaseMovesRow.holds Try.pinned (OpenSpec.ofChange phaseMovesSpec)

/-- ITS FALSE NEIGHBOUR: 'it returns false'. Refute it at one input. -/
def phaseMovesWrong : ChangeSpec := { name := "phaseMoves", fn := fun _ => fun
  | [d1, d2] => { results := [.lit (.bool false)], args := [d1, d2] }
  | _ => none }
def PhaseMovesWrongFalsely : Prop := phaseMovesRow.holds Try.pinned (OpenSpec.ofChange phaseMovesWrong)

/-- 'flywheellaw21.PhaseNone': WHATEVER THE INPUT: true; the input reads as it did. -/
def phaseNoneSpec : ChangeSpec := { name := "phaseNone", fn := fun _ => fun
  | [d] => { results := [.lit (.bool true)], args := [d] }
  | _ => none }
def phaseNoneRow : OpenClaim := { program := "ytclieljalegmkaa", sum := "43cc1d54f550de52e971be55e0e7138c956857e8943bb8f5ff6db680c2e481cf", func := "flywheel/flywheellaw21.PhaseNone", spec := "phaseNone", apart := false }
def PhaseNoneSaid : Prop := phaseNoneRow.holds Try.pinned (OpenSpec.ofChange phaseNoneSpec)

/-- ITS FALSE NEIGHBOUR: 'it returns false'. Refute it at one input. -/
def phaseNoneWrong : ChangeSpec := { name := "phaseNone", fn := fun _ => fun
  | [d] => { results := [.lit (.bool false)], args := [d] }
  | _ => none }
def PhaseNoneWrongFalsely : Prop := phaseNoneRow.holds Try.pinned (OpenSpec.ofChange phaseNoneWrong)

/-- 'flywheellaw21.PhasePlays': WHATEVER THE INPUT: true; the input reads as it did. -/
def phasePlaysSpec : ChangeSpec := { name := "phasePlays", fn := fun _ => fun
  | [d1, d2] => { results := [.lit (.bool true)], args := [d1, d2] }
  | _ => none }
def phasePlaysRow : OpenClaim := { program := "ytclieljalegmkaa", sum := "43cc1d54f550de52e971be55e0e7138c956857e8943bb8f5ff6db680c2e481cf", func := "flywheel/flywheellaw21.PhasePlays", spec := "phasePlays", apart := false }
def PhasePlaysSaid : Prop := phasePlaysRow.holds Try.pinned (OpenSpec.ofChange phasePlaysSpec)

/-- ITS FALSE NEIGHBOUR: 'it returns false'. Refute it at one input. -/
def phasePlaysWrong : ChangeSpec := { name := "phasePlays", fn := fun _ => fun
  | [d1, d2] => { results := [.lit (.bool false)], args := [d1, d2] }
  | _ => none }
def PhasePlaysWrongFalsely : Prop := phasePlaysRow.holds Try.pinned (OpenSpec.ofChange phasePlaysWrong)

/-- 'flywheellaw21.PhaseStill': WHATEVER THE INPUT: true; the input reads as it did. -/
def phaseStillSpec : ChangeSpec := { name := "phaseStill", fn := fun _ => fun
  | [d1, d2, d3] => { results := [.lit (.bool true)], args := [d1, d2, d3] }
  | _ => none }
def phaseStillRow : OpenClaim := { program := "ytclieljalegmkaa", sum := "43cc1d54f550de52e971be55e0e7138c956857e8943bb8f5ff6db680c2e481cf", func := "flywheel/flywheellaw21.PhaseStill", spec := "phaseStill", apart := false }
def PhaseStillSaid : Prop := phaseStillRow.holds Try.pinned (OpenSpec.ofChange phaseStillSpec)

/-- ITS FALSE NEIGHBOUR: 'it returns false'. Refute it at one input. -/
def phaseStillWrong : ChangeSpec := { name := "phaseStill", fn := fun _ => fun
  | [d1, d2, d3] => { results := [.lit (.bool false)], args := [d1, d2, d3] }
  | _ => none }
def PhaseStillWrongFalsely : Prop := phaseStillRow.holds Try.pinned (OpenSpec.ofChange phaseStillWrong)

/- THE SECOND FORM. 'bulk': how many values and letters a reading holds, each counted each time it is reached (what is shared counts as often as it is met; a slice's spare places count too). A statement '..UptoSaid' is the law's where the arguments, and the package variables that the reading takes, are together of bulk at most 1048576: NARROWER than '..Said'. Prove '..Said' where nothing that the law and all that it calls make is longer than what came in: it says more and counts as full. Else prove '..UptoSaid'. A law counts once. -/
mutual
def uptoBulk {H : Type} : DataW H → Nat
  | .lit (.string bytes) => bytes.length + 1
  | .lit _ => 1
  | .nil => 1
  | .ptr d => uptoBulk d + 1
  | .slice elems spare => uptoBulkAll elems + uptoBulkAll spare + 1
  | .agg parts => uptoBulkAll parts + 1
  | .iface _ d => uptoBulk d + 1
  | .map entries => uptoBulkEntries entries + 1
  | .held _ => 1
def uptoBulkAll {H : Type} : List (DataW H) → Nat
  | [] => 0
  | d :: r => uptoBulk d + uptoBulkAll r
def uptoBulkEntries {H : Type} : List (Lit × DataW H) → Nat
  | [] => 0
  | x :: r => uptoBulkEntry x + uptoBulkEntries r
def uptoBulkEntry {H : Type} : Lit × DataW H → Nat
  | (.string bytes, d) => bytes.length + uptoBulk d + 1
  | (_, d) => uptoBulk d + 1
 end
def uptoSmall : (H : Type) → List (DataW H) → Bool := fun _ ds => decide (uptoBulkAll ds ≤ 1048576)
def OpenSpec.upto (s : _root_.Go.ChangeSpec) : _root_.Go.OpenSpec := { _root_.Go.OpenSpec.ofChange s with cond := some uptoSmall }

/-- 'flywheellaw21.PhaseSums', WHERE WHAT IT READS IS OF BULK AT MOST 1048576: true; the input reads as it did. -/
def phaseSumsUptoRow : OpenClaim := { program := "ytclieljalegmkaa", sum := "43cc1d54f550de52e971be55e0e7138c956857e8943bb8f5ff6db680c2e481cf", func := "flywheel/flywheellaw21.PhaseSums", spec := "phaseSums", apart := false, narrowed := true }
def PhaseSumsUptoSaid : Prop := phaseSumsUptoRow.holds Try.pinned (OpenSpec.upto phaseSumsSpec)

/-- 'flywheellaw21.PhaseTurns', WHERE WHAT IT READS IS OF BULK AT MOST 1048576: true; the input reads as it did. -/
def phaseTurnsUptoRow : OpenClaim := { program := "ytclieljalegmkaa", sum := "43cc1d54f550de52e971be55e0e7138c956857e8943bb8f5ff6db680c2e481cf", func := "flywheel/flywheellaw21.PhaseTurns", spec := "phaseTurns", apart := false, narrowed := true }
def PhaseTurnsUptoSaid : Prop := phaseTurnsUptoRow.holds Try.pinned (OpenSpec.upto phaseTurnsSpec)

/-- 'flywheellaw21.PhaseAll', WHERE WHAT IT READS IS OF BULK AT MOST 1048576: true; the input reads as it did. -/
def phaseAllUptoRow : OpenClaim := { program := "ytclieljalegmkaa", sum := "43cc1d54f550de52e971be55e0e7138c956857e8943bb8f5ff6db680c2e481cf", func := "flywheel/flywheellaw21.PhaseAll", spec := "phaseAll", apart := false, narrowed := true }
def PhaseAllUptoSaid : Prop := phaseAllUptoRow.holds Try.pinned (OpenSpec.upto phaseAllSpec)

/-- 'flywheellaw21.PhaseMoves', WHERE WHAT IT READS IS OF BULK AT MOST 1048576: true; the input reads as it did. -/
def phaseMovesUptoRow : OpenClaim := { program := "ytclieljalegmkaa", sum := "43cc1d54f550de52e971be55e0e7138c956857e8943bb8f5ff6db680c2e481cf", func := "flywheel/flywheellaw21.PhaseMoves", spec := "phaseMoves", apart := false, narrowed := true }
def PhaseMovesUptoSaid : Prop := phaseMovesUptoRow.holds Try.pinned (OpenSpec.upto phaseMovesSpec)

/-- 'flywheellaw21.PhaseNone', WHERE WHAT IT READS IS OF BULK AT MOST 1048576: true; the input reads as it did. -/
def phaseNoneUptoRow : OpenClaim := { program := "ytclieljalegmkaa", sum := "43cc1d54f550de52e971be55e0e7138c956857e8943bb8f5ff6db680c2e481cf", func := "flywheel/flywheellaw21.PhaseNone", spec := "phaseNone", apart := false, narrowed := true }
def PhaseNoneUptoSaid : Prop := phaseNoneUptoRow.holds Try.pinned (OpenSpec.upto phaseNoneSpec)

/-- 'flywheellaw21.PhasePlays', WHERE WHAT IT READS IS OF BULK AT MOST 1048576: true; the input reads as it did. -/
def phasePlaysUptoRow : OpenClaim := { program := "ytclieljalegmkaa", sum := "43cc1d54f550de52e971be55e0e7138c956857e8943bb8f5ff6db680c2e481cf", func := "flywheel/flywheellaw21.PhasePlays", spec := "phasePlays", apart := false, narrowed := true }
def PhasePlaysUptoSaid : Prop := phasePlaysUptoRow.holds Try.pinned (OpenSpec.upto phasePlaysSpec)

/-- 'flywheellaw21.PhaseStill', WHERE WHAT IT READS IS OF BULK AT MOST 1048576: true; the input reads as it did. -/
def phaseStillUptoRow : OpenClaim := { program := "ytclieljalegmkaa", sum := "43cc1d54f550de52e971be55e0e7138c956857e8943bb8f5ff6db680c2e481cf", func := "flywheel/flywheellaw21.PhaseStill", spec := "phaseStill", apart := false, narrowed := true }
def PhaseStillUptoSaid : Prop := phaseStillUptoRow.holds Try.pinned (OpenSpec.upto phaseStillSpec)

end Rows
end Go.Proofs.Ytclieljalegmkaa
