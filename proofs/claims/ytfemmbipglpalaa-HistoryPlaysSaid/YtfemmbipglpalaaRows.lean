/-
  No cell of these rows narrows 'for every input' (looked for: loops, veiled, ifaces, maps, wideKeys, modest, calm, conditions, laid).
  DERIVED. THE GIVEN ROWS OF THIS SEAT. 7 by the template 'for every input the law returns true; each argument reads behind the call as it read before'; 0 by the template 'total and deterministic' (their statements: YtfemmbipglpalaaTotals.lean).
  GIVEN WITH THE SEED: the statements are not yours to turn. If you find one false, say at which input.
  Laid BY PROGRAM, IN A SANDBOX (cutbox-rows.mjs): the forced cells as the released guide's own fill.sh prints them over the translation a27e2666b1e653ed… (all of the seat's roots in one cut). By AI agents, Wed Nov 11 2026. No macro, syntax, notation, axiom, sorry.
-/
import Derived.Test.YtfemmbipglpalaaChecked
import GoSem.Claim
import GoSem.ClaimJoined
import GoSem.ClaimMapViews
import Derived.JoinedTies
import Derived.KernelRfl
namespace Go.Proofs.Ytfemmbipglpalaa
/- THE CELL 'sum', in the pinned program and in every row, IS THE sha256 OF THE DUMP (.gsa) THAT YtfemmbipglpalaaProg.lean LOADS. Nothing in Lean hashes anything: it is a label: what it is worth is what the hold of that sum in a sandbox is worth. -/
noncomputable def Try.pinned : Pinned := { name := "ytfemmbipglpalaa", sum := "a27e2666b1e653edd0e9e42497537bcefc4e0610327f50b3b1486d2e6a99c671", checked := Try.checked }
namespace Rows
def none {H : Type} : Left H := { results := [], args := [] }

/-- 'flywheellaw13.HistoryOnce': WHATEVER THE INPUT: true; the input reads as it did. -/
def historyOnceSpec : ChangeSpec := { name := "historyOnce", fn := fun _ => fun
  | [d1, d2, d3] => { results := [.lit (.bool true)], args := [d1, d2, d3] }
  | _ => none }
def historyOnceRow : OpenClaim := { program := "ytfemmbipglpalaa", sum := "a27e2666b1e653edd0e9e42497537bcefc4e0610327f50b3b1486d2e6a99c671", func := "flywheel/flywheellaw13.HistoryOnce", spec := "historyOnce", apart := false }
def HistoryOnceSaid : Prop := historyOnceRow.holds Try.pinned (OpenSpec.ofChange historyOnceSpec)

/-- ITS FALSE NEIGHBOUR: 'it returns false'. Refute it at one input. -/
def historyOnceWrong : ChangeSpec := { name := "historyOnce", fn := fun _ => fun
  | [d1, d2, d3] => { results := [.lit (.bool false)], args := [d1, d2, d3] }
  | _ => none }
def HistoryOnceWrongFalsely : Prop := historyOnceRow.holds Try.pinned (OpenSpec.ofChange historyOnceWrong)

/-- 'flywheellaw13.HistoryNumbers': WHATEVER THE INPUT: true; the input reads as it did. -/
def historyNumbersSpec : ChangeSpec := { name := "historyNumbers", fn := fun _ => fun
  | [d] => { results := [.lit (.bool true)], args := [d] }
  | _ => none }
def historyNumbersRow : OpenClaim := { program := "ytfemmbipglpalaa", sum := "a27e2666b1e653edd0e9e42497537bcefc4e0610327f50b3b1486d2e6a99c671", func := "flywheel/flywheellaw13.HistoryNumbers", spec := "historyNumbers", apart := false }
def HistoryNumbersSaid : Prop := historyNumbersRow.holds Try.pinned (OpenSpec.ofChange historyNumbersSpec)

/-- ITS FALSE NEIGHBOUR: 'it returns false'. Refute it at one input. -/
def historyNumbersWrong : ChangeSpec := { name := "historyNumbers", fn := fun _ => fun
  | [d] => { results := [.lit (.bool false)], args := [d] }
  | _ => none }
def HistoryNumbersWrongFalsely : Prop := historyNumbersRow.holds Try.pinned (OpenSpec.ofChange historyNumbersWrong)

/-- 'flywheellaw13.HistoryRound': WHATEVER THE INPUT: true; the input reads as it did. -/
def historyRoundSpec : ChangeSpec := { name := "historyRound", fn := fun _ => fun
  | [d1, d2] => { results := [.lit (.bool true)], args := [d1, d2] }
  | _ => none }
def historyRoundRow : OpenClaim := { program := "ytfemmbipglpalaa", sum := "a27e2666b1e653edd0e9e42497537bcefc4e0610327f50b3b1486d2e6a99c671", func := "flywheel/flywheellaw13.HistoryRound", spec := "historyRound", inPlace := ["math/bits.Sub64", "math/bits.Add64"], apart := false }
def HistoryRoundSaid : Prop := historyRoundRow.holds Try.pinned (OpenSpec.ofChange historyRoundSpec)

/-- ITS FALSE NEIGHBOUR: 'it returns false'. Refute it at one input. -/
def historyRoundWrong : ChangeSpec := { name := "historyRound", fn := fun _ => fun
  | [d1, d2] => { results := [.lit (.bool false)], args := [d1, d2] }
  | _ => none }
def HistoryRoundWrongFalsely : Prop := historyRoundRow.holds Try.pinned (OpenSpec.ofChange historyRoundWrong)

/-- 'flywheellaw13.HistoryPlays': WHATEVER THE INPUT: true; the input reads as it did. -/
def historyPlaysSpec : ChangeSpec := { name := "historyPlays", fn := fun _ => fun
  | [d1, d2] => { results := [.lit (.bool true)], args := [d1, d2] }
  | _ => none }
def historyPlaysRow : OpenClaim := { program := "ytfemmbipglpalaa", sum := "a27e2666b1e653edd0e9e42497537bcefc4e0610327f50b3b1486d2e6a99c671", func := "flywheel/flywheellaw13.HistoryPlays", spec := "historyPlays", inPlace := ["math/bits.Sub64", "math/bits.Add64"], apart := false }
def HistoryPlaysSaid : Prop := historyPlaysRow.holds Try.pinned (OpenSpec.ofChange historyPlaysSpec)

/-- ITS FALSE NEIGHBOUR: 'it returns false'. Refute it at one input. -/
def historyPlaysWrong : ChangeSpec := { name := "historyPlays", fn := fun _ => fun
  | [d1, d2] => { results := [.lit (.bool false)], args := [d1, d2] }
  | _ => none }
def HistoryPlaysWrongFalsely : Prop := historyPlaysRow.holds Try.pinned (OpenSpec.ofChange historyPlaysWrong)

/-- 'flywheellaw13.HistoryFull': WHATEVER THE INPUT: true; the input reads as it did. -/
def historyFullSpec : ChangeSpec := { name := "historyFull", fn := fun _ => fun
  | [d1, d2] => { results := [.lit (.bool true)], args := [d1, d2] }
  | _ => none }
def historyFullRow : OpenClaim := { program := "ytfemmbipglpalaa", sum := "a27e2666b1e653edd0e9e42497537bcefc4e0610327f50b3b1486d2e6a99c671", func := "flywheel/flywheellaw13.HistoryFull", spec := "historyFull", inPlace := ["math/bits.Sub64", "math/bits.Add64"], apart := false }
def HistoryFullSaid : Prop := historyFullRow.holds Try.pinned (OpenSpec.ofChange historyFullSpec)

/-- ITS FALSE NEIGHBOUR: 'it returns false'. Refute it at one input. -/
def historyFullWrong : ChangeSpec := { name := "historyFull", fn := fun _ => fun
  | [d1, d2] => { results := [.lit (.bool false)], args := [d1, d2] }
  | _ => none }
def HistoryFullWrongFalsely : Prop := historyFullRow.holds Try.pinned (OpenSpec.ofChange historyFullWrong)

/-- 'flywheellaw13.HistoryNone': WHATEVER THE INPUT: true; the input reads as it did. -/
def historyNoneSpec : ChangeSpec := { name := "historyNone", fn := fun _ => fun
  | [d1, d2] => { results := [.lit (.bool true)], args := [d1, d2] }
  | _ => none }
def historyNoneRow : OpenClaim := { program := "ytfemmbipglpalaa", sum := "a27e2666b1e653edd0e9e42497537bcefc4e0610327f50b3b1486d2e6a99c671", func := "flywheel/flywheellaw13.HistoryNone", spec := "historyNone", inPlace := ["math/bits.Sub64", "math/bits.Add64"], apart := false }
def HistoryNoneSaid : Prop := historyNoneRow.holds Try.pinned (OpenSpec.ofChange historyNoneSpec)

/-- ITS FALSE NEIGHBOUR: 'it returns false'. Refute it at one input. -/
def historyNoneWrong : ChangeSpec := { name := "historyNone", fn := fun _ => fun
  | [d1, d2] => { results := [.lit (.bool false)], args := [d1, d2] }
  | _ => none }
def HistoryNoneWrongFalsely : Prop := historyNoneRow.holds Try.pinned (OpenSpec.ofChange historyNoneWrong)

/-- 'flywheellaw13.HistoryExpires': WHATEVER THE INPUT: true; the input reads as it did. -/
def historyExpiresSpec : ChangeSpec := { name := "historyExpires", fn := fun _ => fun
  | [d1, d2, d3] => { results := [.lit (.bool true)], args := [d1, d2, d3] }
  | _ => none }
def historyExpiresRow : OpenClaim := { program := "ytfemmbipglpalaa", sum := "a27e2666b1e653edd0e9e42497537bcefc4e0610327f50b3b1486d2e6a99c671", func := "flywheel/flywheellaw13.HistoryExpires", spec := "historyExpires", inPlace := ["math/bits.Sub64", "math/bits.Add64"], apart := false }
def HistoryExpiresSaid : Prop := historyExpiresRow.holds Try.pinned (OpenSpec.ofChange historyExpiresSpec)

/-- ITS FALSE NEIGHBOUR: 'it returns false'. Refute it at one input. -/
def historyExpiresWrong : ChangeSpec := { name := "historyExpires", fn := fun _ => fun
  | [d1, d2, d3] => { results := [.lit (.bool false)], args := [d1, d2, d3] }
  | _ => none }
def HistoryExpiresWrongFalsely : Prop := historyExpiresRow.holds Try.pinned (OpenSpec.ofChange historyExpiresWrong)

/- THE SECOND FORM. 'bulk': how many values and letters a reading holds, each counted each time it is reached (what is shared counts as often as it is met; a slice's spare places count too). A statement '..UptoSaid' is the law's where the arguments, and the package variables that the reading takes, are together of bulk at most 1048576: NARROWER than '..Said'. Prove '..Said' where nothing that the law and all that it calls make is longer than what came in: it says more and counts as full. Else prove '..UptoSaid'. A law counts once. -/
mutual
def uptoBulk {H : Type} : DataW H → Nat
  | .lit (.string bytes) => bytes.length + 1
  | .lit _ => 1
  | .nil => 1
  | .ptr d => uptoBulk d + 1
  | .slice elems spare => uptoBulkAll elems + uptoBulkAll spare + 1
  | .agg parts => uptoBulkAll parts + 1
  | .iface _ d => uptoBulk d + 1
  | .map entries => uptoBulkEntries entries + 1
  | .held _ => 1
def uptoBulkAll {H : Type} : List (DataW H) → Nat
  | [] => 0
  | d :: r => uptoBulk d + uptoBulkAll r
def uptoBulkEntries {H : Type} : List (Lit × DataW H) → Nat
  | [] => 0
  | x :: r => uptoBulkEntry x + uptoBulkEntries r
def uptoBulkEntry {H : Type} : Lit × DataW H → Nat
  | (.string bytes, d) => bytes.length + uptoBulk d + 1
  | (_, d) => uptoBulk d + 1
 end
def uptoSmall : (H : Type) → List (DataW H) → Bool := fun _ ds => decide (uptoBulkAll ds ≤ 1048576)
def OpenSpec.upto (s : _root_.Go.ChangeSpec) : _root_.Go.OpenSpec := { _root_.Go.OpenSpec.ofChange s with cond := some uptoSmall }

/-- 'flywheellaw13.HistoryOnce', WHERE WHAT IT READS IS OF BULK AT MOST 1048576: true; the input reads as it did. -/
def historyOnceUptoRow : OpenClaim := { program := "ytfemmbipglpalaa", sum := "a27e2666b1e653edd0e9e42497537bcefc4e0610327f50b3b1486d2e6a99c671", func := "flywheel/flywheellaw13.HistoryOnce", spec := "historyOnce", apart := false, narrowed := true }
def HistoryOnceUptoSaid : Prop := historyOnceUptoRow.holds Try.pinned (OpenSpec.upto historyOnceSpec)

/-- 'flywheellaw13.HistoryNumbers', WHERE WHAT IT READS IS OF BULK AT MOST 1048576: true; the input reads as it did. -/
def historyNumbersUptoRow : OpenClaim := { program := "ytfemmbipglpalaa", sum := "a27e2666b1e653edd0e9e42497537bcefc4e0610327f50b3b1486d2e6a99c671", func := "flywheel/flywheellaw13.HistoryNumbers", spec := "historyNumbers", apart := false, narrowed := true }
def HistoryNumbersUptoSaid : Prop := historyNumbersUptoRow.holds Try.pinned (OpenSpec.upto historyNumbersSpec)

/-- 'flywheellaw13.HistoryRound', WHERE WHAT IT READS IS OF BULK AT MOST 1048576: true; the input reads as it did. -/
def historyRoundUptoRow : OpenClaim := { program := "ytfemmbipglpalaa", sum := "a27e2666b1e653edd0e9e42497537bcefc4e0610327f50b3b1486d2e6a99c671", func := "flywheel/flywheellaw13.HistoryRound", spec := "historyRound", inPlace := ["math/bits.Sub64", "math/bits.Add64"], apart := false, narrowed := true }
def HistoryRoundUptoSaid : Prop := historyRoundUptoRow.holds Try.pinned (OpenSpec.upto historyRoundSpec)

/-- 'flywheellaw13.HistoryPlays', WHERE WHAT IT READS IS OF BULK AT MOST 1048576: true; the input reads as it did. -/
def historyPlaysUptoRow : OpenClaim := { program := "ytfemmbipglpalaa", sum := "a27e2666b1e653edd0e9e42497537bcefc4e0610327f50b3b1486d2e6a99c671", func := "flywheel/flywheellaw13.HistoryPlays", spec := "historyPlays", inPlace := ["math/bits.Sub64", "math/bits.Add64"], apart := false, narrowed := true }
def HistoryPlaysUptoSaid : Prop := historyPlaysUptoRow.holds Try.pinned (OpenSpec.upto historyPlaysSpec)

/-- 'flywheellaw13.HistoryFull', WHERE WHAT IT READS IS OF BULK AT MOST 1048576: true; the input reads as it did. -/
def historyFullUptoRow : OpenClaim := { program := "ytfemmbipglpalaa", sum := "a27e2666b1e653edd0e9e42497537bcefc4e0610327f50b3b1486d2e6a99c671", func := "flywheel/flywheellaw13.HistoryFull", spec := "historyFull", inPlace := ["math/bits.Sub64", "math/bits.Add64"], apart := false, narrowed := true }
def HistoryFullUptoSaid : Prop := historyFullUptoRow.holds Try.pinned (OpenSpec.upto historyFullSpec)

/-- 'flywheellaw13.HistoryNone', WHERE WHAT IT READS IS OF BULK AT MOST 1048576: true; the input reads as it did. -/
def historyNoneUptoRow : OpenClaim := { program := "ytfemmbipglpalaa", sum := "a27e2666b1e653edd0e9e42497537bcefc4e0610327f50b3b1486d2e6a99c671", func := "flywheel/flywheellaw13.HistoryNone", spec := "historyNone", inPlace := ["math/bits.Sub64", "math/bits.Add64"], apart := false, narrowed := true }
def HistoryNoneUptoSaid : Prop := historyNoneUptoRow.holds Try.pinned (OpenSpec.upto historyNoneSpec)

/-- 'flywheellaw13.HistoryExpires', WHERE WHAT IT READS IS OF BULK AT MOST 1048576: true; the input reads as it did. -/
def historyExpiresUptoRow : OpenClaim := { program := "ytfemmbipglpalaa", sum := "a27e2666b1e653edd0e9e42497537bcefc4e0610327f50b3b1486d2e6a99c671", func := "flywheel/flywheellaw13.HistoryExpires", spec := "historyExpires", inPlace := ["math/bits.Sub64", "math/bits.Add64"], apart := false, narrowed := true }
def HistoryExpiresUptoSaid : Prop := historyExpiresUptoRow.holds Try.pinned (OpenSpec.upto historyExpiresSpec)

end Rows
end Go.Proofs.Ytfemmbipglpalaa
