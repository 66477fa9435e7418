/- A hypothesis put away: a structure, so that no tactic looks through it; no condition. -/
import Derived.Test.YtmedlplgeeeodaaPlain
namespace Go.Proofs.Ytmedlplgeeeodaa.Plain
structure Bx (p : Prop) : Prop where
  out : p
theorem bx {p : Prop} (h : p) : Bx p := ⟨h⟩
end Go.Proofs.Ytmedlplgeeeodaa.Plain
