/- A scope with a label that is jumped back to: the pass from the label on is shown once; whatever program. -/
import Derived.ScopeJumps
namespace Go.Proofs.Ytmedlplgeeeodaa.Bits
open Go
variable {P : Program} {a : Act} {w : World} {Q : Exit → Act → World → Prop}
theorem wp_scope_pass {c Y : Code} (l : Nat) (J : Act → World → Prop) (μ : Act → World → Nat) (hf : findLabel c l = some (Code.skip.seq Y))
    (pass : ∀ a w, J a w → Y.wp P (Exit.jump l (fun a' w' => J a' w' ∧ μ a' w' < μ a w) Q) a w)
    (first : (∀ a w, J a w → ((Code.label l).seq Y).wp P (Exit.jump l J Q) a w) → c.wp P (Exit.jump l J Q) a w) : (Code.scope c).wp P Q a w := by
  refine wp_scope_jumps l J μ hf (first fun a w hJ => wp_seq (wp_label ?_)) (fun a w hJ => wp_seq (wp_skip ?_))
  · refine wp_mono (pass a w hJ) (fun e a' w' h => ?_)
    cases e with
    | goto l' => exact ⟨h.1, h.2.1⟩
    | normal => exact h
    | exit id => exact h
    | ret => exact h
    | panic ch => exact h
    | outgrown => exact h
  · exact pass a w hJ
end Go.Proofs.Ytmedlplgeeeodaa.Bits
