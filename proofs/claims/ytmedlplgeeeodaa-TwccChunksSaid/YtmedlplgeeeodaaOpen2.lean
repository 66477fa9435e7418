/- Slices within structs, told with their room; whatever program; no condition but those in each. -/
import Derived.Test.YtmedlplgeeeodaaOpen
namespace Go.Proofs.Ytmedlplgeeeodaa.Open
open Go.RowKit Go.Proofs.Ytmedlplgeeeodaa.Heap
def rSlC {α : Type} (sz : Nat) (r : Rel α) : Rel (List α) := fun w cs xs => ∃ A n c, cs = [.slice A n c] ∧ n ≤ c ∧ Els sz r w A n xs
theorem opens_sliceC {P : Program} {α : Type} {t e : TypeId} {r : Rel α} {sz : Nat} (ht : P.underlying t = some (.slice e)) (hc : P.cellsOf e = sz) (hsz : 0 < sz) (h : Opens P e r) : Opens P t (rSlC sz r) := fun enc w fuel cs x hx => by
  obtain ⟨xs, A, n, c, e1, he⟩ := opens_slice ht hc hsz h enc w fuel cs x hx
  refine ⟨xs, A, n, c, e1, ?_, he⟩
  rcases DataW.trod_slice ht hx with ⟨h1, _⟩ | ⟨a, len, cap, elems, rest, n', _, h1, _, _, hl, _⟩
  · rw [h1] at e1
    injection e1 with e1
    injection e1 with e1 e2 e3
    omega
  · rw [h1] at e1
    injection e1 with e1
    injection e1 with e1 e2 e3
    omega
end Go.Proofs.Ytmedlplgeeeodaa.Open
