/- The row of CcfbEncodes: an argument as it is handed. -/
import Derived.Test.YtmkaflfhmpddbaaCcfbLaw
namespace Go.Proofs.Ytmkaflfhmpddbaa.Ccfb
open Go.RowKit Go.Proofs.Ytmkaflfhmpddbaa.Plain Go.Proofs.Ytmkaflfhmpddbaa.Heap Go.Proofs.Ytmkaflfhmpddbaa.Open Go.Proofs.Ytmkaflfhmpddbaa.Rows Go.Proofs.Ytmkaflfhmpddbaa.Bits
theorem CcfbEncodes_row (c0 : Array Value) (z0) (w : World) (h : rC w c0.toList z0) :
    Calls Try.prog 3 #[.agg c0] w fun e w' => e = .returned (.bool true) ∧ Below w.heap.size w w' := by
  obtain ⟨r, hr, ok⟩ : ∃ r, CR w (.agg c0) r ∧ okC r := ⟨_, arg_rep h⟩
  exact CcfbEncodes_any _ r w hr ok
end Go.Proofs.Ytmkaflfhmpddbaa.Ccfb
