/- The row of PacerOrder: for every input the call returns true, and nothing that was there is changed; no condition. -/
import Derived.Test.YtkjjkepiihdihaaRows
import Derived.Test.YtkjjkepiihdihaaPaceLaw5
import Derived.Test.YtkjjkepiihdihaaOpen
import Derived.WalkKit
import Derived.ProofKit
import Derived.OpenShut
import Derived.ShutString
import Derived.ChangeOld
import Derived.Below
import Derived.SizedLaws
namespace Go.Proofs.Ytkjjkepiihdihaa.pacerOrder
open Go.ChangeShapes Go.WideShapes Go.ChangeAt Go.RowKit Go.Proofs.Ytkjjkepiihdihaa.Open
open Go.ChangeMaps (open_string shut_string)
set_option linter.unusedVariables false
theorem own : ownKnob Try.prog.godebug = none := by kernel_rfl
theorem laidOut : laidOutB Try.prog = true := by kernel_rfl
set_option maxRecDepth 100000 in
theorem lifted (os : Os) (started : os.Started) (H : Type) (enc : TypeId × Value → H) :
    ReturnsInHanded {} Try.checked os 4 .any (Rows.pacerOrderSpec.pre6 enc Try.prog Try.f4 Rows.pacerOrderRow.domain false) (Rows.pacerOrderSpec.post enc Try.prog Try.f4 false true false false) := by
  refine returnsInHanded_of_change_sized (C := Try.checked) own started (by kernel_rfl) Try.func4
    (ChangeSpec.witness6 (enc := enc) (C := Try.checked) false ⟨#[], #[.slice none 0 0], []⟩ 8 (by kernel_rfl) (by kernel_rfl) (by kernel_rfl) (by kernel_rfl)) ?_
  intro W base args ds gs before hval0 hW hcnd hsz0 _
  have hval : ∀ (j : Nat) t v, Try.f4.params[j]? = some t → args[j]? = some v → Value.okWide Try.prog W .any base t v := hval0
  have hW' := hW
  obtain ⟨p, q, hA0, hV, rfl, hfz, hnd⟩ := hW
  have hA : DataW.TrodAll enc Try.prog W 0 (fun _ => true) true Try.f4.params.toList args.toList ds p := hA0
  rw [Try.params4] at hA hval
  obtain ⟨v0, vs0, d0, ds0, p0, q0, hargs, rfl, rfl, h0, r0⟩ := trodAll_cons hA
  obtain ⟨rfl, rfl, rfl⟩ := trodAll_nil r0
  obtain rfl : args = #[v0] := by cases args; simp_all
  obtain ⟨rfl, rfl⟩ := trodVars_none hV
  obtain ⟨a0, len0, cap0, rfl⟩ := okWide_slice Try.underlying23 (hval 0 23 v0 rfl rfl)
  have k0 := h0
  have lt0 : ∀ x ∈ p0, x.block < W.heap.size := by obtain ⟨m, hm⟩ := k0; exact DataW.trod_lt m _ _ _ hm
  obtain ⟨z0, w0⟩ : ∃ zs, Els 9 (rTwo (rInt .i64) (rTwo (rTwo (rInt .i64) (rTwo (rInt .i64) (rTwo (rInt .i64) (rInt .i64)))) (rTwo (rInt .i64) (rTwo (rInt .i64) (rTwo (rInt .i64) (rInt .i64)))))) W a0 len0 zs := by
    obtain ⟨fuel, hf⟩ := h0
    obtain ⟨xs, B, n, c, hcs, he⟩ := (opens_slice (sz := 9) Try.underlying23 (by kernel_rfl) (by decide) (opens_struct (tot := 9) Try.underlying32 (by kernel_rfl) (opensF_cons rfl (by kernel_rfl) (opens_int Try.underlying3) (opensF_cons rfl (by kernel_rfl) (opens_struct (tot := 4) Try.underlying30 (by kernel_rfl) (opensF_cons rfl (by kernel_rfl) (opens_int Try.underlying3) (opensF_cons rfl (by kernel_rfl) (opens_int Try.underlying3) (opensF_cons rfl (by kernel_rfl) (opens_int Try.underlying3) (opensF_last rfl (by kernel_rfl) (opens_int Try.underlying3)))))) (opensF_cons rfl (by kernel_rfl) (opens_int Try.underlying2) (opensF_cons rfl (by kernel_rfl) (opens_int Try.underlying2) (opensF_cons rfl (by kernel_rfl) (opens_int Try.underlying2) (opensF_last rfl (by kernel_rfl) (opens_int Try.underlying2))))))))) enc W fuel _ _ hf
    simp [Value.cells] at hcs
    obtain ⟨rfl, rfl, rfl⟩ := hcs
    exact ⟨xs, he⟩
  clear hA0 hval0 hsz0
  refine (Pace.PacerOrder_any a0 len0 cap0 z0 W w0).mono fun e W' ⟨he, bel⟩ => ?_
  subst he
  exact ⟨_, rfl, _, _, _, [], _, [], hW', trodAll_mk1 (shut_bool Try.underlying4 _), (trodAll_cons_mk (Below.trod laidOut (by kernel_rfl) (of_decide_eq_true (by kernel_rfl)) k0 bel lt0) trodAll_mk0), rfl, bel.frame _, fun h => by cases h⟩
theorem over : Rows.pacerOrderRow.holds Try.pinned (OpenSpec.ofChange Rows.pacerOrderSpec) :=
  OpenClaim.holds_of_wide 4 Try.f4 rfl rfl rfl rfl rfl rfl rfl ⟨rfl, rfl, rfl, rfl, rfl⟩ rfl rfl rfl rfl rfl (by kernel_rfl) Try.func4 (by kernel_rfl)
    (of_decide_eq_true (by kernel_rfl)) (by unfold Func.isWrapper; first | (rw [if_pos (by decide +kernel)]; kernel_rfl) | (rw [if_neg (by decide +kernel)]; exact ⟨rfl, rfl⟩))
    (fun os started H enc _ => lifted os started H enc)
theorem proved : Rows.PacerOrderSaid := over
end Go.Proofs.Ytkjjkepiihdihaa.pacerOrder
namespace Go.Proofs.Ytkjjkepiihdihaa
/-- The row, under a short name, for the claim. -/
theorem pacerOrder_holds : Rows.PacerOrderSaid := pacerOrder.proved
#print axioms pacerOrder_holds
end Go.Proofs.Ytkjjkepiihdihaa
