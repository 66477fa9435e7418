/- The row of GroupNone: for every input the call returns true, and nothing that was there is changed; no condition. -/
import Derived.Test.YtdpaknpiedoblaaRows
import Derived.Test.YtdpaknpiedoblaaGroupLaw3
import Derived.Test.YtdpaknpiedoblaaOpen
import Derived.WalkKit
import Derived.ProofKit
import Derived.OpenShut
import Derived.ShutString
import Derived.ChangeOld
import Derived.Below
import Derived.SizedLaws
namespace Go.Proofs.Ytdpaknpiedoblaa.groupNone
open Go.ChangeShapes Go.WideShapes Go.ChangeAt Go.RowKit Go.Proofs.Ytdpaknpiedoblaa.Open
open Go.ChangeMaps (open_string shut_string)
set_option linter.unusedVariables false
theorem own : ownKnob Try.prog.godebug = none := by kernel_rfl
theorem laidOut : laidOutB Try.prog = true := by kernel_rfl
set_option maxRecDepth 100000 in
theorem lifted (os : Os) (started : os.Started) (H : Type) (enc : TypeId × Value → H) :
    ReturnsInHanded {} Try.checked os 6 .any (Rows.groupNoneSpec.pre6 enc Try.prog Try.f6 Rows.groupNoneRow.domain false) (Rows.groupNoneSpec.post enc Try.prog Try.f6 false true false false) := by
  refine returnsInHanded_of_change_sized (C := Try.checked) own started (by kernel_rfl) Try.func6
    (ChangeSpec.witness6 (enc := enc) (C := Try.checked) false ⟨#[], #[.agg #[.int .i64 0, .int .i64 0, .int .i64 0, .int .i64 0, .bool false, .bool false]], []⟩ 8 (by kernel_rfl) (by kernel_rfl) (by kernel_rfl) (by kernel_rfl)) ?_
  intro W base args ds gs before hval0 hW hcnd hsz0 _
  have hval : ∀ (j : Nat) t v, Try.f6.params[j]? = some t → args[j]? = some v → Value.okWide Try.prog W .any base t v := hval0
  have hW' := hW
  obtain ⟨p, q, hA0, hV, rfl, hfz, hnd⟩ := hW
  have hA : DataW.TrodAll enc Try.prog W 0 (fun _ => true) true Try.f6.params.toList args.toList ds p := hA0
  rw [Try.params6] at hA hval
  obtain ⟨v0, vs0, d0, ds0, p0, q0, hargs, rfl, rfl, h0, r0⟩ := trodAll_cons hA
  obtain ⟨rfl, rfl, rfl⟩ := trodAll_nil r0
  obtain rfl : args = #[v0] := by cases args; simp_all
  obtain ⟨rfl, rfl⟩ := trodVars_none hV
  have k0 := h0
  have lt0 : ∀ x ∈ p0, x.block < W.heap.size := by obtain ⟨m, hm⟩ := k0; exact DataW.trod_lt m _ _ _ hm
  obtain ⟨c0, e0, _⟩ := okWide_struct Try.underlying39 (hval 0 39 v0 rfl rfl)
  subst e0
  obtain ⟨z0, w0⟩ : ∃ z, (rTwo (rTwo (rInt .i64) (rTwo (rInt .i64) (rInt .i64))) (rTwo (rInt .i64) (rTwo rBool rBool))) W c0.toList z := by
    obtain ⟨fuel, hf⟩ := h0
    exact (opens_struct (tot := 6) Try.underlying39 (by kernel_rfl) (opensF_cons rfl (by kernel_rfl) (opens_struct (tot := 3) Try.underlying37 (by kernel_rfl) (opensF_cons rfl (by kernel_rfl) (opens_int Try.underlying2) (opensF_cons rfl (by kernel_rfl) (opens_int Try.underlying3) (opensF_last rfl (by kernel_rfl) (opens_int Try.underlying2))))) (opensF_cons rfl (by kernel_rfl) (opens_int Try.underlying2) (opensF_cons rfl (by kernel_rfl) (opens_bool Try.underlying4) (opensF_last rfl (by kernel_rfl) (opens_bool Try.underlying4)))))) enc W fuel _ _ hf
  clear hA0 hval0 hsz0
  refine (Group.GroupNone_any c0 z0 W w0).mono fun e W' ⟨he, bel⟩ => ?_
  subst he
  exact ⟨_, rfl, _, _, _, [], _, [], hW', trodAll_mk1 (shut_bool Try.underlying4 _), (trodAll_cons_mk (Below.trod laidOut (by kernel_rfl) (of_decide_eq_true (by kernel_rfl)) k0 bel lt0) trodAll_mk0), rfl, bel.frame _, fun h => by cases h⟩
theorem over : Rows.groupNoneRow.holds Try.pinned (OpenSpec.ofChange Rows.groupNoneSpec) :=
  OpenClaim.holds_of_wide 6 Try.f6 rfl rfl rfl rfl rfl rfl rfl ⟨rfl, rfl, rfl, rfl, rfl⟩ rfl rfl rfl rfl rfl (by kernel_rfl) Try.func6 (by kernel_rfl)
    (of_decide_eq_true (by kernel_rfl)) (by unfold Func.isWrapper; first | (rw [if_pos (by decide +kernel)]; kernel_rfl) | (rw [if_neg (by decide +kernel)]; exact ⟨rfl, rfl⟩))
    (fun os started H enc _ => lifted os started H enc)
theorem proved : Rows.GroupNoneSaid := over
end Go.Proofs.Ytdpaknpiedoblaa.groupNone
namespace Go.Proofs.Ytdpaknpiedoblaa
/-- The row, under a short name, for the claim. -/
theorem groupNone_holds : Rows.GroupNoneSaid := groupNone.proved
#print axioms groupNone_holds
end Go.Proofs.Ytdpaknpiedoblaa
