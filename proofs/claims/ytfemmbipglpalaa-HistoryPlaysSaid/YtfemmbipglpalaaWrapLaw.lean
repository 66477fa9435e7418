/- What the reference's functions of wrap come to, and the six laws over them; no condition but the ranges in each. -/
import Derived.Test.YtfemmbipglpalaaWrapFn
import Derived.Deep.QuietTactic
import Derived.BigQuiet
namespace Go.Proofs.Ytfemmbipglpalaa.Fn
open Go.RowKit Go.Proofs.Ytfemmbipglpalaa.Plain

theorem quiet_same {P : Program} {f : FuncId} {args : Array Value} {w : World} {n : Nat} {v : Value}
    (h : Calls P f args (w.drewN n) fun e w' => e = .returned v ∧ w.drewN n = w') : Calls P f args (w.drewN n) fun e w'' => e = .returned v ∧ ∃ m, w'' = w.drewN m :=
  h.mono fun _ _ ⟨he, hm⟩ => ⟨he, n, hm.symm⟩
set_option maxHeartbeats 400000 in
theorem mod_any (n M : Int) (w : World) (h0 : 1 ≤ M) (h1 : M ≤ 4294967296) : Calls Try.prog 42 #[.int .i64 n, .int .i64 M] w fun e w' => e = .returned (.int .i64 (n % M)) ∧ w = w' := by
  obtain ⟨b1, b2⟩ := tmod_bd n (m := M) (by omega)
  go_enter Try.func42, Try.ntmps42
  go_wp2
  go_ret
  exact ⟨ret_int (by simp only [Int.add_emod_right, tmod_emod]), rfl⟩
set_option maxHeartbeats 400000 in
theorem ref_cut_yes (n k M : Int) (w : World) (h0 : 1 ≤ k) (h1 : k ≤ 32) (hM : (2 : Int) ^ k.toNat = M) (hb : 1 ≤ M) (hb' : M ≤ 4294967296) :
    Calls Try.prog 33 #[.int .i64 n, .int .i64 k] w fun e w' => e = .returned (.int .i64 (n % M)) ∧ w = w' := by
  have c1 := Int.emod_nonneg n (show M ≠ 0 by omega)
  have c2 := Int.emod_lt_of_pos n (show 0 < M by omega)
  go_enter Try.func33, Try.ntmps33
  go_wp2_with (go_at_call 42; refine (mod_any n M _ hb hb').mono ?_; rintro e w' ⟨rfl, rfl⟩)
  go_ret
  exact ⟨rfl, rfl⟩
set_option maxHeartbeats 400000 in
theorem ref_cut_no (n k : Int) (w : World) (h : ¬(1 ≤ k ∧ k ≤ 32)) :
    Calls Try.prog 33 #[.int .i64 n, .int .i64 k] w fun e w' => e = .returned (.int .i64 0) ∧ w = w' := by
  have h' : k < 1 ∨ (1 ≤ k ∧ 32 < k) := by omega
  clear h
  rcases h' with h | ⟨h, h'⟩
  all_goals
    go_enter Try.func33, Try.ntmps33
    go_wp2
    go_ret
    exact ⟨rfl, rfl⟩
attribute [local go_sem high] run_mx run_mn in
set_option maxHeartbeats 1000000 in
theorem ref_near_yes (n v k M H : Int) (w : World) (h0 : 1 ≤ k) (h1 : k ≤ 32) (hM : (2 : Int) ^ k.toNat = M) (h2 : M = 2 * H) (h3 : 1 ≤ H) (h4 : H ≤ 2147483648) :
    Calls Try.prog 34 #[.int .i64 n, .int .i64 v, .int .i64 k] w fun e w' => e = .returned (.int .i64 (near (hold60 n) v M H)) ∧ ∃ q, w' = w.drewN q := by
  have b0 : 1 ≤ M := by omega
  have b1 : M ≤ 4294967296 := by omega
  have hz : ¬ M = 0 := by omega
  have h5 : M / 2 = H := by omega
  clear h2
  obtain ⟨l1, l2⟩ := hold60_bd n
  have ht := hold60_turn n
  generalize hold60 n = l at *
  obtain ⟨t1, t2⟩ := tmod_bd v (m := M) (by omega)
  obtain ⟨t3, t4⟩ := tmod_bd l (m := M) (by omega)
  have hs := sub_tmod v l (m := M)
  have hs1 : IntKind.i64.wrap (v.tmod M - l.tmod M) = v.tmod M - l.tmod M := IntWalk.i64_in _ (by omega)
  have d1 := Int.emod_nonneg (v - l) (show M ≠ 0 by omega)
  have d2 := Int.emod_lt_of_pos (v - l) (show 0 < M by omega)
  go_enter Try.func34, Try.ntmps34
  go_wp2_with fail
  go_quiet ((go_at_call 42; exact quiet_same (mod_any _ M _ b0 b1)))
  go_wp2
  · go_ret
    exact ⟨ret_int (near_else l v M H (by omega)), _, rfl⟩
  · go_ret
    exact ⟨ret_int (by rw [← near_if l v M H (by omega)]; omega), _, rfl⟩
set_option maxHeartbeats 400000 in
theorem ref_near_no (n v k : Int) (w : World) (h : ¬(1 ≤ k ∧ k ≤ 32)) :
    Calls Try.prog 34 #[.int .i64 n, .int .i64 v, .int .i64 k] w fun e w' => e = .returned (.int .i64 n) ∧ ∃ q, w' = w.drewN q := by
  have h' : k < 1 ∨ (1 ≤ k ∧ 32 < k) := by omega
  clear h
  rcases h' with h | ⟨h, h'⟩
  all_goals
    go_enter Try.func34, Try.ntmps34
    go_wp2
    go_ret
    exact ⟨rfl, 0, rfl⟩
theorem below_drewN {B : Nat} {a w : World} (h : Below B a w) (n : Nat) : Below B a (w.drewN n) := ⟨h.os, h.tape, h.output, h.size, h.block⟩
end Go.Proofs.Ytfemmbipglpalaa.Fn
