/- PhaseNone: what nobody made; no condition. -/
import Derived.Test.YtclieljalegmkaaPhaseLaw
namespace Go.Proofs.Ytclieljalegmkaa.Phase
open Go.RowKit Go.Proofs.Ytclieljalegmkaa.Plain Go.Proofs.Ytclieljalegmkaa.Heap Go.Proofs.Ytclieljalegmkaa.Float Go.Proofs.Ytclieljalegmkaa.Open

set_option maxHeartbeats 400000 in
theorem add_nil (v : Int) (w : World) : Calls Try.prog 16 #[.pointer none, .int .i64 v] w fun e w' => e = .returned (.tuple #[]) ∧ w = w' := by
  go_enter Try.func16, Try.ntmps16
  go_wp2
  refine bodyPost_ret (v := .tuple #[]) (by simp [results, Try.results16, go_sem]) rfl ⟨rfl, rfl⟩
theorem mul64_zero (y : Int) (w : World) (hy : 0 ≤ y) (hy' : y < 18446744073709551616) : Calls Try.prog 25 #[.int .u64 0, .int .u64 y] w fun e w' => e = .returned (.tuple #[.int .u64 0, .int .u64 0]) ∧ w = w' := by
  have h := Sat.mul64_any 0 y w (by omega) (by omega) hy hy'
  rw [Int.zero_mul] at h
  exact h
set_option maxHeartbeats 400000 in
theorem powers_nil (w : World) : Calls Try.prog 17 #[.pointer none] w fun e w' => e = .returned (.tuple #[.int .i64 0, .int .i64 0, .int .i64 0]) ∧ w = w' := by
  go_enter Try.func17, Try.ntmps17
  go_wp2
  refine bodyPost_ret (v := .tuple #[.int .i64 0, .int .i64 0, .int .i64 0]) (by simp [results, Try.results17, go_sem]) rfl ⟨rfl, rfl⟩
set_option maxHeartbeats 400000 in
theorem swings_nil (v : Int) (w : World) : Calls Try.prog 18 #[.pointer none, .int .i64 v] w fun e w' => e = .returned (.bool false) ∧ ∃ q, w' = w.drewN q := by
  have hv : ∃ c, (if v < 0 then 0 else if v > 256 then 256 else v) = c ∧ 0 ≤ c ∧ c ≤ 256 := ⟨_, rfl, by split <;> (try split) <;> omega, by split <;> (try split) <;> omega⟩
  obtain ⟨c, hc, c0, c1⟩ := hv
  go_enter Try.func18, Try.ntmps18
  go_wp2_with fail
  refine (powers_nil _).mono ?_
  rintro e w1 ⟨rfl, rfl⟩
  go_wp2_with fail
  refine (mul64_zero 256 _ (by decide) (by decide)).mono ?_
  rintro e w1 ⟨rfl, rfl⟩
  go_wp2_with fail
  refine (Sat.clamp_any _ _ _ _).mono ?_
  rintro e w1 ⟨rfl, rfl⟩
  rw [hc]
  have tc : IntKind.u64.wrap c = c := by rw [Sat.u64_wrap]; omega
  clear hc
  go_wp2_with fail
  refine (mul64_zero c _ (by omega) (by omega)).mono ?_
  rintro e w1 ⟨rfl, rfl⟩
  go_wp2
  go_ret
  exact ⟨rfl, 0, rfl⟩
set_option maxHeartbeats 400000 in
theorem PhaseNone_any (v : Int) (w : World) : Calls Try.prog 7 #[.int .i64 v] w fun e w' => e = .returned (.bool true) ∧ Below w.heap.size w w' := by
  go_enter Try.func7, Try.ntmps7
  go_wp2_with fail
  refine (add_nil _ _).mono ?_
  rintro e w1 ⟨rfl, rfl⟩
  go_wp2_with fail
  refine (powers_nil _).mono ?_
  rintro e w1 ⟨rfl, rfl⟩
  go_wp2_with fail
  refine (swings_nil v _).mono ?_
  rintro e w1 ⟨rfl, q, rfl⟩
  go_wp2_with fail
  refine (wakes_any _).mono ?_
  rintro e w1 ⟨rfl, h⟩
  have H := Lib.hid h; clear h
  go_wp2
  go_ret
  exact ⟨rfl, below_then (below_drewN (Below.refl _ _) _) (by simp) H.out⟩
end Go.Proofs.Ytclieljalegmkaa.Phase
