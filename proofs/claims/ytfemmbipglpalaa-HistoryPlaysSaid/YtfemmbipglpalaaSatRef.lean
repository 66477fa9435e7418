/- What the rest of sat's functions and the reference's come to; no condition but the ranges in each. -/
import Derived.Test.YtfemmbipglpalaaSatFn
namespace Go.Proofs.Ytfemmbipglpalaa.Sat
open Go.RowKit Go.Proofs.Ytfemmbipglpalaa.Plain Go.Proofs.Ytfemmbipglpalaa.Heap

theorem sum_bd (xs : List Int) (hx : ∀ j, j < xs.length → -9223372036854775808 ≤ xs.getD j 0 ∧ xs.getD j 0 ≤ 9223372036854775807) :
    -(9223372036854775808 * (xs.length : Int)) ≤ xs.sum ∧ xs.sum ≤ 9223372036854775808 * (xs.length : Int) := by
  induction xs with
  | nil => simp
  | cons x xs ih =>
    have h0 := hx 0 (by simp)
    have h1 := ih (fun j hj => by have := hx (j + 1) (by simp; omega); simpa using this)
    simp only [List.getD_cons_zero] at h0
    simp only [List.sum_cons, List.length_cons]
    omega
theorem abs_val (a : Int) (ha : -9223372036854775808 ≤ a) (ha' : a ≤ 9223372036854775807) : mx a (clamp64 (-a)) = clamp64 (if a < 0 then -a else a) := by
  unfold mx clamp64; split <;> split <;> omega
set_option maxHeartbeats 1000000 in
theorem ref_sub_any (a b : Int) (w : World) (ha : -9223372036854775808 ≤ a) (ha' : a ≤ 9223372036854775807) (hb : -9223372036854775808 ≤ b) (hb' : b ≤ 9223372036854775807) :
    Calls Try.prog 35 #[.int .i64 a, .int .i64 b] w fun e w' => e = .returned (.int .i64 (clamp64 (a - b))) ∧ w = w' := by
  go_enter Try.func35, Try.ntmps35
  go_wp2
  all_goals
    go_ret
    refine ⟨ret_int ?_, rfl⟩
    unfold clamp64
    split <;> (try split) <;> omega
theorem clamp_id {T : Int} (h0 : -9223372036854775808 ≤ T) (h1 : T ≤ 9223372036854775807) : clamp64 T = T := by unfold clamp64; rw [if_neg (by omega), if_neg (by omega)]
theorem clamp_hi {T : Int} (h1 : 9223372036854775807 ≤ T) : clamp64 T = 9223372036854775807 := by unfold clamp64; split <;> (try split) <;> omega
theorem clamp_lo {T : Int} (h1 : T ≤ -9223372036854775808) : clamp64 T = -9223372036854775808 := by unfold clamp64; split <;> (try split) <;> omega
theorem div_le_iff (X Y : Int) (hY : 0 < Y) : (9223372036854775807 / Y < X) ↔ 9223372036854775807 < X * Y := by
  rw [Int.ediv_lt_iff_lt_mul hY]
theorem least_mul (b : Int) (h0 : 2 ≤ b ∨ b ≤ -1) : clamp64 (-9223372036854775808 * b) = if 0 < b then -9223372036854775808 else 9223372036854775807 := by
  split
  · exact clamp_lo (by omega)
  · exact clamp_hi (by omega)
theorem quo_neg (b : Int) (hb : b < 0) : wrap64 (-Int.tdiv 9223372036854775807 b) = 9223372036854775807 / (-b) := by
  have e : -Int.tdiv 9223372036854775807 b = 9223372036854775807 / (-b) := by
    rw [← Int.tdiv_neg, Int.tdiv_eq_ediv_of_nonneg (by omega)]
  have h1 := Int.ediv_nonneg (show (0 : Int) ≤ 9223372036854775807 by omega) (show 0 ≤ -b by omega)
  have h2 : 9223372036854775807 / (-b) ≤ 9223372036854775807 := Int.ediv_le_self _ (by omega)
  rw [e, w64 (by omega) (by omega)]
end Go.Proofs.Ytfemmbipglpalaa.Sat
