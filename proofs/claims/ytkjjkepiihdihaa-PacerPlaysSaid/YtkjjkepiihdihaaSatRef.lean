/- What the rest of sat's functions and the reference's come to; no condition but the ranges in each. -/
import Derived.Test.YtkjjkepiihdihaaSatFn
namespace Go.Proofs.Ytkjjkepiihdihaa.Sat
open Go.RowKit Go.Proofs.Ytkjjkepiihdihaa.Plain Go.Proofs.Ytkjjkepiihdihaa.Heap

theorem sum_bd (xs : List Int) (hx : ∀ j, j < xs.length → -9223372036854775808 ≤ xs.getD j 0 ∧ xs.getD j 0 ≤ 9223372036854775807) :
    -(9223372036854775808 * (xs.length : Int)) ≤ xs.sum ∧ xs.sum ≤ 9223372036854775808 * (xs.length : Int) := by
  induction xs with
  | nil => simp
  | cons x xs ih =>
    have h0 := hx 0 (by simp)
    have h1 := ih (fun j hj => by have := hx (j + 1) (by simp; omega); simpa using this)
    simp only [List.getD_cons_zero] at h0
    simp only [List.sum_cons, List.length_cons]
    omega
theorem abs_val (a : Int) (ha : -9223372036854775808 ≤ a) (ha' : a ≤ 9223372036854775807) : mx a (clamp64 (-a)) = clamp64 (if a < 0 then -a else a) := by
  unfold mx clamp64; split <;> split <;> omega
set_option maxHeartbeats 1000000 in
theorem ref_add_any (a b : Int) (w : World) (ha : -9223372036854775808 ≤ a) (ha' : a ≤ 9223372036854775807) (hb : -9223372036854775808 ≤ b) (hb' : b ≤ 9223372036854775807) :
    Calls Try.prog 37 #[.int .i64 a, .int .i64 b] w fun e w' => e = .returned (.int .i64 (clamp64 (a + b))) ∧ w = w' := by
  go_enter Try.func37, Try.ntmps37
  go_wp2
  all_goals
    go_ret
    refine ⟨ret_int ?_, rfl⟩
    unfold clamp64
    split <;> (try split) <;> omega
set_option maxHeartbeats 1000000 in
theorem ref_sub_any (a b : Int) (w : World) (ha : -9223372036854775808 ≤ a) (ha' : a ≤ 9223372036854775807) (hb : -9223372036854775808 ≤ b) (hb' : b ≤ 9223372036854775807) :
    Calls Try.prog 47 #[.int .i64 a, .int .i64 b] w fun e w' => e = .returned (.int .i64 (clamp64 (a - b))) ∧ w = w' := by
  go_enter Try.func47, Try.ntmps47
  go_wp2
  all_goals
    go_ret
    refine ⟨ret_int ?_, rfl⟩
    unfold clamp64
    split <;> (try split) <;> omega
set_option maxHeartbeats 1000000 in
theorem ref_neg_any (a : Int) (w : World) (ha : -9223372036854775808 ≤ a) (ha' : a ≤ 9223372036854775807) :
    Calls Try.prog 46 #[.int .i64 a] w fun e w' => e = .returned (.int .i64 (clamp64 (-a))) ∧ w = w' := by
  have e := Int.zero_sub a
  go_enter Try.func46, Try.ntmps46
  go_wp2_with (first | (go_at_call 47; refine (ref_sub_any 0 a _ (by omega) (by omega) ha ha').mono ?_; rintro e w2 ⟨rfl, rfl⟩))
  go_ret
  exact ⟨rfl, rfl⟩
set_option maxHeartbeats 1000000 in
theorem ref_abs_any (a : Int) (w : World) (ha : -9223372036854775808 ≤ a) (ha' : a ≤ 9223372036854775807) :
    Calls Try.prog 43 #[.int .i64 a] w fun e w' => e = .returned (.int .i64 (clamp64 (if a < 0 then -a else a))) ∧ w = w' := by
  by_cases h : a < 0
  · rw [if_pos h]
    go_enter Try.func43, Try.ntmps43
    go_wp2_with (first | (go_at_call 46; refine (ref_neg_any a _ ha ha').mono ?_; rintro e w2 ⟨rfl, rfl⟩))
    go_ret
    exact ⟨rfl, rfl⟩
  · rw [if_neg h]
    go_enter Try.func43, Try.ntmps43
    go_wp2
    go_ret
    exact ⟨ret_int (by unfold clamp64; rw [if_neg (by omega), if_neg (by omega)]), rfl⟩
set_option maxHeartbeats 1000000 in
theorem ref_clamp_any (a lo hi : Int) (w : World) : Calls Try.prog 33 #[.int .i64 a, .int .i64 lo, .int .i64 hi] w fun e w' => e = .returned (.int .i64 (if a < lo then lo else if a > hi then hi else a)) ∧ w = w' := by
  by_cases h1 : a < lo
  · rw [if_pos h1]
    go_enter Try.func33, Try.ntmps33
    go_wp2
    go_ret
    exact ⟨rfl, rfl⟩
  · rw [if_neg h1]
    by_cases h2 : a > hi
    · rw [if_pos h2]
      go_enter Try.func33, Try.ntmps33
      go_wp2
      go_ret
      exact ⟨rfl, rfl⟩
    · rw [if_neg h2]
      go_enter Try.func33, Try.ntmps33
      go_wp2
      go_ret
      exact ⟨rfl, rfl⟩
theorem clamp_id {T : Int} (h0 : -9223372036854775808 ≤ T) (h1 : T ≤ 9223372036854775807) : clamp64 T = T := by unfold clamp64; rw [if_neg (by omega), if_neg (by omega)]
theorem clamp_hi {T : Int} (h1 : 9223372036854775807 ≤ T) : clamp64 T = 9223372036854775807 := by unfold clamp64; split <;> (try split) <;> omega
theorem clamp_lo {T : Int} (h1 : T ≤ -9223372036854775808) : clamp64 T = -9223372036854775808 := by unfold clamp64; split <;> (try split) <;> omega
theorem ref_abs_pos (a : Int) (w : World) (ha : 0 ≤ a) (ha' : a ≤ 9223372036854775807) : Calls Try.prog 43 #[.int .i64 a] w fun e w' => e = .returned (.int .i64 a) ∧ w = w' := by
  have h := ref_abs_any a w (by omega) ha'
  rw [if_neg (by omega), clamp_id (by omega) ha'] at h
  exact h
theorem ref_abs_neg (a : Int) (w : World) (ha : a < 0) (ha' : -9223372036854775807 ≤ a) : Calls Try.prog 43 #[.int .i64 a] w fun e w' => e = .returned (.int .i64 (-a)) ∧ w = w' := by
  have h := ref_abs_any a w (by omega) (by omega)
  rw [if_pos ha, clamp_id (by omega) (by omega)] at h
  exact h
theorem div_le_iff (X Y : Int) (hY : 0 < Y) : (9223372036854775807 / Y < X) ↔ 9223372036854775807 < X * Y := by
  rw [Int.ediv_lt_iff_lt_mul hY]
set_option maxHeartbeats 2000000 in
theorem ref_mul_zero (a b : Int) (w : World) (h : a = 0 ∨ b = 0) : Calls Try.prog 38 #[.int .i64 a, .int .i64 b] w fun e w' => e = .returned (.int .i64 0) ∧ w = w' := by
  by_cases h0 : a = 0
  · subst h0
    go_enter Try.func38, Try.ntmps38
    go_wp2
    go_ret
    exact ⟨rfl, rfl⟩
  · have h1 : b = 0 := by omega
    subst h1
    have h2 : (a == 0) = false := beq_eq_false_iff_ne.2 h0
    clear h h0
    go_enter Try.func38, Try.ntmps38
    go_wp2
    go_ret
    exact ⟨rfl, rfl⟩
set_option maxHeartbeats 2000000 in
theorem ref_mul_one (a b : Int) (w : World) (h0 : (a == 0) = false) (h1 : (b == 0) = false) (h : a = 1 ∨ b = 1) : Calls Try.prog 38 #[.int .i64 a, .int .i64 b] w fun e w' => e = .returned (.int .i64 (a * b)) ∧ w = w' := by
  by_cases h2 : a = 1
  · subst h2
    clear h
    go_enter Try.func38, Try.ntmps38
    go_wp2
    go_ret
    exact ⟨ret_int (by simp), rfl⟩
  · have h3 : b = 1 := by omega
    subst h3
    have h4 : (a == 1) = false := beq_eq_false_iff_ne.2 h2
    clear h h2 h1
    go_enter Try.func38, Try.ntmps38
    go_wp2
    go_ret
    exact ⟨ret_int (by simp), rfl⟩
theorem least_mul (b : Int) (h0 : 2 ≤ b ∨ b ≤ -1) : clamp64 (-9223372036854775808 * b) = if 0 < b then -9223372036854775808 else 9223372036854775807 := by
  split
  · exact clamp_lo (by omega)
  · exact clamp_hi (by omega)
set_option maxHeartbeats 2000000 in
theorem ref_mul_least (a b : Int) (w : World) (h0 : (a == 0) = false) (h1 : (b == 0) = false) (h2 : (a == 1) = false) (h3 : (b == 1) = false) (h : a = -9223372036854775808 ∨ b = -9223372036854775808) :
    Calls Try.prog 38 #[.int .i64 a, .int .i64 b] w fun e w' => e = .returned (.int .i64 (clamp64 (a * b))) ∧ w = w' := by
  have a0 : a ≠ 0 := by simpa using h0
  have b0 : b ≠ 0 := by simpa using h1
  have a1 : a ≠ 1 := by simpa using h2
  have b1 : b ≠ 1 := by simpa using h3
  by_cases h4 : a = -9223372036854775808
  · subst h4
    rw [least_mul b (by omega)]
    clear h h0 h2 a0 a1
    by_cases h5 : 0 < b
    · rw [if_pos h5]
      clear b0 b1
      go_enter Try.func38, Try.ntmps38
      go_wp2
      go_ret
      exact ⟨rfl, rfl⟩
    · rw [if_neg h5]
      clear b0 b1
      go_enter Try.func38, Try.ntmps38
      go_wp2
      go_ret
      exact ⟨rfl, rfl⟩
  · have h5 : b = -9223372036854775808 := by omega
    have h6 : (a == -9223372036854775808) = false := beq_eq_false_iff_ne.2 h4
    subst h5
    rw [Int.mul_comm, least_mul a (by omega)]
    clear h h1 h3 b0 b1 h4
    by_cases h5 : 0 < a
    · rw [if_pos h5]
      clear a0 a1
      go_enter Try.func38, Try.ntmps38
      go_wp2
      go_ret
      exact ⟨rfl, rfl⟩
    · rw [if_neg h5]
      clear a0 a1
      go_enter Try.func38, Try.ntmps38
      go_wp2
      go_ret
      exact ⟨rfl, rfl⟩
theorem quo_neg (b : Int) (hb : b < 0) : wrap64 (-Int.tdiv 9223372036854775807 b) = 9223372036854775807 / (-b) := by
  have e : -Int.tdiv 9223372036854775807 b = 9223372036854775807 / (-b) := by
    rw [← Int.tdiv_neg, Int.tdiv_eq_ediv_of_nonneg (by omega)]
  have h1 := Int.ediv_nonneg (show (0 : Int) ≤ 9223372036854775807 by omega) (show 0 ≤ -b by omega)
  have h2 : 9223372036854775807 / (-b) ≤ 9223372036854775807 := Int.ediv_le_self _ (by omega)
  rw [e, w64 (by omega) (by omega)]
set_option maxHeartbeats 2000000 in
theorem ref_mul_plain (a b : Int) (w : World) (h0 : (a == 0) = false) (h1 : (b == 0) = false) (h2 : (a == 1) = false) (h3 : (b == 1) = false) (h4 : (a == -9223372036854775808) = false) (h5 : (b == -9223372036854775808) = false)
    (ha : -9223372036854775807 ≤ a) (ha' : a ≤ 9223372036854775807) (hb : -9223372036854775807 ≤ b) (hb' : b ≤ 9223372036854775807) :
    Calls Try.prog 38 #[.int .i64 a, .int .i64 b] w fun e w' => e = .returned (.int .i64 (clamp64 (a * b))) ∧ w = w' := by
  have a0 : a ≠ 0 := by simpa using h0
  have b0 : b ≠ 0 := by simpa using h1
  rcases (show a < 0 ∨ 0 < a by omega) with sa | sa
  · rcases (show b < 0 ∨ 0 < b by omega) with sb | sb
    · have XA := fun w => Lib.hid (ref_abs_neg a w sa ha)
      have XB := fun w => Lib.hid (ref_abs_neg b w sb hb)
      have hd := div_le_iff (-a) (-b) (by omega)
      rw [Int.neg_mul_neg] at hd
      have hp : 0 ≤ a * b := Int.mul_nonneg_of_nonpos_of_nonpos (by omega) (by omega)
      have HD := Lib.hid hd
      have HP := Lib.hid hp
      have da : decide (0 < a) = false := by simp; omega
      have db : decide (0 < b) = false := by simp; omega
      have hqn := quo_neg b sb
      clear a0 b0 hd hp
      go_enter Try.func38, Try.ntmps38
      go_wp2_with (first | (go_at_call 43; ((with_reducible refine (XA _).out.mono ?_); rintro e w2 ⟨rfl, rfl⟩)) | (go_at_call 43; ((with_reducible refine (XB _).out.mono ?_); rintro e w2 ⟨rfl, rfl⟩)))
      all_goals
        go_ret
        have hd := HD.out
        have hp := HP.out
        refine ⟨ret_int ?_, rfl⟩
        have hn := Int.ediv_neg 9223372036854775807 b
        generalize 9223372036854775807 / (-b) = q at *
        generalize a * b = p at *
        by_cases hq : q < -a
        · have := hd.1 hq
          first
            | exact (clamp_hi (by omega)).symm
            | exact (clamp_lo (by omega)).symm
            | (exfalso; omega)
        · have hz : ¬ _ := fun h => hq (hd.2 h)
          first
            | (rw [clamp_id (by omega) (by omega)]; unfold wrap64; omega)
            | (exfalso; omega)
    · have XA := fun w => Lib.hid (ref_abs_neg a w sa ha)
      have XB := fun w => Lib.hid (ref_abs_pos b w (by omega) hb')
      have hd := div_le_iff (-a) (b) (by omega)
      rw [Int.neg_mul] at hd
      have hp : a * b ≤ 0 := Int.mul_nonpos_of_nonpos_of_nonneg (by omega) (by omega)
      have HD := Lib.hid hd
      have HP := Lib.hid hp
      have da : decide (0 < a) = false := by simp; omega
      have db : decide (0 < b) = true := by simp; omega
      clear a0 b0 hd hp
      go_enter Try.func38, Try.ntmps38
      go_wp2_with (first | (go_at_call 43; ((with_reducible refine (XA _).out.mono ?_); rintro e w2 ⟨rfl, rfl⟩)) | (go_at_call 43; ((with_reducible refine (XB _).out.mono ?_); rintro e w2 ⟨rfl, rfl⟩)))
      all_goals
        go_ret
        have hd := HD.out
        have hp := HP.out
        refine ⟨ret_int ?_, rfl⟩
        generalize 9223372036854775807 / (b) = q at *
        generalize a * b = p at *
        by_cases hq : q < -a
        · have := hd.1 hq
          first
            | exact (clamp_hi (by omega)).symm
            | exact (clamp_lo (by omega)).symm
            | (exfalso; omega)
        · have hz : ¬ _ := fun h => hq (hd.2 h)
          first
            | (rw [clamp_id (by omega) (by omega)]; unfold wrap64; omega)
            | (exfalso; omega)
  · rcases (show b < 0 ∨ 0 < b by omega) with sb | sb
    · have XA := fun w => Lib.hid (ref_abs_pos a w (by omega) ha')
      have XB := fun w => Lib.hid (ref_abs_neg b w sb hb)
      have hd := div_le_iff (a) (-b) (by omega)
      rw [Int.mul_neg] at hd
      have hp : a * b ≤ 0 := Int.mul_nonpos_of_nonneg_of_nonpos (by omega) (by omega)
      have HD := Lib.hid hd
      have HP := Lib.hid hp
      have da : decide (0 < a) = true := by simp; omega
      have db : decide (0 < b) = false := by simp; omega
      have hqn := quo_neg b sb
      clear a0 b0 hd hp
      go_enter Try.func38, Try.ntmps38
      go_wp2_with (first | (go_at_call 43; ((with_reducible refine (XA _).out.mono ?_); rintro e w2 ⟨rfl, rfl⟩)) | (go_at_call 43; ((with_reducible refine (XB _).out.mono ?_); rintro e w2 ⟨rfl, rfl⟩)))
      all_goals
        go_ret
        have hd := HD.out
        have hp := HP.out
        refine ⟨ret_int ?_, rfl⟩
        have hn := Int.ediv_neg 9223372036854775807 b
        generalize 9223372036854775807 / (-b) = q at *
        generalize a * b = p at *
        by_cases hq : q < a
        · have := hd.1 hq
          first
            | exact (clamp_hi (by omega)).symm
            | exact (clamp_lo (by omega)).symm
            | (exfalso; omega)
        · have hz : ¬ _ := fun h => hq (hd.2 h)
          first
            | (rw [clamp_id (by omega) (by omega)]; unfold wrap64; omega)
            | (exfalso; omega)
    · have XA := fun w => Lib.hid (ref_abs_pos a w (by omega) ha')
      have XB := fun w => Lib.hid (ref_abs_pos b w (by omega) hb')
      have hd := div_le_iff (a) (b) (by omega)
      have hp : 0 ≤ a * b := Int.mul_nonneg (by omega) (by omega)
      have HD := Lib.hid hd
      have HP := Lib.hid hp
      have da : decide (0 < a) = true := by simp; omega
      have db : decide (0 < b) = true := by simp; omega
      clear a0 b0 hd hp
      go_enter Try.func38, Try.ntmps38
      go_wp2_with (first | (go_at_call 43; ((with_reducible refine (XA _).out.mono ?_); rintro e w2 ⟨rfl, rfl⟩)) | (go_at_call 43; ((with_reducible refine (XB _).out.mono ?_); rintro e w2 ⟨rfl, rfl⟩)))
      all_goals
        go_ret
        have hd := HD.out
        have hp := HP.out
        refine ⟨ret_int ?_, rfl⟩
        generalize 9223372036854775807 / (b) = q at *
        generalize a * b = p at *
        by_cases hq : q < a
        · have := hd.1 hq
          first
            | exact (clamp_hi (by omega)).symm
            | exact (clamp_lo (by omega)).symm
            | (exfalso; omega)
        · have hz : ¬ _ := fun h => hq (hd.2 h)
          first
            | (rw [clamp_id (by omega) (by omega)]; unfold wrap64; omega)
            | (exfalso; omega)
theorem ref_mul_any (a b : Int) (w : World) (ha : -9223372036854775808 ≤ a) (ha' : a ≤ 9223372036854775807) (hb : -9223372036854775808 ≤ b) (hb' : b ≤ 9223372036854775807) :
    Calls Try.prog 38 #[.int .i64 a, .int .i64 b] w fun e w' => e = .returned (.int .i64 (clamp64 (a * b))) ∧ w = w' := by
  by_cases h0 : a = 0 ∨ b = 0
  · have e : clamp64 (a * b) = 0 := by rcases h0 with rfl | rfl <;> simp [clamp64]
    rw [e]; exact ref_mul_zero a b w h0
  have e0 : (a == 0) = false := beq_eq_false_iff_ne.2 (fun h => h0 (.inl h))
  have e1 : (b == 0) = false := beq_eq_false_iff_ne.2 (fun h => h0 (.inr h))
  by_cases h1 : a = 1 ∨ b = 1
  · have e : clamp64 (a * b) = a * b := by
      rcases h1 with rfl | rfl
      · rw [Int.one_mul]; exact clamp_id hb hb'
      · rw [Int.mul_one]; exact clamp_id ha ha'
    rw [e]; exact ref_mul_one a b w e0 e1 h1
  have e2 : (a == 1) = false := beq_eq_false_iff_ne.2 (fun h => h1 (.inl h))
  have e3 : (b == 1) = false := beq_eq_false_iff_ne.2 (fun h => h1 (.inr h))
  by_cases h2 : a = -9223372036854775808 ∨ b = -9223372036854775808
  · exact ref_mul_least a b w e0 e1 e2 e3 h2
  exact ref_mul_plain a b w e0 e1 e2 e3 (beq_eq_false_iff_ne.2 (fun h => h2 (.inl h))) (beq_eq_false_iff_ne.2 (fun h => h2 (.inr h))) (by omega) ha' (by omega) hb'

end Go.Proofs.Ytkjjkepiihdihaa.Sat
