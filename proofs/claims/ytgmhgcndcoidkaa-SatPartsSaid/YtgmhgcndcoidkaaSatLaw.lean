/- The laws of sat that take numbers alone, walked; no condition but that the arguments are of their kinds. -/
import Derived.Test.YtgmhgcndcoidkaaSatRef
namespace Go.Proofs.Ytgmhgcndcoidkaa.Sat
open Go.RowKit Go.Proofs.Ytgmhgcndcoidkaa.Plain Go.Proofs.Ytgmhgcndcoidkaa.Heap

theorem wakes1 (w : World) : Calls Try.prog 15 #[.int .i64 9223372036854775807, .int .i64 1] w fun e w' => e = .returned (.int .i64 9223372036854775807) ∧ Below w.heap.size w w' :=
  add_any 9223372036854775807 1 w (by omega) (by omega) (by omega) (by omega)
theorem wakes2 (w : World) : Calls Try.prog 18 #[.int .i64 (-9223372036854775808)] w fun e w' => e = .returned (.int .i64 9223372036854775807) ∧ Below w.heap.size w w' :=
  neg_any (-9223372036854775808) w (by omega) (by omega)
theorem wakes3 (w : World) : Calls Try.prog 17 #[.int .i64 3, .int .i64 (-4)] w fun e w' => e = .returned (.int .i64 (-12)) ∧ Below w.heap.size w w' :=
  mul_any 3 (-4) w (by omega) (by omega) (by omega) (by omega)
theorem wakes4 (w : World) (A : Option Addr) (c : Nat) (hr : RI w .i64 A 2 [1, 2]) : Calls Try.prog 12 #[.slice A 2 c] w fun e w' => e = .returned (.int .i64 3) ∧ Below w.heap.size w w' :=
  sum_any A 2 c [1, 2] w hr (fun j hj => by rcases j with _ | _ | j <;> simp <;> omega)
set_option maxHeartbeats 1000000 in
theorem wakes_any (w : World) : Calls Try.prog 11 #[] w fun e w' => e = .returned (.bool true) ∧ Below w.heap.size w w' := by
  go_enter Try.func11, Try.ntmps11
  go_wp2_with (first
    | (go_at_call 15; refine (wakes1 _).mono ?_; rintro e w1 ⟨rfl, hb1⟩)
    | (go_at_call 18; refine (wakes2 _).mono ?_; rintro e w2 ⟨rfl, hb2⟩)
    | (go_at_call 17; refine (wakes3 _).mono ?_; rintro e w3 ⟨rfl, hb3⟩)
    | (go_at_call 12; refine (wakes4 _ _ _ (RI_two _ _ _ _)).mono ?_; rintro e w4 ⟨rfl, hb4⟩)
    | (go_at_call 9; refine (clamp_any _ _ _ _).mono ?_; rintro e w5 ⟨rfl, rfl⟩))
  go_ret
  have h2 := below_then hb1 hb1.size hb2
  have h3 := below_then h2 h2.size hb3
  have h4 := h3.alloc h3.size (.cells #[.int .i64 1, .int .i64 2] 2)
  exact ⟨rfl, below_then h4 h4.size hb4⟩
set_option maxHeartbeats 2000000 in
theorem SatHolds_any (a lo hi : Int) (w : World) : Calls Try.prog 3 #[.int .i64 a, .int .i64 lo, .int .i64 hi] w fun e w' => e = .returned (.bool true) ∧ Below w.heap.size w w' := by
  obtain ⟨c, hc⟩ : ∃ c, (if a < lo then lo else if a > hi then hi else a) = c := ⟨_, rfl⟩
  have h1 : hi < lo ∨ (lo ≤ hi ∧ lo ≤ c ∧ c ≤ hi) := by rw [← hc]; split <;> (try split) <;> omega
  have h2 : a < lo ∨ (lo ≤ a ∧ hi < a) ∨ (lo ≤ a ∧ a ≤ hi ∧ (c == a) = true) := by rw [← hc, beq_iff_eq]; split <;> (try split) <;> omega
  have HC := Lib.hid hc
  clear hc
  have C1 : ∀ w, Hid (Calls Try.prog 9 #[.int .i64 a, .int .i64 lo, .int .i64 hi] w fun e w' => e = .returned (.int .i64 c) ∧ w = w') := fun w => by rw [← HC.out]; exact clamp_any a lo hi w
  have C2 : ∀ w, Hid (Calls Try.prog 10 #[.int .i64 a, .int .i64 lo, .int .i64 hi] w fun e w' => e = .returned (.int .i64 c) ∧ w = w') := fun w => by rw [← HC.out]; exact ref_clamp_any a lo hi w
  rcases h1 with h1 | ⟨h1, h1', h1''⟩ <;> rcases h2 with h2 | ⟨h2, h2'⟩ | ⟨h2, h2', h2''⟩
  all_goals
    go_enter Try.func3, Try.ntmps3
    go_wp2_with (first
      | (go_at_call 9; refine (C1 _).out.mono ?_; rintro e w5 ⟨rfl, rfl⟩)
      | (go_at_call 10; refine (C2 _).out.mono ?_; rintro e w5 ⟨rfl, rfl⟩)
      | (go_at_call 11; refine (wakes_any _).mono ?_; rintro e w5 ⟨rfl, hb⟩))
    go_ret
    exact ⟨rfl, hb⟩
theorem below5 {B : Nat} {w0 w1 w2 w3 w4 w5 w6 : World} (h1 : Below B w0 w1) (hB : B ≤ w1.heap.size) (h2 : Below w1.heap.size w1 w2) (h3 : Below w2.heap.size w2 w3) (h4 : Below w3.heap.size w3 w4) (h5 : Below w4.heap.size w4 w5) (h6 : Below w5.heap.size w5 w6) : Below B w0 w6 := by
  have g2 := below_then h1 hB h2
  have g3 := below_then g2 (Nat.le_trans hB h2.size) h3
  have g4 := below_then g3 (Nat.le_trans (Nat.le_trans hB h2.size) h3.size) h4
  have g5 := below_then g4 (Nat.le_trans (Nat.le_trans (Nat.le_trans hB h2.size) h3.size) h4.size) h5
  exact below_then g5 (Nat.le_trans (Nat.le_trans (Nat.le_trans (Nat.le_trans hB h2.size) h3.size) h4.size) h5.size) h6
set_option maxHeartbeats 2000000 in
theorem SatDoes_any (a b : Int) (w : World) (ha : -9223372036854775808 ≤ a) (ha' : a ≤ 9223372036854775807) (hb : -9223372036854775808 ≤ b) (hb' : b ≤ 9223372036854775807) :
    Calls Try.prog 7 #[.int .i64 a, .int .i64 b] w fun e w' => e = .returned (.bool true) ∧ Below w.heap.size w w' := by
  go_enter Try.func7, Try.ntmps7
  go_wp2_with (first
    | (go_at_call 15; refine (add_any a b _ ha ha' hb hb').mono ?_; rintro e w1 ⟨rfl, hb1⟩)
    | (go_at_call 16; refine (sub_any a b _ ha ha' hb hb').mono ?_; rintro e w2 ⟨rfl, hb2⟩)
    | (go_at_call 17; refine (mul_any a b _ ha ha' hb hb').mono ?_; rintro e w3 ⟨rfl, hb3⟩)
    | (go_at_call 18; refine (neg_any a _ ha ha').mono ?_; rintro e w4 ⟨rfl, hb4⟩)
    | (go_at_call 23; refine (abs_any a _ ha ha').mono ?_; rintro e w5 ⟨rfl, hb5⟩)
    | (go_at_call 19; refine (ref_add_any a b _ ha ha' hb hb').mono ?_; rintro e w0 ⟨rfl, rfl⟩)
    | (go_at_call 20; refine (ref_sub_any a b _ ha ha' hb hb').mono ?_; rintro e w0 ⟨rfl, rfl⟩)
    | (go_at_call 21; refine (ref_mul_any a b _ ha ha' hb hb').mono ?_; rintro e w0 ⟨rfl, rfl⟩)
    | (go_at_call 22; refine (ref_neg_any a _ ha ha').mono ?_; rintro e w0 ⟨rfl, rfl⟩)
    | (go_at_call 24; refine (ref_abs_any a _ ha ha').mono ?_; rintro e w0 ⟨rfl, rfl⟩)
    | (go_at_call 11; refine (wakes_any _).mono ?_; rintro e w6 ⟨rfl, hb6⟩))
  all_goals
    go_ret
    exact ⟨rfl, below5 hb1 hb1.size hb2 hb3 hb4 hb5 hb6⟩
theorem clamp_mono {x y : Int} (h : x ≤ y) : clamp64 x ≤ clamp64 y := by unfold clamp64; omega
theorem abs_of (a : Int) (ha : -9223372036854775808 ≤ a) (ha' : a ≤ 9223372036854775807) :
    clamp64 (if clamp64 (-a) < 0 then -clamp64 (-a) else clamp64 (-a)) = clamp64 (if a < 0 then -a else a) ∧ 0 ≤ clamp64 (if a < 0 then -a else a) := by
  unfold clamp64
  refine ⟨?_, ?_⟩ <;> split <;> (try split) <;> (try split) <;> (try split) <;> (try split) <;> (try split) <;> omega
theorem sub_of (a b : Int) (hb : -9223372036854775808 < b) (hb' : b ≤ 9223372036854775807) : clamp64 (a + clamp64 (-b)) = clamp64 (a - b) := by
  rw [clamp_id (T := -b) (by omega) (by omega)]; rfl
set_option maxHeartbeats 4000000 in
theorem SatOrder_any (a b c : Int) (w : World) (ha : -9223372036854775808 ≤ a) (ha' : a ≤ 9223372036854775807) (hb : -9223372036854775808 ≤ b) (hb' : b ≤ 9223372036854775807) (hc : -9223372036854775808 ≤ c) (hc' : c ≤ 9223372036854775807) :
    Calls Try.prog 8 #[.int .i64 a, .int .i64 b, .int .i64 c] w fun e w' => e = .returned (.bool true) ∧ Below w.heap.size w w' := by
  have HB : Below w.heap.size w w := Below.refl _ _
  obtain ⟨n1, n2⟩ := clamp64_bd (-b)
  obtain ⟨n3, n4⟩ := clamp64_bd (-a)
  obtain ⟨q1, q2⟩ := abs_of a ha ha'
  have c1 : ∀ w, Hid (Calls Try.prog 15 #[.int .i64 b, .int .i64 a] w fun e w' => e = .returned (.int .i64 (clamp64 (a + b))) ∧ Below w.heap.size w w') := fun w => by have h := add_any b a w hb hb' ha ha'; rw [Int.add_comm] at h; exact h
  have c2 : ∀ w, Hid (Calls Try.prog 17 #[.int .i64 b, .int .i64 a] w fun e w' => e = .returned (.int .i64 (clamp64 (a * b))) ∧ Below w.heap.size w w') := fun w => by have h := mul_any b a w hb hb' ha ha'; rw [Int.mul_comm] at h; exact h
  have c3 : ∀ w, Hid (Calls Try.prog 23 #[.int .i64 a] w fun e w' => e = .returned (.int .i64 (clamp64 (if a < 0 then -a else a))) ∧ Below w.heap.size w w') := fun w => abs_any a w ha ha'
  have c4 : ∀ w, Hid (Calls Try.prog 23 #[.int .i64 (clamp64 (-a))] w fun e w' => e = .returned (.int .i64 (clamp64 (if a < 0 then -a else a))) ∧ Below w.heap.size w w') := fun w => by rw [← q1]; exact abs_any _ w n3 n4
  clear q1
  generalize clamp64 (if a < 0 then -a else a) = z at *
  have h1 : (a ≤ c ∧ clamp64 (a + b) ≤ clamp64 (c + b)) ∨ c < a := by
    rcases Int.lt_or_le c a with h | h
    · exact .inr h
    · exact .inl ⟨h, clamp_mono (by omega)⟩
  have h2 : (0 ≤ b ∧ (a ≤ c → clamp64 (a * b) ≤ clamp64 (c * b))) ∨ b < 0 := by
    rcases Int.lt_or_le b 0 with h | h
    · exact .inr h
    · exact .inl ⟨h, fun hac => clamp_mono (Int.mul_le_mul_of_nonneg_right hac h)⟩
  have h3 : b = -9223372036854775808 ∨ ((b == -9223372036854775808) = false ∧ clamp64 (a + clamp64 (-b)) = clamp64 (a - b)) := by
    by_cases h : b = -9223372036854775808
    · exact .inl h
    · exact .inr ⟨beq_eq_false_iff_ne.2 h, sub_of a b (by omega) hb'⟩
  rcases h3 with h3 | ⟨h3, h3'⟩
  · subst h3
    have h2' : ¬ (0 : Int) ≤ -9223372036854775808 := by omega
    clear h2 h2'
    rcases h1 with ⟨h1, h1'⟩ | h1
    all_goals
      go_enter Try.func8, Try.ntmps8
      go_wp2_with (first
        | (go_at_call 15; ((with_reducible refine (c1 _).out.mono ?_); rintro e w1 ⟨rfl, hb1⟩; replace HB := below_then HB HB.size hb1; clear hb1))
        | (go_at_call 15; ((with_reducible refine (add_any a _ _ ha ha' (by assumption) (by assumption)).mono ?_); rintro e w1 ⟨rfl, hb1⟩; replace HB := below_then HB HB.size hb1; clear hb1))
        | (go_at_call 15; ((with_reducible refine (add_any c _ _ hc hc' (by assumption) (by assumption)).mono ?_); rintro e w1 ⟨rfl, hb1⟩; replace HB := below_then HB HB.size hb1; clear hb1))
        | (go_at_call 16; ((with_reducible refine (sub_any a _ _ ha ha' (by assumption) (by assumption)).mono ?_); rintro e w1 ⟨rfl, hb1⟩; replace HB := below_then HB HB.size hb1; clear hb1))
        | (go_at_call 17; ((with_reducible refine (c2 _).out.mono ?_); rintro e w1 ⟨rfl, hb1⟩; replace HB := below_then HB HB.size hb1; clear hb1))
        | (go_at_call 17; ((with_reducible refine (mul_any a _ _ ha ha' (by assumption) (by assumption)).mono ?_); rintro e w1 ⟨rfl, hb1⟩; replace HB := below_then HB HB.size hb1; clear hb1))
        | (go_at_call 17; ((with_reducible refine (mul_any c _ _ hc hc' (by assumption) (by assumption)).mono ?_); rintro e w1 ⟨rfl, hb1⟩; replace HB := below_then HB HB.size hb1; clear hb1))
        | (go_at_call 18; ((with_reducible refine (neg_any _ _ (by assumption) (by assumption)).mono ?_); rintro e w1 ⟨rfl, hb1⟩; replace HB := below_then HB HB.size hb1; clear hb1))
        | (go_at_call 23; ((with_reducible refine (c3 _).out.mono ?_); rintro e w1 ⟨rfl, hb1⟩; replace HB := below_then HB HB.size hb1; clear hb1))
        | (go_at_call 23; ((with_reducible refine (c4 _).out.mono ?_); rintro e w1 ⟨rfl, hb1⟩; replace HB := below_then HB HB.size hb1; clear hb1))
        | (go_at_call 11; refine (wakes_any _).mono ?_; rintro e w1 ⟨rfl, hb1⟩; replace HB := below_then HB HB.size hb1; clear hb1))
      go_ret
      exact ⟨rfl, HB⟩
  · rcases h1 with ⟨h1, h1'⟩ | h1
    · rcases h2 with ⟨h2, h2'⟩ | h2
      · replace h2' := h2' h1
        go_enter Try.func8, Try.ntmps8
        go_wp2_with (first
          | (go_at_call 15; ((with_reducible refine (c1 _).out.mono ?_); rintro e w1 ⟨rfl, hb1⟩; replace HB := below_then HB HB.size hb1; clear hb1))
          | (go_at_call 15; ((with_reducible refine (add_any a _ _ ha ha' (by assumption) (by assumption)).mono ?_); rintro e w1 ⟨rfl, hb1⟩; replace HB := below_then HB HB.size hb1; clear hb1))
          | (go_at_call 15; ((with_reducible refine (add_any c _ _ hc hc' (by assumption) (by assumption)).mono ?_); rintro e w1 ⟨rfl, hb1⟩; replace HB := below_then HB HB.size hb1; clear hb1))
          | (go_at_call 16; ((with_reducible refine (sub_any a _ _ ha ha' (by assumption) (by assumption)).mono ?_); rintro e w1 ⟨rfl, hb1⟩; replace HB := below_then HB HB.size hb1; clear hb1))
          | (go_at_call 17; ((with_reducible refine (c2 _).out.mono ?_); rintro e w1 ⟨rfl, hb1⟩; replace HB := below_then HB HB.size hb1; clear hb1))
          | (go_at_call 17; ((with_reducible refine (mul_any a _ _ ha ha' (by assumption) (by assumption)).mono ?_); rintro e w1 ⟨rfl, hb1⟩; replace HB := below_then HB HB.size hb1; clear hb1))
          | (go_at_call 17; ((with_reducible refine (mul_any c _ _ hc hc' (by assumption) (by assumption)).mono ?_); rintro e w1 ⟨rfl, hb1⟩; replace HB := below_then HB HB.size hb1; clear hb1))
          | (go_at_call 18; ((with_reducible refine (neg_any _ _ (by assumption) (by assumption)).mono ?_); rintro e w1 ⟨rfl, hb1⟩; replace HB := below_then HB HB.size hb1; clear hb1))
          | (go_at_call 23; ((with_reducible refine (c3 _).out.mono ?_); rintro e w1 ⟨rfl, hb1⟩; replace HB := below_then HB HB.size hb1; clear hb1))
          | (go_at_call 23; ((with_reducible refine (c4 _).out.mono ?_); rintro e w1 ⟨rfl, hb1⟩; replace HB := below_then HB HB.size hb1; clear hb1))
          | (go_at_call 11; refine (wakes_any _).mono ?_; rintro e w1 ⟨rfl, hb1⟩; replace HB := below_then HB HB.size hb1; clear hb1))
        go_ret
        exact ⟨rfl, HB⟩
      · skip
        go_enter Try.func8, Try.ntmps8
        go_wp2_with (first
          | (go_at_call 15; ((with_reducible refine (c1 _).out.mono ?_); rintro e w1 ⟨rfl, hb1⟩; replace HB := below_then HB HB.size hb1; clear hb1))
          | (go_at_call 15; ((with_reducible refine (add_any a _ _ ha ha' (by assumption) (by assumption)).mono ?_); rintro e w1 ⟨rfl, hb1⟩; replace HB := below_then HB HB.size hb1; clear hb1))
          | (go_at_call 15; ((with_reducible refine (add_any c _ _ hc hc' (by assumption) (by assumption)).mono ?_); rintro e w1 ⟨rfl, hb1⟩; replace HB := below_then HB HB.size hb1; clear hb1))
          | (go_at_call 16; ((with_reducible refine (sub_any a _ _ ha ha' (by assumption) (by assumption)).mono ?_); rintro e w1 ⟨rfl, hb1⟩; replace HB := below_then HB HB.size hb1; clear hb1))
          | (go_at_call 17; ((with_reducible refine (c2 _).out.mono ?_); rintro e w1 ⟨rfl, hb1⟩; replace HB := below_then HB HB.size hb1; clear hb1))
          | (go_at_call 17; ((with_reducible refine (mul_any a _ _ ha ha' (by assumption) (by assumption)).mono ?_); rintro e w1 ⟨rfl, hb1⟩; replace HB := below_then HB HB.size hb1; clear hb1))
          | (go_at_call 17; ((with_reducible refine (mul_any c _ _ hc hc' (by assumption) (by assumption)).mono ?_); rintro e w1 ⟨rfl, hb1⟩; replace HB := below_then HB HB.size hb1; clear hb1))
          | (go_at_call 18; ((with_reducible refine (neg_any _ _ (by assumption) (by assumption)).mono ?_); rintro e w1 ⟨rfl, hb1⟩; replace HB := below_then HB HB.size hb1; clear hb1))
          | (go_at_call 23; ((with_reducible refine (c3 _).out.mono ?_); rintro e w1 ⟨rfl, hb1⟩; replace HB := below_then HB HB.size hb1; clear hb1))
          | (go_at_call 23; ((with_reducible refine (c4 _).out.mono ?_); rintro e w1 ⟨rfl, hb1⟩; replace HB := below_then HB HB.size hb1; clear hb1))
          | (go_at_call 11; refine (wakes_any _).mono ?_; rintro e w1 ⟨rfl, hb1⟩; replace HB := below_then HB HB.size hb1; clear hb1))
        go_ret
        exact ⟨rfl, HB⟩
    · have h2'' : 0 ≤ b ∨ b < 0 := by omega
      clear h2
      rcases h2'' with h2 | h2
      all_goals
        go_enter Try.func8, Try.ntmps8
        go_wp2_with (first
          | (go_at_call 15; ((with_reducible refine (c1 _).out.mono ?_); rintro e w1 ⟨rfl, hb1⟩; replace HB := below_then HB HB.size hb1; clear hb1))
          | (go_at_call 15; ((with_reducible refine (add_any a _ _ ha ha' (by assumption) (by assumption)).mono ?_); rintro e w1 ⟨rfl, hb1⟩; replace HB := below_then HB HB.size hb1; clear hb1))
          | (go_at_call 15; ((with_reducible refine (add_any c _ _ hc hc' (by assumption) (by assumption)).mono ?_); rintro e w1 ⟨rfl, hb1⟩; replace HB := below_then HB HB.size hb1; clear hb1))
          | (go_at_call 16; ((with_reducible refine (sub_any a _ _ ha ha' (by assumption) (by assumption)).mono ?_); rintro e w1 ⟨rfl, hb1⟩; replace HB := below_then HB HB.size hb1; clear hb1))
          | (go_at_call 17; ((with_reducible refine (c2 _).out.mono ?_); rintro e w1 ⟨rfl, hb1⟩; replace HB := below_then HB HB.size hb1; clear hb1))
          | (go_at_call 17; ((with_reducible refine (mul_any a _ _ ha ha' (by assumption) (by assumption)).mono ?_); rintro e w1 ⟨rfl, hb1⟩; replace HB := below_then HB HB.size hb1; clear hb1))
          | (go_at_call 17; ((with_reducible refine (mul_any c _ _ hc hc' (by assumption) (by assumption)).mono ?_); rintro e w1 ⟨rfl, hb1⟩; replace HB := below_then HB HB.size hb1; clear hb1))
          | (go_at_call 18; ((with_reducible refine (neg_any _ _ (by assumption) (by assumption)).mono ?_); rintro e w1 ⟨rfl, hb1⟩; replace HB := below_then HB HB.size hb1; clear hb1))
          | (go_at_call 23; ((with_reducible refine (c3 _).out.mono ?_); rintro e w1 ⟨rfl, hb1⟩; replace HB := below_then HB HB.size hb1; clear hb1))
          | (go_at_call 23; ((with_reducible refine (c4 _).out.mono ?_); rintro e w1 ⟨rfl, hb1⟩; replace HB := below_then HB HB.size hb1; clear hb1))
          | (go_at_call 11; refine (wakes_any _).mono ?_; rintro e w1 ⟨rfl, hb1⟩; replace HB := below_then HB HB.size hb1; clear hb1))
        go_ret
        exact ⟨rfl, HB⟩
theorem RI_three (w : World) (a b c : Int) (t : TypeId) : RI (w.alloc (.cells #[.int .i64 a, .int .i64 b, .int .i64 c] t)) .i64 (some ⟨w.heap.size, 0, none⟩) 3 [a, b, c] :=
  ⟨rfl, by omega, fun _ => ⟨_, _, rfl, by simp, fun j hj => by rcases j with _ | _ | _ | j <;> first | omega | simp⟩⟩
theorem small_mul (a b : Int) (ha : -2147483648 ≤ a) (ha' : a ≤ 2147483647) (hb : -2147483648 ≤ b) (hb' : b ≤ 2147483647) : -4611686018427387904 ≤ a * b ∧ a * b ≤ 4611686018427387904 := by
  have h1 : a.natAbs ≤ 2147483648 := by omega
  have h2 : b.natAbs ≤ 2147483648 := by omega
  have h3 := Nat.mul_le_mul h1 h2
  rw [← Int.natAbs_mul] at h3
  omega
set_option maxHeartbeats 2000000 in
theorem SatFits_any (a b n : Int) (w : World) (ha : -2147483648 ≤ a) (ha' : a ≤ 2147483647) (hb : -2147483648 ≤ b) (hb' : b ≤ 2147483647) :
    Calls Try.prog 6 #[.int .i32 a, .int .i32 b, .int .i64 n] w fun e w' => e = .returned (.bool true) ∧ Below w.heap.size w w' := by
  have HB : Below w.heap.size w w := Below.refl _ _
  obtain ⟨t1, t2⟩ := tmod_bd n (m := 4611686018427387904) (by omega)
  obtain ⟨m1, m2⟩ := small_mul a b ha ha' hb hb'
  generalize hk : n.tmod 4611686018427387904 = k at *
  have c1 : ∀ w, Hid (Calls Try.prog 15 #[.int .i64 a, .int .i64 b] w fun e w' => e = .returned (.int .i64 (a + b)) ∧ Below w.heap.size w w') := fun w => by
    have h := add_any a b w (by omega) (by omega) (by omega) (by omega); rw [clamp_id (by omega) (by omega)] at h; exact h
  have c2 : ∀ w, Hid (Calls Try.prog 16 #[.int .i64 a, .int .i64 b] w fun e w' => e = .returned (.int .i64 (a - b)) ∧ Below w.heap.size w w') := fun w => by
    have h := sub_any a b w (by omega) (by omega) (by omega) (by omega); rw [clamp_id (by omega) (by omega)] at h; exact h
  have c3 : ∀ w, Hid (Calls Try.prog 17 #[.int .i64 a, .int .i64 b] w fun e w' => e = .returned (.int .i64 (a * b)) ∧ Below w.heap.size w w') := fun w => by
    have h := mul_any a b w (by omega) (by omega) (by omega) (by omega); rw [clamp_id (by omega) (by omega)] at h; exact h
  have c4 : ∀ w, Hid (Calls Try.prog 18 #[.int .i64 k] w fun e w' => e = .returned (.int .i64 (-k)) ∧ Below w.heap.size w w') := fun w => by
    have h := neg_any k w (by omega) (by omega); rw [clamp_id (by omega) (by omega)] at h; exact h
  have c5 : ∀ (w : World) (A : Option Addr) (c : Nat), RI w .i64 A 3 [k, a, -k] → Hid (Calls Try.prog 12 #[.slice A 3 c] w fun e w' => e = .returned (.int .i64 a) ∧ Below w.heap.size w w') := fun w A c hr => by
    have h := sum_any A 3 c [k, a, -k] w hr (fun j hj => by rcases j with _ | _ | _ | j <;> simp <;> omega)
    rw [show [k, a, -k].sum = a by simp; omega, clamp_id (by omega) (by omega)] at h; exact h
  go_enter Try.func6, Try.ntmps6
  go_wp2_with (first
    | (go_at_call 15; refine (c1 _).out.mono ?_; rintro e w1 ⟨rfl, hb1⟩; replace HB := below_then HB HB.size hb1; clear hb1)
    | (go_at_call 16; refine (c2 _).out.mono ?_; rintro e w1 ⟨rfl, hb1⟩; replace HB := below_then HB HB.size hb1; clear hb1)
    | (go_at_call 17; refine (c3 _).out.mono ?_; rintro e w1 ⟨rfl, hb1⟩; replace HB := below_then HB HB.size hb1; clear hb1)
    | (go_at_call 18; refine (c4 _).out.mono ?_; rintro e w1 ⟨rfl, hb1⟩; replace HB := below_then HB HB.size hb1; clear hb1)
    | (go_at_call 12; refine (c5 _ _ _ (RI_three _ _ _ _ _)).out.mono ?_; rintro e w1 ⟨rfl, hb1⟩; replace HB := below_then (HB.alloc HB.size _) (Nat.le_trans HB.size (by simp)) hb1; clear hb1)
    | (go_at_call 11; refine (wakes_any _).mono ?_; rintro e w1 ⟨rfl, hb1⟩; replace HB := below_then HB HB.size hb1; clear hb1))
  go_ret
  exact ⟨rfl, HB⟩
theorem SatFits_row (a b n : Int) (w : World) (ha : (Lit.int .i32 a).wf = true) (hb : (Lit.int .i32 b).wf = true) (_ : (Lit.int .i64 n).wf = true) :
    Calls Try.prog 6 #[.int .i32 a, .int .i32 b, .int .i64 n] w fun e w' => e = .returned (.bool true) ∧ Below w.heap.size w w' :=
  SatFits_any a b n w (wf_i32 ha).1 (wf_i32 ha).2 (wf_i32 hb).1 (wf_i32 hb).2
theorem SatOrder_row (a b c : Int) (w : World) (ha : (Lit.int .i64 a).wf = true) (hb : (Lit.int .i64 b).wf = true) (hc : (Lit.int .i64 c).wf = true) :
    Calls Try.prog 8 #[.int .i64 a, .int .i64 b, .int .i64 c] w fun e w' => e = .returned (.bool true) ∧ Below w.heap.size w w' :=
  SatOrder_any a b c w (wf_i64 ha).1 (wf_i64 ha).2 (wf_i64 hb).1 (wf_i64 hb).2 (wf_i64 hc).1 (wf_i64 hc).2
theorem SatDoes_row (a b : Int) (w : World) (ha : (Lit.int .i64 a).wf = true) (hb : (Lit.int .i64 b).wf = true) :
    Calls Try.prog 7 #[.int .i64 a, .int .i64 b] w fun e w' => e = .returned (.bool true) ∧ Below w.heap.size w w' :=
  SatDoes_any a b w (wf_i64 ha).1 (wf_i64 ha).2 (wf_i64 hb).1 (wf_i64 hb).2

end Go.Proofs.Ytgmhgcndcoidkaa.Sat
