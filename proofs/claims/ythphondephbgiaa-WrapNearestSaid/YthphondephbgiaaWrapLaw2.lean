/- The laws WrapBack, WrapOrder, WrapNearest, WrapRounds, walked; no condition but that the arguments are of their kinds. -/
import Derived.Test.YthphondephbgiaaWrapLaw
namespace Go.Proofs.Ythphondephbgiaa.Fn
open Go.RowKit Go.Proofs.Ythphondephbgiaa.Plain

theorem near_back (l d M H : Int) (h2 : M = 2 * H) (h3 : 1 ≤ H) (hd : -H < d) (hd' : d ≤ H) : near l ((l + d) % M) M H = l + d := by
  have e : ((l + d) % M - l) % M = d % M := by
    rw [Int.sub_emod, Int.emod_emod_of_dvd _ (Int.dvd_refl M), ← Int.sub_emod]; congr 1; omega
  unfold near
  rw [e]
  by_cases h : 0 ≤ d
  · rw [Int.emod_eq_of_lt h (by omega), if_neg (by omega)]
  · have e2 : d % M = d + M := by
      rw [← Int.add_emod_right]; exact Int.emod_eq_of_lt (by omega) (by omega)
    rw [e2, if_pos (by omega)]; omega
theorem kk (c m : Int) (hm : 1 ≤ m) (hm' : m ≤ 32) : ∃ k, wrap64 (1 + wrap64 ((IntKind.u64.wrap c).tmod m)) = k ∧ 1 ≤ k ∧ k ≤ m := by
  have e : IntKind.u64.wrap c = c % 18446744073709551616 := by simp [IntKind.wrap, IntKind.bits, IntKind.signed]
  have h1 : 0 ≤ c % 18446744073709551616 := by omega
  have h2 := Int.emod_nonneg (c % 18446744073709551616) (show m ≠ 0 by omega)
  have h3 := Int.emod_lt_of_pos (c % 18446744073709551616) (show 0 < m by omega)
  refine ⟨1 + c % 18446744073709551616 % m, ?_, by omega, by omega⟩
  rw [e, tmod_pos h1, w64 (n := c % 18446744073709551616 % m) (by omega) (by omega), w64 (by omega) (by omega)]
set_option maxHeartbeats 1000000 in
theorem WrapBack_any (n off c : Int) (w : World) : Calls Try.prog 5 #[.int .i64 n, .int .i64 off, .int .i64 c] w fun e w' => e = .returned (.bool true) ∧ Below w.heap.size w w' := by
  obtain ⟨k, hk, h0, h1⟩ := kk c 32 (by omega) (by omega)
  obtain ⟨M, H, hM, hH, h2, h3, h4⟩ := pow_half k h0 h1
  have b0 : 1 ≤ M := by omega
  have b1 : M ≤ 4294967296 := by omega
  obtain ⟨t1, t2⟩ := tmod_bd n (m := 576460752303423488) (by omega)
  obtain ⟨t3, t4⟩ := tmod_bd off (m := H) (by omega)
  have e1 := near_back (n.tmod 576460752303423488) (off.tmod H) M H h2 h3 (by omega) (by omega)
  have e2 := near_back (n.tmod 576460752303423488) 0 M H h2 h3 (by omega) (by omega)
  rw [Int.add_zero] at e2
  have e3 : hold60 (n.tmod 576460752303423488) = n.tmod 576460752303423488 := hold60_id (by omega) (by omega)
  have H1 := Lib.hid hM
  have H2 := Lib.hid hH
  have H3 := Lib.hid h2
  clear hM h2
  go_enter Try.func5, Try.ntmps5
  go_wp2_with (first
    | (go_at_call 9; refine (cut_yes _ k M _ h0 h1 H1.out b0 b1).mono ?_; rintro e w' ⟨rfl, rfl⟩)
    | (go_at_call 11; refine (near_yes _ _ k M H _ h0 h1 H1.out H2.out H3.out h3 h4).mono ?_; rintro e w' ⟨rfl, rfl⟩)
    | (go_at_call 13; refine (wakes_any _).mono ?_; rintro e w' ⟨rfl, rfl⟩))
  go_ret
  exact ⟨rfl, Below.refl _ _⟩
theorem after16 (x y : Int) (hx : 0 ≤ x) (hx' : x < 65536) (hy : 0 ≤ y) (hy' : y < 65536) : after x y 65536 32768 = decide (1 ≤ (x - y) % 65536 ∧ (x - y) % 65536 < 32768) := by
  unfold after; rw [decide_eq_decide]; omega
set_option maxHeartbeats 1000000 in
theorem WrapOrder_any (a b c : Int) (w : World) : Calls Try.prog 6 #[.int .i64 a, .int .i64 b, .int .i64 c] w fun e w' => e = .returned (.bool true) ∧ Below w.heap.size w w' := by
  have cut16 : ∀ (n : Int) (w : World), Hid (Calls Try.prog 9 #[.int .i64 n, .int .i64 16] w fun e w' => e = .returned (.int .i64 (n % 65536)) ∧ w = w') := fun n w => cut_yes n 16 65536 w (by omega) (by omega) (by decide) (by omega) (by omega)
  have aft16 : ∀ (x y : Int) (w : World), Hid (Calls Try.prog 14 #[.int .i64 x, .int .i64 y, .int .i64 16] w fun e w' => e = .returned (.bool (after x y 65536 32768)) ∧ w = w') := fun x y w => after_yes x y 16 65536 32768 w (by omega) (by omega) (by decide) (by decide) (by omega) (by omega) (by omega)
  have q1 : after (a % 65536) (a % 65536) 65536 32768 = false := by rw [after16 _ _ (by omega) (by omega) (by omega) (by omega)]; exact decide_eq_false (by omega)
  have q2 : after ((a + c) % 65536) ((b + c) % 65536) 65536 32768 = after (a % 65536) (b % 65536) 65536 32768 := by
    rw [after16 _ _ (by omega) (by omega) (by omega) (by omega), after16 _ _ (by omega) (by omega) (by omega) (by omega), decide_eq_decide]; omega
  have q3 : after (a % 65536) (b % 65536) 65536 32768 = true → after (b % 65536) (a % 65536) 65536 32768 = false := by
    rw [after16 _ _ (by omega) (by omega) (by omega) (by omega), after16 _ _ (by omega) (by omega) (by omega) (by omega)]
    intro h; have := of_decide_eq_true h; exact decide_eq_false (by omega)
  cases hp : after (a % 65536) (b % 65536) 65536 32768
  · rw [hp] at q2
    clear q3
    go_enter Try.func6, Try.ntmps6
    go_wp2_with (first
      | (go_at_call 9; refine (cut16 _ _).out.mono ?_; rintro e w' ⟨rfl, rfl⟩)
      | (go_at_call 14; refine (aft16 _ _ _).out.mono ?_; rintro e w' ⟨rfl, rfl⟩)
      | (go_at_call 13; refine (wakes_any _).mono ?_; rintro e w' ⟨rfl, rfl⟩))
    go_ret
    exact ⟨rfl, Below.refl _ _⟩
  · have q4 := q3 hp
    rw [hp] at q2
    clear q3
    go_enter Try.func6, Try.ntmps6
    go_wp2_with (first
      | (go_at_call 9; refine (cut16 _ _).out.mono ?_; rintro e w' ⟨rfl, rfl⟩)
      | (go_at_call 14; refine (aft16 _ _ _).out.mono ?_; rintro e w' ⟨rfl, rfl⟩)
      | (go_at_call 13; refine (wakes_any _).mono ?_; rintro e w' ⟨rfl, rfl⟩))
    go_ret
    exact ⟨rfl, Below.refl _ _⟩
theorem near_bds (l v M H : Int) (h2 : M = 2 * H) (h3 : 1 ≤ H) : near l v M H % M = v % M ∧ near l v M H - l ≤ H ∧ l - near l v M H < H := by
  have c1 := Int.emod_nonneg (v - l) (show M ≠ 0 by omega)
  have c2 := Int.emod_lt_of_pos (v - l) (show 0 < M by omega)
  have q : (l + (v - l) % M) % M = v % M := by
    rw [Int.add_emod, Int.emod_emod_of_dvd _ (Int.dvd_refl M), ← Int.add_emod]; congr 1; omega
  unfold near
  split
  · refine ⟨?_, by omega, by omega⟩
    rw [show l + ((v - l) % M - M) = l + (v - l) % M - M by omega, Int.sub_emod_right, q]
  · exact ⟨q, by omega, by omega⟩
set_option maxHeartbeats 1000000 in
theorem WrapNearest_any (n v c : Int) (w : World) : Calls Try.prog 7 #[.int .i64 n, .int .i64 v, .int .i64 c] w fun e w' => e = .returned (.bool true) ∧ Below w.heap.size w w' := by
  obtain ⟨k, hk, h0, h1⟩ := kk c 32 (by omega) (by omega)
  obtain ⟨M, H, hM, hH, h2, h3, h4⟩ := pow_half k h0 h1
  have b0 : 1 ≤ M := by omega
  have b1 : M ≤ 4294967296 := by omega
  obtain ⟨t1, t2⟩ := tmod_bd n (m := 576460752303423488) (by omega)
  have e3 : hold60 (n.tmod 576460752303423488) = n.tmod 576460752303423488 := hold60_id (by omega) (by omega)
  obtain ⟨e1, e4, e5⟩ := near_bds (n.tmod 576460752303423488) v M H h2 h3
  generalize hl : n.tmod 576460752303423488 = l at *
  have H1 := Lib.hid hM
  have H2 := Lib.hid hH
  have H3 := Lib.hid h2
  clear hM h2
  go_enter Try.func7, Try.ntmps7
  go_wp2_with (first
    | (go_at_call 9; refine (cut_yes _ k M _ h0 h1 H1.out b0 b1).mono ?_; rintro e w' ⟨rfl, rfl⟩)
    | (go_at_call 11; refine (near_yes _ _ k M H _ h0 h1 H1.out H2.out H3.out h3 h4).mono ?_; rintro e w' ⟨rfl, rfl⟩)
    | (go_at_call 13; refine (wakes_any _).mono ?_; rintro e w' ⟨rfl, rfl⟩))
  go_ret
  exact ⟨rfl, Below.refl _ _⟩
set_option maxHeartbeats 1000000 in
theorem WrapRounds_any (n t c : Int) (w : World) (ht : -2147483648 ≤ t) (ht' : t ≤ 2147483647) : Calls Try.prog 8 #[.int .i64 n, .int .i32 t, .int .i64 c] w fun e w' => e = .returned (.bool true) ∧ Below w.heap.size w w' := by
  obtain ⟨k, hk, h0, h1⟩ := kk c 29 (by omega) (by omega)
  have h1' : k ≤ 32 := by omega
  obtain ⟨M, H, hM, hH, h2, h3, h4⟩ := pow_half k h0 h1'
  have h5 : M ≤ 536870912 := by
    rw [← hM]
    have : ((2 ^ k.toNat : Nat) : Int) ≤ ((2 ^ 29 : Nat) : Int) := Int.ofNat_le.2 (Nat.pow_le_pow_right (by omega) (by omega))
    simpa using this
  have b0 : 1 ≤ M := by omega
  have b1 : M ≤ 4294967296 := by omega
  obtain ⟨t1, t2⟩ := tmod_bd n (m := 1152921504606846976) (by omega)
  generalize hl : n.tmod 1152921504606846976 = l at *
  have p1 : t * M ≤ 2147483647 * M := Int.mul_le_mul_of_nonneg_right (by omega) (by omega)
  have p2 : (-2147483648) * M ≤ t * M := Int.mul_le_mul_of_nonneg_right (by omega) (by omega)
  have c1 := Int.emod_nonneg l (show M ≠ 0 by omega)
  have c2 := Int.emod_lt_of_pos l (show 0 < M by omega)
  have e1 : (l + t * M) % M = l % M := Int.add_mul_emod_self_right _ _ _
  have H1 := Lib.hid hM
  clear hH h2
  go_enter Try.func8, Try.ntmps8
  go_wp2_with (first
    | (go_at_call 9; refine (cut_yes _ k M _ h0 h1' H1.out b0 b1).mono ?_; rintro e w' ⟨rfl, rfl⟩)
    | (go_at_call 13; refine (wakes_any _).mono ?_; rintro e w' ⟨rfl, rfl⟩))
  go_ret
  exact ⟨rfl, Below.refl _ _⟩
theorem WrapRounds_row (n t c : Int) (w : World) (_ : (Lit.int .i64 n).wf = true) (ht : (Lit.int .i32 t).wf = true) (_ : (Lit.int .i64 c).wf = true) :
    Calls Try.prog 8 #[.int .i64 n, .int .i32 t, .int .i64 c] w fun e w' => e = .returned (.bool true) ∧ Below w.heap.size w w' :=
  WrapRounds_any n t c w (wf_i32 ht).1 (wf_i32 ht).2

end Go.Proofs.Ythphondephbgiaa.Fn
