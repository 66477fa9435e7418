/- What the reference's functions of wrap come to, and the six laws over them; no condition but the ranges in each. -/
import Derived.Test.YthphondephbgiaaWrapFn
import Derived.Deep.QuietTactic
import Derived.BigQuiet
namespace Go.Proofs.Ythphondephbgiaa.Fn
open Go.RowKit Go.Proofs.Ythphondephbgiaa.Plain

theorem quiet_same {P : Program} {f : FuncId} {args : Array Value} {w : World} {n : Nat} {v : Value}
    (h : Calls P f args (w.drewN n) fun e w' => e = .returned v ∧ w.drewN n = w') : Calls P f args (w.drewN n) fun e w'' => e = .returned v ∧ ∃ m, w'' = w.drewN m :=
  h.mono fun _ _ ⟨he, hm⟩ => ⟨he, n, hm.symm⟩
set_option maxHeartbeats 400000 in
theorem mod_any (n M : Int) (w : World) (h0 : 1 ≤ M) (h1 : M ≤ 4294967296) : Calls Try.prog 18 #[.int .i64 n, .int .i64 M] w fun e w' => e = .returned (.int .i64 (n % M)) ∧ w = w' := by
  obtain ⟨b1, b2⟩ := tmod_bd n (m := M) (by omega)
  go_enter Try.func18, Try.ntmps18
  go_wp2
  go_ret
  exact ⟨ret_int (by simp only [Int.add_emod_right, tmod_emod]), rfl⟩
set_option maxHeartbeats 400000 in
theorem ref_cut_yes (n k M : Int) (w : World) (h0 : 1 ≤ k) (h1 : k ≤ 32) (hM : (2 : Int) ^ k.toNat = M) (hb : 1 ≤ M) (hb' : M ≤ 4294967296) :
    Calls Try.prog 10 #[.int .i64 n, .int .i64 k] w fun e w' => e = .returned (.int .i64 (n % M)) ∧ w = w' := by
  have c1 := Int.emod_nonneg n (show M ≠ 0 by omega)
  have c2 := Int.emod_lt_of_pos n (show 0 < M by omega)
  go_enter Try.func10, Try.ntmps10
  go_wp2_with (go_at_call 18; refine (mod_any n M _ hb hb').mono ?_; rintro e w' ⟨rfl, rfl⟩)
  go_ret
  exact ⟨rfl, rfl⟩
set_option maxHeartbeats 400000 in
theorem ref_cut_no (n k : Int) (w : World) (h : ¬(1 ≤ k ∧ k ≤ 32)) :
    Calls Try.prog 10 #[.int .i64 n, .int .i64 k] w fun e w' => e = .returned (.int .i64 0) ∧ w = w' := by
  have h' : k < 1 ∨ (1 ≤ k ∧ 32 < k) := by omega
  clear h
  rcases h' with h | ⟨h, h'⟩
  all_goals
    go_enter Try.func10, Try.ntmps10
    go_wp2
    go_ret
    exact ⟨rfl, rfl⟩
attribute [local go_sem high] run_mx run_mn in
set_option maxHeartbeats 1000000 in
theorem ref_near_yes (n v k M H : Int) (w : World) (h0 : 1 ≤ k) (h1 : k ≤ 32) (hM : (2 : Int) ^ k.toNat = M) (h2 : M = 2 * H) (h3 : 1 ≤ H) (h4 : H ≤ 2147483648) :
    Calls Try.prog 12 #[.int .i64 n, .int .i64 v, .int .i64 k] w fun e w' => e = .returned (.int .i64 (near (hold60 n) v M H)) ∧ ∃ q, w' = w.drewN q := by
  have b0 : 1 ≤ M := by omega
  have b1 : M ≤ 4294967296 := by omega
  have hz : ¬ M = 0 := by omega
  have h5 : M / 2 = H := by omega
  clear h2
  obtain ⟨l1, l2⟩ := hold60_bd n
  have ht := hold60_turn n
  generalize hold60 n = l at *
  obtain ⟨t1, t2⟩ := tmod_bd v (m := M) (by omega)
  obtain ⟨t3, t4⟩ := tmod_bd l (m := M) (by omega)
  have hs := sub_tmod v l (m := M)
  have hs1 : IntKind.i64.wrap (v.tmod M - l.tmod M) = v.tmod M - l.tmod M := IntWalk.i64_in _ (by omega)
  have d1 := Int.emod_nonneg (v - l) (show M ≠ 0 by omega)
  have d2 := Int.emod_lt_of_pos (v - l) (show 0 < M by omega)
  go_enter Try.func12, Try.ntmps12
  go_wp2_with fail
  go_quiet ((go_at_call 18; exact quiet_same (mod_any _ M _ b0 b1)))
  go_wp2
  · go_ret
    exact ⟨ret_int (near_else l v M H (by omega)), _, rfl⟩
  · go_ret
    exact ⟨ret_int (by rw [← near_if l v M H (by omega)]; omega), _, rfl⟩
set_option maxHeartbeats 400000 in
theorem ref_near_no (n v k : Int) (w : World) (h : ¬(1 ≤ k ∧ k ≤ 32)) :
    Calls Try.prog 12 #[.int .i64 n, .int .i64 v, .int .i64 k] w fun e w' => e = .returned (.int .i64 n) ∧ ∃ q, w' = w.drewN q := by
  have h' : k < 1 ∨ (1 ≤ k ∧ 32 < k) := by omega
  clear h
  rcases h' with h | ⟨h, h'⟩
  all_goals
    go_enter Try.func12, Try.ntmps12
    go_wp2
    go_ret
    exact ⟨rfl, 0, rfl⟩
set_option maxHeartbeats 1000000 in
theorem ref_after_yes (a b k M H : Int) (w : World) (h0 : 1 ≤ k) (h1 : k ≤ 32) (hM : (2 : Int) ^ k.toNat = M) (hH : (2 : Int) ^ (k.toNat - 1) = H) (h2 : M = 2 * H) (h3 : 1 ≤ H) (h4 : H ≤ 2147483648) :
    Calls Try.prog 15 #[.int .i64 a, .int .i64 b, .int .i64 k] w fun e w' => e = .returned (.bool (after a b M H)) ∧ w = w' := by
  have b0 : 1 ≤ M := by omega
  have b1 : M ≤ 4294967296 := by omega
  have HM := Lib.hid hM
  clear h2
  go_enter Try.func15, Try.ntmps15
  go_wp2_with (first | (go_at_call 10; refine (ref_cut_yes _ k M _ h0 h1 HM.out b0 b1).mono ?_; rintro e w' ⟨rfl, rfl⟩))
  all_goals
    go_ret
    refine ⟨ret_bool ?_, rfl⟩
    unfold after
    first
      | (rw [decide_eq_false (by omega)]; done)
      | (rw [eq_comm, decide_eq_decide]; omega)
set_option maxHeartbeats 400000 in
theorem ref_after_no (a b k : Int) (w : World) (h : ¬(1 ≤ k ∧ k ≤ 32)) :
    Calls Try.prog 15 #[.int .i64 a, .int .i64 b, .int .i64 k] w fun e w' => e = .returned (.bool false) ∧ w = w' := by
  have h' : k < 1 ∨ (1 ≤ k ∧ 32 < k) := by omega
  clear h
  rcases h' with h | ⟨h, h'⟩
  all_goals
    go_enter Try.func15, Try.ntmps15
    go_wp2
    go_ret
    exact ⟨rfl, rfl⟩
set_option maxHeartbeats 400000 in
theorem wakes_any (w : World) : Calls Try.prog 13 #[] w fun e w' => e = .returned (.bool true) ∧ w = w' := by
  have e1 : near (hold60 65530) 3 65536 32768 = 65539 := by decide
  have e2 : after 3 65530 65536 32768 = true := by decide
  go_enter Try.func13, Try.ntmps13
  go_wp2_with (first
    | (go_at_call 11; refine (near_yes 65530 3 16 65536 32768 _ (by omega) (by omega) (by decide) (by decide) (by omega) (by omega) (by omega)).mono ?_; rintro e w' ⟨rfl, rfl⟩)
    | (go_at_call 14; refine (after_yes 3 65530 16 65536 32768 _ (by omega) (by omega) (by decide) (by decide) (by omega) (by omega) (by omega)).mono ?_; rintro e w' ⟨rfl, rfl⟩)
    | (go_at_call 9; refine (cut_yes (-1) 8 256 _ (by omega) (by omega) (by decide) (by omega) (by omega)).mono ?_; rintro e w' ⟨rfl, rfl⟩))
  go_ret
  exact ⟨rfl, rfl⟩
theorem below_drewN {B : Nat} {a w : World} (h : Below B a w) (n : Nat) : Below B a (w.drewN n) := ⟨h.os, h.tape, h.output, h.size, h.block⟩
set_option maxHeartbeats 1000000 in
theorem WrapDoes_any (n v k : Int) (w : World) : Calls Try.prog 3 #[.int .i64 n, .int .i64 v, .int .i64 k] w fun e w' => e = .returned (.bool true) ∧ Below w.heap.size w w' := by
  by_cases h : 1 ≤ k ∧ k ≤ 32
  · obtain ⟨h0, h1⟩ := h
    obtain ⟨M, H, hM, hH, h2, h3, h4⟩ := pow_half k h0 h1
    have b0 : 1 ≤ M := by omega
    have b1 : M ≤ 4294967296 := by omega
    have H1 := Lib.hid hM
    have H2 := Lib.hid hH
    have H3 := Lib.hid h2
    clear hM hH h2
    go_enter Try.func3, Try.ntmps3
    go_wp2_with (first
      | (go_at_call 9; refine (cut_yes n k M _ h0 h1 H1.out b0 b1).mono ?_; rintro e w' ⟨rfl, rfl⟩)
      | (go_at_call 10; refine (ref_cut_yes n k M _ h0 h1 H1.out b0 b1).mono ?_; rintro e w' ⟨rfl, rfl⟩)
      | (go_at_call 11; refine (near_yes n v k M H _ h0 h1 H1.out H2.out H3.out h3 h4).mono ?_; rintro e w' ⟨rfl, rfl⟩)
      | (go_at_call 12; refine (ref_near_yes n v k M H _ h0 h1 H1.out H3.out h3 h4).mono ?_; rintro e w' ⟨rfl, q, rfl⟩)
      | (go_at_call 13; refine (wakes_any _).mono ?_; rintro e w' ⟨rfl, rfl⟩))
    go_ret
    exact ⟨rfl, below_drewN (Below.refl _ _) _⟩
  · have H1 := fun w => Lib.hid (cut_no n k w h)
    have H2 := fun w => Lib.hid (ref_cut_no n k w h)
    have H3 := fun w => Lib.hid (near_no n v k w h)
    have H4 := fun w => Lib.hid (ref_near_no n v k w h)
    clear h
    go_enter Try.func3, Try.ntmps3
    go_wp2_with (first
      | (go_at_call 9; refine (H1 _).out.mono ?_; rintro e w' ⟨rfl, rfl⟩)
      | (go_at_call 10; refine (H2 _).out.mono ?_; rintro e w' ⟨rfl, rfl⟩)
      | (go_at_call 11; refine (H3 _).out.mono ?_; rintro e w' ⟨rfl, rfl⟩)
      | (go_at_call 12; refine (H4 _).out.mono ?_; rintro e w' ⟨rfl, q, rfl⟩)
      | (go_at_call 13; refine (wakes_any _).mono ?_; rintro e w' ⟨rfl, rfl⟩))
    go_ret
    exact ⟨rfl, below_drewN (Below.refl _ _) _⟩
set_option maxHeartbeats 1000000 in
theorem WrapAfter_any (a b k : Int) (w : World) : Calls Try.prog 4 #[.int .i64 a, .int .i64 b, .int .i64 k] w fun e w' => e = .returned (.bool true) ∧ Below w.heap.size w w' := by
  by_cases h : 1 ≤ k ∧ k ≤ 32
  · obtain ⟨h0, h1⟩ := h
    obtain ⟨M, H, hM, hH, h2, h3, h4⟩ := pow_half k h0 h1
    have H1 := Lib.hid hM
    have H2 := Lib.hid hH
    have H3 := Lib.hid h2
    clear hM hH h2
    go_enter Try.func4, Try.ntmps4
    go_wp2_with (first
      | (go_at_call 14; refine (after_yes a b k M H _ h0 h1 H1.out H2.out H3.out h3 h4).mono ?_; rintro e w' ⟨rfl, rfl⟩)
      | (go_at_call 15; refine (ref_after_yes a b k M H _ h0 h1 H1.out H2.out H3.out h3 h4).mono ?_; rintro e w' ⟨rfl, rfl⟩)
      | (go_at_call 13; refine (wakes_any _).mono ?_; rintro e w' ⟨rfl, rfl⟩))
    go_ret
    exact ⟨rfl, Below.refl _ _⟩
  · have H1 := fun w => Lib.hid (after_no a b k w h)
    have H2 := fun w => Lib.hid (ref_after_no a b k w h)
    clear h
    go_enter Try.func4, Try.ntmps4
    go_wp2_with (first
      | (go_at_call 14; refine (H1 _).out.mono ?_; rintro e w' ⟨rfl, rfl⟩)
      | (go_at_call 15; refine (H2 _).out.mono ?_; rintro e w' ⟨rfl, rfl⟩)
      | (go_at_call 13; refine (wakes_any _).mono ?_; rintro e w' ⟨rfl, rfl⟩))
    go_ret
    exact ⟨rfl, Below.refl _ _⟩

end Go.Proofs.Ythphondephbgiaa.Fn
