/- What each function of wrap comes to; no condition but the ranges in each. -/
import Derived.Test.YtfemmbipglpalaaProg
import Derived.Test.YtfemmbipglpalaaPlain
import Derived.WalkKit
import Derived.WalkSpells
import Derived.WalkLawsBesides
import Derived.Lib.Hide
namespace Go.Proofs.Ytfemmbipglpalaa.Fn
open Go.RowKit Go.Proofs.Ytfemmbipglpalaa.Plain

theorem ret_int {k : IntKind} {a b : Int} (h : a = b) : Ending.returned (.int k a) = .returned (.int k b) := by rw [h]
theorem ret_bool {a b : Bool} (h : a = b) : Ending.returned (.bool a) = .returned (.bool b) := by rw [h]

set_option maxHeartbeats 400000 in
theorem good_yes (k : Int) (w : World) (h0 : 1 ≤ k) (h1 : k ≤ 32) : Calls Try.prog 36 #[.int .i64 k] w fun e w' => e = .returned (.bool true) ∧ w = w' := by
  go_enter Try.func36, Try.ntmps36
  go_wp2
  go_ret
  exact ⟨rfl, rfl⟩
set_option maxHeartbeats 400000 in
theorem good_no (k : Int) (w : World) (h : ¬(1 ≤ k ∧ k ≤ 32)) : Calls Try.prog 36 #[.int .i64 k] w fun e w' => e = .returned (.bool false) ∧ w = w' := by
  by_cases h0 : 1 ≤ k
  · have h1 : 32 < k := by omega
    clear h
    go_enter Try.func36, Try.ntmps36
    go_wp2
    go_ret
    exact ⟨ret_bool (decide_eq_false (by omega)), rfl⟩
  · have h1 : k < 1 := by omega
    clear h h0
    go_enter Try.func36, Try.ntmps36
    go_wp2
    go_ret
    exact ⟨rfl, rfl⟩
set_option maxHeartbeats 400000 in
theorem lower_any (n k M : Int) (w : World) (h0 : 1 ≤ k) (h1 : k ≤ 32) (hM : (2 : Int) ^ k.toNat = M) (hb : 1 ≤ M) (hb' : M ≤ 4294967296) :
    Calls Try.prog 38 #[.int .i64 n, .int .i64 k] w fun e w' => e = .returned (.int .i64 (n % M)) ∧ w = w' := by
  have he := mask_of n k.toNat M (by omega) hM
  go_enter Try.func38, Try.ntmps38
  go_wp2
  go_ret
  exact ⟨rfl, rfl⟩
set_option maxHeartbeats 400000 in
theorem lower64_any (n k M : Int) (w : World) (h0 : 1 ≤ k) (h1 : k ≤ 32) (hM : (2 : Int) ^ k.toNat = M) (hb : 1 ≤ M) (hb' : M ≤ 4294967296) :
    Calls Try.prog 37 #[.int .i64 n, .int .i64 k] w fun e w' => e = .returned (.int .i64 (n % M)) ∧ w = w' := by
  have he := mask_of n k.toNat M (by omega) hM
  go_enter Try.func37, Try.ntmps37
  go_wp2
  go_ret
  exact ⟨rfl, rfl⟩
set_option maxHeartbeats 400000 in
theorem cut_yes (n k M : Int) (w : World) (h0 : 1 ≤ k) (h1 : k ≤ 32) (hM : (2 : Int) ^ k.toNat = M) (hb : 1 ≤ M) (hb' : M ≤ 4294967296) :
    Calls Try.prog 29 #[.int .i64 n, .int .i64 k] w fun e w' => e = .returned (.int .i64 (n % M)) ∧ w = w' := by
  have c1 := Int.emod_nonneg n (show M ≠ 0 by omega)
  have c2 := Int.emod_lt_of_pos n (show 0 < M by omega)
  have HM := Lib.hid hM
  clear hM
  go_enter Try.func29, Try.ntmps29
  go_wp2_with (first | (go_at_call 36; refine (good_yes k _ h0 h1).mono ?_; rintro e w' ⟨rfl, rfl⟩) | (go_at_call 37; refine (lower64_any n k M _ h0 h1 HM.out hb hb').mono ?_; rintro e w' ⟨rfl, rfl⟩))
  go_ret
  exact ⟨rfl, rfl⟩
set_option maxHeartbeats 400000 in
theorem cut_no (n k : Int) (w : World) (h : ¬(1 ≤ k ∧ k ≤ 32)) :
    Calls Try.prog 29 #[.int .i64 n, .int .i64 k] w fun e w' => e = .returned (.int .i64 0) ∧ w = w' := by
  have HG := fun w => Lib.hid (good_no k w h)
  clear h
  go_enter Try.func29, Try.ntmps29
  go_wp2_with (first | (go_at_call 36; refine (HG _).out.mono ?_; rintro e w' ⟨rfl, rfl⟩))
  go_ret
  exact ⟨rfl, rfl⟩
/-- What Near tells. -/
def near (l v M H : Int) : Int := if (v - l) % M > H then l + ((v - l) % M - M) else l + (v - l) % M
def hold60 (n : Int) : Int := mn (mx n (-1152921504606846976)) 1152921504606846976
theorem hold60_bd (n : Int) : -1152921504606846976 ≤ hold60 n ∧ hold60 n ≤ 1152921504606846976 := by unfold hold60 mn mx; omega
theorem hold60_id {n : Int} (h0 : -1152921504606846976 ≤ n) (h1 : n ≤ 1152921504606846976) : hold60 n = n := by unfold hold60 mn mx; omega
theorem hold60_turn (n : Int) : mx (-1152921504606846976) (mn n 1152921504606846976) = hold60 n := by unfold hold60 mn mx; omega
theorem near_if (l v M H : Int) (h : H < (v - l) % M) : l + ((v - l) % M - M) = near l v M H := by unfold near; rw [if_pos h]
theorem near_else (l v M H : Int) (h : ¬ H < (v - l) % M) : l + (v - l) % M = near l v M H := by unfold near; rw [if_neg h]
attribute [local go_sem high] run_mx run_mn in
set_option maxHeartbeats 1000000 in
theorem near_yes (n v k M H : Int) (w : World) (h0 : 1 ≤ k) (h1 : k ≤ 32) (hM : (2 : Int) ^ k.toNat = M) (hH : (2 : Int) ^ (k.toNat - 1) = H) (h2 : M = 2 * H) (h3 : 1 ≤ H) (h4 : H ≤ 2147483648) :
    Calls Try.prog 30 #[.int .i64 n, .int .i64 v, .int .i64 k] w fun e w' => e = .returned (.int .i64 (near (hold60 n) v M H)) ∧ w = w' := by
  have b0 : 1 ≤ M := by omega
  have b1 : M ≤ 4294967296 := by omega
  have c1 := Int.emod_nonneg v (show M ≠ 0 by omega)
  have c2 := Int.emod_lt_of_pos v (show 0 < M by omega)
  have HM := Lib.hid hM
  clear h2
  obtain ⟨l1, l2⟩ := hold60_bd n
  unfold hold60 at *
  generalize hl : mn (mx n (-1152921504606846976)) 1152921504606846976 = l at *
  have d1 := Int.emod_nonneg (v - l) (show M ≠ 0 by omega)
  have d2 := Int.emod_lt_of_pos (v - l) (show 0 < M by omega)
  go_enter Try.func30, Try.ntmps30
  go_wp2_with (first | (go_at_call 36; refine (good_yes k _ h0 h1).mono ?_; rintro e w' ⟨rfl, rfl⟩) | (go_at_call 38; refine (lower_any v k M _ h0 h1 HM.out b0 b1).mono ?_; rintro e w' ⟨rfl, rfl⟩) | (go_at_call 37; refine (lower64_any _ k M _ h0 h1 HM.out b0 b1).mono ?_; rintro e w' ⟨rfl, rfl⟩))
  · go_ret
    exact ⟨ret_int (near_if l v M H (by omega)), rfl⟩
  · go_ret
    exact ⟨ret_int (near_else l v M H (by omega)), rfl⟩
set_option maxHeartbeats 400000 in
theorem near_no (n v k : Int) (w : World) (h : ¬(1 ≤ k ∧ k ≤ 32)) :
    Calls Try.prog 30 #[.int .i64 n, .int .i64 v, .int .i64 k] w fun e w' => e = .returned (.int .i64 n) ∧ w = w' := by
  have HG := fun w => Lib.hid (good_no k w h)
  clear h
  go_enter Try.func30, Try.ntmps30
  go_wp2_with (first | (go_at_call 36; refine (HG _).out.mono ?_; rintro e w' ⟨rfl, rfl⟩))
  go_ret
  exact ⟨rfl, rfl⟩
/-- What After tells. -/
def after (a b M H : Int) : Bool := decide (0 ≤ a ∧ 0 ≤ b ∧ a < M ∧ b < M ∧ 1 ≤ (a - b) % M ∧ (a - b) % M < H)
end Go.Proofs.Ytfemmbipglpalaa.Fn
