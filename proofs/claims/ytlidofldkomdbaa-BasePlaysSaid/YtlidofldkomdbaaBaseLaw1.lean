/- wakes, BaseNone, BaseForgets; no condition but what numbers there are. -/
import Derived.Test.YtlidofldkomdbaaBaseLaw
namespace Go.Proofs.Ytlidofldkomdbaa.Base
open Go.RowKit Go.Proofs.Ytlidofldkomdbaa.Plain Go.Proofs.Ytlidofldkomdbaa.Heap

set_option maxHeartbeats 400000 in
theorem mod_any (k n : Int) (w : World) (h0 : 1 ≤ n) (h1 : n ≤ 4611686018427387904) : Calls Try.prog 8 #[.int .i64 k, .int .i64 n] w fun e w' => e = .returned (.int .i64 (k % n)) ∧ w = w' := by
  have hb := tmod_bd k (m := n) (by omega)
  have e0 : (n == 0) = false := by simp; omega
  have w1 : wrap64 (Int.tmod k n) = Int.tmod k n := w64 (by omega) (by omega)
  have w2 : wrap64 (Int.tmod k n + n) = Int.tmod k n + n := w64 (by omega) (by omega)
  have hm := modp (n := k) (m := n) (by omega)
  have hb2 := Int.emod_nonneg k (show n ≠ 0 by omega)
  have hb3 := Int.emod_lt_of_pos k (show 0 < n by omega)
  have w3 : wrap64 (Int.tmod (Int.tmod k n + n) n) = k % n := by rw [hm]; exact w64 (by omega) (by omega)
  go_enter Try.func8, Try.ntmps8
  go_wp2
  go_ret
  exact ⟨rfl, rfl⟩
set_option maxHeartbeats 400000 in
theorem mod64_any (k n : Int) (w : World) (h0 : 1 ≤ n) (h1 : n ≤ 4611686018427387904) : Calls Try.prog 18 #[.int .i64 k, .int .i64 n] w fun e w' => e = .returned (.int .i64 (k % n)) ∧ w = w' := by
  have hb := tmod_bd k (m := n) (by omega)
  have e0 : (n == 0) = false := by simp; omega
  have w1 : wrap64 (Int.tmod k n) = Int.tmod k n := w64 (by omega) (by omega)
  have w2 : wrap64 (Int.tmod k n + n) = Int.tmod k n + n := w64 (by omega) (by omega)
  have hm := modp (n := k) (m := n) (by omega)
  have hb2 := Int.emod_nonneg k (show n ≠ 0 by omega)
  have hb3 := Int.emod_lt_of_pos k (show 0 < n by omega)
  have w3 : wrap64 (Int.tmod (Int.tmod k n + n) n) = k % n := by rw [hm]; exact w64 (by omega) (by omega)
  go_enter Try.func18, Try.ntmps18
  go_wp2
  go_ret
  exact ⟨rfl, rfl⟩
theorem wake_steps : (bstep (fresh 10 2) 0 5).2 = 0 ∧ (bstep (bstep (fresh 10 2) 0 5).1 10 9).2 = 4 ∧ (bstep (bstep (bstep (fresh 10 2) 0 5).1 10 9).1 25 9).2 = 0 := ⟨by decide, by decide, by decide⟩
set_option maxHeartbeats 1000000 in
set_option maxRecDepth 10000 in
theorem wakes_any (w : World) : Calls Try.prog 12 #[] w fun e w' => e = .returned (.bool true) ∧ Below w.heap.size w w' := by
  have ok0 := fresh_ok (width := 10) (rows := 2) (by omega) (by omega) (by omega)
  have hs := Lib.hid wake_steps
  go_enter Try.func12, Try.ntmps12
  go_wp2_with fail
  refine (new_bb 10 2 _ (by decide) (by decide) (by decide) (by decide)).mono ?_
  rintro e w1 ⟨rfl, h1, _⟩
  have H1 := Lib.hid h1; clear h1
  go_wp2_with fail
  refine (add_any _ _ 0 5 _ _ _ H1.out ok0).mono ?_
  rintro e w2 ⟨rfl, h2⟩
  have H2 := Lib.hid h2; clear h2
  have ok1 := bstep_ok ok0 0 5
  rw [hs.out.1]
  go_wp2_with fail
  refine (add_any _ _ 10 9 _ _ _ H2.out ok1).mono ?_
  rintro e w3 ⟨rfl, h3⟩
  have H3 := Lib.hid h3; clear h3
  have ok2 := bstep_ok ok1 10 9
  rw [hs.out.2.1]
  go_wp2_with fail
  refine (add_any _ _ 25 9 _ _ _ H3.out ok2).mono ?_
  rintro e w4 ⟨rfl, h4⟩
  have H4 := Lib.hid h4; clear h4
  rw [hs.out.2.2]
  go_wp2
  go_ret
  exact ⟨rfl, H4.out.2.2.1⟩
set_option maxHeartbeats 1000000 in
theorem BaseNone_any (at_ delay : Int) (w : World) : Calls Try.prog 7 #[.int .i64 at_, .int .i64 delay] w fun e w' => e = .returned (.bool true) ∧ Below w.heap.size w w' := by
  go_enter Try.func7, Try.ntmps7
  go_wp2_with fail
  refine (least_nil _).mono ?_
  rintro e w1 ⟨rfl, rfl⟩
  go_wp2_with fail
  refine (add_nil _ _ _).mono ?_
  rintro e w1 ⟨rfl, rfl⟩
  go_wp2_with fail
  refine (queue_nil _).mono ?_
  rintro e w1 ⟨rfl, rfl⟩
  go_wp2_with fail
  refine (wakes_any _).mono ?_
  rintro e w1 ⟨rfl, h⟩
  have H := Lib.hid h; clear h
  go_wp2
  go_ret
  exact ⟨rfl, H.out⟩
end Go.Proofs.Ytlidofldkomdbaa.Base
