/- wakes, GroupNone: what each comes to; no condition but the ranges in each. -/
import Derived.Test.YtdpaknpiedoblaaGroupLaw2
import Derived.Test.YtdpaknpiedoblaaOpen
namespace Go.Proofs.Ytdpaknpiedoblaa.Group
open Go.RowKit Go.Proofs.Ytdpaknpiedoblaa.Plain Go.Proofs.Ytdpaknpiedoblaa.Heap Go.Proofs.Ytdpaknpiedoblaa.Open

abbrev rAck : Rel ((Int × Int × Int) × Int × Bool × Bool) := rTwo (rTwo (rInt .i64) (rTwo (rInt .i64) (rInt .i64))) (rTwo (rInt .i64) (rTwo rBool rBool))
theorem ack_of {w : World} {c : Array Value} {z : (Int × Int × Int) × Int × Bool × Bool} (h : rAck w c.toList z) : Value.agg c = ack z.1.1 z.1.2.1 z.1.2.2 z.2.1 z.2.2.1 z.2.2.2 := by
  obtain ⟨c1, c2, hc, ⟨d1, d2, hd, ⟨h1, _⟩, e1, e2, he, ⟨h2, _⟩, h3, _⟩, f1, f2, hf, ⟨h4, _⟩, g1, g2, hg, h5, h6⟩ := h
  subst hd he hf hg h1 h2 h3 h4 h5 h6
  unfold ack
  congr 1
  exact Array.toList_inj.1 (by simpa using hc)
set_option maxHeartbeats 400000 in
theorem mod_any (k n : Int) (w : World) (h0 : 1 ≤ n) (h1 : n ≤ 4611686018427387904) : Calls Try.prog 16 #[.int .i64 k, .int .i64 n] w fun e w' => e = .returned (.int .i64 (k % n)) ∧ w = w' := by
  have hb := tmod_bd k (m := n) (by omega)
  have e0 : (n == 0) = false := by simp; omega
  have w1 : wrap64 (Int.tmod k n) = Int.tmod k n := w64 (by omega) (by omega)
  have w2 : wrap64 (Int.tmod k n + n) = Int.tmod k n + n := w64 (by omega) (by omega)
  have hm := modp (n := k) (m := n) (by omega)
  have hb2 := Int.emod_nonneg k (show n ≠ 0 by omega)
  have hb3 := Int.emod_lt_of_pos k (show 0 < n by omega)
  have w3 : wrap64 (Int.tmod (Int.tmod k n + n) n) = k % n := by rw [hm]; exact w64 (by omega) (by omega)
  go_enter Try.func16, Try.ntmps16
  go_wp2
  go_ret
  exact ⟨rfl, rfl⟩
theorem wake_steps : gstep 5000 (none, none) 100 0 10 false = ((some (0, 0, 10, 100), none), 0, 0, 0, false) ∧
    gstep 5000 (some (0, 0, 10, 100), none) 100 1000 20 false = ((some (0, 1000, 20, 200), none), 0, 0, 0, false) ∧
    gstep 5000 (some (0, 1000, 20, 200), none) 100 20000 30 false = ((some (20000, 20000, 30, 100), some (0, 1000, 20, 200)), 0, 0, 0, false) ∧
    gstep 5000 (some (20000, 20000, 30, 100), some (0, 1000, 20, 200)) 100 40000 40 false = ((some (40000, 40000, 40, 100), some (20000, 20000, 30, 100)), 19000, 10, -100, true) := ⟨rfl, rfl, rfl, rfl⟩
theorem okSt_of {st : St} (h : (∀ g, st.1 = some g → okG 300 g) ∧ ∀ g, st.2 = some g → okG 300 g) : okSt 300 st := h
set_option maxHeartbeats 1000000 in
set_option maxRecDepth 10000 in
theorem wakes_any (w : World) : Calls Try.prog 11 #[] w fun e w' => e = .returned (.bool true) ∧ Below w.heap.size w w' := by
  go_enter Try.func11, Try.ntmps11
  go_wp2_with fail
  refine (new_any 5000 _ (by decide) (by decide)).mono ?_
  rintro e w1 ⟨rfl, h1⟩
  have H1 := Lib.hid h1; clear h1
  go_wp2_with fail
  refine (one_any 0 10 100 _).mono ?_
  rintro e w2 ⟨rfl, h2⟩
  have H2 := Lib.hid (H1.out.run h2); clear h2 H1
  go_wp2_with fail
  refine (add_any 300 _ _ 0 100 0 10 false false _ _ 5000 (none, none) H2.out ⟨nofun, nofun⟩ (by decide)).mono ?_
  rintro e w3 ⟨rfl, h3⟩
  rw [wake_steps.1] at h3 ⊢
  simp only [dval]
  have H3 := Lib.hid h3; clear h3 H2
  go_wp2_with fail
  refine (one_any 1000 20 100 _).mono ?_
  rintro e w4 ⟨rfl, h4⟩
  have H4 := Lib.hid (H3.out.run h4); clear h4 H3
  go_wp2_with fail
  refine (add_any 300 _ _ 0 100 1000 20 false false _ _ 5000 _ H4.out ⟨fun g hg => by cases hg; unfold okG; decide, nofun⟩ (by decide)).mono ?_
  rintro e w5 ⟨rfl, h5⟩
  rw [wake_steps.2.1] at h5 ⊢
  simp only [dval]
  have H5 := Lib.hid h5; clear h5 H4
  go_wp2_with fail
  refine (one_any 20000 30 100 _).mono ?_
  rintro e w6 ⟨rfl, h6⟩
  have H6 := Lib.hid (H5.out.run h6); clear h6 H5
  go_wp2_with fail
  refine (add_any 300 _ _ 0 100 20000 30 false false _ _ 5000 _ H6.out ⟨fun g hg => by cases hg; unfold okG; decide, nofun⟩ (by decide)).mono ?_
  rintro e w7 ⟨rfl, h7⟩
  rw [wake_steps.2.2.1] at h7 ⊢
  simp only [dval]
  have H7 := Lib.hid h7; clear h7 H6
  go_wp2_with fail
  refine (one_any 40000 40 100 _).mono ?_
  rintro e w8 ⟨rfl, h8⟩
  have H8 := Lib.hid (H7.out.run h8); clear h8 H7
  go_wp2_with fail
  refine (add_any 300 _ _ 0 100 40000 40 false false _ _ 5000 _ H8.out ⟨fun g hg => by cases hg; unfold okG; decide, fun g hg => by cases hg; unfold okG; decide⟩ (by decide)).mono ?_
  rintro e w9 ⟨rfl, h9⟩
  rw [wake_steps.2.2.2] at h9 ⊢
  simp only [dval]
  have H9 := Lib.hid h9; clear h9 H8
  go_wp2
  go_ret
  exact ⟨rfl, H9.out.2.2.1.alloc H9.out.2.1 _⟩
set_option maxHeartbeats 1000000 in
theorem GroupNone_any (c : Array Value) (z : (Int × Int × Int) × Int × Bool × Bool) (w : World) (h : rAck w c.toList z) : Calls Try.prog 6 #[.agg c] w fun e w' => e = .returned (.bool true) ∧ Below w.heap.size w w' := by
  rw [ack_of h]
  clear h
  generalize z.1.1 = a0, z.1.2.1 = a1, z.1.2.2 = a2, z.2.1 = a3, z.2.2.1 = a4, z.2.2.2 = a5
  unfold ack
  go_enter Try.func6, Try.ntmps6
  go_wp2_with fail
  refine (add_nil a0 a1 a2 a3 a4 a5 _).mono ?_
  rintro e w1 ⟨rfl, h1⟩
  simp only [noDelta]
  have H1 := Lib.hid h1; clear h1
  go_wp2_with fail
  refine (open_nil _).mono ?_
  rintro e w2 ⟨rfl, rfl⟩
  simp only [oval]
  go_wp2_with fail
  refine (mod_any 5 3 _ (by decide) (by decide)).mono ?_
  rintro e w2 ⟨rfl, rfl⟩
  go_wp2_with fail
  refine (wakes_any _).mono ?_
  rintro e w3 ⟨rfl, h3⟩
  have H3 := Lib.hid h3; clear h3
  go_wp2
  go_ret
  exact ⟨rfl, below_then ((below_then ((Below.refl _ _).alloc (Nat.le_refl _) _) (by simp) H1.out).alloc (by have := H1.out.size; simp at this; omega) _) (by have := H1.out.size; simp at this ⊢; omega) H3.out⟩
end Go.Proofs.Ytdpaknpiedoblaa.Group
