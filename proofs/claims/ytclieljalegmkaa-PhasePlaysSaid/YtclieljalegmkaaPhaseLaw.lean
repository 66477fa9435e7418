/- wakes, PhaseSums, PhaseTurns: what each comes to; no condition but what numbers there are. -/
import Derived.Test.YtclieljalegmkaaPhaseFn
import Derived.Test.YtclieljalegmkaaOpen
namespace Go.Proofs.Ytclieljalegmkaa.Phase
open Go.RowKit Go.Proofs.Ytclieljalegmkaa.Plain Go.Proofs.Ytclieljalegmkaa.Heap Go.Proofs.Ytclieljalegmkaa.Float Go.Proofs.Ytclieljalegmkaa.Open

theorem word_one : floatOfInt .f64 1 = 4607182418800017408 := by kernel_rfl
theorem word_two : floatOfInt .f64 2 = 4611686018427387904 := by kernel_rfl
theorem word_mtwo : floatOfInt .f64 (-2) = 13835058055282163712 := by kernel_rfl
theorem FI1 : FI 4607182418800017408 1 := by rw [← word_one]; exact FI.of_int 1 (by decide)
theorem FI2 : FI 4611686018427387904 2 := by rw [← word_two]; exact FI.of_int 2 (by decide)
theorem FIm2 : FI 13835058055282163712 (-2) := by rw [← word_mtwo]; exact FI.of_int (-2) (by decide)
theorem eq_word {x y : Nat} {m k : Int} (hx : FI x m) (hy : FI y k) (h : m = k) : (FloatKind.f64.format.order x y == some .eq) = true := by rw [hx.eq hy]; exact decide_eq_true h
theorem eq_pair {a b c d : Nat} (h1 : (FloatKind.f64.format.order a c == some .eq) = true) (h2 : (FloatKind.f64.format.order b d == some .eq) = true) (t : TypeId) (w : World) : (binOp .eql t (.complex .f64 a b) (.complex .f64 c d)).run Try.prog w = .ok (.bool true) w := by
  simp [binOp, Op.complexOp, Op.Complex.cmp, Op.floatCmp, asBool, h1, h2]
theorem to_word {x : Nat} {m : Int} (hx : FI x m) (hb : m.natAbs < 9223372036854775808) (w : World) : (convert 29 2 (.float .f64 x)).run Try.prog w = .ok (.int .i64 m) w :=
  run_convert_float_int w 29 2 .f64 .i64 x m (by rw [Try.underlying29]; rfl) Try.underlying2 (hx.toInt hb)
set_option maxHeartbeats 1000000 in
set_option maxRecDepth 10000 in
theorem wakes_any (w : World) : Calls Try.prog 12 #[] w fun e w' => e = .returned (.bool true) ∧ Below w.heap.size w w' := by
  go_enter Try.func12, Try.ntmps12
  go_wp2_with fail
  refine (sums_any 1 2 3 4 _).mono ?_
  rintro e w1 ⟨⟨x, y, rfl, f1, f2⟩, h1⟩
  rw [show hold 1 + hold 2 + hold 3 + hold 4 = 10 by decide, show hold 1 - hold 2 + hold 3 - hold 4 = -2 by decide]
  rw [show hold 1 - hold 3 = -2 by decide] at f1
  rw [show hold 2 - hold 4 = -2 by decide] at f2
  have e1 := eq_word f1 FIm2 rfl
  have e2 := eq_word f2 FIm2 rfl
  have H1 := Lib.hid h1
  clear h1 f1 f2
  go_wp2_with fail
  refine (turn_any _ _ 1 2 1 _ FI1 FI2 (by omega) (by omega)).mono ?_
  rintro e w2 ⟨⟨x1, y1, rfl, g1, g2⟩, q, rfl⟩
  have e3 := eq_word (show FI x1 (-2) from g1) FIm2 rfl
  have e4 := eq_word (show FI y1 1 from g2) FI1 rfl
  have hop := eq_pair e3 e4
  clear g1 g2
  go_wp2
  go_ret
  exact ⟨rfl, below_drewN H1.out _⟩
attribute [local go_sem high] run_mx run_mn in
set_option maxHeartbeats 400000 in
theorem ref_held (v : Int) (w : World) : Calls Try.prog 24 #[.int .i64 v] w fun e w' => e = .returned (.int .i64 (hold v)) ∧ w = w' := by
  have e : mx (-33554432) (mn v 33554432) = hold v := by unfold mx mn hold; split <;> split <;> (try split) <;> omega
  go_enter Try.func24, Try.ntmps24
  go_wp2
  go_ret
  exact ⟨rfl, rfl⟩
set_option maxRecDepth 10000 in
set_option maxHeartbeats 1000000 in
theorem ref_sums (a b c d : Int) (w : World) : Calls Try.prog 11 #[.int .i64 a, .int .i64 b, .int .i64 c, .int .i64 d] w fun e w' =>
    e = .returned (.agg #[.int .i64 (hold a + hold b + hold c + hold d), .int .i64 (hold a - hold c), .int .i64 (hold b - hold d), .int .i64 (hold a - hold b + hold c - hold d)]) ∧ Below w.heap.size w w' := by
  have ba := hold_bd a
  have bb := hold_bd b
  have bc := hold_bd c
  have bd := hold_bd d
  obtain ⟨A, hA⟩ : ∃ A, hold a = A := ⟨_, rfl⟩
  obtain ⟨B, hB⟩ : ∃ B, hold b = B := ⟨_, rfl⟩
  obtain ⟨C, hC⟩ : ∃ C, hold c = C := ⟨_, rfl⟩
  obtain ⟨D, hD⟩ : ∃ D, hold d = D := ⟨_, rfl⟩
  rw [hA] at ba
  rw [hB] at bb
  rw [hC] at bc
  rw [hD] at bd
  rw [hA, hB, hC, hD]
  have s0 : wrap64 A = A := w64 (by omega) (by omega)
  have s1 : wrap64 (A + B) = A + B := w64 (by omega) (by omega)
  have s2 : wrap64 (A + B + C) = A + B + C := w64 (by omega) (by omega)
  have s3 : wrap64 (A + B + C + D) = A + B + C + D := w64 (by omega) (by omega)
  have t1 : wrap64 (A - B) = A - B := w64 (by omega) (by omega)
  have t2 : wrap64 (A - B + C) = A - B + C := w64 (by omega) (by omega)
  have t3 : wrap64 (A - B + C - D) = A - B + C - D := w64 (by omega) (by omega)
  have u1 : wrap64 (A - C) = A - C := w64 (by omega) (by omega)
  have u2 : wrap64 (B - D) = B - D := w64 (by omega) (by omega)
  go_enter Try.func11, Try.ntmps11
  go_wp2_with (first | (go_at_call 24; refine (ref_held _ _).mono ?_; rintro e w1 ⟨rfl, rfl⟩))
  refine bodyPost_ret (v := .agg #[.int .i64 (A + B + C + D), .int .i64 (A - C), .int .i64 (B - D), .int .i64 (A - B + C - D)]) (by simp [results, Try.results11, go_sem]) rfl ⟨rfl, ?_⟩
  first | exact (Below.refl _ _).alloc (Nat.le_refl _) _ | exact below_drewN ((Below.refl _ _).alloc (Nat.le_refl _) _) _ | exact ((Below.refl _ _).alloc (Nat.le_refl _) _).alloc (by simp) _
theorem four_of {w : World} {cs : Array Value} {zs : List Int} (h : rAr 4 1 (rInt .i64) w cs.toList zs) : ∃ a b c d, cs = #[.int .i64 a, .int .i64 b, .int .i64 c, .int .i64 d] := by
  obtain ⟨h1, h2, h3⟩ := h
  have hs : cs.size = 4 := by simpa using h1
  have each : ∀ i, i < 4 → ∃ a, cs[i]? = some (.int .i64 a) := by
    intro i hi
    obtain ⟨x, hx⟩ : ∃ x, zs[i]? = some x := ⟨_, List.getElem?_eq_getElem (by omega)⟩
    obtain ⟨he, _⟩ := h3 i x hx
    refine ⟨x, ?_⟩
    have h0 : ((cs.toList.drop (i * 1)).take 1)[0]? = some (.int .i64 x) := by rw [he]; rfl
    rw [List.getElem?_take_of_lt (by omega), List.getElem?_drop] at h0
    simpa using h0
  obtain ⟨a, ha⟩ := each 0 (by omega)
  obtain ⟨b, hb⟩ := each 1 (by omega)
  obtain ⟨c, hc⟩ := each 2 (by omega)
  obtain ⟨d, hd⟩ := each 3 (by omega)
  refine ⟨a, b, c, d, ?_⟩
  apply Array.ext_getElem?
  intro i
  match i with
  | 0 => simpa using ha
  | 1 => simpa using hb
  | 2 => simpa using hc
  | 3 => simpa using hd
  | i + 4 => rw [Array.getElem?_eq_none (by omega)]; simp
set_option maxRecDepth 10000 in
set_option maxHeartbeats 1000000 in
theorem PhaseSums_any (cs : Array Value) (zs : List Int) (w : World) (h : rAr 4 1 (rInt .i64) w cs.toList zs) : Calls Try.prog 3 #[.agg cs] w fun e w' => e = .returned (.bool true) ∧ Below w.heap.size w w' := by
  obtain ⟨a, b, c, d, rfl⟩ := four_of h
  clear h
  have ba := hold_bd a
  have bb := hold_bd b
  have bc := hold_bd c
  have bd := hold_bd d
  go_enter Try.func3, Try.ntmps3
  go_wp2_with fail
  refine (sums_any a b c d _).mono ?_
  rintro e w1 ⟨⟨x, y, rfl, f1, f2⟩, h1⟩
  have hX := (h1.block w.heap.size (by simp)).trans (heap_alloc_new w _)
  have x0 : w1.cell? ⟨w.heap.size, 0, none⟩ = some (.int .i64 a) := by simp [World.cell?, hX]
  have x1 : w1.cell? ⟨w.heap.size, 1, none⟩ = some (.int .i64 b) := by simp [World.cell?, hX]
  have x2 : w1.cell? ⟨w.heap.size, 2, none⟩ = some (.int .i64 c) := by simp [World.cell?, hX]
  have x3 : w1.cell? ⟨w.heap.size, 3, none⟩ = some (.int .i64 d) := by simp [World.cell?, hX]
  have H1 := Lib.hid (below_then ((Below.refl _ _).alloc (Nat.le_refl _) _) (by simp) h1)
  have i1 := to_word f1 (by omega)
  have i2 := to_word f2 (by omega)
  obtain ⟨zx, ezx⟩ : ∃ z, floatOfInt .f64 (hold a - hold c) = z := ⟨_, rfl⟩
  obtain ⟨zy, ezy⟩ : ∃ z, floatOfInt .f64 (hold b - hold d) = z := ⟨_, rfl⟩
  have e1 := eq_word f1 (show FI zx (hold a - hold c) by rw [← ezx]; exact FI.of_int _ (by omega)) rfl
  have e2 := eq_word f2 (show FI zy (hold b - hold d) by rw [← ezy]; exact FI.of_int _ (by omega)) rfl
  clear h1 f1 f2 hX
  go_wp2_with fail
  refine (ref_sums a b c d _).mono ?_
  rintro e w2 ⟨rfl, h2⟩
  have H2 := Lib.hid h2
  clear h2
  go_wp2_with fail
  refine (wakes_any _).mono ?_
  rintro e w3 ⟨rfl, h3⟩
  have H3 := Lib.hid h3
  clear h3
  go_wp2
  go_ret
  have hs1 := H1.out.size
  have hs2 := H2.out.size
  exact ⟨rfl, below_then ((below_then H1.out hs1 H2.out).alloc (by omega) _) (by simp; omega) H3.out⟩
end Go.Proofs.Ytclieljalegmkaa.Phase
