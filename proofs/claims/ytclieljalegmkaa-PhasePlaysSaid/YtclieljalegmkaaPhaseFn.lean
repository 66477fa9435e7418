/- What phase's Turn and Sums come to; no condition but the ranges in each. -/
import Derived.Test.YtclieljalegmkaaProg
import Derived.Test.YtclieljalegmkaaPlain
import Derived.Test.YtclieljalegmkaaHeap
import Derived.Test.YtclieljalegmkaaSatFn
import Derived.Test.YtclieljalegmkaaFloat
import Derived.Lib.Hide
import Derived.Deep.RegionHeld3
namespace Go.Proofs.Ytclieljalegmkaa.Phase
open Go.RowKit Go.Proofs.Ytclieljalegmkaa.Plain Go.Proofs.Ytclieljalegmkaa.Heap Go.Proofs.Ytclieljalegmkaa.Float

/-- A pair turned k times. -/
def rot (m k : Int) : Nat → Int × Int
  | 0 => (m, k)
  | n + 1 => (-(rot m k n).2, (rot m k n).1)
theorem rot_bd (m k b : Int) (hm : -b ≤ m ∧ m ≤ b) (hk : -b ≤ k ∧ k ≤ b) (n : Nat) : -b ≤ (rot m k n).1 ∧ (rot m k n).1 ≤ b ∧ -b ≤ (rot m k n).2 ∧ (rot m k n).2 ≤ b := by
  induction n with
  | zero => exact ⟨hm.1, hm.2, hk.1, hk.2⟩
  | succ n ih => unfold rot; simp only; omega
theorem FI0 : FI 0 0 := FI.zero false
theorem and3 (n : Int) : Go.bits .and .i64 n 3 = n % 4 := and_mask n 2 (by omega)
/-- Sums of words that stand for whole numbers, as a walk wants them. -/
theorem add_word {x y : Nat} {m k : Int} (hx : FI x m) (hy : FI y k) (hb : (m + k).natAbs < 9007199254740992) : ∃ z, FI z (m + k) ∧ ∀ (t : TypeId) (w : World), (binOp .add t (.float .f64 x) (.float .f64 y)).run Try.prog w = .ok (.float .f64 z) w := by
  obtain ⟨z, h1, h2⟩ := hx.add hy hb
  exact ⟨z, h2, fun t w => run_float_arith w .add t .f64 x y z h1⟩
theorem add_pair {a b c d : Nat} {m k m' k' : Int} (ha : FI a m) (hb : FI b k) (hc : FI c m') (hd : FI d k') (h1 : (m + m').natAbs < 9007199254740992) (h2 : (k + k').natAbs < 9007199254740992) :
    ∃ x y, FI x (m + m') ∧ FI y (k + k') ∧ ∀ (t : TypeId) (w : World), (binOp .add t (.complex .f64 a b) (.complex .f64 c d)).run Try.prog w = .ok (.complex .f64 x y) w := by
  obtain ⟨x, e1, f1⟩ := ha.add hc h1
  obtain ⟨y, e2, f2⟩ := hb.add hd h2
  exact ⟨x, y, f1, f2, fun t w => run_complex_sum w .add (.inl rfl) t .f64 a b c d x y (by simp [cSumBits, e1, e2])⟩
theorem run_neg {P : Program} (w : World) (k : FloatKind) (b : Nat) : (Op.unary .neg (.float k b)).run P w = .ok (.float k (Op.negFloat k b)) w := by simp [Op.unary]
attribute [local go_sem high] run_neg in
set_option maxHeartbeats 1000000 in
theorem turn_any (x y : Nat) (m k n : Int) (w : World) (hx : FI x m) (hy : FI y k) (hm : -1125899906842624 ≤ m ∧ m ≤ 1125899906842624) (hk : -1125899906842624 ≤ k ∧ k ≤ 1125899906842624) :
    Calls Try.prog 13 #[.complex .f64 x y, .int .i64 n] w fun e w' => (∃ x' y', e = .returned (.complex .f64 x' y') ∧ FI x' (rot m k (n % 4).toNat).1 ∧ FI y' (rot m k (n % 4).toNat).2) ∧ ∃ q, w' = w.drewN q := by
  have h3 := and3 n
  have n0 := Int.emod_nonneg n (show (4 : Int) ≠ 0 by omega)
  have n1 := Int.emod_lt_of_pos n (show (0 : Int) < 4 by omega)
  generalize n % 4 = r at *
  go_enter Try.func13, Try.ntmps13
  go_wp2
  have HX := Lib.hid hx
  have HY := Lib.hid hy
  have HM := Lib.hid hm
  have HK := Lib.hid hk
  clear hx hy hm hk
  go_loopw [5, 6, 13] (fun a b i wr => ∃ (j x' y' : Nat), (j : Int) ≤ r ∧ i = .int .i64 j ∧ a = .float .f64 x' ∧ b = .float .f64 y' ∧ FI x' (rot m k j).1 ∧ FI y' (rot m k j).2 ∧ ∃ q, wr = w.drewN q) (fun _ _ i _ => 4 - (intOf i).toNat)
  case atStart => exact ⟨0, x, y, by omega, rfl, rfl, rfl, HX.out, HY.out, 0, rfl⟩
  case round =>
    obtain ⟨j, x', y', hj, rfl, rfl, rfl, hx', hy', q, rfl⟩ := hrel
    by_cases hlt : (j : Int) < r
    · have F1 := Lib.hid hx'
      have F2 := Lib.hid hy'.neg
      clear hx' hy'
      go_wp2
      go_roundw
      case rel => exact ⟨j + 1, _, _, by omega, by go_num, rfl, rfl, F2.out, F1.out, _, rfl⟩
      case measure => simp [intOf]; omega
    · have hjr : j = r.toNat := by omega
      have hb := rot_bd m k 1125899906842624 HM.out HK.out j
      obtain ⟨z1, f1, g1⟩ := add_word hx' FI0 (by omega)
      obtain ⟨z2, f2, g2⟩ := add_word hy' FI0 (by omega)
      rw [Int.add_zero, hjr] at f1 f2
      have F1 := Lib.hid f1
      have F2 := Lib.hid f2
      clear hx' hy' f1 f2 hb
      go_wp2
      refine bodyPost_ret (v := .complex .f64 z1 z2) (by simp [results, Try.results13, go_sem]) rfl ⟨⟨z1, z2, rfl, F1.out, F2.out⟩, _, rfl⟩
/-- A sample, held. -/
def hold (a : Int) : Int := if a < -33554432 then -33554432 else if a > 33554432 then 33554432 else a
theorem hold_bd (a : Int) : -33554432 ≤ hold a ∧ hold a ≤ 33554432 := by unfold hold; split <;> (try split) <;> omega
set_option maxHeartbeats 400000 in
theorem held_any (v : Int) (w : World) : Calls Try.prog 23 #[.int .i64 v] w fun e w' => e = .returned (.int .i64 (hold v)) ∧ w = w' := by
  go_enter Try.func23, Try.ntmps23
  go_wp2_with fail
  refine (Sat.clamp_any _ _ _ _).mono ?_
  rintro e w1 ⟨rfl, rfl⟩
  rw [show (if v < -33554432 then -33554432 else if v > 33554432 then 33554432 else v) = hold v from rfl]
  go_wp2
  go_ret
  exact ⟨rfl, rfl⟩
/-- What is turned and summed up, of the first n samples. -/
def reS (a b c d : Int) : Nat → Int × Int
  | 0 => (0, 0)
  | 1 => (a, 0)
  | 2 => (a, b)
  | 3 => (a - c, b)
  | _ => (a - c, b - d)
set_option maxRecDepth 10000 in
set_option maxHeartbeats 1000000 in
theorem sums_any (a b c d : Int) (w : World) : Calls Try.prog 10 #[.int .i64 a, .int .i64 b, .int .i64 c, .int .i64 d] w fun e w' =>
    (∃ x y, e = .returned (.tuple #[.int .i64 (hold a + hold b + hold c + hold d), .complex .f64 x y, .int .i64 (hold a - hold b + hold c - hold d)]) ∧ FI x (hold a - hold c) ∧ FI y (hold b - hold d)) ∧ Below w.heap.size w w' := by
  have ba := hold_bd a
  have bb := hold_bd b
  have bc := hold_bd c
  have bd := hold_bd d
  obtain ⟨A, hA⟩ : ∃ A, hold a = A := ⟨_, rfl⟩
  obtain ⟨B, hB⟩ : ∃ B, hold b = B := ⟨_, rfl⟩
  obtain ⟨C, hC⟩ : ∃ C, hold c = C := ⟨_, rfl⟩
  obtain ⟨D, hD⟩ : ∃ D, hold d = D := ⟨_, rfl⟩
  rw [hA] at ba
  rw [hB] at bb
  rw [hC] at bc
  rw [hD] at bd
  rw [hA, hB, hC, hD]
  have s0 : wrap64 A = A := w64 (by omega) (by omega)
  have s1 : wrap64 (A + B) = A + B := w64 (by omega) (by omega)
  have s2 : wrap64 (A + B + C) = A + B + C := w64 (by omega) (by omega)
  have s3 : wrap64 (A + B + C + D) = A + B + C + D := w64 (by omega) (by omega)
  have t1 : wrap64 (A - B) = A - B := w64 (by omega) (by omega)
  have t2 : wrap64 (A - B + C) = A - B + C := w64 (by omega) (by omega)
  have t3 : wrap64 (A - B + C - D) = A - B + C - D := w64 (by omega) (by omega)
  go_enter Try.func10, Try.ntmps10
  go_wp2_with (first | (go_at_call 23; refine (held_any _ _).mono ?_; rintro e w1 ⟨rfl, rfl⟩))
  generalize hW : w.alloc _ = W0
  have hb := heap_alloc_new w (.cells #[.int .i64 A, .int .i64 B, .int .i64 C, .int .i64 D] 2)
  rw [hW] at hb
  have hK : Below w.heap.size w W0 := by rw [← hW]; exact (Below.refl _ _).alloc (Nat.le_refl _) _
  have x0 : W0.cell? ⟨w.heap.size, 0, none⟩ = some (.int .i64 A) := by simp [World.cell?, hb]
  have x1 : W0.cell? ⟨w.heap.size, 1, none⟩ = some (.int .i64 B) := by simp [World.cell?, hb]
  have x2 : W0.cell? ⟨w.heap.size, 2, none⟩ = some (.int .i64 C) := by simp [World.cell?, hb]
  have x3 : W0.cell? ⟨w.heap.size, 3, none⟩ = some (.int .i64 D) := by simp [World.cell?, hb]
  have HK := Lib.hid hK
  clear hW hb hK
  go_loopw [8, 9, 10, 23] (fun ws tu fa iv wr => ∃ (j x y : Nat), j ≤ 4 ∧ iv = .int .i64 j ∧ ws = .int .i64 ((if 0 < j then A else 0) + (if 1 < j then B else 0) + (if 2 < j then C else 0) + (if 3 < j then D else 0)) ∧ tu = .complex .f64 x y ∧ FI x (reS A B C D j).1 ∧ FI y (reS A B C D j).2 ∧
    fa = .int .i64 ((if 0 < j then A else 0) - (if 1 < j then B else 0) + (if 2 < j then C else 0) - (if 3 < j then D else 0)) ∧ ∃ q, wr = W0.drewN q) (fun _ _ _ iv _ => 4 - (intOf iv).toNat)
  case atStart => exact ⟨0, 0, 0, by omega, rfl, rfl, rfl, FI0, FI0, rfl, 0, rfl⟩
  case round =>
    obtain ⟨j, x, y, hj, rfl, rfl, rfl, hx, hy, rfl, q, rfl⟩ := hrel
    rcases (by omega : j = 0 ∨ j = 1 ∨ j = 2 ∨ j = 3 ∨ j = 4) with rfl | rfl | rfl | rfl | rfl
    · obtain ⟨z, eF⟩ : ∃ z, floatOfInt .f64 A = z := ⟨_, rfl⟩
      have F := Lib.hid (show FI z A by rw [← eF]; exact FI.of_int A (by omega))
      have HX := Lib.hid (show FI x (0) from hx)
      have HY := Lib.hid (show FI y (0) from hy)
      clear hx hy
      go_wp2_with fail
      refine (turn_any z 0 A 0 0 _ F.out FI0 (by omega) (by omega)).mono ?_
      rintro e w2 ⟨⟨x1, y1, rfl, f1, f2⟩, q2, rfl⟩
      have G1 : FI x1 (A) := by
        have e : (rot A 0 (((0 : Int) % 4).toNat)).1 = A := by
          rw [show (((0 : Int) % 4).toNat) = 0 by decide]
          simp [rot]
        rw [← e]; exact f1
      have G2 : FI y1 (0) := by
        have e : (rot A 0 (((0 : Int) % 4).toNat)).2 = 0 := by
          rw [show (((0 : Int) % 4).toNat) = 0 by decide]
          simp [rot]
        rw [← e]; exact f2
      obtain ⟨x2, y2, g1, g2, hop⟩ := add_pair HX.out HY.out G1 G2 (by omega) (by omega)
      have K1 := Lib.hid (show FI x2 (reS A B C D 1).1 by
        have e : (reS A B C D 1).1 = 0 + (A) := by simp [reS]
        rw [e]; exact g1)
      have K2 := Lib.hid (show FI y2 (reS A B C D 1).2 by
        have e : (reS A B C D 1).2 = 0 + (0) := by simp [reS]
        rw [e]; exact g2)
      clear f1 f2 G1 G2 g1 g2
      go_wp2
      go_roundw
      case rel => exact ⟨1, x2, y2, by omega, by go_num, by simp, rfl, K1.out, K2.out, by simp, _, rfl⟩
      case measure => simp [intOf]
    · obtain ⟨z, eF⟩ : ∃ z, floatOfInt .f64 B = z := ⟨_, rfl⟩
      have F := Lib.hid (show FI z B by rw [← eF]; exact FI.of_int B (by omega))
      have HX := Lib.hid (show FI x (A) from hx)
      have HY := Lib.hid (show FI y (0) from hy)
      clear hx hy
      go_wp2_with fail
      refine (turn_any z 0 B 0 1 _ F.out FI0 (by omega) (by omega)).mono ?_
      rintro e w2 ⟨⟨x1, y1, rfl, f1, f2⟩, q2, rfl⟩
      have G1 : FI x1 (0) := by
        have e : (rot B 0 (((1 : Int) % 4).toNat)).1 = 0 := by
          rw [show (((1 : Int) % 4).toNat) = 1 by decide]
          simp [rot]
        rw [← e]; exact f1
      have G2 : FI y1 (B) := by
        have e : (rot B 0 (((1 : Int) % 4).toNat)).2 = B := by
          rw [show (((1 : Int) % 4).toNat) = 1 by decide]
          simp [rot]
        rw [← e]; exact f2
      obtain ⟨x2, y2, g1, g2, hop⟩ := add_pair HX.out HY.out G1 G2 (by omega) (by omega)
      have K1 := Lib.hid (show FI x2 (reS A B C D 2).1 by
        have e : (reS A B C D 2).1 = A + (0) := by simp [reS]
        rw [e]; exact g1)
      have K2 := Lib.hid (show FI y2 (reS A B C D 2).2 by
        have e : (reS A B C D 2).2 = 0 + (B) := by simp [reS]
        rw [e]; exact g2)
      clear f1 f2 G1 G2 g1 g2
      go_wp2
      go_roundw
      case rel => exact ⟨2, x2, y2, by omega, by go_num, by simp, rfl, K1.out, K2.out, by simp, _, rfl⟩
      case measure => simp [intOf]
    · obtain ⟨z, eF⟩ : ∃ z, floatOfInt .f64 C = z := ⟨_, rfl⟩
      have F := Lib.hid (show FI z C by rw [← eF]; exact FI.of_int C (by omega))
      have HX := Lib.hid (show FI x (A) from hx)
      have HY := Lib.hid (show FI y (B) from hy)
      clear hx hy
      go_wp2_with fail
      refine (turn_any z 0 C 0 2 _ F.out FI0 (by omega) (by omega)).mono ?_
      rintro e w2 ⟨⟨x1, y1, rfl, f1, f2⟩, q2, rfl⟩
      have G1 : FI x1 (-C) := by
        have e : (rot C 0 (((2 : Int) % 4).toNat)).1 = -C := by
          rw [show (((2 : Int) % 4).toNat) = 2 by decide]
          simp [rot]
        rw [← e]; exact f1
      have G2 : FI y1 (0) := by
        have e : (rot C 0 (((2 : Int) % 4).toNat)).2 = 0 := by
          rw [show (((2 : Int) % 4).toNat) = 2 by decide]
          simp [rot]
        rw [← e]; exact f2
      obtain ⟨x2, y2, g1, g2, hop⟩ := add_pair HX.out HY.out G1 G2 (by omega) (by omega)
      have K1 := Lib.hid (show FI x2 (reS A B C D 3).1 by
        have e : (reS A B C D 3).1 = A + (-C) := by simp [reS]; omega
        rw [e]; exact g1)
      have K2 := Lib.hid (show FI y2 (reS A B C D 3).2 by
        have e : (reS A B C D 3).2 = B + (0) := by simp [reS]
        rw [e]; exact g2)
      clear f1 f2 G1 G2 g1 g2
      go_wp2
      go_roundw
      case rel => exact ⟨3, x2, y2, by omega, by go_num, by simp, rfl, K1.out, K2.out, by simp, _, rfl⟩
      case measure => simp [intOf]
    · obtain ⟨z, eF⟩ : ∃ z, floatOfInt .f64 D = z := ⟨_, rfl⟩
      have F := Lib.hid (show FI z D by rw [← eF]; exact FI.of_int D (by omega))
      have HX := Lib.hid (show FI x (A - C) from hx)
      have HY := Lib.hid (show FI y (B) from hy)
      clear hx hy
      go_wp2_with fail
      refine (turn_any z 0 D 0 3 _ F.out FI0 (by omega) (by omega)).mono ?_
      rintro e w2 ⟨⟨x1, y1, rfl, f1, f2⟩, q2, rfl⟩
      have G1 : FI x1 (0) := by
        have e : (rot D 0 (((3 : Int) % 4).toNat)).1 = 0 := by
          rw [show (((3 : Int) % 4).toNat) = 3 by decide]
          simp [rot]
        rw [← e]; exact f1
      have G2 : FI y1 (-D) := by
        have e : (rot D 0 (((3 : Int) % 4).toNat)).2 = -D := by
          rw [show (((3 : Int) % 4).toNat) = 3 by decide]
          simp [rot]
        rw [← e]; exact f2
      obtain ⟨x2, y2, g1, g2, hop⟩ := add_pair HX.out HY.out G1 G2 (by omega) (by omega)
      have K1 := Lib.hid (show FI x2 (reS A B C D 4).1 by
        have e : (reS A B C D 4).1 = A - C + (0) := by simp [reS]
        rw [e]; exact g1)
      have K2 := Lib.hid (show FI y2 (reS A B C D 4).2 by
        have e : (reS A B C D 4).2 = B + (-D) := by simp [reS]; omega
        rw [e]; exact g2)
      clear f1 f2 G1 G2 g1 g2
      go_wp2
      go_roundw
      case rel => exact ⟨4, x2, y2, by omega, by go_num, by simp, rfl, K1.out, K2.out, by simp, _, rfl⟩
      case measure => simp [intOf]
    · go_wp2
      refine bodyPost_ret (v := .tuple #[.int .i64 (A + B + C + D), .complex .f64 x y, .int .i64 (A - B + C - D)]) (by simp [results, Try.results10, go_sem]) rfl ⟨⟨x, y, rfl, hx, hy⟩, below_drewN HK.out _⟩
end Go.Proofs.Ytclieljalegmkaa.Phase
