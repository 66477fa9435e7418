/- Whole numbers in float64: below 2^53 they are held, added and turned round exactly; a zero may have a sign. -/
import Derived.Laws.FloatArith
import Derived.Laws.ComplexArith
namespace Go.Proofs.Ytclieljalegmkaa.Float
open Ieee

/-- A word that stands for a whole number. -/
def FI (x : Nat) (m : Int) : Prop := x < 18446744073709551616 ∧ ∃ s M e, double.read x = .number s M (-(e : Nat)) ∧ e ≤ 1074 ∧ M = m.natAbs * 2 ^ e ∧ (m ≠ 0 → s = decide (m < 0))
theorem cut_exact (way : Toward) (hw : way = .even ∨ way = .zero) (s : Bool) (a d : Nat) : way.cut s (a * 2 ^ d) d = a := by
  rcases Nat.eq_zero_or_pos a with rfl | ha
  · unfold Toward.cut
    have hg : (1 <<< min d ((0 * 2 ^ d).log2 + 2)) ≠ 0 := by rw [Nat.one_shiftLeft]; exact Nat.ne_of_gt (Nat.two_pow_pos _)
    rcases hw with rfl | rfl
    · simp at hg ⊢
    · simp
  · have hl : d ≤ (a * 2 ^ d).log2 := by
      rw [Nat.le_log2 (by have := Nat.two_pow_pos d; exact Nat.ne_of_gt (Nat.mul_pos ha this))]
      exact Nat.le_mul_of_pos_left _ ha
    have hm : min d ((a * 2 ^ d).log2 + 2) = d := by omega
    unfold Toward.cut
    rw [hm, Nat.one_shiftLeft]
    have h1 : a * 2 ^ d / 2 ^ d = a := Nat.mul_div_cancel _ (Nat.two_pow_pos d)
    have h2 : a * 2 ^ d % 2 ^ d = 0 := Nat.mul_mod_left _ _
    have hp := Nat.two_pow_pos d
    rcases hw with rfl | rfl
    · simp only [h1, h2]
      have : ((2 ^ d == 0) : Bool) = false := by simp
      simp [this]
    · simp only [h1]
      rfl
theorem double_read_word (s : Bool) (rung : Nat) (h : rung < 9223372036854775808) : double.word s rung < 18446744073709551616 ∧ double.read (double.word s rung) =
    if rung < 4503599627370496 then .number s rung (-1074) else if rung < 9218868437227405312 then .number s (4503599627370496 + rung % 4503599627370496) (-1074 + (rung / 4503599627370496 - 1 : Nat)) else if rung = 9218868437227405312 then .infinity s else .nan s (rung - 9218868437227405312) := by
  have e1 : double.signWeight = 9223372036854775808 := rfl
  have e2 : double.binade = 4503599627370496 := rfl
  have e3 : double.infRung = 9218868437227405312 := by decide
  have e4 : double.leastPlace = -1074 := by decide
  have a1 : (double.word s rung / 9223372036854775808 % 2 == 1) = s := by
    unfold Format.word
    rw [e1]
    cases s
    · have : rung / 9223372036854775808 % 2 = 0 := by omega
      simp [this]
    · have : (9223372036854775808 + rung) / 9223372036854775808 % 2 = 1 := by omega
      rw [if_pos rfl, this]; rfl
  have a2 : double.word s rung % 9223372036854775808 = rung := by
    unfold Format.word
    rw [e1]
    cases s
    · simp; omega
    · simp; omega
  refine ⟨?_, ?_⟩
  · unfold Format.word
    rw [e1]
    split <;> omega
  · unfold Format.read
    simp only [e1, e2, e3, e4, a1, a2]
theorem zmul (e : Nat) : 0 = (0 : Int).natAbs * 2 ^ e := by rw [Int.natAbs_zero, Nat.zero_mul]
theorem FI.zero (s : Bool) : FI (double.word s 0) 0 := by
  obtain ⟨h1, h2⟩ := double_read_word s 0 (by decide)
  obtain ⟨e, he⟩ : ∃ e : Nat, e = 1074 := ⟨_, rfl⟩
  exact ⟨h1, s, 0, e, h2.trans (by rw [he]; rfl), by omega, zmul e, fun h => absurd rfl h⟩
/-- What is written of a whole number stands for it. -/
theorem FI.write (s : Bool) (m : Int) (e : Nat) (hm : m.natAbs < 9007199254740992) (hs : m ≠ 0 → s = decide (m < 0)) : FI (double.write (.number s (m.natAbs * 2 ^ e) (-(e : Nat)))) m := by
  rcases Nat.eq_zero_or_pos m.natAbs with h0 | hp
  · have : m = 0 := by omega
    subst this
    have : double.write (.number s (Int.natAbs 0 * 2 ^ e) (-(e : Nat))) = double.word s 0 := by
      simp [Format.write, Format.nearest]
    rw [this]
    exact FI.zero s
  · generalize ha : m.natAbs = a at hm hp ⊢
    have hp2 := Nat.two_pow_pos e
    have hne : a * 2 ^ e ≠ 0 := Nat.ne_of_gt (Nat.mul_pos hp hp2)
    have hl : (a * 2 ^ e).log2 = a.log2 + e := by
      rw [Nat.log2_eq_iff hne]
      obtain ⟨h1, h2⟩ := (Nat.log2_eq_iff (Nat.ne_of_gt hp)).1 rfl
      constructor
      · rw [Nat.pow_add]; exact Nat.mul_le_mul_right _ h1
      · rw [show a.log2 + e + 1 = (a.log2 + 1) + e by omega, Nat.pow_add]; exact Nat.mul_lt_mul_of_pos_right h2 hp2
    obtain ⟨l1, l2⟩ := (Nat.log2_eq_iff (Nat.ne_of_gt hp)).1 rfl
    generalize a.log2 = L at hl l1 l2
    have hL : L ≤ 52 := by
      rcases Nat.lt_or_ge 52 L with h | h
      · have h9 : 2 ^ 53 ≤ 2 ^ L := Nat.pow_le_pow_right (by omega) h
        have e53 : 2 ^ 53 = 9007199254740992 := by decide
        omega
      · exact h
    have e2 : double.binade = 4503599627370496 := rfl
    have e3 : double.infRung = 9218868437227405312 := by decide
    have e4 : double.leastPlace = -1074 := by decide
    have e5 : double.fractionBits = 52 := rfl
    have hlast : max (-(e : Int) + ((a * 2 ^ e).log2 : Nat) - (double.fractionBits : Nat)) double.leastPlace = (L : Int) - 52 := by
      rw [hl, e4, e5]
      omega
    have hk : Toward.even.cut s ((a * 2 ^ e) <<< (-(e : Int) - ((L : Int) - 52)).toNat) (((L : Int) - 52) - -(e : Int)).toNat = a * 2 ^ (52 - L) := by
      rcases Nat.le_total e (52 - L) with h | h
      · have d0 : (((L : Int) - 52) - -(e : Int)).toNat = 0 := by omega
        have d1 : (-(e : Int) - ((L : Int) - 52)).toNat = 52 - L - e := by omega
        rw [d0, d1, Nat.shiftLeft_eq, Nat.mul_assoc, ← Nat.pow_add, show e + (52 - L - e) = 52 - L by omega]
        have := cut_exact .even (.inl rfl) s (a * 2 ^ (52 - L)) 0
        simpa using this
      · have d0 : (((L : Int) - 52) - -(e : Int)).toNat = e - (52 - L) := by omega
        have d1 : (-(e : Int) - ((L : Int) - 52)).toNat = 0 := by omega
        rw [d0, d1, Nat.shiftLeft_zero]
        have h5 : a * 2 ^ e = a * 2 ^ (52 - L) * 2 ^ (e - (52 - L)) := by rw [Nat.mul_assoc, ← Nat.pow_add, show 52 - L + (e - (52 - L)) = e by omega]
        rw [h5]
        exact cut_exact .even (.inl rfl) s _ _
    have k1 : 4503599627370496 ≤ a * 2 ^ (52 - L) := by
      have : 2 ^ L * 2 ^ (52 - L) ≤ a * 2 ^ (52 - L) := Nat.mul_le_mul_right _ l1
      rwa [← Nat.pow_add, show L + (52 - L) = 52 by omega] at this
    have k2 : a * 2 ^ (52 - L) < 9007199254740992 := by
      have : a * 2 ^ (52 - L) < 2 ^ (L + 1) * 2 ^ (52 - L) := Nat.mul_lt_mul_of_pos_right l2 (Nat.two_pow_pos _)
      rwa [← Nat.pow_add, show L + 1 + (52 - L) = 53 by omega] at this
    generalize hK : a * 2 ^ (52 - L) = K at hk k1 k2
    have hn : ((L : Int) - 52 - -1074).toNat = L + 1022 := by omega
    have hlt : (L + 1022) * 4503599627370496 + K ≤ 9218868437227405312 := by clear hk hn hlast hl hne hs ha l1 l2 e2 e3 e4 e5 hp2; omega
    have hw : double.write (.number s (a * 2 ^ e) (-(e : Nat))) = double.word s ((L + 1022) * 4503599627370496 + K) := by
      show double.nearest s (a * 2 ^ e) (-(e : Int)) = _
      unfold Format.nearest
      rw [if_neg hne]
      simp only [hlast]
      rw [hk, e2, e3, e4, hn, Nat.min_eq_left hlt]
    rw [hw]
    clear hk hw hlast hn hl
    obtain ⟨r1, r2⟩ := double_read_word s ((L + 1022) * 4503599627370496 + K) (by omega)
    refine ⟨r1, s, K, 52 - L, ?_, by omega, by rw [ha, hK], hs⟩
    have q1 : 4503599627370496 + ((L + 1022) * 4503599627370496 + K) % 4503599627370496 = K := by clear r1 r2 hK; omega
    have q2 : (-1074 + ((((L + 1022) * 4503599627370496 + K) / 4503599627370496 - 1 : Nat) : Int)) = -((52 - L : Nat) : Int) := by clear r1 r2 hK q1; omega
    rw [r2, if_neg (by clear r1 r2 hK; omega), if_pos (by clear r1 r2 hK; omega), q1, q2]
theorem signed_whole (s : Bool) (m : Int) (e u : Nat) (hs : m ≠ 0 → s = decide (m < 0)) : signed s (m.natAbs * 2 ^ e) u = m * (2 ^ (e + u) : Nat) := by
  unfold signed
  rw [Nat.shiftLeft_eq, Nat.mul_assoc, ← Nat.pow_add]
  rcases Int.lt_trichotomy m 0 with h | h | h
  · have := hs (by omega)
    rw [this, decide_eq_true h]
    simp only [if_true]
    rw [Int.natCast_mul, Int.ofNat_natAbs_of_nonpos (by omega), Int.neg_mul, Int.neg_neg]
  · subst h
    simp
  · have := hs (by omega)
    rw [this, decide_eq_false (by omega)]
    simp only [Bool.false_eq_true, if_false]
    rw [Int.natCast_mul, Int.natAbs_of_nonneg (by omega)]
theorem FI.of_int (m : Int) (hm : m.natAbs < 9007199254740992) : FI (floatOfInt .f64 m) m := by
  have := FI.write (decide (m < 0)) m 0 hm (fun _ => rfl)
  simpa [floatOfInt, FloatKind.nearest, FloatKind.encode, FloatKind.format] using this
theorem FI.add {x y : Nat} {m k : Int} (hx : FI x m) (hy : FI y k) (hb : (m + k).natAbs < 9007199254740992) : ∃ z, floatBits .add .f64 x y = some z ∧ FI z (m + k) := by
  obtain ⟨_, s, M, i, h1, h2, h3, h4⟩ := hx
  obtain ⟨_, t, N, j, k1, k2, k3, k4⟩ := hy
  refine ⟨_, (show floatBits .add .f64 x y = ((double.read x).sum (double.read y)).map double.write from rfl).trans (by rw [h1, k1]; rfl), ?_⟩
  have hbase : min (-(i : Int)) (-(j : Int)) = -((max i j : Nat) : Int) := by omega
  have d1 : (-(i : Int) - -((max i j : Nat) : Int)).toNat = max i j - i := by omega
  have d2 : (-(j : Int) - -((max i j : Nat) : Int)).toNat = max i j - j := by omega
  have htot : signed s M (-(i : Int) - min (-(i : Int)) (-(j : Int))).toNat + signed t N (-(j : Int) - min (-(i : Int)) (-(j : Int))).toNat = (m + k) * (2 ^ (max i j) : Nat) := by
    rw [hbase, d1, d2, h3, k3, signed_whole s m i _ h4, signed_whole t k j _ k4, show i + (max i j - i) = max i j by omega, show j + (max i j - j) = max i j by omega, Int.add_mul]
  have hp : (0 : Int) < ((2 ^ (max i j) : Nat) : Int) := Int.ofNat_lt.2 (Nat.two_pow_pos _)
  have habs : ((m + k) * ((2 ^ (max i j) : Nat) : Int)).natAbs = (m + k).natAbs * 2 ^ (max i j) := by rw [Int.natAbs_mul, Int.natAbs_natCast]
  simp only [htot]
  rw [habs, hbase]
  refine FI.write _ (m + k) (max i j) hb (fun hne => ?_)
  rw [if_neg (by
    intro h0
    rcases Int.mul_eq_zero.1 h0 with h | h
    · exact hne h
    · omega)]
  by_cases h : m + k < 0
  · rw [decide_eq_true h, decide_eq_true (Int.mul_neg_of_neg_of_pos h hp)]
  · rw [decide_eq_false h, decide_eq_false (by
      have := Int.mul_nonneg (show 0 ≤ m + k by omega) (show (0 : Int) ≤ ((2 ^ (max i j) : Nat) : Int) by omega)
      omega)]
theorem xor_top (x : Nat) (h : x < 18446744073709551616) : x ^^^ 9223372036854775808 = if x < 9223372036854775808 then x + 9223372036854775808 else x - 9223372036854775808 := by
  have e63 : (9223372036854775808 : Nat) = 2 ^ 63 := by decide
  have low : ∀ y, y < 9223372036854775808 → y ^^^ 9223372036854775808 = y + 9223372036854775808 := by
    intro y hy
    rw [e63] at hy ⊢
    have h1 : 2 ^ 63 ||| y = 2 ^ 63 + y := by
      have := Nat.two_pow_add_eq_or_of_lt hy 1
      rw [Nat.mul_one] at this
      exact this.symm
    rw [Nat.add_comm, ← h1]
    apply Nat.eq_of_testBit_eq
    intro i
    rw [Nat.testBit_xor, Nat.testBit_or, Nat.testBit_two_pow]
    by_cases hi : 63 = i
    · subst hi
      rw [Nat.testBit_lt_two_pow hy]
      simp
    · simp [hi]
  split
  · rename_i h1
    exact low x h1
  · rename_i h1
    have h2 := low (x - 9223372036854775808) (by omega)
    have h3 : x = (x - 9223372036854775808) ^^^ 9223372036854775808 := by rw [h2]; omega
    conv => lhs; rw [h3]
    rw [Nat.xor_assoc, Nat.xor_self, Nat.xor_zero]
theorem read_top (x : Nat) (h : x < 18446744073709551616) : double.read (x ^^^ 9223372036854775808) = (double.read x).opposite := by
  have e1 : double.signWeight = 9223372036854775808 := rfl
  rw [xor_top x h]
  unfold Format.read
  rw [e1]
  have hr : (if x < 9223372036854775808 then x + 9223372036854775808 else x - 9223372036854775808) % 9223372036854775808 = x % 9223372036854775808 := by split <;> omega
  have hn : ((if x < 9223372036854775808 then x + 9223372036854775808 else x - 9223372036854775808) / 9223372036854775808 % 2 == 1) = !(x / 9223372036854775808 % 2 == 1) := by
    split
    · have a : (x + 9223372036854775808) / 9223372036854775808 % 2 = 1 := by omega
      have b : x / 9223372036854775808 % 2 = 0 := by omega
      rw [a, b]; rfl
    · have a : (x - 9223372036854775808) / 9223372036854775808 % 2 = 0 := by omega
      have b : x / 9223372036854775808 % 2 = 1 := by omega
      rw [a, b]; rfl
  simp only [hr, hn]
  split
  · rfl
  · split
    · rfl
    · split <;> rfl
theorem FI.neg {x : Nat} {m : Int} (hx : FI x m) : FI (Op.negFloat .f64 x) (-m) := by
  obtain ⟨h0, s, M, i, h1, h2, h3, h4⟩ := hx
  have e : Op.negFloat .f64 x = x ^^^ 9223372036854775808 := rfl
  rw [e]
  refine ⟨by rw [xor_top x h0]; split <;> omega, !s, M, i, by rw [read_top x h0, h1]; rfl, h2, by rw [Int.natAbs_neg]; exact h3, fun hne => ?_⟩
  rw [h4 (by omega)]
  by_cases h : m < 0
  · rw [decide_eq_true h, decide_eq_false (by omega)]; rfl
  · rw [decide_eq_false h, decide_eq_true (by omega)]; rfl
theorem FI.eq {x y : Nat} {m k : Int} (hx : FI x m) (hy : FI y k) : (FloatKind.f64.format.order x y == some .eq) = decide (m = k) := by
  obtain ⟨_, s, M, i, h1, h2, h3, h4⟩ := hx
  obtain ⟨_, t, N, j, k1, k2, k3, k4⟩ := hy
  have hbase : min (-(i : Int)) (-(j : Int)) = -((max i j : Nat) : Int) := by omega
  have d1 : (-(i : Int) - -((max i j : Nat) : Int)).toNat = max i j - i := by omega
  have d2 : (-(j : Int) - -((max i j : Nat) : Int)).toNat = max i j - j := by omega
  have hp : (0 : Int) < ((2 ^ (max i j) : Nat) : Int) := Int.ofNat_lt.2 (Nat.two_pow_pos _)
  have ho : FloatKind.f64.format.order x y = some (compare (m * ((2 ^ (max i j) : Nat) : Int)) (k * ((2 ^ (max i j) : Nat) : Int))) := by
    simp only [FloatKind.format, Format.order, h1, k1, Datum.order]
    rw [hbase, d1, d2, h3, k3, signed_whole s m i _ h4, signed_whole t k j _ k4, show i + (max i j - i) = max i j by omega, show j + (max i j - j) = max i j by omega]
  rw [ho]
  by_cases h : m = k
  · subst h
    rw [decide_eq_true rfl, Int.compare_eq_eq.2 rfl]
    rfl
  · rw [decide_eq_false h]
    have : m * ((2 ^ (max i j) : Nat) : Int) ≠ k * ((2 ^ (max i j) : Nat) : Int) := fun h' => h (Int.eq_of_mul_eq_mul_right (by omega) h')
    have h2 : compare (m * ((2 ^ (max i j) : Nat) : Int)) (k * ((2 ^ (max i j) : Nat) : Int)) ≠ .eq := fun h' => this (Int.compare_eq_eq.1 h')
    simpa using h2
theorem FI.toInt {x : Nat} {m : Int} (hx : FI x m) (hb : m.natAbs < 9223372036854775808) : floatToIntVal .f64 x .i64 = some m := by
  obtain ⟨_, s, M, i, h1, h2, h3, h4⟩ := hx
  have : (FloatKind.f64.decode x).toInt .zero = some m := by
    have hd : FloatKind.f64.decode x = .number s M (-(i : Nat)) := h1
    rw [hd]
    unfold Datum.toInt Datum.integral
    have c1 : (-(i : Int)).toNat = 0 := by omega
    have c2 : (- -(i : Int)).toNat = i := by omega
    simp only [c1, c2, Nat.shiftLeft_zero]
    rw [h3, cut_exact .zero (.inr rfl)]
    have := signed_whole s m 0 0 h4
    simp at this
    rw [this]
  unfold floatToIntVal
  rw [this]
  simp only
  rw [if_pos]
  have : IntKind.i64.min = -9223372036854775808 := by decide
  have : IntKind.i64.max = 9223372036854775807 := by decide
  omega
end Go.Proofs.Ytclieljalegmkaa.Float
