/- Plain lemmas of numbers: masks by powers of two, quotients that are cut toward zero; no condition but the bounds in each. -/
import Derived.WalkKit
import Derived.Laws.BitsLemmas
namespace Go.Proofs.Ytmedlplgeeeodaa.Plain
open Go.RowKit

/-- Go's max and min of two whole numbers, kept whole in a walk. -/
def mx (a b : Int) : Int := if a < b then b else a
def mn (a b : Int) : Int := if b < a then b else a
theorem run_mx {P : Program} (w : World) (ts : Array TypeId) (t : TypeId) (k k' : IntKind) (x y : Int) : (Builtin.max_ ts t #[.int k x, .int k' y]).run P w = .ok (.int k (mx x y)) w := by
  rw [run_max_int2]; rfl
theorem run_mn {P : Program} (w : World) (ts : Array TypeId) (t : TypeId) (k k' : IntKind) (x y : Int) : (Builtin.min_ ts t #[.int k x, .int k' y]).run P w = .ok (.int k (mn x y)) w := by
  rw [run_min_int2]; rfl

theorem wf_i64 {n : Int} (h : (Lit.int .i64 n).wf = true) : -9223372036854775808 ≤ n ∧ n ≤ 9223372036854775807 := by
  simpa [Lit.wf, IntKind.min, IntKind.max, IntKind.signed, IntKind.bits] using h
theorem wf_i32 {n : Int} (h : (Lit.int .i32 n).wf = true) : -2147483648 ≤ n ∧ n ≤ 2147483647 := by
  simpa [Lit.wf, IntKind.min, IntKind.max, IntKind.signed, IntKind.bits] using h

theorem w64 {n : Int} (h0 : -9223372036854775808 ≤ n) (h1 : n ≤ 9223372036854775807) : wrap64 n = n := by unfold wrap64; omega
theorem w64_mod (n : Int) : wrap64 n % 18446744073709551616 = n % 18446744073709551616 := by unfold wrap64; omega

/-- The lower k bits of any number. -/
theorem and_mask (x : Int) (k : Nat) (hk : k ≤ 62) : Go.bits .and .i64 x ((2 : Int) ^ k - 1) = x % (2 : Int) ^ k := by
  have hp : (2 : Int) ^ k = ((2 ^ k : Nat) : Int) := by simp
  have h1 : 1 ≤ 2 ^ k := Nat.one_le_two_pow
  have h2 : 2 ^ k ≤ 2 ^ 62 := Nat.pow_le_pow_right (by omega) hk
  have hm : ((2 : Int) ^ k - 1) = ((2 ^ k - 1 : Nat) : Int) := by rw [hp]; omega
  have hy : (BitVec.ofInt 64 ((2 : Int) ^ k - 1)).toNat = 2 ^ k - 1 := by
    rw [hm, BitVec.ofInt_natCast, BitVec.toNat_ofNat]
    exact Nat.mod_eq_of_lt (by omega)
  have hx : (((BitVec.ofInt 64 x).toNat : Nat) : Int) = x % 18446744073709551616 := by
    rw [BitVec.toNat_ofInt]
    have : 0 ≤ x % ((2 ^ 64 : Nat) : Int) := Int.emod_nonneg _ (by decide)
    rw [Int.toNat_of_nonneg this]; rfl
  show IntKind.i64.wrap (((BitVec.ofInt 64 x) &&& (BitVec.ofInt 64 ((2 : Int) ^ k - 1))).toNat : Int) = _
  rw [BitVec.toNat_and, hy, Nat.and_two_pow_sub_one_eq_mod]
  have hlt : (BitVec.ofInt 64 x).toNat % 2 ^ k < 2 ^ k := Nat.mod_lt _ (by omega)
  have hcast : (((BitVec.ofInt 64 x).toNat % 2 ^ k : Nat) : Int) = x % (2 : Int) ^ k := by
    rw [Int.natCast_emod, hx, hp]
    refine Int.emod_emod_of_dvd _ ?_
    have : (18446744073709551616 : Int) = ((2 ^ 64 : Nat) : Int) := by decide
    rw [this]
    exact Int.natCast_dvd_natCast.2 (Nat.pow_dvd_pow 2 (by omega))
  rw [IntKind.wrap_i64, ← hcast]
  omega

theorem pow_cast (k : Nat) : (2 : Int) ^ k = ((2 ^ k : Nat) : Int) := by simp
/-- The power, its half. -/
theorem pow_half (k : Int) (h0 : 1 ≤ k) (h1 : k ≤ 32) : ∃ M H : Int, (2 : Int) ^ k.toNat = M ∧ (2 : Int) ^ (k.toNat - 1) = H ∧ M = 2 * H ∧ 1 ≤ H ∧ H ≤ 2147483648 := by
  refine ⟨_, _, rfl, rfl, ?_, ?_, ?_⟩
  · have e : k.toNat = (k.toNat - 1) + 1 := by omega
    rw [e, Int.pow_succ, Int.mul_comm]; rfl
  · have : (1 : Int) ≤ ((2 ^ (k.toNat - 1) : Nat) : Int) := by have := Nat.one_le_two_pow (n := k.toNat - 1); omega
    simpa using this
  · have : ((2 ^ (k.toNat - 1) : Nat) : Int) ≤ ((2 ^ 31 : Nat) : Int) := Int.ofNat_le.2 (Nat.pow_le_pow_right (by omega) (by omega))
    simpa using this
theorem mask_of (x : Int) (k : Nat) (M : Int) (hk : k ≤ 62) (hM : (2 : Int) ^ k = M) : Go.bits .and .i64 x (M - 1) = x % M := by
  subst hM; exact and_mask x k hk

/-- 1 to 32, each a case. -/
theorem cases32 {P : Int → Prop} (k : Int) (h0 : 1 ≤ k) (h1 : k ≤ 32) (h : ∀ n : Nat, n < 32 → P ((n : Int) + 1)) : P k := by
  have := h (k - 1).toNat (by omega)
  have e : (((k - 1).toNat : Nat) : Int) + 1 = k := by omega
  rwa [e] at this

theorem tmod_pos {n m : Int} (h : 0 ≤ n) : Int.tmod n m = n % m := Int.tmod_eq_emod_of_nonneg h
theorem tmod_bd (n : Int) {m : Int} (hm : 0 < m) : -m < Int.tmod n m ∧ Int.tmod n m < m := by
  rcases Int.le_total 0 n with h | h
  · rw [Int.tmod_eq_emod_of_nonneg h]
    have := Int.emod_nonneg n (show m ≠ 0 by omega)
    have := Int.emod_lt_of_pos n hm
    omega
  · have e : Int.tmod n m = -(Int.tmod (-n) m) := by rw [Int.neg_tmod]; omega
    rw [e, Int.tmod_eq_emod_of_nonneg (by omega)]
    have := Int.emod_nonneg (-n) (show m ≠ 0 by omega)
    have := Int.emod_lt_of_pos (-n) hm
    omega
theorem tmod_emod (n m : Int) : Int.tmod n m % m = n % m := by
  have h := Int.tmod_add_mul_tdiv n m
  conv => rhs; rw [← h]
  rw [Int.add_mul_emod_self_left]
/-- The rest from 0 on, as one reckons it out of Go's '%'. -/
theorem modp {n m : Int} (hm : 0 < m) : Int.tmod (Int.tmod n m + m) m = n % m := by
  have hb := tmod_bd n hm
  rw [Int.tmod_eq_emod_of_nonneg (by omega)]
  rw [Int.add_emod_right, tmod_emod]
theorem sub_tmod (a b : Int) {m : Int} : (Int.tmod a m - Int.tmod b m) % m = (a - b) % m := by
  rw [Int.sub_emod, tmod_emod, tmod_emod, ← Int.sub_emod]

end Go.Proofs.Ytmedlplgeeeodaa.Plain
