/- What each function of sat comes to; no condition but the ranges in each. -/
import Derived.Test.YtlidofldkomdbaaProg
import Derived.Test.YtlidofldkomdbaaPlain
import Derived.Test.YtlidofldkomdbaaHeap
import Derived.WalkKit
import Derived.WalkSpells
import Derived.WalkLawsBesides
import Derived.Lib.Hide
import Derived.Laws.Externs
import Derived.Deep.QuietTactic
import Derived.BigQuiet
namespace Go.Proofs.Ytlidofldkomdbaa.Sat
open Go.RowKit Go.Proofs.Ytlidofldkomdbaa.Plain Go.Proofs.Ytlidofldkomdbaa.Heap

/-- The halves of a number of 128 bits. -/
def hiOf (T : Int) : Int := T / 18446744073709551616 % 18446744073709551616
def loOf (T : Int) : Int := T % 18446744073709551616
/-- A number held in 64 bits. -/
def clamp64 (T : Int) : Int := if T < -9223372036854775808 then -9223372036854775808 else if T > 9223372036854775807 then 9223372036854775807 else T
theorem clamp64_bd (T : Int) : -9223372036854775808 ≤ clamp64 T ∧ clamp64 T ≤ 9223372036854775807 := by unfold clamp64; split <;> (try split) <;> omega
def u64w (n : Int) : Int := n % 18446744073709551616
theorem u64_wrap (n : Int) : IntKind.u64.wrap n = n % 18446744073709551616 := by simp [IntKind.wrap, IntKind.bits, IntKind.signed]
theorem hiOf_bd (T : Int) : 0 ≤ hiOf T ∧ hiOf T < 18446744073709551616 := by unfold hiOf; omega
theorem loOf_bd (T : Int) : 0 ≤ loOf T ∧ loOf T < 18446744073709551616 := by unfold loOf; omega

def sub64Entry : Array Value → Sem Value := fun args => do
  let (x, y, b) ← Extern.MathBitsCarry.three "Sub64" args
  pure (Extern.MathBitsCarry.pair ((x + Extern.MathBitsCarry.m64 - y - b) % Extern.MathBitsCarry.m64) (if x < y + b then 1 else 0))
theorem run_sub64 {P : Program} (x y b : Nat) (hb : b ≤ 1) (w : World) :
    (sub64Entry #[.int .u64 x, .int .u64 y, .int .u64 b]).run P w =
      .ok (.tuple #[.int .u64 (((x + 18446744073709551616 - y - b) % 18446744073709551616 : Nat) : Int), .int .u64 ((if x < y + b then 1 else 0 : Nat) : Int)]) w := by
  have : b = 0 ∨ b = 1 := by omega
  rcases this with rfl | rfl <;> rfl
theorem sum_snoc (xs : List Int) (k : Nat) (h : k < xs.length) : (xs.take (k + 1)).sum = (xs.take k).sum + xs.getD k 0 := by
  rw [List.take_succ_eq_append_getElem h, List.sum_append]
  simp [List.getD_eq_getElem?_getD, List.getElem?_eq_getElem h]

theorem add_lo (T x : Int) : (loOf T + IntKind.u64.wrap x + 0) % 18446744073709551616 = loOf (T + x) := by rw [u64_wrap]; unfold loOf; omega
theorem add_hi (T x : Int) (hx : -9223372036854775808 ≤ x) (hx' : x ≤ 9223372036854775807) :
    (hiOf T + IntKind.u64.wrap (x / 9223372036854775808) + (loOf T + IntKind.u64.wrap x + 0) / 18446744073709551616) % 18446744073709551616 = hiOf (T + x) := by
  have e : x / 9223372036854775808 = x / 18446744073709551616 := by omega
  rw [u64_wrap, u64_wrap, e]; unfold loOf hiOf
  have d : (T + x) / 18446744073709551616 = T / 18446744073709551616 + x / 18446744073709551616 + (T % 18446744073709551616 + x % 18446744073709551616 + 0) / 18446744073709551616 := by omega
  rw [d]
  generalize (T % 18446744073709551616 + x % 18446744073709551616 + 0) / 18446744073709551616 = q
  generalize x / 18446744073709551616 = y
  generalize T / 18446744073709551616 = z
  omega
theorem carry_bd (T x : Int) : 0 ≤ (loOf T + IntKind.u64.wrap x + 0) / 18446744073709551616 ∧ (loOf T + IntKind.u64.wrap x + 0) / 18446744073709551616 ≤ 1 := by
  rw [u64_wrap]; unfold loOf; omega

theorem held_cmp (T : Int) (hT : -170141183460469231731687303715884105728 ≤ T) (hT' : T < 170141183460469231731687303715884105728) :
    (IntKind.u64.wrap (wrap64 (loOf T) / 9223372036854775808) = hiOf T ↔ (-9223372036854775808 ≤ T ∧ T ≤ 9223372036854775807)) ∧ (-9223372036854775808 ≤ T → T ≤ 9223372036854775807 → wrap64 (loOf T) = T) ∧ (wrap64 (hiOf T) < 0 ↔ T < 0) := by
  rw [u64_wrap]; unfold wrap64 loOf hiOf
  refine ⟨?_, by omega, by omega⟩
  have e : ∀ z : Int, -9223372036854775808 ≤ z → z ≤ 9223372036854775807 → z / 9223372036854775808 = z / 18446744073709551616 := by intro z h1 h2; omega
  rw [e _ (by omega) (by omega)]
  omega
theorem zero_hi : hiOf 0 = 0 := by decide
theorem zero_lo : loOf 0 = 0 := by decide
theorem RI_two (w : World) (a b : Int) (t : TypeId) : RI (w.alloc (.cells #[.int .i64 a, .int .i64 b] t)) .i64 (some ⟨w.heap.size, 0, none⟩) 2 [a, b] :=
  ⟨rfl, by omega, fun _ => ⟨_, _, rfl, by simp, fun j hj => by rcases j with _ | _ | j <;> first | omega | simp⟩⟩
theorem RI_one (w : World) (a : Int) (t : TypeId) : RI (w.alloc (.cells #[.int .i64 a] t)) .i64 (some ⟨w.heap.size, 0, none⟩) 1 [a] :=
  ⟨rfl, by omega, fun _ => ⟨_, _, rfl, by simp, fun j hj => by rcases j with _ | j <;> first | omega | simp⟩⟩
theorem neg_lo (a : Int) : (0 - IntKind.u64.wrap a - 0) % 18446744073709551616 = loOf (-a) := by rw [u64_wrap]; unfold loOf; omega
theorem neg_hi (a : Int) (hx : -9223372036854775808 ≤ a) (hx' : a ≤ 9223372036854775807) :
    (0 - IntKind.u64.wrap (a / 9223372036854775808) - (if (0 : Int) < IntKind.u64.wrap a + 0 then 1 else 0)) % 18446744073709551616 = hiOf (-a) := by
  rw [u64_wrap, u64_wrap]; unfold hiOf
  split <;> omega
set_option maxHeartbeats 1000000 in
theorem clamp_any (a lo hi : Int) (w : World) : Calls Try.prog 19 #[.int .i64 a, .int .i64 lo, .int .i64 hi] w fun e w' => e = .returned (.int .i64 (if a < lo then lo else if a > hi then hi else a)) ∧ w = w' := by
  by_cases h1 : a < lo
  · rw [if_pos h1]
    go_enter Try.func19, Try.ntmps19
    go_wp2
    go_ret
    exact ⟨rfl, rfl⟩
  · rw [if_neg h1]
    by_cases h2 : a > hi
    · rw [if_pos h2]
      go_enter Try.func19, Try.ntmps19
      go_wp2
      go_ret
      exact ⟨rfl, rfl⟩
    · rw [if_neg h2]
      go_enter Try.func19, Try.ntmps19
      go_wp2
      go_ret
      exact ⟨rfl, rfl⟩
theorem and_sign (a b : Int) (ha : -9223372036854775808 ≤ a) (ha' : a ≤ 9223372036854775807) : Go.bits .and .u64 (IntKind.u64.wrap (a / 9223372036854775808)) (IntKind.u64.wrap b) = if a < 0 then IntKind.u64.wrap b else 0 := by
  have hb : 0 ≤ IntKind.u64.wrap b ∧ IntKind.u64.wrap b < 18446744073709551616 := by rw [u64_wrap]; omega
  generalize IntKind.u64.wrap b = y at *
  by_cases h : a < 0
  · have e : IntKind.u64.wrap (a / 9223372036854775808) = 18446744073709551615 := by rw [u64_wrap]; omega
    rw [if_pos h, e, u64_and _ _ (by omega) (by omega) hb.1 hb.2]
    obtain ⟨Y, rfl⟩ := Int.eq_ofNat_of_zero_le hb.1
    have h2 := Nat.and_two_pow_sub_one_eq_mod Y 64
    have h3 : (18446744073709551615 : Int).toNat = 2 ^ 64 - 1 := by decide
    rw [h3, Int.toNat_natCast, Nat.and_comm, h2]
    omega
  · have e : IntKind.u64.wrap (a / 9223372036854775808) = 0 := by rw [u64_wrap]; omega
    rw [if_neg h, e, u64_and _ _ (by omega) (by omega) hb.1 hb.2]
    simp
theorem mul_parts (a b : Int) (ha : -9223372036854775808 ≤ a) (ha' : a ≤ 9223372036854775807) (hb : -9223372036854775808 ≤ b) (hb' : b ≤ 9223372036854775807) :
    IntKind.u64.wrap (IntKind.u64.wrap a * IntKind.u64.wrap b / 18446744073709551616 - IntKind.u64.wrap ((if a < 0 then IntKind.u64.wrap b else 0) + (if b < 0 then IntKind.u64.wrap a else 0))) = hiOf (a * b) ∧
    IntKind.u64.wrap a * IntKind.u64.wrap b % 18446744073709551616 = loOf (a * b) := by
  simp only [u64_wrap]
  unfold hiOf loOf
  have ea : a % 18446744073709551616 = if a < 0 then a + 18446744073709551616 else a := by split <;> omega
  have eb : b % 18446744073709551616 = if b < 0 then b + 18446744073709551616 else b := by split <;> omega
  rw [ea, eb]
  by_cases h1 : a < 0
  · by_cases h2 : b < 0
    · simp only [if_pos h1, if_pos h2]
      have e : (a + 18446744073709551616) * (b + 18446744073709551616) = a * b + (a + b + 18446744073709551616) * 18446744073709551616 := by
        rw [Int.add_mul, Int.mul_add, Int.mul_add]; omega
      rw [e]
      generalize a * b = p
      omega
    · simp only [if_pos h1, if_neg h2]
      have e : (a + 18446744073709551616) * b = a * b + b * 18446744073709551616 := by
        rw [Int.add_mul]; omega
      rw [e]
      generalize a * b = p
      omega
  · by_cases h2 : b < 0
    · simp only [if_neg h1, if_pos h2]
      have e : a * (b + 18446744073709551616) = a * b + a * 18446744073709551616 := by
        rw [Int.mul_add]
      rw [e]
      generalize a * b = p
      omega
    · simp only [if_neg h1, if_neg h2]
      generalize a * b = p
      exact ⟨by omega, trivial⟩
theorem mul_bd (a b : Int) (ha : -9223372036854775808 ≤ a) (ha' : a ≤ 9223372036854775807) (hb : -9223372036854775808 ≤ b) (hb' : b ≤ 9223372036854775807) :
    -170141183460469231731687303715884105728 ≤ a * b ∧ a * b < 170141183460469231731687303715884105728 := by
  have h1 : a.natAbs ≤ 9223372036854775808 := by omega
  have h2 : b.natAbs ≤ 9223372036854775808 := by omega
  have h3 := Nat.mul_le_mul h1 h2
  rw [← Int.natAbs_mul] at h3
  omega
end Go.Proofs.Ytlidofldkomdbaa.Sat
