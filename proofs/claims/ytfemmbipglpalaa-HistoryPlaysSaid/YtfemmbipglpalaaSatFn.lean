/- What each function of sat comes to; no condition but the ranges in each. -/
import Derived.Test.YtfemmbipglpalaaProg
import Derived.Test.YtfemmbipglpalaaPlain
import Derived.Test.YtfemmbipglpalaaHeap
import Derived.WalkKit
import Derived.WalkSpells
import Derived.WalkLawsBesides
import Derived.Lib.Hide
import Derived.Laws.Externs
import Derived.Deep.QuietTactic
import Derived.BigQuiet
namespace Go.Proofs.Ytfemmbipglpalaa.Sat
open Go.RowKit Go.Proofs.Ytfemmbipglpalaa.Plain Go.Proofs.Ytfemmbipglpalaa.Heap

/-- The halves of a number of 128 bits. -/
def hiOf (T : Int) : Int := T / 18446744073709551616 % 18446744073709551616
def loOf (T : Int) : Int := T % 18446744073709551616
/-- A number held in 64 bits. -/
def clamp64 (T : Int) : Int := if T < -9223372036854775808 then -9223372036854775808 else if T > 9223372036854775807 then 9223372036854775807 else T
theorem clamp64_bd (T : Int) : -9223372036854775808 ≤ clamp64 T ∧ clamp64 T ≤ 9223372036854775807 := by unfold clamp64; split <;> (try split) <;> omega
def u64w (n : Int) : Int := n % 18446744073709551616
theorem u64_wrap (n : Int) : IntKind.u64.wrap n = n % 18446744073709551616 := by simp [IntKind.wrap, IntKind.bits, IntKind.signed]
theorem hiOf_bd (T : Int) : 0 ≤ hiOf T ∧ hiOf T < 18446744073709551616 := by unfold hiOf; omega
theorem loOf_bd (T : Int) : 0 ≤ loOf T ∧ loOf T < 18446744073709551616 := by unfold loOf; omega

theorem call_add64 (x y c s o : Int) (hx : 0 ≤ x) (hy : 0 ≤ y) (hc0 : 0 ≤ c) (hc : c ≤ 1) (hs : (x + y + c) % 18446744073709551616 = s) (ho : (x + y + c) / 18446744073709551616 = o) (w : World) :
    (callFunc 43 #[.int .u64 x, .int .u64 y, .int .u64 c]).run Try.prog w = .ok (.value (.tuple #[.int .u64 s, .int .u64 o])) w := by
  rw [run_callFunc_extern Try.func43 (by kernel_rfl) (by kernel_rfl) (by kernel_rfl) (e := add64Entry) (by kernel_rfl), run_add64 x y c hx hy hc0 hc, hs, ho]
  rfl
def sub64Entry : Array Value → Sem Value := fun args => do
  let (x, y, b) ← Extern.MathBitsCarry.three "Sub64" args
  pure (Extern.MathBitsCarry.pair ((x + Extern.MathBitsCarry.m64 - y - b) % Extern.MathBitsCarry.m64) (if x < y + b then 1 else 0))
theorem run_sub64 {P : Program} (x y b : Nat) (hb : b ≤ 1) (w : World) :
    (sub64Entry #[.int .u64 x, .int .u64 y, .int .u64 b]).run P w =
      .ok (.tuple #[.int .u64 (((x + 18446744073709551616 - y - b) % 18446744073709551616 : Nat) : Int), .int .u64 ((if x < y + b then 1 else 0 : Nat) : Int)]) w := by
  have : b = 0 ∨ b = 1 := by omega
  rcases this with rfl | rfl <;> rfl
theorem call_sub64 (x y b s o : Int) (hx : 0 ≤ x) (hy : 0 ≤ y) (hy' : y < 18446744073709551616) (hb0 : 0 ≤ b) (hb : b ≤ 1) (hs : (x - y - b) % 18446744073709551616 = s) (ho : (if x < y + b then 1 else 0) = o) (w : World) :
    (callFunc 44 #[.int .u64 x, .int .u64 y, .int .u64 b]).run Try.prog w = .ok (.value (.tuple #[.int .u64 s, .int .u64 o])) w := by
  obtain ⟨X, rfl⟩ := Int.eq_ofNat_of_zero_le hx
  obtain ⟨Y, rfl⟩ := Int.eq_ofNat_of_zero_le hy
  obtain ⟨B, rfl⟩ := Int.eq_ofNat_of_zero_le hb0
  rw [run_callFunc_extern Try.func44 (by kernel_rfl) (by kernel_rfl) (by kernel_rfl) (e := sub64Entry) (by kernel_rfl), run_sub64 X Y B (by omega)]
  have e1 : (((X + 18446744073709551616 - Y - B) % 18446744073709551616 : Nat) : Int) = s := by omega
  have e2 : ((if X < Y + B then 1 else 0 : Nat) : Int) = o := by rw [← ho]; split <;> split <;> omega
  rw [e1, e2]
  rfl

theorem sum_snoc (xs : List Int) (k : Nat) (h : k < xs.length) : (xs.take (k + 1)).sum = (xs.take k).sum + xs.getD k 0 := by
  rw [List.take_succ_eq_append_getElem h, List.sum_append]
  simp [List.getD_eq_getElem?_getD, List.getElem?_eq_getElem h]

theorem add_lo (T x : Int) : (loOf T + IntKind.u64.wrap x + 0) % 18446744073709551616 = loOf (T + x) := by rw [u64_wrap]; unfold loOf; omega
theorem add_hi (T x : Int) (hx : -9223372036854775808 ≤ x) (hx' : x ≤ 9223372036854775807) :
    (hiOf T + IntKind.u64.wrap (x / 9223372036854775808) + (loOf T + IntKind.u64.wrap x + 0) / 18446744073709551616) % 18446744073709551616 = hiOf (T + x) := by
  have e : x / 9223372036854775808 = x / 18446744073709551616 := by omega
  rw [u64_wrap, u64_wrap, e]; unfold loOf hiOf
  have d : (T + x) / 18446744073709551616 = T / 18446744073709551616 + x / 18446744073709551616 + (T % 18446744073709551616 + x % 18446744073709551616 + 0) / 18446744073709551616 := by omega
  rw [d]
  generalize (T % 18446744073709551616 + x % 18446744073709551616 + 0) / 18446744073709551616 = q
  generalize x / 18446744073709551616 = y
  generalize T / 18446744073709551616 = z
  omega
theorem carry_bd (T x : Int) : 0 ≤ (loOf T + IntKind.u64.wrap x + 0) / 18446744073709551616 ∧ (loOf T + IntKind.u64.wrap x + 0) / 18446744073709551616 ≤ 1 := by
  rw [u64_wrap]; unfold loOf; omega

set_option maxHeartbeats 1000000 in
theorem plus_any (T : Int) (A : Option Addr) (n c : Nat) (xs : List Int) (w : World) (hr : RI w .i64 A n xs) (hx : ∀ j, j < n → -9223372036854775808 ≤ xs.getD j 0 ∧ xs.getD j 0 ≤ 9223372036854775807) :
    Calls Try.prog 40 #[.agg #[.int .u64 (hiOf T), .int .u64 (loOf T)], .slice A n c] w fun e w' =>
      e = .returned (.agg #[.int .u64 (hiOf (T + xs.sum)), .int .u64 (loOf (T + xs.sum))]) ∧ Below w.heap.size w w' := by
  obtain ⟨hl, hm, hr⟩ := hr
  have HX := Lib.hid hx
  have HR := Lib.hid hr
  clear hx hr
  go_enter Try.func40, Try.ntmps40
  go_wp2
  go_loopw [13] (fun i wr => ∃ k : Nat, k ≤ n ∧ i = .int .i64 k ∧ wr = (w.alloc (.cells #[.int .u64 (hiOf (T + (xs.take k).sum)), .int .u64 (loOf (T + (xs.take k).sum))] 86)).alloc (.cells #[.int .u64 0, .int .u64 0] 86)) (fun i _ => n - (intOf i).toNat)
  case atStart => exact ⟨0, Nat.zero_le _, rfl, by simp⟩
  case round =>
    obtain ⟨k, hk, rfl, rfl⟩ := hrel
    by_cases hlt : k < n
    · obtain ⟨b, off, rfl, hblt, hcell⟩ := HR.out (by omega)
      have hc : w.cell? ⟨b, off + k, none⟩ = some (.int .i64 (xs.getD k 0)) := hcell k hlt
      have hne : b ≠ w.heap.size := by omega
      have hne' : b ≠ w.heap.size + 1 := by omega
      have hs := sum_snoc xs k (by omega)
      obtain ⟨x1, x2⟩ := HX.out k hlt
      obtain ⟨y1, y2⟩ := loOf_bd (T + (xs.take k).sum)
      obtain ⟨y3, y4⟩ := hiOf_bd (T + (xs.take k).sum)
      obtain ⟨y5, y6⟩ := carry_bd (T + (xs.take k).sum) (xs.getD k 0)
      have z1 : 0 ≤ IntKind.u64.wrap (xs.getD k 0) := by rw [u64_wrap]; omega
      have z2 : 0 ≤ IntKind.u64.wrap (xs.getD k 0 / 9223372036854775808) := by rw [u64_wrap]; omega
      have e1 := call_add64 (loOf (T + (xs.take k).sum)) (IntKind.u64.wrap (xs.getD k 0)) 0 _ _ y1 z1 (by omega) (by omega) (add_lo _ _) rfl
      have e2 := call_add64 (hiOf (T + (xs.take k).sum)) (IntKind.u64.wrap (xs.getD k 0 / 9223372036854775808)) _ _ _ y3 z2 y5 y6 (add_hi _ _ x1 x2) rfl
      have e3 : T + (xs.take k).sum + xs.getD k 0 = T + (xs.take (k + 1)).sum := by omega
      rw [e3] at e1 e2
      generalize xs.getD k 0 = x at *
      generalize (loOf (T + (xs.take k).sum) + IntKind.u64.wrap x + 0) / 18446744073709551616 = C at *
      generalize (hiOf (T + (xs.take k).sum) + IntKind.u64.wrap (x / 9223372036854775808) + C) / 18446744073709551616 = C2 at *
      clear hcell hs e3 z1 z2 y1 y2 y3 y4
      go_wp2
      go_roundw
      case rel => exact ⟨k + 1, by omega, by go_num, rfl⟩
      case measure => simp [intOf]; omega
    · have hk' : k = n := by omega
      subst hk'
      have ht : xs.take k = xs := List.take_of_length_le (by omega)
      go_wp2
      refine bodyPost_ret (v := .agg #[.int .u64 (hiOf (T + xs.sum)), .int .u64 (loOf (T + xs.sum))]) (by simp [results, Try.results40, go_sem]) rfl ⟨rfl, ?_⟩
      exact ((Below.refl _ _).alloc (Nat.le_refl _) _).alloc (by simp) _

theorem held_cmp (T : Int) (hT : -170141183460469231731687303715884105728 ≤ T) (hT' : T < 170141183460469231731687303715884105728) :
    (IntKind.u64.wrap (wrap64 (loOf T) / 9223372036854775808) = hiOf T ↔ (-9223372036854775808 ≤ T ∧ T ≤ 9223372036854775807)) ∧ (-9223372036854775808 ≤ T → T ≤ 9223372036854775807 → wrap64 (loOf T) = T) ∧ (wrap64 (hiOf T) < 0 ↔ T < 0) := by
  rw [u64_wrap]; unfold wrap64 loOf hiOf
  refine ⟨?_, by omega, by omega⟩
  have e : ∀ z : Int, -9223372036854775808 ≤ z → z ≤ 9223372036854775807 → z / 9223372036854775808 = z / 18446744073709551616 := by intro z h1 h2; omega
  rw [e _ (by omega) (by omega)]
  omega
set_option maxHeartbeats 1000000 in
theorem held_any (T : Int) (w : World) (hT : -170141183460469231731687303715884105728 ≤ T) (hT' : T < 170141183460469231731687303715884105728) :
    Calls Try.prog 39 #[.agg #[.int .u64 (hiOf T), .int .u64 (loOf T)]] w fun e w' => e = .returned (.int .i64 (clamp64 T)) ∧ Below w.heap.size w w' := by
  obtain ⟨q1, q2, q3⟩ := held_cmp T hT hT'
  obtain ⟨y1, y2⟩ := loOf_bd T
  obtain ⟨y3, y4⟩ := hiOf_bd T
  generalize hv : wrap64 (loOf T) = v at *
  have HV := Lib.hid hv
  generalize hu : wrap64 (hiOf T) = u at *
  by_cases h1 : -9223372036854775808 ≤ T ∧ T ≤ 9223372036854775807
  · have e1 : (IntKind.u64.wrap (v / 9223372036854775808) == hiOf T) = true := beq_iff_eq.2 (q1.2 h1)
    have E2 := Lib.hid (q2 h1.1 h1.2)
    have e3 : clamp64 T = T := by unfold clamp64; rw [if_neg (by omega), if_neg (by omega)]
    rw [e3]
    clear q1 q2 q3 h1 e3
    go_enter Try.func39, Try.ntmps39
    go_wp2
    go_ret
    exact ⟨ret_int (HV.out.trans E2.out), (Below.refl _ _).alloc (Nat.le_refl _) _⟩
  · have e1 : (IntKind.u64.wrap (v / 9223372036854775808) == hiOf T) = false := beq_eq_false_iff_ne.2 (fun h => h1 (q1.1 h))
    by_cases h2 : T < 0
    · have e2 : u < 0 := q3.2 h2
      have e3 : clamp64 T = -9223372036854775808 := by unfold clamp64; rw [if_pos (by omega)]
      rw [e3]
      clear q1 q2 q3 h1 e3
      go_enter Try.func39, Try.ntmps39
      go_wp2
      go_ret
      exact ⟨rfl, (Below.refl _ _).alloc (Nat.le_refl _) _⟩
    · have e2 : ¬ u < 0 := fun h => h2 (q3.1 h)
      have e3 : clamp64 T = 9223372036854775807 := by unfold clamp64; rw [if_neg (by omega), if_pos (by omega)]
      rw [e3]
      clear q1 q2 q3 h1 e3
      go_enter Try.func39, Try.ntmps39
      go_wp2
      go_ret
      exact ⟨rfl, (Below.refl _ _).alloc (Nat.le_refl _) _⟩

theorem zero_hi : hiOf 0 = 0 := by decide
theorem zero_lo : loOf 0 = 0 := by decide
theorem plus_two (a b : Int) (w : World) (A : Option Addr) (c : Nat) (hr : RI w .i64 A 2 [a, b]) (ha : -9223372036854775808 ≤ a) (ha' : a ≤ 9223372036854775807) (hb : -9223372036854775808 ≤ b) (hb' : b ≤ 9223372036854775807) :
    Calls Try.prog 40 #[.agg #[.int .u64 0, .int .u64 0], .slice A 2 c] w fun e w' => e = .returned (.agg #[.int .u64 (hiOf (a + b)), .int .u64 (loOf (a + b))]) ∧ Below w.heap.size w w' := by
  have h := plus_any 0 A 2 c [a, b] w hr (fun j hj => by rcases j with _ | _ | j <;> simp <;> omega)
  rw [zero_hi, zero_lo] at h
  simp only [List.sum_cons, List.sum_nil, Int.zero_add, Int.add_zero] at h
  exact h
theorem plus_one (T a : Int) (w : World) (A : Option Addr) (c : Nat) (hr : RI w .i64 A 1 [a]) (ha : -9223372036854775808 ≤ a) (ha' : a ≤ 9223372036854775807) :
    Calls Try.prog 40 #[.agg #[.int .u64 (hiOf T), .int .u64 (loOf T)], .slice A 1 c] w fun e w' => e = .returned (.agg #[.int .u64 (hiOf (T + a)), .int .u64 (loOf (T + a))]) ∧ Below w.heap.size w w' := by
  have h := plus_any T A 1 c [a] w hr (fun j hj => by rcases j with _ | j <;> simp <;> omega)
  simp only [List.sum_cons, List.sum_nil, Int.add_zero] at h
  exact h
theorem RI_two (w : World) (a b : Int) (t : TypeId) : RI (w.alloc (.cells #[.int .i64 a, .int .i64 b] t)) .i64 (some ⟨w.heap.size, 0, none⟩) 2 [a, b] :=
  ⟨rfl, by omega, fun _ => ⟨_, _, rfl, by simp, fun j hj => by rcases j with _ | _ | j <;> first | omega | simp⟩⟩
theorem RI_one (w : World) (a : Int) (t : TypeId) : RI (w.alloc (.cells #[.int .i64 a] t)) .i64 (some ⟨w.heap.size, 0, none⟩) 1 [a] :=
  ⟨rfl, by omega, fun _ => ⟨_, _, rfl, by simp, fun j hj => by rcases j with _ | j <;> first | omega | simp⟩⟩
theorem neg_lo (a : Int) : (0 - IntKind.u64.wrap a - 0) % 18446744073709551616 = loOf (-a) := by rw [u64_wrap]; unfold loOf; omega
theorem neg_hi (a : Int) (hx : -9223372036854775808 ≤ a) (hx' : a ≤ 9223372036854775807) :
    (0 - IntKind.u64.wrap (a / 9223372036854775808) - (if (0 : Int) < IntKind.u64.wrap a + 0 then 1 else 0)) % 18446744073709551616 = hiOf (-a) := by
  rw [u64_wrap, u64_wrap]; unfold hiOf
  split <;> omega
set_option maxHeartbeats 1000000 in
theorem negative_any (a : Int) (w : World) (ha : -9223372036854775808 ≤ a) (ha' : a ≤ 9223372036854775807) :
    Calls Try.prog 41 #[.int .i64 a] w fun e w' => e = .returned (.agg #[.int .u64 (hiOf (-a)), .int .u64 (loOf (-a))]) ∧ Below w.heap.size w w' := by
  have z1 : 0 ≤ IntKind.u64.wrap a ∧ IntKind.u64.wrap a < 18446744073709551616 := by rw [u64_wrap]; omega
  have z2 : 0 ≤ IntKind.u64.wrap (a / 9223372036854775808) ∧ IntKind.u64.wrap (a / 9223372036854775808) < 18446744073709551616 := by rw [u64_wrap]; omega
  have e1 := call_sub64 0 (IntKind.u64.wrap a) 0 _ _ (by omega) z1.1 z1.2 (by omega) (by omega) (neg_lo a) rfl
  have e2 := call_sub64 0 (IntKind.u64.wrap (a / 9223372036854775808)) (if (0 : Int) < IntKind.u64.wrap a + 0 then 1 else 0) _ _ (by omega) z2.1 z2.2 (by split <;> omega) (by split <;> omega) (neg_hi a ha ha') rfl
  generalize (if (0 : Int) < IntKind.u64.wrap a + 0 then (1 : Int) else 0) = C at *
  generalize (if (0 : Int) < IntKind.u64.wrap (a / 9223372036854775808) + C then (1 : Int) else 0) = C2 at *
  clear z1 z2
  go_enter Try.func41, Try.ntmps41
  go_wp2
  refine bodyPost_ret (v := .agg #[.int .u64 (hiOf (-a)), .int .u64 (loOf (-a))]) (by simp [results, Try.results41, go_sem]) rfl ⟨rfl, ?_⟩
  exact (Below.refl _ _).alloc (Nat.le_refl _) _
set_option maxHeartbeats 1000000 in
theorem sub_any (a b : Int) (w : World) (ha : -9223372036854775808 ≤ a) (ha' : a ≤ 9223372036854775807) (hb : -9223372036854775808 ≤ b) (hb' : b ≤ 9223372036854775807) :
    Calls Try.prog 32 #[.int .i64 a, .int .i64 b] w fun e w' => e = .returned (.int .i64 (clamp64 (a - b))) ∧ Below w.heap.size w w' := by
  have he : -b + a = a - b := by omega
  go_enter Try.func32, Try.ntmps32
  go_wp2_with (first
    | (go_at_call 41; refine (negative_any b _ hb hb').mono ?_; rintro e w0 ⟨rfl, hb0⟩)
    | (go_at_call 40; refine (plus_one (-b) a _ _ _ (RI_one _ _ _) ha ha').mono ?_; rintro e w1 ⟨rfl, hb1⟩)
    | (go_at_call 39; refine (held_any (a - b) _ (by omega) (by omega)).mono ?_; rintro e w2 ⟨rfl, hb2⟩))
  go_ret
  have h1 := hb0.alloc hb0.size (.cells #[.int .i64 a] 2)
  have h2 := below_then h1 (by simp; exact Nat.le_succ_of_le hb0.size) hb1
  exact ⟨rfl, below_then h2 h2.size hb2⟩
theorem and_sign (a b : Int) (ha : -9223372036854775808 ≤ a) (ha' : a ≤ 9223372036854775807) : Go.bits .and .u64 (IntKind.u64.wrap (a / 9223372036854775808)) (IntKind.u64.wrap b) = if a < 0 then IntKind.u64.wrap b else 0 := by
  have hb : 0 ≤ IntKind.u64.wrap b ∧ IntKind.u64.wrap b < 18446744073709551616 := by rw [u64_wrap]; omega
  generalize IntKind.u64.wrap b = y at *
  by_cases h : a < 0
  · have e : IntKind.u64.wrap (a / 9223372036854775808) = 18446744073709551615 := by rw [u64_wrap]; omega
    rw [if_pos h, e, u64_and _ _ (by omega) (by omega) hb.1 hb.2]
    obtain ⟨Y, rfl⟩ := Int.eq_ofNat_of_zero_le hb.1
    have h2 := Nat.and_two_pow_sub_one_eq_mod Y 64
    have h3 : (18446744073709551615 : Int).toNat = 2 ^ 64 - 1 := by decide
    rw [h3, Int.toNat_natCast, Nat.and_comm, h2]
    omega
  · have e : IntKind.u64.wrap (a / 9223372036854775808) = 0 := by rw [u64_wrap]; omega
    rw [if_neg h, e, u64_and _ _ (by omega) (by omega) hb.1 hb.2]
    simp
theorem mul_parts (a b : Int) (ha : -9223372036854775808 ≤ a) (ha' : a ≤ 9223372036854775807) (hb : -9223372036854775808 ≤ b) (hb' : b ≤ 9223372036854775807) :
    IntKind.u64.wrap (IntKind.u64.wrap a * IntKind.u64.wrap b / 18446744073709551616 - IntKind.u64.wrap ((if a < 0 then IntKind.u64.wrap b else 0) + (if b < 0 then IntKind.u64.wrap a else 0))) = hiOf (a * b) ∧
    IntKind.u64.wrap a * IntKind.u64.wrap b % 18446744073709551616 = loOf (a * b) := by
  simp only [u64_wrap]
  unfold hiOf loOf
  have ea : a % 18446744073709551616 = if a < 0 then a + 18446744073709551616 else a := by split <;> omega
  have eb : b % 18446744073709551616 = if b < 0 then b + 18446744073709551616 else b := by split <;> omega
  rw [ea, eb]
  by_cases h1 : a < 0
  · by_cases h2 : b < 0
    · simp only [if_pos h1, if_pos h2]
      have e : (a + 18446744073709551616) * (b + 18446744073709551616) = a * b + (a + b + 18446744073709551616) * 18446744073709551616 := by
        rw [Int.add_mul, Int.mul_add, Int.mul_add]; omega
      rw [e]
      generalize a * b = p
      omega
    · simp only [if_pos h1, if_neg h2]
      have e : (a + 18446744073709551616) * b = a * b + b * 18446744073709551616 := by
        rw [Int.add_mul]; omega
      rw [e]
      generalize a * b = p
      omega
  · by_cases h2 : b < 0
    · simp only [if_neg h1, if_pos h2]
      have e : a * (b + 18446744073709551616) = a * b + a * 18446744073709551616 := by
        rw [Int.mul_add]
      rw [e]
      generalize a * b = p
      omega
    · simp only [if_neg h1, if_neg h2]
      generalize a * b = p
      exact ⟨by omega, trivial⟩
theorem mul_bd (a b : Int) (ha : -9223372036854775808 ≤ a) (ha' : a ≤ 9223372036854775807) (hb : -9223372036854775808 ≤ b) (hb' : b ≤ 9223372036854775807) :
    -170141183460469231731687303715884105728 ≤ a * b ∧ a * b < 170141183460469231731687303715884105728 := by
  have h1 : a.natAbs ≤ 9223372036854775808 := by omega
  have h2 : b.natAbs ≤ 9223372036854775808 := by omega
  have h3 := Nat.mul_le_mul h1 h2
  rw [← Int.natAbs_mul] at h3
  omega
end Go.Proofs.Ytfemmbipglpalaa.Sat
