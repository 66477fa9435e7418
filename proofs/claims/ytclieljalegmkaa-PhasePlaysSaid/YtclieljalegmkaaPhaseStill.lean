/- Swings; PhaseStill: what each comes to; no condition but the ranges in each. -/
import Derived.Test.YtclieljalegmkaaPhaseMoves
import Derived.Test.YtclieljalegmkaaPhaseLaw2
namespace Go.Proofs.Ytclieljalegmkaa.Phase
open Go.RowKit Go.Proofs.Ytclieljalegmkaa.Plain Go.Proofs.Ytclieljalegmkaa.Heap Go.Proofs.Ytclieljalegmkaa.Float Go.Proofs.Ytclieljalegmkaa.Open

/-- A share, held. -/
def cl (v : Int) : Int := if v < 0 then 0 else if v > 256 then 256 else v
theorem cl_bd (v : Int) : 0 ≤ cl v ∧ cl v ≤ 256 := by unfold cl; split <;> (try split) <;> omega
def swg (P : Int × Int × Int) (v : Int) : Bool := decide ((P.1 + P.2.1 + P.2.2) * cl v < (P.2.1 + P.2.2) * 256)
theorem mul64_small (x y q : Int) (w : World) (hx : 0 ≤ x) (hx' : x < 18446744073709551616) (hy : 0 ≤ y) (hy' : y < 18446744073709551616) (hq : x * y = q) (h0 : 0 ≤ q) (h1 : q < 18446744073709551616) : Calls Try.prog 25 #[.int .u64 x, .int .u64 y] w fun e w' => e = .returned (.tuple #[.int .u64 0, .int .u64 q]) ∧ w = w' := by
  have h := Sat.mul64_any x y w hx hx' hy hy'
  rw [hq, show q / 18446744073709551616 = 0 by omega, show q % 18446744073709551616 = q by omega] at h
  exact h
set_option maxRecDepth 10000 in
set_option maxHeartbeats 1000000 in
theorem swings_pp {B : Nat} {w0 w : World} {p q : Nat} {L M : List Int} (h : PP B w0 w p q L M) (hl : L.length ≤ 64) (v : Int) : Calls Try.prog 18 #[.pointer (some ⟨p, 0, none⟩), .int .i64 v] w
    fun e w' => e = .returned (.bool (swg (powers L) v)) ∧ PP B w0 w' p q L M := by
  have hb := powers_bd L
  have hc := cl_bd v
  have HH := Lib.hid h
  have HL := Lib.hid hl
  clear h hl
  obtain ⟨P1, P2, P3, hP⟩ : ∃ a b c, powers L = (a, b, c) := ⟨_, _, _, rfl⟩
  have HP := Lib.hid hP
  rw [hP] at hb ⊢
  simp only at hb
  obtain ⟨C, hC⟩ : ∃ C, cl v = C := ⟨_, rfl⟩
  rw [hC] at hc
  obtain ⟨T, hT⟩ : ∃ T, P2 + P3 = T := ⟨_, rfl⟩
  obtain ⟨Q, hQ⟩ : ∃ Q, (P1 + P2 + P3) * C = Q := ⟨_, rfl⟩
  have hQ0 : 0 ≤ Q := by rw [← hQ]; exact Int.mul_nonneg (by omega) (by omega)
  have hQ1 : Q ≤ (P1 + P2 + P3) * 256 := by rw [← hQ]; exact Int.mul_le_mul_of_nonneg_left (by omega) (by omega)
  have hs : swg (P1, P2, P3) v = decide (Q < T * 256) := by unfold swg; simp only; rw [hC, hQ, hT]
  rw [hs]
  have t1 : wrap64 (P2 + P3) = T := by rw [hT]; exact w64 (by omega) (by omega)
  have t2 : wrap64 (P1 + P2) = P1 + P2 := w64 (by omega) (by omega)
  have t3 : wrap64 (P1 + P2 + P3) = P1 + P2 + P3 := w64 (by omega) (by omega)
  have t4 : IntKind.u64.wrap T = T := by rw [Sat.u64_wrap]; omega
  have t5 : IntKind.u64.wrap (P1 + P2 + P3) = P1 + P2 + P3 := by rw [Sat.u64_wrap]; omega
  have t6 : IntKind.u64.wrap C = C := by rw [Sat.u64_wrap]; omega
  have HQ := Lib.hid hQ
  have HC := Lib.hid hC
  have HB := Lib.hid (show 0 ≤ T ∧ T < 72057594037927936 ∧ 0 ≤ P1 + P2 + P3 ∧ P1 + P2 + P3 < 72057594037927936 ∧ 0 ≤ Q ∧ Q < 18446744073709551616 by omega)
  clear hQ hC hT hb hQ0 hQ1 hs hP
  go_enter Try.func18, Try.ntmps18
  go_wp2_with fail
  refine (HH.out.powers HL.out).mono ?_
  rintro e w1 ⟨rfl, h1⟩
  rw [HP.out]
  have H1 := Lib.hid h1
  clear h1
  go_wp2_with fail
  refine (mul64_small T 256 (T * 256) _ HB.out.1 (by have := HB.out; omega) (by decide) (by decide) rfl (by have := HB.out; omega) (by have := HB.out; omega)).mono ?_
  rintro e w2 ⟨rfl, rfl⟩
  go_wp2_with fail
  refine (Sat.clamp_any _ _ _ _).mono ?_
  rintro e w2 ⟨rfl, rfl⟩
  rw [show (if v < 0 then 0 else if v > 256 then 256 else v) = C from HC.out]
  go_wp2_with fail
  refine (mul64_small (P1 + P2 + P3) C Q _ HB.out.2.2.1 (by have := HB.out; omega) hc.1 (by omega) HQ.out HB.out.2.2.2.2.1 HB.out.2.2.2.2.2).mono ?_
  rintro e w2 ⟨rfl, rfl⟩
  go_wp2
  go_ret
  first | exact ⟨rfl, H1.out⟩ | exact ⟨rfl, H1.out.run (below_drewN (Below.refl _ _) _)⟩
/-- The last 64 of the first i values. -/
def lastL (g : Nat → Int) (i : Nat) : List Int := ((List.range i).map g).drop (i - 64)
theorem lastL_len (g : Nat → Int) (i : Nat) : (lastL g i).length = i - (i - 64) := by simp [lastL]
theorem lastL_step (g : Nat → Int) (i : Nat) (hg : hold (g i) = g i) : pstep (lastL g i) (g i) = lastL g (i + 1) := by
  have e : lastL g i ++ [g i] = ((List.range (i + 1)).map g).drop (i - 64) := by
    unfold lastL
    rw [List.range_succ, List.map_append, List.drop_append_of_le_length (by simp)]
    rfl
  unfold pstep
  rw [hg, e]
  have hl : (((List.range (i + 1)).map g).drop (i - 64)).length = i + 1 - (i - 64) := by simp
  rw [hl]
  by_cases h : 64 < i + 1 - (i - 64)
  · have e1 : i - 64 + (i + 1 - (i - 64) - 64) = i + 1 - 64 := by omega
    have e2 : i + 1 - (i - 64) - 64 + (i - 64) = i + 1 - 64 := by omega
    rw [if_pos h, List.drop_drop]
    unfold lastL
    first | rw [e1] | rw [e2]
  · have e3 : i - 64 = i + 1 - 64 := by omega
    rw [if_neg h]
    unfold lastL
    rw [← e3]
theorem lastL_getD (g : Nat → Int) (i r j : Nat) (h : r + j < i - (i - 64)) : ((lastL g i).drop r).getD j 0 = g (i - 64 + r + j) := by
  unfold lastL
  rw [List.getD_eq_getElem?_getD, List.drop_drop, List.getElem?_drop, List.getElem?_map, List.getElem?_range (by omega)]
  simp
theorem powers_form (L : List Int) (hl : 4 ≤ L.length) (q f : Int) (n : Nat) (hn : n = L.length / 4) (h : acc (L.drop (L.length % 4)) n = ((q * (n : Int), (0 : Int), (0 : Int), f * (n : Int)) : A4)) : powers L = (q * q, 0, f * f) := by
  have hn1 : 1 ≤ (n : Int) := by omega
  have hp : (n : Int) * n ≠ 0 := by
    have := Int.mul_pos (show (0 : Int) < n by omega) (show (0 : Int) < n by omega)
    omega
  unfold powers
  rw [if_neg (by omega), ← hn, h]
  simp only
  have e : ∀ z : Int, z * (n : Int) * (z * (n : Int)) / ((n : Int) * n) = z * z := fun z => by
    rw [show z * (n : Int) * (z * (n : Int)) = z * z * ((n : Int) * n) by grind]
    exact Int.mul_ediv_cancel _ hp
  rw [e, e]
  simp
theorem still_powers (x : Int) (hx : hold x = x) (i : Nat) (hi : 4 ≤ i) : powers (lastL (fun _ => x) i) = ((4 * x) * (4 * x), 0, 0 * 0) := by
  have hl := lastL_len (fun _ => x) i
  refine powers_form _ (by omega) (4 * x) 0 _ rfl ?_
  have h : ∀ k, 4 * k + (lastL (fun _ => x) i).length % 4 ≤ (lastL (fun _ => x) i).length → acc ((lastL (fun _ => x) i).drop ((lastL (fun _ => x) i).length % 4)) k = ((4 * x * (k : Int), (0 : Int), (0 : Int), 0 * (k : Int)) : A4) := by
    intro k
    induction k with
    | zero => intro _; simp [acc]
    | succ k ih =>
      intro hk
      unfold acc
      rw [ih (by omega), lastL_getD _ _ _ _ (by omega), lastL_getD _ _ _ _ (by omega), lastL_getD _ _ _ _ (by omega), lastL_getD _ _ _ _ (by omega)]
      simp only [add4, hx]
      refine Prod.ext ?_ (Prod.ext ?_ (Prod.ext ?_ ?_)) <;> simp only <;> grind
  exact h _ (by omega)
/-- Up and down. -/
def ud (x : Int) (i : Nat) : Int := if i % 2 = 0 then x else -x
theorem ud_powers (x : Int) (h1 : hold x = x) (h2 : hold (-x) = -x) (i : Nat) (hi : 4 ≤ i) : powers (lastL (ud x) i) = (0 * 0, 0, (4 * x) * (4 * x)) := by
  have hl := lastL_len (ud x) i
  have hh : ∀ j, hold (ud x j) = ud x j := fun j => by unfold ud; split <;> assumption
  obtain ⟨o, ho⟩ : ∃ o, o = i - 64 + (lastL (ud x) i).length % 4 := ⟨_, rfl⟩
  have hn : ∀ j, ud x (j + 1) = -ud x j := fun j => by unfold ud; split <;> split <;> omega
  have h : ∀ k, 4 * k + (lastL (ud x) i).length % 4 ≤ (lastL (ud x) i).length → acc ((lastL (ud x) i).drop ((lastL (ud x) i).length % 4)) k = ((0 * (k : Int), (0 : Int), (0 : Int), 4 * ud x o * (k : Int)) : A4) ∧ ud x (o + 4 * k) = ud x o := by
    intro k
    induction k with
    | zero => intro _; simp [acc]
    | succ k ih =>
      intro hk
      obtain ⟨i1, i2⟩ := ih (by omega)
      have e1 := hn (o + 4 * k)
      have e2 := hn (o + 4 * k + 1)
      have e3 := hn (o + 4 * k + 2)
      have e4 := hn (o + 4 * k + 3)
      refine ⟨?_, by rw [show o + 4 * (k + 1) = o + 4 * k + 3 + 1 by omega, e4, show o + 4 * k + 3 = o + 4 * k + 2 + 1 by omega, e3, show o + 4 * k + 2 = o + 4 * k + 1 + 1 by omega, e2, e1, i2]; omega⟩
      unfold acc
      rw [i1, lastL_getD _ _ _ _ (by omega), lastL_getD _ _ _ _ (by omega), lastL_getD _ _ _ _ (by omega), lastL_getD _ _ _ _ (by omega), ← ho]
      rw [show o + (4 * k + 1) = o + 4 * k + 1 by omega, show o + (4 * k + 2) = o + 4 * k + 1 + 1 by omega, show o + (4 * k + 3) = o + 4 * k + 1 + 1 + 1 by omega, hh, hh, hh, hh]
      rw [hn (o + 4 * k + 1 + 1), hn (o + 4 * k + 1), hn (o + 4 * k), i2]
      simp only [add4]
      refine Prod.ext ?_ (Prod.ext ?_ (Prod.ext ?_ ?_)) <;> simp only <;> grind
  have hf := powers_form (lastL (ud x) i) (by omega) 0 (4 * ud x o) _ rfl (h _ (by omega)).1
  rw [hf]
  have : 4 * ud x o * (4 * ud x o) = 4 * x * (4 * x) := by
    unfold ud
    split
    · rfl
    · grind
  rw [this]
theorem sq_pos (x : Int) (h : x ≠ 0) : 0 < x * x := by
  rcases Int.lt_or_gt_of_ne h with h | h
  · have := Int.mul_pos (show (0 : Int) < -x by omega) (show (0 : Int) < -x by omega)
    rwa [Int.neg_mul_neg] at this
  · exact Int.mul_pos h h
set_option maxRecDepth 10000 in
set_option maxHeartbeats 1000000 in
theorem PhaseStill_any (v n share : Int) (w : World) : Calls Try.prog 9 #[.int .i64 v, .int .i64 n, .int .i64 share] w fun e w' => e = .returned (.bool true) ∧ Below w.heap.size w w' := by
  have m0 := Int.emod_nonneg n (show (100 : Int) ≠ 0 by omega)
  have m1 := Int.emod_lt_of_pos n (show (0 : Int) < 100 by omega)
  obtain ⟨K, hK⟩ : ∃ K : Nat, (K : Int) = 4 + n % 100 := ⟨(4 + n % 100).toNat, by omega⟩
  have mx := tmod_bd v (m := 33554432) (by omega)
  obtain ⟨x, ex⟩ : ∃ q, v.tmod 33554432 = q := ⟨_, rfl⟩
  rw [ex] at mx
  have tx : wrap64 x = x := w64 (by omega) (by omega)
  have tnx : wrap64 (-x) = -x := w64 (by omega) (by omega)
  have h1 := hold_id (x := x) (by omega) (by omega)
  have h2 := hold_id (x := -x) (by omega) (by omega)
  have hK4 : 4 ≤ K := by omega
  have hK2 : K ≤ 103 := by omega
  have tK : wrap64 (4 + n % 100) = (K : Int) := by rw [← hK]; exact w64 (by omega) (by omega)
  have hp1 := still_powers x h1 K hK4
  have hp2 := ud_powers x h1 h2 K hK4
  have hsq := sq25 mx.1 mx.2
  obtain ⟨XX, hXX⟩ : ∃ q, x * x = q := ⟨_, rfl⟩
  have e16 : 4 * x * (4 * x) = 16 * x * x := by grind
  have e16' : 16 * x * x = 16 * XX := by rw [← hXX]; grind
  rw [e16, e16'] at hp1 hp2
  rw [hXX] at hsq
  rw [show (0 : Int) * 0 = 0 from rfl] at hp1 hp2
  have t16 : wrap64 (16 * x) = 16 * x := w64 (by omega) (by omega)
  have t16' : wrap64 (16 * x * x) = 16 * XX := by rw [e16']; exact w64 (by omega) (by omega)
  have hc := cl_bd share
  have hw1 : swg (16 * XX, 0, 0) share = false := by
    unfold swg
    simp only
    refine decide_eq_false ?_
    have : 0 ≤ (16 * XX + 0 + 0) * cl share := Int.mul_nonneg (by omega) (by omega)
    omega
  have hw2 : swg (0, 0, 16 * XX) 255 = (x != 0) := by
    unfold swg
    rw [show cl 255 = 255 by decide]
    simp only
    by_cases hx : x = 0
    · subst hx
      have : XX = 0 := by rw [← hXX]; rfl
      subst this
      rfl
    · have hpos := sq_pos x hx
      rw [hXX] at hpos
      rw [decide_eq_true (by omega)]
      simp [hx]
  have HP1 := Lib.hid hp1
  have HP2 := Lib.hid hp2
  have HW1 := Lib.hid hw1
  have HW2 := Lib.hid hw2
  have HK := Lib.hid hK
  have HH1 := Lib.hid h1
  have HH2 := Lib.hid h2
  clear hp1 hp2 hw1 hw2 hc hsq hXX e16 e16' h1 h2
  go_enter Try.func9, Try.ntmps9
  go_wp2_with fail
  refine (mod_any n 100 _ (by decide) (by decide)).mono ?_
  rintro e w1 ⟨rfl, rfl⟩
  clear hK m0 m1
  generalize n % 100 = m at *
  go_wp2_with fail
  refine (new_any _).mono ?_
  rintro e w1 ⟨rfl, rfl⟩
  go_wp2_with fail
  refine (new_any _).mono ?_
  rintro e w2 ⟨rfl, rfl⟩
  obtain ⟨p, hp⟩ : ∃ p, p = w.heap.size := ⟨_, rfl⟩
  generalize hW : World.alloc (World.alloc w _) _ = W0
  have hPP : PP w.heap.size w W0 p (w.heap.size + 1) [] [] := by
    rw [← hW, hp]
    refine ⟨by omega, by omega, by omega, by simp; omega, ((Below.refl _ _).alloc (Nat.le_refl _) _).alloc (by simp) _, .slice none 0 0, .slice none 0 0, ?_, ?_, .inl ⟨rfl, rfl⟩, .inl ⟨rfl, rfl⟩⟩
    · exact (heap_alloc_old _ _ (by simp)).trans (heap_alloc_new w _)
    · have h := heap_alloc_new (w.alloc (.cells #[.slice none 0 0] 57)) (.cells #[.slice none 0 0] 57)
      rwa [show (w.alloc (.cells #[.slice none 0 0] 57)).heap.size = w.heap.size + 1 by simp] at h
  rw [show (w.alloc (.cells #[.slice none 0 0] 57)).heap.size = w.heap.size + 1 by simp]
  obtain ⟨q, hq⟩ : ∃ q, q = w.heap.size + 1 := ⟨_, rfl⟩
  rw [← hq] at hPP ⊢
  rw [← hp]
  have HPP := Lib.hid hPP
  clear hPP hW hq hp tK
  go_wp2
  go_loopw [11] (fun iv wr => ∃ i : Nat, i ≤ K ∧ iv = .int .i64 i ∧ PP w.heap.size w wr p q (lastL (fun _ => x) i) (lastL (ud x) i)) (fun iv _ => K - (intOf iv).toNat)
  case atStart => exact ⟨0, by omega, rfl, HPP.out⟩
  case round =>
    obtain ⟨i, hi, rfl, hpp⟩ := hrel
    have HQ := Lib.hid hpp
    have hla : (lastL (fun _ => x) i).length ≤ 64 := by rw [lastL_len]; omega
    have hlb : (lastL (ud x) i).length ≤ 64 := by rw [lastL_len]; omega
    have HLa := Lib.hid hla
    have HLb := Lib.hid hlb
    clear hpp HPP hla hlb
    by_cases hlt : i < K
    · have HS1 := Lib.hid (lastL_step (fun _ => x) i HH1.out)
      rcases Nat.mod_two_eq_zero_or_one i with hpar | hpar
      · have hu : ud x i = x := by unfold ud; rw [if_pos hpar]
        have hs2 := lastL_step (ud x) i (by rw [hu]; exact HH1.out)
        rw [hu] at hs2
        have HS2 := Lib.hid hs2
        have hpi : (i : Int) % 2 = 0 := by omega
        clear hs2 hu hpar
        · skip
          go_wp2_with fail
          refine (HQ.out.add x HLa.out).mono ?_
          rintro e w1 ⟨rfl, h1⟩
          rw [HS1.out] at h1
          have H1 := Lib.hid h1
          clear h1
          go_wp2_with fail
          refine (H1.out.swap.add (x) HLb.out).mono ?_
          rintro e w2 ⟨rfl, h2⟩
          rw [HS2.out] at h2
          have H2 := Lib.hid h2.swap
          clear h2
          go_wp2
          go_roundw
          case rel => exact ⟨i + 1, by omega, by go_num, H2.out⟩
          case measure => simp [intOf]; omega
      · have hu : ud x i = -x := by unfold ud; rw [if_neg (by omega)]
        have hs2 := lastL_step (ud x) i (by rw [hu]; exact HH2.out)
        rw [hu] at hs2
        have HS2 := Lib.hid hs2
        have hpi : (i : Int) % 2 = 1 := by omega
        clear hs2 hu hpar
        · skip
          go_wp2_with fail
          refine (HQ.out.add x HLa.out).mono ?_
          rintro e w1 ⟨rfl, h1⟩
          rw [HS1.out] at h1
          have H1 := Lib.hid h1
          clear h1
          go_wp2_with fail
          refine (H1.out.swap.add (-x) HLb.out).mono ?_
          rintro e w2 ⟨rfl, h2⟩
          rw [HS2.out] at h2
          have H2 := Lib.hid h2.swap
          clear h2
          go_wp2
          go_roundw
          case rel => exact ⟨i + 1, by omega, by go_num, H2.out⟩
          case measure => simp [intOf]; omega
    · obtain rfl : i = K := by omega
      go_wp2_with fail
      refine (HQ.out.powers HLa.out).mono ?_
      rintro e w1 ⟨rfl, h1⟩
      rw [HP1.out]
      have H1 := Lib.hid h1
      clear h1
      go_wp2_with fail
      refine (H1.out.swap.powers HLb.out).mono ?_
      rintro e w2 ⟨rfl, h2⟩
      rw [HP2.out]
      have H2 := Lib.hid h2.swap
      clear h2
      go_wp2_with fail
      refine (swings_pp H2.out HLa.out share).mono ?_
      rintro e w3 ⟨rfl, h3⟩
      rw [HP1.out, HW1.out]
      have H3 := Lib.hid h3
      clear h3
      go_wp2_with fail
      refine (swings_pp H3.out.swap HLb.out 255).mono ?_
      rintro e w4 ⟨rfl, h4⟩
      rw [HP2.out, HW2.out]
      have H4 := Lib.hid h4.swap
      clear h4
      go_wp2_with fail
      refine (wakes_any _).mono ?_
      rintro e w5 ⟨rfl, h5⟩
      have H5 := Lib.hid h5
      clear h5
      go_wp2
      go_ret
      exact ⟨rfl, below_then H4.out.below H4.out.sz H5.out⟩
end Go.Proofs.Ytclieljalegmkaa.Phase
