/- What Powers and Swings come to; no condition but the ranges in each. -/
import Derived.Test.YtclieljalegmkaaPhaseAdd
namespace Go.Proofs.Ytclieljalegmkaa.Phase
open Go.RowKit Go.Proofs.Ytclieljalegmkaa.Plain Go.Proofs.Ytclieljalegmkaa.Heap Go.Proofs.Ytclieljalegmkaa.Float Go.Proofs.Ytclieljalegmkaa.Open

abbrev A4 : Type := Int × Int × Int × Int
/-- The four sums of one group more. -/
def add4 (s : A4) (a b c d : Int) : A4 := (s.1 + (a + b + c + d), s.2.1 + (a - c), s.2.2.1 + (b - d), s.2.2.2 + (a - b + c - d))
/-- The four sums of the first k groups. -/
def acc (M : List Int) : Nat → A4
  | 0 => (0, 0, 0, 0)
  | k + 1 => add4 (acc M k) (hold (M.getD (4 * k) 0)) (hold (M.getD (4 * k + 1) 0)) (hold (M.getD (4 * k + 2) 0)) (hold (M.getD (4 * k + 3) 0))
theorem acc_bd (M : List Int) (k : Nat) : -134217728 * (k : Int) ≤ (acc M k).1 ∧ (acc M k).1 ≤ 134217728 * (k : Int) ∧ -67108864 * (k : Int) ≤ (acc M k).2.1 ∧ (acc M k).2.1 ≤ 67108864 * (k : Int) ∧
    -67108864 * (k : Int) ≤ (acc M k).2.2.1 ∧ (acc M k).2.2.1 ≤ 67108864 * (k : Int) ∧ -134217728 * (k : Int) ≤ (acc M k).2.2.2 ∧ (acc M k).2.2.2 ≤ 134217728 * (k : Int) := by
  induction k with
  | zero => simp [acc]
  | succ k ih =>
    have ha := hold_bd (M.getD (4 * k) 0)
    have hb := hold_bd (M.getD (4 * k + 1) 0)
    have hc := hold_bd (M.getD (4 * k + 2) 0)
    have hd := hold_bd (M.getD (4 * k + 3) 0)
    simp only [acc, add4]
    omega
theorem sq_bd {a b : Int} (h0 : -b ≤ a) (h1 : a ≤ b) : 0 ≤ a * a ∧ a * a ≤ b * b := by
  have hb : 0 ≤ b := by omega
  rcases Int.le_total 0 a with h | h
  · exact ⟨Int.mul_nonneg h h, Int.mul_le_mul h1 h1 h hb⟩
  · have e : a * a = (-a) * (-a) := by rw [Int.neg_mul_neg]
    rw [e]
    exact ⟨Int.mul_nonneg (by omega) (by omega), Int.mul_le_mul (by omega) (by omega) (by omega) hb⟩
/-- The powers of the last samples. -/
def powers (L : List Int) : Int × Int × Int :=
  if L.length < 4 then (0, 0, 0)
  else
    let s := acc (L.drop (L.length % 4)) (L.length / 4)
    let n : Int := (L.length / 4 : Nat)
    (s.1 * s.1 / (n * n), (s.2.1 * s.2.1 + s.2.2.1 * s.2.2.1) / (n * n), s.2.2.2 * s.2.2.2 / (n * n))
theorem quo_bd {S n q : Int} (hn : 1 ≤ n) (h0 : 0 ≤ S) (h1 : S ≤ q * (n * n)) : 0 ≤ S / (n * n) ∧ S / (n * n) ≤ q := by
  have hp : 0 < n * n := Int.mul_pos (by omega) (by omega)
  exact ⟨Int.ediv_nonneg h0 (by omega), Int.ediv_le_of_le_mul hp h1⟩
theorem powers_bd (L : List Int) : 0 ≤ (powers L).1 ∧ (powers L).1 ≤ 18014398509481984 ∧ 0 ≤ (powers L).2.1 ∧ (powers L).2.1 ≤ 9007199254740992 ∧ 0 ≤ (powers L).2.2 ∧ (powers L).2.2 ≤ 18014398509481984 := by
  unfold powers
  split
  · simp
  · rename_i hl
    have hb := acc_bd (L.drop (L.length % 4)) (L.length / 4)
    generalize acc (L.drop (L.length % 4)) (L.length / 4) = s at *
    obtain ⟨n, hn⟩ : ∃ n : Int, n = ((L.length / 4 : Nat) : Int) := ⟨_, rfl⟩
    rw [← hn] at hb
    have hn1 : 1 ≤ n := by omega
    have h1 := sq_bd (a := s.1) (b := 134217728 * n) (by omega) (by omega)
    have h2 := sq_bd (a := s.2.1) (b := 67108864 * n) (by omega) (by omega)
    have h3 := sq_bd (a := s.2.2.1) (b := 67108864 * n) (by omega) (by omega)
    have h4 := sq_bd (a := s.2.2.2) (b := 134217728 * n) (by omega) (by omega)
    have e1 : 134217728 * n * (134217728 * n) = 18014398509481984 * (n * n) := by
      rw [Int.mul_assoc, Int.mul_left_comm n 134217728 n, ← Int.mul_assoc]
      rfl
    have e2 : 67108864 * n * (67108864 * n) = 4503599627370496 * (n * n) := by
      rw [Int.mul_assoc, Int.mul_left_comm n 67108864 n, ← Int.mul_assoc]
      rfl
    rw [e1] at h1 h4
    rw [e2] at h2 h3
    simp only [← hn]
    have q1 := quo_bd (q := 18014398509481984) hn1 h1.1 h1.2
    have q2 := quo_bd (S := s.2.1 * s.2.1 + s.2.2.1 * s.2.2.1) (q := 9007199254740992) hn1 (by omega) (by omega)
    have q3 := quo_bd (q := 18014398509481984) hn1 h4.1 h4.2
    exact ⟨q1.1, q1.2, q2.1, q2.2, q3.1, q3.2⟩
theorem meas (m k j : Nat) (hj : j = 4 * k) (h : j + 3 < m) : m - ((4 * (k + 1) : Nat) : Int).toNat < m - ((j : Nat) : Int).toNat := by omega
theorem meas' (m k j : Nat) (x : Int) (hx : x = ((4 * (k + 1) : Nat) : Int)) (hj : j = 4 * k) (h : j + 3 < m) : m - (intOf (.int .i64 x)).toNat < m - (intOf (.int .i64 ((j : Nat) : Int))).toNat := by
  have h2 := meas m k j hj h
  rw [hx]
  exact h2
set_option maxRecDepth 10000 in
set_option maxHeartbeats 1000000 in
theorem powers_few (B p : Nat) (L : List Int) (w : World) (h : PR w B p L) (hl : L.length < 4) : Calls Try.prog 17 #[.pointer (some ⟨p, 0, none⟩)] w
    fun e w' => e = .returned (.tuple #[.int .i64 (powers L).1, .int .i64 (powers L).2.1, .int .i64 (powers L).2.2]) ∧ Below w.heap.size w w' := by
  have e : powers L = (0, 0, 0) := by unfold powers; rw [if_pos hl]
  rw [e]
  obtain ⟨v, hb, hs⟩ := h
  obtain ⟨A, c, rfl⟩ := hs.shape
  have hp : p < w.heap.size := (Array.getElem?_eq_some_iff.1 hb).1
  have c0 : w.cell? ⟨p, 0, none⟩ = some (.slice A L.length c) := by simp [World.cell?, hb]
  clear hb hs
  go_enter Try.func17, Try.ntmps17
  go_wp2
  refine bodyPost_ret (v := .tuple #[.int .i64 0, .int .i64 0, .int .i64 0]) (by simp [results, Try.results17, go_sem]) rfl ⟨rfl, ?_⟩
  first | exact Below.refl _ _ | exact below_drewN (Below.refl _ _) _
set_option maxRecDepth 10000 in
set_option maxHeartbeats 1000000 in
theorem powers_many (B p : Nat) (L : List Int) (w : World) (h : PR w B p L) (hl : 4 ≤ L.length) (hl2 : L.length ≤ 64) : Calls Try.prog 17 #[.pointer (some ⟨p, 0, none⟩)] w
    fun e w' => e = .returned (.tuple #[.int .i64 (powers L).1, .int .i64 (powers L).2.1, .int .i64 (powers L).2.2]) ∧ Below w.heap.size w w' := by
  obtain ⟨v, hb, hs⟩ := h
  rcases hs with ⟨_, rfl⟩ | ⟨g, off, cap, cs, t, rfl, h1, h2, h3, h4, h5, h6⟩
  · simp at hl
  · have hp : p < w.heap.size := (Array.getElem?_eq_some_iff.1 hb).1
    have c0 : w.cell? ⟨p, 0, none⟩ = some (.slice (some ⟨g, off, none⟩) L.length cap) := by simp [World.cell?, hb]
    have hg : g < w.heap.size := (Array.getElem?_eq_some_iff.1 h3).1
    have H3 := Lib.hid h3
    have H6 := Lib.hid h6
    clear hb h3 h6
    obtain ⟨N, hN⟩ : ∃ N, L.length = N := ⟨_, rfl⟩
    rw [hN] at c0 h4 hl hl2
    obtain ⟨r, hr⟩ : ∃ r, r = N % 4 := ⟨_, rfl⟩
    obtain ⟨n, hn⟩ : ∃ n, n = N / 4 := ⟨_, rfl⟩
    have hr3 : r ≤ 3 := by omega
    have e1 : (N : Int) % 4 = (r : Int) := by omega
    have e2 : (N : Int) / 4 = (n : Int) := by omega
    have hr0 : (0 : Int) ≤ (r : Int) := by omega
    have hr1 : (r : Int) ≤ (N : Int) := by omega
    have hr2 : (N : Int) ≤ (cap : Int) := by omega
    have HN := Lib.hid hN
    have HLen := Lib.hid (show N = 4 * n + r by omega)
    have HR := Lib.hid hr
    have HNn := Lib.hid hn
    clear hN hr hn
    go_enter Try.func17, Try.ntmps17
    go_wp2_with fail
    go_region
    go_wp2_with fail
    obtain ⟨m, hm⟩ : ∃ m, m = 4 * n := ⟨_, rfl⟩
    have hnr : N - r = m := by have := HLen.out; omega
    have hn16 : n ≤ 16 := by have := HLen.out; omega
    simp only [hnr]
    obtain ⟨M, hM⟩ : ∃ M, M = L.drop r := ⟨_, rfl⟩
    have hcell : ∀ j, j < 4 * n → w.cell? ⟨g, off + r + j, none⟩ = some (.int .i64 (M.getD j 0)) := fun j hj => by
      have hj2 : r + j < L.length := by rw [HN.out, HLen.out]; omega
      have hL : L[r + j]? = some (M.getD j 0) := by
        rw [hM, List.getD_eq_getElem?_getD, List.getElem?_drop, List.getElem?_eq_getElem hj2]
        rfl
      have := H6.out _ _ hL
      have h3 := H3.out
      simp only [World.cell?, h3]
      rw [show off + r + j = off + (r + j) by omega]
      exact this
    have HC := Lib.hid hcell
    have HM := Lib.hid hM
    have HMn := Lib.hid hm
    have HL4 := Lib.hid hl
    clear hcell hM hnr hl hr0 hr1 e1 e2 hm
    go_loopw [7, 8, 9, 10] (fun wv fv zv iv wr => ∃ (k zx zy : Nat), k ≤ n ∧ iv = .int .i64 ((4 * k : Nat) : Int) ∧ wv = .int .i64 (acc M k).1 ∧ fv = .int .i64 (acc M k).2.2.2 ∧ zv = .complex .f64 zx zy ∧ FI zx (acc M k).2.1 ∧ FI zy (acc M k).2.2.1 ∧ Below w.heap.size w wr) (fun _ _ _ iv _ => m - (intOf iv).toNat)
    case atStart => exact ⟨0, 0, 0, by omega, rfl, rfl, rfl, rfl, FI0, FI0, below_drewN (Below.refl _ _) 1⟩
    case round =>
      obtain ⟨k, zx, zy, hk, rfl, rfl, rfl, rfl, hx, hy, hbel⟩ := hrel
      have hbd := acc_bd M k
      have HX := Lib.hid hx
      have HY := Lib.hid hy
      have HBel := Lib.hid hbel
      clear hx hy
      by_cases hlt : k < n
      · have hs : acc M (k + 1) = add4 (acc M k) (hold (M.getD (4 * k) 0)) (hold (M.getD (4 * k + 1) 0)) (hold (M.getD (4 * k + 2) 0)) (hold (M.getD (4 * k + 3) 0)) := rfl
        have y0 := (hbel.cell (p := ⟨g, off + r + 4 * k, none⟩) hg).trans (HC.out (4 * k) (by omega))
        have y1 := (hbel.cell (p := ⟨g, off + r + (4 * k + 1), none⟩) hg).trans (HC.out (4 * k + 1) (by omega))
        have y2 := (hbel.cell (p := ⟨g, off + r + (4 * k + 2), none⟩) hg).trans (HC.out (4 * k + 2) (by omega))
        have y3 := (hbel.cell (p := ⟨g, off + r + (4 * k + 3), none⟩) hg).trans (HC.out (4 * k + 3) (by omega))
        clear hbel
        generalize hsum : acc M (k + 1) = S' at *
        generalize M.getD (4 * k) 0 = a at *
        generalize M.getD (4 * k + 1) 0 = b at *
        generalize M.getD (4 * k + 2) 0 = c at *
        generalize M.getD (4 * k + 3) 0 = d at *
        generalize acc M k = S at *
        have hmk := HMn.out
        obtain ⟨j, hj⟩ : ∃ j, j = 4 * k := ⟨_, rfl⟩
        have hjm : j + 3 < m := by omega
        clear hmk
        rw [← hj] at y0 y1 y2 y3
        obtain ⟨j1, hj1⟩ : ∃ j1, j1 = j + 1 := ⟨_, rfl⟩
        obtain ⟨j2, hj2⟩ : ∃ j2, j2 = j + 2 := ⟨_, rfl⟩
        obtain ⟨j3, hj3⟩ : ∃ j3, j3 = j + 3 := ⟨_, rfl⟩
        rw [← hj1] at y1
        rw [← hj2] at y2
        rw [← hj3] at y3
        have b0 : (j : Int) < (m : Int) := by have := HMn.out; omega
        have b1 : (j1 : Int) < (m : Int) := by have := HMn.out; omega
        have b2 : (j2 : Int) < (m : Int) := by have := HMn.out; omega
        have b3 : (j3 : Int) < (m : Int) := by have := HMn.out; omega
        have d0 : (0 : Int) ≤ (j : Int) := by omega
        have d1 : (0 : Int) ≤ (j1 : Int) := by omega
        have d2 : (0 : Int) ≤ (j2 : Int) := by omega
        have d3 : (0 : Int) ≤ (j3 : Int) := by omega
        have a0 : j < m := by have := HMn.out; omega
        have a1 : j1 < m := by have := HMn.out; omega
        have a2 : j2 < m := by have := HMn.out; omega
        have a3 : j3 < m := by have := HMn.out; omega
        have v1 : IntKind.i64.wrap ((j : Int) + 1) = (j1 : Int) := by rw [show (j1 : Int) = (j : Int) + 1 by omega]; exact IntWalk.i64_in _ (by omega)
        have v2 : IntKind.i64.wrap ((j : Int) + 2) = (j2 : Int) := by clear v1; rw [show (j2 : Int) = (j : Int) + 2 by omega]; exact IntWalk.i64_in _ (by omega)
        have v3 : IntKind.i64.wrap ((j : Int) + 3) = (j3 : Int) := by clear v1 v2; rw [show (j3 : Int) = (j : Int) + 3 by omega]; exact IntWalk.i64_in _ (by omega)
        clear hj1 hj2 hj3
        have HJ := Lib.hid hj
        have HSum := Lib.hid hsum
        have HS := Lib.hid hs
        rw [← hj]
        clear hj hsum hs
        go_wp2_with fail
        go_region_held3 (fun w' => w'.cell? ⟨g, off + r + j, none⟩ = some (.int .i64 a) ∧ w'.cell? ⟨g, off + r + j1, none⟩ = some (.int .i64 b) ∧ w'.cell? ⟨g, off + r + j2, none⟩ = some (.int .i64 c) ∧ w'.cell? ⟨g, off + r + j3, none⟩ = some (.int .i64 d)) (first | exact ⟨y0, y1, y2, y3⟩ | assumption)
          (first
            | (go_at_call 10
               refine (sums_any a b c d _).mono ?_
               rintro e w2 ⟨⟨x1, z1, rfl, f1, f2⟩, h2⟩
               have hg2 : g < wr.drew.heap.size := Nat.lt_of_lt_of_le hg HBel.out.size
               have HZ : w2.cell? ⟨g, off + r + j, none⟩ = some (.int .i64 a) ∧ w2.cell? ⟨g, off + r + j1, none⟩ = some (.int .i64 b) ∧ w2.cell? ⟨g, off + r + j2, none⟩ = some (.int .i64 c) ∧ w2.cell? ⟨g, off + r + j3, none⟩ = some (.int .i64 d) := ⟨(h2.cell (p := ⟨g, off + r + j, none⟩) hg2).trans y0, (h2.cell (p := ⟨g, off + r + j1, none⟩) hg2).trans y1, (h2.cell (p := ⟨g, off + r + j2, none⟩) hg2).trans y2, (h2.cell (p := ⟨g, off + r + j3, none⟩) hg2).trans y3⟩
               have H2 := Lib.hid h2
               have F1 := Lib.hid f1
               have F2 := Lib.hid f2
               clear h2 f1 f2))
        have hS := HS.out
        have ba := hold_bd a
        have bb := hold_bd b
        have bc := hold_bd c
        have bd := hold_bd d
        obtain ⟨x2, y2, g1, g2, hop⟩ := add_pair HX.out HY.out F1.out F2.out (by clear v1 v2 v3; omega) (by clear v1 v2 v3; omega)
        have tj : wrap64 ((j : Int) + 4) = ((4 * (k + 1) : Nat) : Int) := by
          clear v1 v2 v3 hop hbd
          rw [HJ.out]; exact (w64 (by omega) (by omega)).trans (by omega)
        have tW : wrap64 (S.1 + (hold a + hold b + hold c + hold d)) = S'.1 := by clear v1 v2 v3 tj hop; rw [hS]; exact w64 (by omega) (by omega)
        have tF : wrap64 (S.2.2.2 + (hold a - hold b + hold c - hold d)) = S'.2.2.2 := by clear v1 v2 v3 tj tW hop; rw [hS]; exact w64 (by omega) (by omega)
        have G1 := Lib.hid (show FI x2 S'.2.1 by rw [hS]; exact g1)
        have G2 := Lib.hid (show FI y2 S'.2.2.1 by rw [hS]; exact g2)
        clear g1 g2 hS ba bb bc bd
        go_wp2_with fail
        clear v1 v2 v3
        go_roundw
        case rel => exact ⟨k + 1, x2, y2, hlt, by first | rfl | rw [tj], by rw [HSum.out, tW], by rw [HSum.out, tF], rfl, by rw [HSum.out]; exact G1.out, by rw [HSum.out]; exact G2.out, below_then (w1 := wr.drew) (below_drewN HBel.out 1) HBel.out.size H2.out⟩
        case measure =>
          exact meas' m k j _ tj HJ.out hjm
      · have hkn : k = n := by omega
        subst hkn
        have hmk := HMn.out
        subst hmk
        have e0 : powers L = ((acc M k).1 * (acc M k).1 / ((k : Int) * k), ((acc M k).2.1 * (acc M k).2.1 + (acc M k).2.2.1 * (acc M k).2.2.1) / ((k : Int) * k), (acc M k).2.2.2 * (acc M k).2.2.2 / ((k : Int) * k)) := by
          unfold powers
          rw [if_neg (by have := HN.out; omega), HN.out, ← HR.out, ← HNn.out, ← HM.out]
        have pb := powers_bd L
        have hk1 : 1 ≤ (k : Int) := by have := HLen.out; have := HL4.out; omega
        have o1 := to_word HX.out (by omega)
        have o2 := to_word HY.out (by omega)
        have s1 := sq_bd (a := (acc M k).1) (b := 134217728 * (k : Int)) (by omega) (by omega)
        have s2 := sq_bd (a := (acc M k).2.1) (b := 67108864 * (k : Int)) (by omega) (by omega)
        have s3 := sq_bd (a := (acc M k).2.2.1) (b := 67108864 * (k : Int)) (by omega) (by omega)
        have s4 := sq_bd (a := (acc M k).2.2.2) (b := 134217728 * (k : Int)) (by omega) (by omega)
        have k2 : 134217728 * (k : Int) * (134217728 * (k : Int)) ≤ 2147483648 * 2147483648 := Int.mul_le_mul (by omega) (by omega) (by omega) (by omega)
        have k3 : 67108864 * (k : Int) * (67108864 * (k : Int)) ≤ 1073741824 * 1073741824 := Int.mul_le_mul (by omega) (by omega) (by omega) (by omega)
        have kk : 1 ≤ (k : Int) * (k : Int) ∧ (k : Int) * (k : Int) ≤ 256 := by
          have h1 : (1 : Int) * 1 ≤ (k : Int) * k := Int.mul_le_mul (by omega) (by omega) (by omega) (by omega)
          have h2 : (k : Int) * k ≤ 16 * 16 := Int.mul_le_mul (by omega) (by omega) (by omega) (by omega)
          omega
        generalize acc M k = S at *
        obtain ⟨S1, S2, S3, S4⟩ := S
        simp only at s1 s2 s3 s4 e0 o1 o2 hbd
        obtain ⟨WW, hWW⟩ : ∃ q, S1 * S1 = q := ⟨_, rfl⟩
        obtain ⟨XX, hXX⟩ : ∃ q, S2 * S2 = q := ⟨_, rfl⟩
        obtain ⟨YY, hYY⟩ : ∃ q, S3 * S3 = q := ⟨_, rfl⟩
        obtain ⟨FF, hFF⟩ : ∃ q, S4 * S4 = q := ⟨_, rfl⟩
        obtain ⟨KK, hKK⟩ : ∃ q, (k : Int) * (k : Int) = q := ⟨_, rfl⟩
        rw [hWW] at s1 e0
        rw [hXX] at s2 e0
        rw [hYY] at s3 e0
        rw [hFF] at s4 e0
        rw [hKK] at kk e0
        rw [e0] at pb
        obtain ⟨P1, hP1⟩ : ∃ q, WW / KK = q := ⟨_, rfl⟩
        obtain ⟨P2, hP2⟩ : ∃ q, (XX + YY) / KK = q := ⟨_, rfl⟩
        obtain ⟨P3, hP3⟩ : ∃ q, FF / KK = q := ⟨_, rfl⟩
        rw [hP1, hP2, hP3] at pb e0
        simp only at pb
        have HP := Lib.hid e0
        have c1 : wrap64 WW = WW := w64 (by omega) (by omega)
        have c2 : wrap64 XX = XX := w64 (by omega) (by omega)
        have c3 : wrap64 YY = YY := w64 (by omega) (by omega)
        have c4 : wrap64 FF = FF := w64 (by omega) (by omega)
        have c5 : wrap64 KK = KK := w64 (by omega) (by omega)
        have c6 : wrap64 (XX + YY) = XX + YY := w64 (by omega) (by omega)
        have c7 : (KK == 0) = false := by simp; omega
        have c8 : wrap64 P1 = P1 := w64 (by omega) (by omega)
        have c9 : wrap64 P2 = P2 := w64 (by omega) (by omega)
        have c10 : wrap64 P3 = P3 := w64 (by omega) (by omega)
        have g1 : IntKind.i64.wrap WW = WW := IntWalk.i64_in _ (by omega)
        have g2 : IntKind.i64.wrap XX = XX := IntWalk.i64_in _ (by omega)
        have g3 : IntKind.i64.wrap YY = YY := IntWalk.i64_in _ (by omega)
        have g4 : IntKind.i64.wrap FF = FF := IntWalk.i64_in _ (by omega)
        have g5 : IntKind.i64.wrap KK = KK := IntWalk.i64_in _ (by omega)
        have g6 : IntKind.i64.wrap (XX + YY) = (XX + YY) := IntWalk.i64_in _ (by omega)
        have g8 : IntKind.i64.wrap P1 = P1 := IntWalk.i64_in _ (by omega)
        have g9 : IntKind.i64.wrap P2 = P2 := IntWalk.i64_in _ (by omega)
        have g10 : IntKind.i64.wrap P3 = P3 := IntWalk.i64_in _ (by omega)
        have u1 : WW.tdiv KK = P1 := by rw [Int.tdiv_eq_ediv_of_nonneg (by omega)]; exact hP1
        have u2 : (XX + YY).tdiv KK = P2 := by rw [Int.tdiv_eq_ediv_of_nonneg (by omega)]; exact hP2
        have u3 : FF.tdiv KK = P3 := by rw [Int.tdiv_eq_ediv_of_nonneg (by omega)]; exact hP3
        clear e0 s1 s2 s3 s4 k2 k3 pb hbd
        go_wp2_with fail
        go_quiet (fail)
        go_wp2_with fail
        refine bodyPost_ret (v := .tuple #[.int .i64 P1, .int .i64 P2, .int .i64 P3]) (by simp [results, Try.results17, go_sem]) rfl ⟨by rw [HP.out], ?_⟩
        first | exact HBel.out | exact below_drewN HBel.out _
end Go.Proofs.Ytclieljalegmkaa.Phase
