/- What the reference's Swings comes to, and the samples of both; no condition but the ranges in each. -/
import Derived.Test.YtclieljalegmkaaPhaseRef2
namespace Go.Proofs.Ytclieljalegmkaa.Phase
open Go.RowKit Go.Proofs.Ytclieljalegmkaa.Plain Go.Proofs.Ytclieljalegmkaa.Heap Go.Proofs.Ytclieljalegmkaa.Float Go.Proofs.Ytclieljalegmkaa.Open

theorem ref_powers (N : Nat → Prop) (q : Nat) (v : Value) (L : List Int) (w : World) (hb : w.heap[q]? = some (.cells #[v] 63 (0, 0))) (hs : SN w N v L) (hl : L.length ≤ 64) : Calls Try.prog 21 #[.pointer (some ⟨q, 0, none⟩)] w
    fun e w' => e = .returned (.agg #[.int .i64 (powers L).1, .int .i64 (powers L).2.1, .int .i64 (powers L).2.2]) ∧ Below w.heap.size w w' := by
  rcases Nat.lt_or_ge L.length 4 with h | h
  · exact ref_powers_few N q v L w hb hs h
  · exact ref_powers_many N q v L w hb hs h hl
theorem powers_pr {w : World} {p : Nat} {L : List Int} (h : PR w 0 p L) (hl : L.length ≤ 64) : Calls Try.prog 17 #[.pointer (some ⟨p, 0, none⟩)] w
    fun e w' => e = .returned (.tuple #[.int .i64 (powers L).1, .int .i64 (powers L).2.1, .int .i64 (powers L).2.2]) ∧ Below w.heap.size w w' := by
  rcases Nat.lt_or_ge L.length 4 with h4 | h4
  · exact powers_few 0 p L w h h4
  · exact powers_many 0 p L w h h4 hl
set_option maxRecDepth 10000 in
set_option maxHeartbeats 1000000 in
theorem swings_pr {w : World} {p : Nat} {L : List Int} (h : PR w 0 p L) (hl : L.length ≤ 64) (v : Int) : Calls Try.prog 18 #[.pointer (some ⟨p, 0, none⟩), .int .i64 v] w
    fun e w' => e = .returned (.bool (swg (powers L) v)) ∧ Below w.heap.size w w' := by
  have hb := powers_bd L
  have hc := cl_bd v
  have HH := Lib.hid h
  have HL := Lib.hid hl
  clear h hl
  obtain ⟨P1, P2, P3, hP⟩ : ∃ a b c, powers L = (a, b, c) := ⟨_, _, _, rfl⟩
  have HP := Lib.hid hP
  rw [hP] at hb ⊢
  simp only at hb
  obtain ⟨C, hC⟩ : ∃ C, cl v = C := ⟨_, rfl⟩
  rw [hC] at hc
  obtain ⟨T, hT⟩ : ∃ T, P2 + P3 = T := ⟨_, rfl⟩
  obtain ⟨Q, hQ⟩ : ∃ Q, (P1 + P2 + P3) * C = Q := ⟨_, rfl⟩
  have hQ0 : 0 ≤ Q := by rw [← hQ]; exact Int.mul_nonneg (by omega) (by omega)
  have hQ1 : Q ≤ (P1 + P2 + P3) * 256 := by rw [← hQ]; exact Int.mul_le_mul_of_nonneg_left (by omega) (by omega)
  have hs : swg (P1, P2, P3) v = decide (Q < T * 256) := by unfold swg; simp only; rw [hC, hQ, hT]
  rw [hs]
  have t1 : wrap64 (P2 + P3) = T := by rw [hT]; exact w64 (by omega) (by omega)
  have t2 : wrap64 (P1 + P2) = P1 + P2 := w64 (by omega) (by omega)
  have t3 : wrap64 (P1 + P2 + P3) = P1 + P2 + P3 := w64 (by omega) (by omega)
  have t4 : IntKind.u64.wrap T = T := by rw [Sat.u64_wrap]; omega
  have t5 : IntKind.u64.wrap (P1 + P2 + P3) = P1 + P2 + P3 := by rw [Sat.u64_wrap]; omega
  have t6 : IntKind.u64.wrap C = C := by rw [Sat.u64_wrap]; omega
  have HQ := Lib.hid hQ
  have HC := Lib.hid hC
  have HB := Lib.hid (show 0 ≤ T ∧ T < 72057594037927936 ∧ 0 ≤ P1 + P2 + P3 ∧ P1 + P2 + P3 < 72057594037927936 ∧ 0 ≤ Q ∧ Q < 18446744073709551616 by omega)
  clear hQ hC hT hb hQ0 hQ1 hs hP
  go_enter Try.func18, Try.ntmps18
  go_wp2_with fail
  refine (powers_pr HH.out HL.out).mono ?_
  rintro e w1 ⟨rfl, h1⟩
  rw [HP.out]
  have H1 := Lib.hid h1
  clear h1
  go_wp2_with fail
  refine (mul64_small T 256 (T * 256) _ HB.out.1 (by have := HB.out; omega) (by decide) (by decide) rfl (by have := HB.out; omega) (by have := HB.out; omega)).mono ?_
  rintro e w2 ⟨rfl, rfl⟩
  go_wp2_with fail
  refine (Sat.clamp_any _ _ _ _).mono ?_
  rintro e w2 ⟨rfl, rfl⟩
  rw [show (if v < 0 then 0 else if v > 256 then 256 else v) = C from HC.out]
  go_wp2_with fail
  refine (mul64_small (P1 + P2 + P3) C Q _ HB.out.2.2.1 (by have := HB.out; omega) hc.1 (by omega) HQ.out HB.out.2.2.2.2.1 HB.out.2.2.2.2.2).mono ?_
  rintro e w2 ⟨rfl, rfl⟩
  go_wp2
  go_ret
  first | exact ⟨rfl, H1.out⟩ | exact ⟨rfl, below_drewN H1.out _⟩
theorem cl_max (v : Int) : mx 0 (mn v 256) = cl v := by unfold mx mn cl; split <;> split <;> (try split) <;> omega
/-- By quotients and rests. -/
theorem quot_rest (T X C q r : Int) (hq : X / 256 = q) (hr : X % 256 = r) : (C * q + C * r / 256 < T) ↔ X * C < T * 256 := by
  have e : X * C = 256 * (C * q) + C * r := by
    have h1 : X = 256 * q + r := by omega
    rw [h1]; grind
  rw [e]
  generalize C * q = a
  generalize C * r = b
  omega
attribute [local go_sem high] run_mx run_mn in
set_option maxRecDepth 10000 in
set_option maxHeartbeats 1000000 in
theorem ref_swings (N : Nat → Prop) (p : Nat) (v : Value) (L : List Int) (s : Int) (w : World) (hb : w.heap[p]? = some (.cells #[v] 63 (0, 0))) (hs : SN w N v L) (hl : L.length ≤ 64) : Calls Try.prog 22 #[.pointer (some ⟨p, 0, none⟩), .int .i64 s] w
    fun e w' => e = .returned (.bool (swg (powers L) s)) ∧ Below w.heap.size w w' := by
  have hp := powers_bd L
  have hc := cl_bd s
  have HB := Lib.hid hb
  have HS := Lib.hid hs
  have HL := Lib.hid hl
  clear hb hs hl
  obtain ⟨P1, P2, P3, hP⟩ : ∃ a b c, powers L = (a, b, c) := ⟨_, _, _, rfl⟩
  have HP := Lib.hid hP
  rw [hP] at hp ⊢
  simp only at hp
  have hC := cl_max s
  generalize hcl : cl s = C at *
  obtain ⟨T, hT⟩ : ∃ T, P2 + P3 = T := ⟨_, rfl⟩
  obtain ⟨X, hX⟩ : ∃ X, T + P1 = X := ⟨_, rfl⟩
  have hsw : swg (P1, P2, P3) s = decide (X * C < T * 256) := by
    unfold swg
    simp only
    rw [hcl, hT, show P1 + P2 + P3 = X by omega]
  rw [hsw]
  obtain ⟨q, hq⟩ : ∃ q, X / 256 = q := ⟨_, rfl⟩
  obtain ⟨r, hr⟩ : ∃ r, X % 256 = r := ⟨_, rfl⟩
  have hqr := quot_rest T X C q r hq hr
  have hz : X = 0 → ¬ X * C < T * 256 := fun h => by rw [h]; omega
  have hcr0 : 0 ≤ C * r := Int.mul_nonneg (by omega) (by omega)
  have hcr1 : C * r ≤ 256 * 255 := Int.mul_le_mul (by omega) (by omega) (by omega) (by omega)
  have hcq0 : 0 ≤ C * q := Int.mul_nonneg (by omega) (by omega)
  have hcq1 : C * q ≤ 256 * 281474976710656 := Int.mul_le_mul (by omega) (by omega) (by omega) (by omega)
  obtain ⟨CR, hCR⟩ : ∃ x, C * r = x := ⟨_, rfl⟩
  obtain ⟨CQ, hCQ⟩ : ∃ x, C * q = x := ⟨_, rfl⟩
  rw [hCR] at hqr hcr0 hcr1
  rw [hCQ] at hqr hcq0 hcq1
  obtain ⟨CD, hCD⟩ : ∃ x, CR / 256 = x := ⟨_, rfl⟩
  rw [hCD] at hqr
  have u1 : X.tdiv 256 = q := by rw [Int.tdiv_eq_ediv_of_nonneg (by omega)]; exact hq
  have u2 : X.tmod 256 = r := by rw [Int.tmod_eq_emod_of_nonneg (by omega)]; exact hr
  have u3 : CR.tdiv 256 = CD := by rw [Int.tdiv_eq_ediv_of_nonneg (by omega)]; exact hCD
  have t1 : wrap64 T = T := w64 (by omega) (by omega)
  have t2 : wrap64 X = X := w64 (by omega) (by omega)
  have t3 : wrap64 q = q := w64 (by omega) (by omega)
  have t4 : wrap64 r = r := w64 (by omega) (by omega)
  have t5 : wrap64 CR = CR := w64 (by omega) (by omega)
  have t6 : wrap64 CQ = CQ := w64 (by omega) (by omega)
  have t7 : wrap64 CD = CD := w64 (by omega) (by omega)
  have t8 : wrap64 (CQ + CD) = CQ + CD := w64 (by omega) (by omega)
  have i1 : IntKind.i64.wrap T = T := IntWalk.i64_in _ (by omega)
  have i2 : IntKind.i64.wrap X = X := IntWalk.i64_in _ (by omega)
  have i3 : IntKind.i64.wrap q = q := IntWalk.i64_in _ (by omega)
  have i4 : IntKind.i64.wrap r = r := IntWalk.i64_in _ (by omega)
  have i5 : IntKind.i64.wrap CR = CR := IntWalk.i64_in _ (by omega)
  have i6 : IntKind.i64.wrap CQ = CQ := IntWalk.i64_in _ (by omega)
  have i7 : IntKind.i64.wrap CD = CD := IntWalk.i64_in _ (by omega)
  have i8 : IntKind.i64.wrap (CQ + CD) = CQ + CD := IntWalk.i64_in _ (by omega)
  have HQR := Lib.hid hqr
  have HZ := Lib.hid hz
  have HX := Lib.hid (show 0 ≤ X by omega)
  clear hcl hsw hq hr hqr hz hCD hcr0 hcr1 hcq0 hcq1 hp hP
  go_enter Try.func22, Try.ntmps22
  go_wp2_with fail
  refine (ref_powers N p v L _ HB.out HS.out HL.out).mono ?_
  rintro e w1 ⟨rfl, h1⟩
  rw [HP.out]
  have H1 := Lib.hid h1
  clear h1
  by_cases hx0 : X = 0
  · have e0 : (X == 0) = true := by simp [hx0]
    go_wp2_with fail
    go_ret
    refine ⟨?_, ?_⟩
    · have hd : decide (X * C < T * 256) = false := by have h0 := HZ.out hx0; exact decide_eq_false (by omega)
      simp only [hd]
      first | done | rfl
    · first | exact H1.out.alloc H1.out.size _ | exact below_drewN (H1.out.alloc H1.out.size _) _
  · have e0 : (X == 0) = false := by simp [hx0]
    go_wp2_with fail
    go_ret
    refine ⟨?_, ?_⟩
    · have hd : decide (CQ + CD < T) = decide (X * C < T * 256) := decide_eq_decide.2 HQR.out
      simp only [hd]
      first | done | rfl
    · first | exact H1.out.alloc H1.out.size _ | exact below_drewN (H1.out.alloc H1.out.size _) _
end Go.Proofs.Ytclieljalegmkaa.Phase
