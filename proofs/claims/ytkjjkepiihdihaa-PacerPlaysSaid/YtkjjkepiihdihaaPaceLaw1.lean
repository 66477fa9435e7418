/- The small helpers; PacerFull: a queue holds just so many; no condition. -/
import Derived.Test.YtkjjkepiihdihaaPaceLaw
namespace Go.Proofs.Ytkjjkepiihdihaa.Pace
open Go.RowKit Go.Proofs.Ytkjjkepiihdihaa.Plain Go.Proofs.Ytkjjkepiihdihaa.Heap Go.Proofs.Ytkjjkepiihdihaa.Rows Go.Proofs.Ytkjjkepiihdihaa.Open

set_option maxHeartbeats 400000 in
theorem mod_any (k n : Int) (w : World) (h0 : 1 ≤ n) (h1 : n ≤ 4611686018427387904) : Calls Try.prog 13 #[.int .i64 k, .int .i64 n] w fun e w' => e = .returned (.int .i64 (k % n)) ∧ w = w' := by
  have hb := tmod_bd k (m := n) (by omega)
  have e0 : (n == 0) = false := by simp; omega
  have w1 : wrap64 (Int.tmod k n) = Int.tmod k n := w64 (by omega) (by omega)
  have w2 : wrap64 (Int.tmod k n + n) = Int.tmod k n + n := w64 (by omega) (by omega)
  have hm := modp (n := k) (m := n) (by omega)
  have hb2 := Int.emod_nonneg k (show n ≠ 0 by omega)
  have hb3 := Int.emod_lt_of_pos k (show 0 < n by omega)
  have w3 : wrap64 (Int.tmod (Int.tmod k n + n) n) = k % n := by rw [hm]; exact w64 (by omega) (by omega)
  go_enter Try.func13, Try.ntmps13
  go_wp2
  go_ret
  exact ⟨rfl, rfl⟩
set_option maxHeartbeats 400000 in
theorem mod64_any (k n : Int) (w : World) (h0 : 1 ≤ n) (h1 : n ≤ 4611686018427387904) : Calls Try.prog 11 #[.int .i64 k, .int .i64 n] w fun e w' => e = .returned (.int .i64 (k % n)) ∧ w = w' := by
  have hb := tmod_bd k (m := n) (by omega)
  have e0 : (n == 0) = false := by simp; omega
  have w1 : wrap64 (Int.tmod k n) = Int.tmod k n := w64 (by omega) (by omega)
  have w2 : wrap64 (Int.tmod k n + n) = Int.tmod k n + n := w64 (by omega) (by omega)
  have hm := modp (n := k) (m := n) (by omega)
  have hb2 := Int.emod_nonneg k (show n ≠ 0 by omega)
  have hb3 := Int.emod_lt_of_pos k (show 0 < n by omega)
  have w3 : wrap64 (Int.tmod (Int.tmod k n + n) n) = k % n := by rw [hm]; exact w64 (by omega) (by omega)
  go_enter Try.func11, Try.ntmps11
  go_wp2
  go_ret
  exact ⟨rfl, rfl⟩
theorem wf_u16 {n : Int} (h : (Lit.int .u16 n).wf = true) : 0 ≤ n ∧ n ≤ 65535 := by
  simpa [Lit.wf, IntKind.min, IntKind.max, IntKind.signed, IntKind.bits] using h
theorem wf_u8 {n : Int} (h : (Lit.int .u8 n).wf = true) : 0 ≤ n ∧ n ≤ 255 := by
  simpa [Lit.wf, IntKind.min, IntKind.max, IntKind.signed, IntKind.bits] using h
theorem enq_yes {s : PS} {a b d now : Int} {c : Nat} (hc : c < 4) (hd : 0 ≤ d) (hd' : d ≤ 1500) (hl : ((s.q c).length : Int) < s.queue) : enq s a b c d now = (push (goes s now) a b c d, true) := by
  unfold enq
  rw [if_pos ⟨by omega, by omega, hd, hd', by simpa using hl⟩]
  simp
theorem enq_no {s : PS} {a b d now : Int} {c : Nat} (hl : ¬ ((s.q c).length : Int) < s.queue) : enq s a b c d now = (goes s now, false) := by
  unfold enq
  rw [if_neg fun h => hl (by simpa using h.2.2.2.2)]
/-- One class holds so many packets of 1500 bytes, all others none. -/
structure Fu (Q : Int) (c : Nat) (k : Nat) (s : PS) : Prop where
  queue : s.queue = Q
  len : (s.q c).length = k
  sum : szs (s.q c) = 1500 * k
  other : ∀ d, d ≠ c → s.q d = []
theorem Fu.goes {Q : Int} {c k : Nat} {s : PS} (h : Fu Q c k s) (now : Int) : Fu Q c k (goes s now) := ⟨h.queue, h.len, h.sum, h.other⟩
theorem Fu.enq {Q : Int} {c k : Nat} {s : PS} (h : Fu Q c k s) (hc : c < 4) (i : Int) (hk : (k : Int) < Q) : (enq s i 0 c 1500 0).2 = true ∧ Fu Q c (k + 1) (enq s i 0 c 1500 0).1 := by
  rw [enq_yes hc (by omega) (by omega) (by rw [h.len, h.queue]; exact hk)]
  refine ⟨rfl, h.queue, ?_, ?_, fun d hd => ?_⟩
  · simp [push, Pace.goes, h.len]
  · simp only [push, if_pos, szs_append]
    show szs (s.q c) + _ = _
    rw [h.sum]
    simp [szs]
    omega
  · simp only [push, if_neg hd]
    exact h.other d hd
theorem Fu.full {Q : Int} {c k : Nat} {s : PS} (h : Fu Q c k s) (i d : Int) (hk : ¬ (k : Int) < Q) : (Pace.enq s i 0 c d 0).2 = false ∧ Fu Q c k (Pace.enq s i 0 c d 0).1 := by
  rw [enq_no (by rw [h.len, h.queue]; exact hk)]
  exact ⟨rfl, h.goes 0⟩
theorem upto_sums {s : PS} : (upto s 4).length = (s.q 0).length + (s.q 1).length + (s.q 2).length + (s.q 3).length ∧ szs (upto s 4) = szs (s.q 0) + szs (s.q 1) + szs (s.q 2) + szs (s.q 3) := by
  simp [upto, szs_append]
  exact ⟨by omega, by omega⟩
theorem Fu.last {Q : Int} {c k : Nat} {s : PS} (h : Fu Q c k s) (hc : c < 4) (hQ : 0 < Q) : (Pace.enq s (-1) 0 (((c : Int) + 1) % 4) 1 0).2 = true ∧ (upto (Pace.enq s (-1) 0 (((c : Int) + 1) % 4) 1 0).1 4).length = k + 1 ∧ szs (upto (Pace.enq s (-1) 0 (((c : Int) + 1) % 4) 1 0).1 4) = 1500 * k + 1 ∧
    (Pace.enq (Pace.enq s (-1) 0 (((c : Int) + 1) % 4) 1 0).1 0 0 c 0 0).2 = decide ((k : Int) < Q) := by
  obtain ⟨d, hd, hd4, hne⟩ : ∃ d : Nat, ((c : Int) + 1) % 4 = (d : Int) ∧ d < 4 ∧ d ≠ c := ⟨(c + 1) % 4, by omega, by omega, by omega⟩
  rw [hd]
  have h0 : s.q d = [] := h.other d hne
  rw [enq_yes hd4 (by omega) (by omega) (by rw [h0, h.queue]; simpa using hQ)]
  have hq : ∀ e, (push (Pace.goes s 0) (-1) 0 d 1).q e = if e = d then [(-1, 0, (d : Int), 1, (Pace.goes s 0).now)] else s.q e := fun e => by
    by_cases h1 : e = d
    · subst h1; simp [push, Pace.goes, h0]
    · simp [push, h1, Pace.goes]
  refine ⟨rfl, ?_, ?_, ?_⟩
  · rw [upto_sums.1]
    have hl := h.len
    rcases (show c = 0 ∨ c = 1 ∨ c = 2 ∨ c = 3 by omega) with rfl | rfl | rfl | rfl <;> rcases (show d = 0 ∨ d = 1 ∨ d = 2 ∨ d = 3 by omega) with rfl | rfl | rfl | rfl <;> simp_all [h.other] <;> omega
  · rw [upto_sums.2]
    have hs := h.sum
    rcases (show c = 0 ∨ c = 1 ∨ c = 2 ∨ c = 3 by omega) with rfl | rfl | rfl | rfl <;> rcases (show d = 0 ∨ d = 1 ∨ d = 2 ∨ d = 3 by omega) with rfl | rfl | rfl | rfl <;> simp_all [h.other, szs] <;> omega
  · have e : (push (Pace.goes s 0) (-1) 0 d 1).q c = s.q c := by rw [hq, if_neg (Ne.symm hne)]
    by_cases hk : (k : Int) < Q
    · rw [enq_yes hc (by omega) (by omega) (by rw [e, h.len]; show (k : Int) < s.queue; rw [h.queue]; exact hk)]
      simp [hk]
    · rw [enq_no (by rw [e, h.len]; show ¬ (k : Int) < s.queue; rw [h.queue]; exact hk)]
      simp [hk]
set_option maxRecDepth 5000 in
set_option maxHeartbeats 2000000 in
theorem PacerFull_any (q cl n : Int) (w : World) (hq : (Lit.int .u8 q).wf = true) (_hcl : (Lit.int .i64 cl).wf = true) (hn : (Lit.int .u16 n).wf = true) :
    Calls Try.prog 7 #[.int .u8 q, .int .i64 cl, .int .u16 n] w fun e w' => e = .returned (.bool true) ∧ Below w.heap.size w w' := by
  obtain ⟨q0, q1⟩ := wf_u8 hq
  obtain ⟨n0, n1⟩ := wf_u16 hn
  obtain ⟨c, hc, hc4⟩ : ∃ c : Nat, cl % 4 = (c : Int) ∧ c < 4 := ⟨(cl % 4).toNat, by omega, by omega⟩
  obtain ⟨m, hm, hm6⟩ : ∃ m : Nat, n % 600 = (m : Int) ∧ m < 600 := ⟨(n % 600).toNat, by omega, by omega⟩
  have hcc : (c : Int) < 4 := by omega
  have hmm : (m : Int) < 600 := by omega
  have HC := Lib.hid hc
  clear hq _hcl hn hc hm6
  go_enter Try.func7, Try.ntmps7
  go_wp2_with fail
  refine (mod_any cl 4 w (by omega) (by omega)).mono ?_
  rintro e w0 ⟨rfl, rfl⟩
  rw [HC.out]
  go_wp2_with fail
  refine (new_px (fun g => g < w.heap.size) 1500 (1 + q) w (by omega) (by omega) (by omega) (by omega) (fun _ h => h)).mono ?_
  rintro e w1 ⟨p, rfl, h1⟩
  have H1 := Lib.hid h1
  clear h1
  go_wp2_with fail
  go_loopw [11, 12] (fun tv iv wx => ∃ (i k : Nat) (s : PS), i ≤ m ∧ iv = .int .i64 (i : Int) ∧ tv = .int .i64 (k : Int) ∧ (k : Int) = min (1 + q) i ∧ Fu (1 + q) c k s ∧ PX (fun g => g < w.heap.size) w wx p s) (fun _ iv _ => ((m : Int) - intOf iv).toNat)
  case atStart => exact ⟨0, 0, _, by omega, rfl, rfl, by simp; omega, ⟨rfl, rfl, rfl, fun _ _ => rfl⟩, H1.out⟩
  case round =>
    obtain ⟨i, k, s, hi, rfl, rfl, hk, hf, hx⟩ := hrel
    have HX := Lib.hid hx
    have HF := Lib.hid hf
    have HK := Lib.hid hk
    have hkb : (k : Int) ≤ 600 := by omega
    clear hx hf
    by_cases hlt : (i : Int) < (m : Int)
    · by_cases hkq : (k : Int) < 1 + q
      · obtain ⟨e1, e2⟩ := HF.out.enq hc4 (i : Int) hkq
        have h2 := HX.out.enqueue (i : Int) 0 (c : Int) 1500 0
        rw [e1] at h2
        have H2 := Lib.hid h2
        have E2 := Lib.hid e2
        clear e1 e2 h2 hk
        go_wp2_with fail
        refine H2.out.mono ?_
        rintro e w2 ⟨rfl, h3⟩
        have H3 := Lib.hid h3
        clear h3
        go_wp2_with fail
        go_roundw
        case rel => exact ⟨i + 1, k + 1, _, by omega, by go_num, by go_num, by have := HK.out; omega, E2.out, H3.out⟩
        case measure => exact meas4 m i hlt
      · obtain ⟨e1, e2⟩ := HF.out.full (i : Int) 1500 hkq
        have h2 := HX.out.enqueue (i : Int) 0 (c : Int) 1500 0
        rw [e1] at h2
        have H2 := Lib.hid h2
        have E2 := Lib.hid e2
        clear e1 e2 h2 hk
        go_wp2_with fail
        refine H2.out.mono ?_
        rintro e w2 ⟨rfl, h3⟩
        have H3 := Lib.hid h3
        clear h3
        go_wp2_with fail
        go_roundw
        case rel => exact ⟨i + 1, k, _, by omega, by go_num, rfl, by have := HK.out; omega, E2.out, H3.out⟩
        case measure => exact meas4 m i hlt
    · have him : i = m := by omega
      subst him
      obtain ⟨f1, f2, f3, f4⟩ := HF.out.last hc4 (by omega)
      have h2 := HX.out.enqueue (-1) 0 (((c : Int) + 1) % 4) 1 0
      rw [f1] at h2
      have H2 := Lib.hid h2
      have F2 := Lib.hid f2
      have F3 := Lib.hid f3
      have F4 := Lib.hid f4
      have hkq : (k : Int) ≤ 1 + q := by omega
      clear h2 f1 f2 f3 f4
      have fin : ∀ (w3 : World), PX (fun g => g < w.heap.size) w w3 p (enq s (-1) 0 (((c : Int) + 1) % 4) 1 0).1 →
          Calls Try.prog 18 #[.pointer (some ⟨p, 0, none⟩)] w3 (fun e w' => e = .returned (.tuple #[.int .i64 ((k : Int) + 1), .int .i64 (1500 * (k : Int) + 1)]) ∧ PX (fun g => g < w.heap.size) w w' p (enq s (-1) 0 (((c : Int) + 1) % 4) 1 0).1) := fun w3 h => by
        have h := h.waiting
        rw [F2.out, F3.out] at h
        exact h.mono fun e w' ⟨he, hw⟩ => ⟨by rw [he]; congr 1, hw⟩
      have FIN := Lib.hid fin
      have fin2 : ∀ (w3 : World), PX (fun g => g < w.heap.size) w w3 p (enq s (-1) 0 (((c : Int) + 1) % 4) 1 0).1 →
          Calls Try.prog 14 #[.pointer (some ⟨p, 0, none⟩), .agg #[.int .i64 0, .int .i64 0, .int .i64 (c : Int), .int .i64 0], .int .i64 0] w3 (fun e w' => e = .returned (.bool (decide ((k : Int) < 1 + q))) ∧ Below w.heap.size w w') := fun w3 h => by
        have h := h.enqueue 0 0 (c : Int) 0 0
        rw [F4.out] at h
        exact h.mono fun e w' ⟨he, hw⟩ => ⟨he, hw.below rfl⟩
      have FIN2 := Lib.hid fin2
      clear fin fin2
      by_cases hsat : 1 + q < (i : Int)
      · have ek : ((k : Int) != 1 + q) = false := by simp; omega
        have EK := Lib.hid hk
        clear hk
        go_wp2_with fail
        all_goals
          refine H2.out.mono ?_
          rintro e w3 ⟨rfl, h3⟩
          have H3 := Lib.hid h3
          clear h3
          go_wp2_with fail
          refine (FIN.out _ H3.out).mono ?_
          rintro e w4 ⟨rfl, h4⟩
          have H4 := Lib.hid h4
          clear h4
          go_wp2_with fail
          refine (FIN2.out _ H4.out).mono ?_
          rintro e w5 ⟨rfl, h5⟩
          have H5 := Lib.hid h5
          have hz := h5.size
          clear h5
          go_wp2_with fail
          all_goals
            refine (wakes_any _).mono ?_
            rintro e w6 ⟨rfl, h6⟩
            have H6 := Lib.hid h6
            clear h6
            go_wp2_with fail
            go_ret
            exact ⟨rfl, below_then H5.out hz H6.out⟩
      · obtain rfl : k = i := by omega
        clear hk
        go_wp2_with fail
        all_goals
          refine H2.out.mono ?_
          rintro e w3 ⟨rfl, h3⟩
          have H3 := Lib.hid h3
          clear h3
          go_wp2_with fail
          refine (FIN.out _ H3.out).mono ?_
          rintro e w4 ⟨rfl, h4⟩
          have H4 := Lib.hid h4
          clear h4
          go_wp2_with fail
          refine (FIN2.out _ H4.out).mono ?_
          rintro e w5 ⟨rfl, h5⟩
          have H5 := Lib.hid h5
          have hz := h5.size
          clear h5
          go_wp2_with fail
          all_goals
            refine (wakes_any _).mono ?_
            rintro e w6 ⟨rfl, h6⟩
            have H6 := Lib.hid h6
            clear h6
            go_wp2_with fail
            go_ret
            exact ⟨rfl, below_then H5.out hz H6.out⟩
end Go.Proofs.Ytkjjkepiihdihaa.Pace
