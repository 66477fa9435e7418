/- What the reference's powers come to; no condition but the ranges in each. -/
import Derived.Test.YtclieljalegmkaaPhaseRef
import Derived.StillTailTactics
namespace Go.Proofs.Ytclieljalegmkaa.Phase
open Go.RowKit Go.Proofs.Ytclieljalegmkaa.Plain Go.Proofs.Ytclieljalegmkaa.Heap Go.Proofs.Ytclieljalegmkaa.Float Go.Proofs.Ytclieljalegmkaa.Open

set_option maxRecDepth 10000 in
set_option maxHeartbeats 1000000 in
theorem ref_sums2 (a b c d : Int) (w : World) : Calls Try.prog 11 #[.int .i64 a, .int .i64 b, .int .i64 c, .int .i64 d] w fun e w' =>
    e = .returned (.agg #[.int .i64 (hold a + hold b + hold c + hold d), .int .i64 (hold a - hold c), .int .i64 (hold b - hold d), .int .i64 (hold a - hold b + hold c - hold d)]) ∧ w' = w.alloc (.cells #[.int .i64 (hold a + hold b + hold c + hold d), .int .i64 (hold a - hold c), .int .i64 (hold b - hold d), .int .i64 (hold a - hold b + hold c - hold d)] 27) := by
  have ba := hold_bd a
  have bb := hold_bd b
  have bc := hold_bd c
  have bd := hold_bd d
  obtain ⟨A, hA⟩ : ∃ A, hold a = A := ⟨_, rfl⟩
  obtain ⟨B, hB⟩ : ∃ B, hold b = B := ⟨_, rfl⟩
  obtain ⟨C, hC⟩ : ∃ C, hold c = C := ⟨_, rfl⟩
  obtain ⟨D, hD⟩ : ∃ D, hold d = D := ⟨_, rfl⟩
  rw [hA] at ba
  rw [hB] at bb
  rw [hC] at bc
  rw [hD] at bd
  rw [hA, hB, hC, hD]
  have s0 : wrap64 A = A := w64 (by omega) (by omega)
  have s1 : wrap64 (A + B) = A + B := w64 (by omega) (by omega)
  have s2 : wrap64 (A + B + C) = A + B + C := w64 (by omega) (by omega)
  have s3 : wrap64 (A + B + C + D) = A + B + C + D := w64 (by omega) (by omega)
  have t1 : wrap64 (A - B) = A - B := w64 (by omega) (by omega)
  have t2 : wrap64 (A - B + C) = A - B + C := w64 (by omega) (by omega)
  have t3 : wrap64 (A - B + C - D) = A - B + C - D := w64 (by omega) (by omega)
  have u1 : wrap64 (A - C) = A - C := w64 (by omega) (by omega)
  have u2 : wrap64 (B - D) = B - D := w64 (by omega) (by omega)
  go_enter Try.func11, Try.ntmps11
  go_wp2_with (first | (go_at_call 24; refine (ref_held _ _).mono ?_; rintro e w1 ⟨rfl, rfl⟩))
  refine bodyPost_ret (v := .agg #[.int .i64 (A + B + C + D), .int .i64 (A - C), .int .i64 (B - D), .int .i64 (A - B + C - D)]) (by simp [results, Try.results11, go_sem]) rfl ⟨rfl, ?_⟩
  first | rfl | trace_state
theorem drew_heap (w : World) : w.drew.heap = w.heap := rfl
/-- Four samples in memory. -/
def S4 (w : World) (g o j j1 j2 j3 : Nat) (a b c d : Int) : Prop := w.cell? ⟨g, o + j, none⟩ = some (.int .i64 a) ∧ w.cell? ⟨g, o + j1, none⟩ = some (.int .i64 b) ∧ w.cell? ⟨g, o + j2, none⟩ = some (.int .i64 c) ∧ w.cell? ⟨g, o + j3, none⟩ = some (.int .i64 d)
theorem cell_lt {w : World} {p : Addr} {v : Value} (h : w.cell? p = some v) : p.block < w.heap.size := by
  rcases Nat.lt_or_ge p.block w.heap.size with h1 | h1
  · exact h1
  · simp [World.cell?, Array.getElem?_eq_none h1] at h
theorem S4.alloc {w : World} {g o j j1 j2 j3 : Nat} {a b c d : Int} (h : S4 w g o j j1 j2 j3 a b c d) (x : Obj) : S4 (w.alloc x) g o j j1 j2 j3 a b c d := by
  have hg := cell_lt h.1
  have hk := (Kept.refl (fun _ => False) w).alloc x
  exact ⟨(hk.cell (p := ⟨g, o + j, none⟩) hg id).trans h.1, (hk.cell (p := ⟨g, o + j1, none⟩) hg id).trans h.2.1, (hk.cell (p := ⟨g, o + j2, none⟩) hg id).trans h.2.2.1, (hk.cell (p := ⟨g, o + j3, none⟩) hg id).trans h.2.2.2⟩
theorem powers_nil0 (L : List Int) (h : L.length < 4) : powers L = (0, 0, 0) := by unfold powers; rw [if_pos h]
set_option maxRecDepth 10000 in
set_option maxHeartbeats 1000000 in
theorem ref_powers_few (N : Nat → Prop) (q : Nat) (v : Value) (L : List Int) (w : World) (hb : w.heap[q]? = some (.cells #[v] 63 (0, 0))) (hs : SN w N v L) (hl : L.length < 4) : Calls Try.prog 21 #[.pointer (some ⟨q, 0, none⟩)] w
    fun e w' => e = .returned (.agg #[.int .i64 (powers L).1, .int .i64 (powers L).2.1, .int .i64 (powers L).2.2]) ∧ Below w.heap.size w w' := by
  rw [powers_nil0 L hl]
  obtain ⟨A, c, rfl, _⟩ := hs.rd
  have hq : q < w.heap.size := (Array.getElem?_eq_some_iff.1 hb).1
  have c0 : w.cell? ⟨q, 0, none⟩ = some (.slice A L.length c) := by simp [World.cell?, hb]
  have e1 : (L.length : Int) / 4 = 0 := by omega
  clear hb hs
  go_enter Try.func21, Try.ntmps21
  go_wp2_with fail
  refine bodyPost_ret (v := .agg #[.int .i64 0, .int .i64 0, .int .i64 0]) (by simp [results, Try.results21, go_sem]) rfl ⟨rfl, ?_⟩
  first | exact (Below.refl _ _).alloc (Nat.le_refl _) _ | exact below_drewN ((Below.refl _ _).alloc (Nat.le_refl _) _) _
set_option maxRecDepth 10000 in
set_option maxHeartbeats 1000000 in
theorem ref_powers_many (N0 : Nat → Prop) (q : Nat) (v : Value) (L : List Int) (w : World) (hb : w.heap[q]? = some (.cells #[v] 63 (0, 0))) (hs : SN w N0 v L) (hl : 4 ≤ L.length) (hl2 : L.length ≤ 64) : Calls Try.prog 21 #[.pointer (some ⟨q, 0, none⟩)] w
    fun e w' => e = .returned (.agg #[.int .i64 (powers L).1, .int .i64 (powers L).2.1, .int .i64 (powers L).2.2]) ∧ Below w.heap.size w w' := by
  rcases hs with ⟨_, rfl⟩ | ⟨g, off, cap, cs, t, rfl, h1, h3, h4, h5, h6⟩
  · simp at hl
  · have hq : q < w.heap.size := (Array.getElem?_eq_some_iff.1 hb).1
    have c0 : w.cell? ⟨q, 0, none⟩ = some (.slice (some ⟨g, off, none⟩) L.length cap) := by simp [World.cell?, hb]
    have hg : g < w.heap.size := (Array.getElem?_eq_some_iff.1 h3).1
    have H3 := Lib.hid h3
    have H6 := Lib.hid h6
    clear hb h3 h6
    obtain ⟨N, hN⟩ : ∃ N, L.length = N := ⟨_, rfl⟩
    rw [hN] at c0 h4 hl hl2
    obtain ⟨r, hr⟩ : ∃ r, r = N % 4 := ⟨_, rfl⟩
    obtain ⟨n, hn⟩ : ∃ n, n = N / 4 := ⟨_, rfl⟩
    have hr3 : r ≤ 3 := by omega
    have e2 : (N : Int) / 4 = (n : Int) := by omega
    have e3 : (N : Int) - 4 * (n : Int) = (r : Int) := by omega
    have hn0 : ((n : Int) == 0) = false := by simp; omega
    have hr0 : (0 : Int) ≤ (r : Int) := by omega
    have hr1 : (r : Int) ≤ (N : Int) := by omega
    have hr2 : (N : Int) ≤ (cap : Int) := by omega
    have HN := Lib.hid hN
    have HLen := Lib.hid (show N = 4 * n + r by omega)
    have HR := Lib.hid hr
    have HNn := Lib.hid hn
    have HL4 := Lib.hid hl
    clear hN hr hn
    go_enter Try.func21, Try.ntmps21
    have s1 : IntKind.i64.wrap (4 * (n : Int)) = 4 * (n : Int) := IntWalk.i64_in _ (by omega)
    have s2 : IntKind.i64.wrap ((N : Int) - 4 * (n : Int)) = (r : Int) := by clear s1; rw [e3]; exact IntWalk.i64_in _ (by omega)
    go_wp2_with fail
    go_region
    go_wp2_with fail
    obtain ⟨m, hm⟩ : ∃ m, m = 4 * n := ⟨_, rfl⟩
    have hnr : N - r = m := by have := HLen.out; omega
    have hn16 : n ≤ 16 := by have := HLen.out; omega
    have hn1 : 1 ≤ n := by have := HLen.out; have := HL4.out; omega
    simp only [hnr]
    obtain ⟨M, hM⟩ : ∃ M, M = L.drop r := ⟨_, rfl⟩
    have hcell : ∀ j, j < 4 * n → w.cell? ⟨g, off + r + j, none⟩ = some (.int .i64 (M.getD j 0)) := fun j hj => by
      have hj2 : r + j < L.length := by rw [HN.out, HLen.out]; omega
      have hL : L[r + j]? = some (M.getD j 0) := by
        rw [hM, List.getD_eq_getElem?_getD, List.getElem?_drop, List.getElem?_eq_getElem hj2]
        rfl
      have := H6.out _ _ hL
      have h3 := H3.out
      simp only [World.cell?, h3]
      rw [show off + r + j = off + (r + j) by omega]
      exact this
    have HC := Lib.hid hcell
    have HM := Lib.hid hM
    have HMn := Lib.hid hm
    clear hcell hM hnr hl hr0 hr1 e2 e3 hm s1 s2 hn0
    go_loopw [6] (fun iv wr => ∃ k : Nat, k ≤ n ∧ iv = .int .i64 (k : Int) ∧ Below w.heap.size w wr ∧ wr.heap[w.heap.size]? = some (.cells #[.int .i64 0, .int .i64 0, .int .i64 0] 51 (0, 0)) ∧
      wr.heap[w.heap.size + 1]? = some (.cells #[.int .i64 (acc M k).1, .int .i64 (acc M k).2.1, .int .i64 (acc M k).2.2.1, .int .i64 (acc M k).2.2.2] 27 (0, 0))) (fun iv _ => n - (intOf iv).toNat)
    case atStart =>
      refine ⟨0, by omega, rfl, ?_, ?_, ?_⟩
      · first | exact ((Below.refl _ _).alloc (Nat.le_refl _) _).alloc (by simp) _ | exact below_drewN (((Below.refl _ _).alloc (Nat.le_refl _) _).alloc (by simp) _) 1 | exact (below_drewN ((Below.refl _ _).alloc (Nat.le_refl _) _) 1).alloc (by simp) _ | exact ((below_drewN (Below.refl _ _) 1).alloc (Nat.le_refl _) _).alloc (by simp) _
      · exact (heap_alloc_old _ _ (by simp)).trans (heap_alloc_new _ _)
      · have h := heap_alloc_new (w.alloc (.cells #[.int .i64 0, .int .i64 0, .int .i64 0] 51)) (.cells #[.int .i64 0, .int .i64 0, .int .i64 0, .int .i64 0] 27)
        rwa [show (w.alloc (.cells #[.int .i64 0, .int .i64 0, .int .i64 0] 51)).heap.size = w.heap.size + 1 by simp] at h
    case round =>
      obtain ⟨k, hk, rfl, hbel, hres, hsb⟩ := hrel
      have hbd := acc_bd M k
      have HBel := Lib.hid hbel
      have hs1 : w.heap.size + 1 < wr.heap.size := (Array.getElem?_eq_some_iff.1 hsb).1
      by_cases hlt : k < n
      · have hs : acc M (k + 1) = add4 (acc M k) (hold (M.getD (4 * k) 0)) (hold (M.getD (4 * k + 1) 0)) (hold (M.getD (4 * k + 2) 0)) (hold (M.getD (4 * k + 3) 0)) := rfl
        have y0 := (hbel.cell (p := ⟨g, off + r + 4 * k, none⟩) hg).trans (HC.out (4 * k) (by omega))
        have y1 := (hbel.cell (p := ⟨g, off + r + (4 * k + 1), none⟩) hg).trans (HC.out (4 * k + 1) (by omega))
        have y2 := (hbel.cell (p := ⟨g, off + r + (4 * k + 2), none⟩) hg).trans (HC.out (4 * k + 2) (by omega))
        have y3 := (hbel.cell (p := ⟨g, off + r + (4 * k + 3), none⟩) hg).trans (HC.out (4 * k + 3) (by omega))
        clear hbel
        generalize hsum : acc M (k + 1) = S' at *
        generalize M.getD (4 * k) 0 = a at *
        generalize M.getD (4 * k + 1) 0 = b at *
        generalize M.getD (4 * k + 2) 0 = c at *
        generalize M.getD (4 * k + 3) 0 = d at *
        generalize acc M k = S at *
        have hmk := HMn.out
        obtain ⟨j, hj⟩ : ∃ j, j = 4 * k := ⟨_, rfl⟩
        have hjm : j + 3 < m := by omega
        clear hmk
        rw [← hj] at y0 y1 y2 y3
        obtain ⟨j1, hj1⟩ : ∃ j1, j1 = j + 1 := ⟨_, rfl⟩
        obtain ⟨j2, hj2⟩ : ∃ j2, j2 = j + 2 := ⟨_, rfl⟩
        obtain ⟨j3, hj3⟩ : ∃ j3, j3 = j + 3 := ⟨_, rfl⟩
        rw [← hj1] at y1
        rw [← hj2] at y2
        rw [← hj3] at y3
        have b0 : (j : Int) < (m : Int) := by omega
        have b1 : (j1 : Int) < (m : Int) := by omega
        have b2 : (j2 : Int) < (m : Int) := by omega
        have b3 : (j3 : Int) < (m : Int) := by omega
        have d0 : (0 : Int) ≤ (j : Int) := by omega
        have d1 : (0 : Int) ≤ (j1 : Int) := by omega
        have d2 : (0 : Int) ≤ (j2 : Int) := by omega
        have d3 : (0 : Int) ≤ (j3 : Int) := by omega
        have a0 : j < m := by omega
        have a1 : j1 < m := by omega
        have a2 : j2 < m := by omega
        have a3 : j3 < m := by omega
        have v0 : IntKind.i64.wrap (4 * (k : Int)) = (j : Int) := by rw [show (j : Int) = 4 * (k : Int) by omega]; exact IntWalk.i64_in _ (by omega)
        have v1 : IntKind.i64.wrap ((j : Int) + 1) = (j1 : Int) := by clear v0; rw [show (j1 : Int) = (j : Int) + 1 by omega]; exact IntWalk.i64_in _ (by omega)
        have v2 : IntKind.i64.wrap ((j : Int) + 2) = (j2 : Int) := by clear v0 v1; rw [show (j2 : Int) = (j : Int) + 2 by omega]; exact IntWalk.i64_in _ (by omega)
        have v3 : IntKind.i64.wrap ((j : Int) + 3) = (j3 : Int) := by clear v0 v1 v2; rw [show (j3 : Int) = (j : Int) + 3 by omega]; exact IntWalk.i64_in _ (by omega)
        clear hj1 hj2 hj3
        have HJ := Lib.hid hj
        have HSum := Lib.hid hsum
        have HS := Lib.hid hs
        have HRes := Lib.hid hres
        have HSb := Lib.hid hsb
        clear hj hsum hs hres hsb
        go_wp2_with fail
        have hgr : g < wr.heap.size := Nat.lt_of_lt_of_le hg HBel.out.size
        have Y0 : S4 wr g (off + r) j j1 j2 j3 a b c d := ⟨y0, y1, y2, y3⟩
        have YA : ∀ o, S4 (wr.alloc o) g (off + r) j j1 j2 j3 a b c d := fun o => Y0.alloc o
        have YB : ∀ o o', S4 ((wr.alloc o).alloc o') g (off + r) j j1 j2 j3 a b c d := fun o o' => (YA o).alloc o'
        have hnum : wr.heap.size + 1 ≠ wr.heap.size := by omega
        clear y0 y1 y2 y3
        go_region_held3 (fun w' => w'.cell? ⟨g, off + r + j, none⟩ = some (.int .i64 a) ∧ w'.cell? ⟨g, off + r + j1, none⟩ = some (.int .i64 b) ∧ w'.cell? ⟨g, off + r + j2, none⟩ = some (.int .i64 c) ∧ w'.cell? ⟨g, off + r + j3, none⟩ = some (.int .i64 d)) (first | exact Y0 | exact YA _ | exact YB _ _ | (trace_state; fail))
          (first
            | (go_at_call 11
               refine (ref_sums2 a b c d _).mono ?_
               rintro e w2 ⟨rfl, rfl⟩))
        all_goals
          obtain ⟨F0, hF0⟩ : ∃ z, hold a + hold b + hold c + hold d = z := ⟨_, rfl⟩
          obtain ⟨F1, hF1⟩ : ∃ z, hold a - hold c = z := ⟨_, rfl⟩
          obtain ⟨F2, hF2⟩ : ∃ z, hold b - hold d = z := ⟨_, rfl⟩
          obtain ⟨F3, hF3⟩ : ∃ z, hold a - hold b + hold c - hold d = z := ⟨_, rfl⟩
          obtain ⟨G0, G1, G2, G3⟩ := S
          have ha := hold_bd a
          have hb := hold_bd b
          have hc := hold_bd c
          have hd := hold_bd d
          have HF := Lib.hid (show S' = (G0 + F0, G1 + F1, G2 + F2, G3 + F3) by rw [HS.out, ← hF0, ← hF1, ← hF2, ← hF3]; rfl)
          simp only at hbd
          have m0 : wrap64 (G0 + F0) = G0 + F0 := w64 (by omega) (by omega)
          have m1 : wrap64 (G1 + F1) = G1 + F1 := w64 (by omega) (by omega)
          have m2 : wrap64 (G2 + F2) = G2 + F2 := w64 (by omega) (by omega)
          have m3 : wrap64 (G3 + F3) = G3 + F3 := w64 (by omega) (by omega)
          have n0 : IntKind.i64.wrap (G0 + F0) = G0 + F0 := IntWalk.i64_in _ (by omega)
          have n1 : IntKind.i64.wrap (G1 + F1) = G1 + F1 := IntWalk.i64_in _ (by omega)
          have n2 : IntKind.i64.wrap (G2 + F2) = G2 + F2 := IntWalk.i64_in _ (by omega)
          have n3 : IntKind.i64.wrap (G3 + F3) = G3 + F3 := IntWalk.i64_in _ (by omega)
          rw [hF0, hF1, hF2, hF3]
          clear hF0 hF1 hF2 hF3 ha hb hc hd hbd Y0 YA YB HS
          generalize hW : World.drew (World.alloc (World.alloc wr _) _) = W
          have hA : W.heap[wr.heap.size]? = some (.cells #[.int .i64 F0, .int .i64 F1, .int .i64 F2, .int .i64 F3] 27 (0, 0)) := by
            rw [← hW]
            exact (heap_alloc_old (wr.alloc _) _ (by simp)).trans (heap_alloc_new wr _)
          have hB : W.heap[wr.heap.size + 1]? = some (.cells #[.int .i64 F0, .int .i64 F1, .int .i64 F2, .int .i64 F3] 27 (0, 0)) := by
            have h := heap_alloc_new (wr.alloc (.cells #[.int .i64 F0, .int .i64 F1, .int .i64 F2, .int .i64 F3] 27)) (.cells #[.int .i64 F0, .int .i64 F1, .int .i64 F2, .int .i64 F3] 27)
            rw [← hW]
            rwa [show (wr.alloc (.cells #[.int .i64 F0, .int .i64 F1, .int .i64 F2, .int .i64 F3] 27)).heap.size = wr.heap.size + 1 by simp] at h
          have hbW : Below wr.heap.size wr W := by
            rw [← hW]
            exact below_drewN (((Below.refl _ _).alloc (Nat.le_refl _) _).alloc (by simp) _) 1
          have hS := (hbW.block (w.heap.size + 1) hs1).trans HSb.out
          have a0' : W.cell? ⟨wr.heap.size, 0, none⟩ = some (.int .i64 F0) := by simp [World.cell?, hA]
          have a1' : W.cell? ⟨wr.heap.size, 1, none⟩ = some (.int .i64 F1) := by simp [World.cell?, hA]
          have a2' : W.cell? ⟨wr.heap.size, 2, none⟩ = some (.int .i64 F2) := by simp [World.cell?, hA]
          have a3' : W.cell? ⟨wr.heap.size, 3, none⟩ = some (.int .i64 F3) := by simp [World.cell?, hA]
          have b0' : W.cell? ⟨wr.heap.size + 1, 0, none⟩ = some (.int .i64 F0) := by simp [World.cell?, hB]
          have b1' : W.cell? ⟨wr.heap.size + 1, 1, none⟩ = some (.int .i64 F1) := by simp [World.cell?, hB]
          have b2' : W.cell? ⟨wr.heap.size + 1, 2, none⟩ = some (.int .i64 F2) := by simp [World.cell?, hB]
          have b3' : W.cell? ⟨wr.heap.size + 1, 3, none⟩ = some (.int .i64 F3) := by simp [World.cell?, hB]
          have s0' : W.cell? ⟨w.heap.size + 1, 0, none⟩ = some (.int .i64 G0) := by simp [World.cell?, hS]
          have s1' : W.cell? ⟨w.heap.size + 1, 1, none⟩ = some (.int .i64 G1) := by simp [World.cell?, hS]
          have s2' : W.cell? ⟨w.heap.size + 1, 2, none⟩ = some (.int .i64 G2) := by simp [World.cell?, hS]
          have s3' : W.cell? ⟨w.heap.size + 1, 3, none⟩ = some (.int .i64 G3) := by simp [World.cell?, hS]
          have t0' : W.frozen? ⟨w.heap.size + 1, 0, none⟩ = false := by simp [World.frozen?, hS]
          have t1' : W.frozen? ⟨w.heap.size + 1, 1, none⟩ = false := by simp [World.frozen?, hS]
          have t2' : W.frozen? ⟨w.heap.size + 1, 2, none⟩ = false := by simp [World.frozen?, hS]
          have t3' : W.frozen? ⟨w.heap.size + 1, 3, none⟩ = false := by simp [World.frozen?, hS]
          have HSW := Lib.hid hS
          have HBW := Lib.hid (below_then HBel.out HBel.out.size hbW)
          have HRW := Lib.hid ((hbW.block w.heap.size (by omega)).trans HRes.out)
          clear hW hA hB hbW hS b0 b1 b2 b3 d0 d1 d2 d3 a0 a1 a2 a3 v0 v1 v2 v3
          go_wp2_with fail
          go_roundw
          case rel =>
            have kp : Kept (fun g => g = w.heap.size + 1) W _ := ((((Kept.refl (fun g => g = w.heap.size + 1) W).setCell (p := ⟨w.heap.size + 1, 0, none⟩) (.inl rfl) (.int .i64 (G0 + F0))).setCell (p := ⟨w.heap.size + 1, 1, none⟩) (.inl rfl) (.int .i64 (G1 + F1))).setCell (p := ⟨w.heap.size + 1, 2, none⟩) (.inl rfl) (.int .i64 (G2 + F2))).setCell (p := ⟨w.heap.size + 1, 3, none⟩) (.inl rfl) (.int .i64 (G3 + F3))
            refine ⟨k + 1, hlt, by go_num, HBW.out.trans (kp.below (by have := HBW.out.size; omega) (fun i hi => by omega)), (kp.block _ (Array.getElem?_eq_some_iff.1 HRW.out).1 (by omega)).trans HRW.out, ?_⟩
            rw [HSum.out, HF.out]
            have hq := HSW.out
            simp [World.setCell, Array.getElem?_modify, hq]
          case measure => simp [intOf]; omega
      · have hkn : k = n := by omega
        subst hkn
        have hmk := HMn.out
        subst hmk
        have e0 : powers L = ((acc M k).1 * (acc M k).1 / ((k : Int) * k), ((acc M k).2.1 * (acc M k).2.1 + (acc M k).2.2.1 * (acc M k).2.2.1) / ((k : Int) * k), (acc M k).2.2.2 * (acc M k).2.2.2 / ((k : Int) * k)) := by
          unfold powers
          rw [if_neg (by have := HN.out; have := HL4.out; omega), HN.out, ← HR.out, ← HNn.out, ← HM.out]
        have pb := powers_bd L
        have hk1 : 1 ≤ (k : Int) := by have := HLen.out; have := HL4.out; omega
        have s1 := sq_bd (a := (acc M k).1) (b := 134217728 * (k : Int)) (by omega) (by omega)
        have s2 := sq_bd (a := (acc M k).2.1) (b := 67108864 * (k : Int)) (by omega) (by omega)
        have s3 := sq_bd (a := (acc M k).2.2.1) (b := 67108864 * (k : Int)) (by omega) (by omega)
        have s4 := sq_bd (a := (acc M k).2.2.2) (b := 134217728 * (k : Int)) (by omega) (by omega)
        have k2 : 134217728 * (k : Int) * (134217728 * (k : Int)) ≤ 2147483648 * 2147483648 := Int.mul_le_mul (by omega) (by omega) (by omega) (by omega)
        have k3 : 67108864 * (k : Int) * (67108864 * (k : Int)) ≤ 1073741824 * 1073741824 := Int.mul_le_mul (by omega) (by omega) (by omega) (by omega)
        have kk : 1 ≤ (k : Int) * (k : Int) ∧ (k : Int) * (k : Int) ≤ 256 := by
          have h1 : (1 : Int) * 1 ≤ (k : Int) * k := Int.mul_le_mul (by omega) (by omega) (by omega) (by omega)
          have h2 : (k : Int) * k ≤ 16 * 16 := Int.mul_le_mul (by omega) (by omega) (by omega) (by omega)
          omega
        generalize acc M k = S at *
        obtain ⟨S1, S2, S3, S4⟩ := S
        simp only at s1 s2 s3 s4 e0 hbd hsb
        obtain ⟨WW, hWW⟩ : ∃ q, S1 * S1 = q := ⟨_, rfl⟩
        obtain ⟨XX, hXX⟩ : ∃ q, S2 * S2 = q := ⟨_, rfl⟩
        obtain ⟨YY, hYY⟩ : ∃ q, S3 * S3 = q := ⟨_, rfl⟩
        obtain ⟨FF, hFF⟩ : ∃ q, S4 * S4 = q := ⟨_, rfl⟩
        obtain ⟨KK, hKK⟩ : ∃ q, (k : Int) * (k : Int) = q := ⟨_, rfl⟩
        rw [hWW] at s1 e0
        rw [hXX] at s2 e0
        rw [hYY] at s3 e0
        rw [hFF] at s4 e0
        rw [hKK] at kk e0
        rw [e0] at pb
        obtain ⟨P1, hP1⟩ : ∃ q, WW / KK = q := ⟨_, rfl⟩
        obtain ⟨P2, hP2⟩ : ∃ q, (XX + YY) / KK = q := ⟨_, rfl⟩
        obtain ⟨P3, hP3⟩ : ∃ q, FF / KK = q := ⟨_, rfl⟩
        rw [hP1, hP2, hP3] at pb e0
        simp only at pb
        have HP := Lib.hid e0
        have c1 : wrap64 WW = WW := w64 (by omega) (by omega)
        have c2 : wrap64 XX = XX := w64 (by omega) (by omega)
        have c3 : wrap64 YY = YY := w64 (by omega) (by omega)
        have c4 : wrap64 FF = FF := w64 (by omega) (by omega)
        have c5 : wrap64 KK = KK := w64 (by omega) (by omega)
        have c6 : wrap64 (XX + YY) = XX + YY := w64 (by omega) (by omega)
        have c7 : (KK == 0) = false := by simp; omega
        have c8 : wrap64 P1 = P1 := w64 (by omega) (by omega)
        have c9 : wrap64 P2 = P2 := w64 (by omega) (by omega)
        have c10 : wrap64 P3 = P3 := w64 (by omega) (by omega)
        have g1 : IntKind.i64.wrap WW = WW := IntWalk.i64_in _ (by omega)
        have g2 : IntKind.i64.wrap XX = XX := IntWalk.i64_in _ (by omega)
        have g3 : IntKind.i64.wrap YY = YY := IntWalk.i64_in _ (by omega)
        have g4 : IntKind.i64.wrap FF = FF := IntWalk.i64_in _ (by omega)
        have g5 : IntKind.i64.wrap KK = KK := IntWalk.i64_in _ (by omega)
        have g6 : IntKind.i64.wrap (XX + YY) = (XX + YY) := IntWalk.i64_in _ (by omega)
        have g8 : IntKind.i64.wrap P1 = P1 := IntWalk.i64_in _ (by omega)
        have g9 : IntKind.i64.wrap P2 = P2 := IntWalk.i64_in _ (by omega)
        have g10 : IntKind.i64.wrap P3 = P3 := IntWalk.i64_in _ (by omega)
        have u1 : WW.tdiv KK = P1 := by rw [Int.tdiv_eq_ediv_of_nonneg (by omega)]; exact hP1
        have u2 : (XX + YY).tdiv KK = P2 := by rw [Int.tdiv_eq_ediv_of_nonneg (by omega)]; exact hP2
        have u3 : FF.tdiv KK = P3 := by rw [Int.tdiv_eq_ediv_of_nonneg (by omega)]; exact hP3
        clear e0 s1 s2 s3 s4 k2 k3 pb hbd
        have q0 : wr.cell? ⟨w.heap.size + 1, 0, none⟩ = some (.int .i64 S1) := by simp [World.cell?, hsb]
        have q1 : wr.cell? ⟨w.heap.size + 1, 1, none⟩ = some (.int .i64 S2) := by simp [World.cell?, hsb]
        have q2 : wr.cell? ⟨w.heap.size + 1, 2, none⟩ = some (.int .i64 S3) := by simp [World.cell?, hsb]
        have q3 : wr.cell? ⟨w.heap.size + 1, 3, none⟩ = some (.int .i64 S4) := by simp [World.cell?, hsb]
        have z0 : wr.frozen? ⟨w.heap.size, 0, none⟩ = false := by simp [World.frozen?, hres]
        have z1 : wr.frozen? ⟨w.heap.size, 1, none⟩ = false := by simp [World.frozen?, hres]
        have z2 : wr.frozen? ⟨w.heap.size, 2, none⟩ = false := by simp [World.frozen?, hres]
        have c0' : wr.cell? ⟨w.heap.size, 0, none⟩ = some (.int .i64 0) := by simp [World.cell?, hres]
        have c1' : wr.cell? ⟨w.heap.size, 1, none⟩ = some (.int .i64 0) := by simp [World.cell?, hres]
        have c2' : wr.cell? ⟨w.heap.size, 2, none⟩ = some (.int .i64 0) := by simp [World.cell?, hres]
        have HRes := Lib.hid hres
        clear hsb hres
        go_wp2_with fail
        have c11 : ¬ KK = 0 := by omega
        go_still_tail 28, (by kernel_rfl)
        go_wp2_with fail
        have kp : Kept (fun g => g = w.heap.size) wr _ := (((Kept.refl (fun g => g = w.heap.size) wr).setCell (p := ⟨w.heap.size, 0, none⟩) (.inl rfl) (.int .i64 P1)).setCell (p := ⟨w.heap.size, 1, none⟩) (.inl rfl) (.int .i64 P2)).setCell (p := ⟨w.heap.size, 2, none⟩) (.inl rfl) (.int .i64 P3)
        have kb := HBel.out.trans (kp.below HBel.out.size (fun i hi => by omega))
        generalize hW2 : World.drew _ = W2
        have hb2 : Below w.heap.size w W2 := by rw [← hW2]; exact below_drewN kb 1
        have hc2 : W2.heap[w.heap.size]? = some (.cells #[.int .i64 P1, .int .i64 P2, .int .i64 P3] 51 (0, 0)) := by
          have hq := HRes.out
          rw [← hW2, drew_heap]
          simp [World.setCell, Array.getElem?_modify, hq]
        have d0 : W2.cell? ⟨w.heap.size, 0, none⟩ = some (.int .i64 P1) := by simp [World.cell?, hc2]
        have d1 : W2.cell? ⟨w.heap.size, 1, none⟩ = some (.int .i64 P2) := by simp [World.cell?, hc2]
        have d2 : W2.cell? ⟨w.heap.size, 2, none⟩ = some (.int .i64 P3) := by simp [World.cell?, hc2]
        refine bodyPost_ret (v := .agg #[.int .i64 P1, .int .i64 P2, .int .i64 P3]) (by simp [results, Try.results21, go_sem, d0, d1, d2]) rfl ⟨by rw [HP.out], hb2⟩
end Go.Proofs.Ytclieljalegmkaa.Phase
