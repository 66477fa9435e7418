/- What the document's Decode tells of a header; no condition but the ranges in each. -/
import Derived.Test.YtccljgohekmjkaaRtpRDec3
namespace Go.Proofs.Ytccljgohekmjkaa.Rtp
open Go.RowKit Go.Proofs.Ytccljgohekmjkaa.Plain Go.Proofs.Ytccljgohekmjkaa.Heap Go.Proofs.Ytccljgohekmjkaa.Open Go.Proofs.Ytccljgohekmjkaa.Rows Go.Proofs.Ytccljgohekmjkaa.Bits Go.Proofs.Ytccljgohekmjkaa.Tail
def RDecPost (s : ByteArray) (w : World) (e : Ending) (w' : World) : Prop := ∃ m t q i ss lv xv, e = .returned (.tuple #[.agg (gcs m t q i ss lv xv ((decH s).2.1 : Int)), .int .i64 (decH s).2.2]) ∧ HR w' (.agg (dcs m t q i ss lv xv)) (decH s).1 ∧ Below w.heap.size w w'
theorem rdec_zero {s : ByteArray} {w w' : World} {c : Int} (h : decH s = (zeroH, 0, c)) (hb : Below w.heap.size w w') : RDecPost s w (.returned (.tuple #[.agg zgs, .int .i64 c])) w' := by
  unfold RDecPost
  rw [h]
  exact ⟨false, 0, 0, 0, 0, .slice none 0 0, .slice none 0 0, rfl, hr_zero _, hb⟩
theorem ret_rdec {R : Ending → World → Prop} {a : Act} {w : World} {b : Nat} {cs : Array Value} {u : Value} (h : w.heap[b]? = some (.cells cs 39 (0, 0))) (hs : cs.size = 8) (ha : a.tmps.getD 2 undef = .pointer (some ⟨b, 0, none⟩)) (hu : a.tmps.getD 3 undef = u) (hd : a.defers = []) (hR : R (.returned (.tuple #[.agg cs, u])) w) :
    bodyPost Try.prog Try.f15 R .ret a w :=
  ret_cell_tmp (P := Try.prog) rfl ha h Try.underlying39 rfl (by rw [hs]; exact got_size) hd (by rw [hu]; exact hR)
theorem and_one (a : Int) (h : 0 ≤ a) (h1 : a < 256) : Go.bits .and .u8 a 1 = a % 2 := by
  rw [u8_and a 1 h h1 (by omega) (by omega), show ((1 : Int)).toNat = 1 from rfl, Nat.and_one_is_mod]
  omega
set_option linter.unusedSimpArgs false in
set_option maxRecDepth 10000 in
set_option maxHeartbeats 8000000 in
theorem rdecode_any (s : ByteArray) (w : World) (hs : s.size ≤ 1099511627776) : Calls Try.prog 15 #[.string s] w (RDecPost s w) := by
  have HS := Lib.hid hs
  obtain ⟨Z, hZ⟩ : ∃ Z : Int, Z = (s.size : Int) := ⟨_, rfl⟩
  have hsz : (s.size : Int) = Z := hZ.symm
  have hz0 : 0 ≤ Z := by omega
  have hz1 : Z ≤ 1099511627776 := by omega
  have HZ := Lib.hid hZ
  clear hs hZ
  obtain ⟨g, hg⟩ : ∃ g, g = w.heap.size := ⟨_, rfl⟩
  obtain ⟨W0, hW0⟩ : ∃ W0, W0 = w.alloc (.cells zgs 39) := ⟨_, rfl⟩
  have HG0 := Lib.hid (show W0.heap[g]? = some (.cells zgs 39 (0, 0)) by rw [hW0, hg]; exact heap_alloc_new w _)
  have HB0 := Lib.hid (show Below w.heap.size w W0 by rw [hW0]; exact (Below.refl _ w).alloc (Nat.le_refl _) _)
  have HGW := Lib.hid (show w.heap.size ≤ g by omega)
  have HE := Lib.hid hg
  have HW0 := Lib.hid hW0
  clear hg hW0
  go_enter Try.func15, Try.ntmps15
  go_upto_region 1 with fail
  rw [← HW0.out, ← HE.out]
  by_cases hz : Z < 1
  · have HD := Lib.hid (show decH s = (zeroH, 0, 60) by unfold decH; rw [if_pos (by omega)])
    have hcb := HG0.out
    obtain ⟨z0, z1, z2, z3, z4, z5, z6, z7⟩ := cells8 hcb
    have e0 := frozen_of hcb 0
    have e1 := frozen_of hcb 1
    have e2 := frozen_of hcb 2
    have e3 := frozen_of hcb 3
    have e4 := frozen_of hcb 4
    have e5 := frozen_of hcb 5
    have e6 := frozen_of hcb 6
    have e7 := frozen_of hcb 7
    clear hcb
    go_wp2_with fail
    refine ret_rdec (u := .int .i64 60) (stored8 HG0.out) rfl rfl rfl rfl ?_
    exact rdec_zero HD.out ((kept_store8 (S := fun k => w.heap.size ≤ k) (Kept.of_below HB0.out) (.inl HGW.out) _ _ _ _ _ _ _ _).below (Nat.le_refl _) (fun _ h => h))
  · have HN1 := Lib.hid (show 1 ≤ s.size by omega)
    have hz2 : decide (Z < 1) = false := decide_eq_false hz
    have i0 := run_byte s 0 (by omega)
    rw [show ((0 : Nat) : Int) = 0 from rfl] at i0
    have hby := by_first s
    obtain ⟨x, hx⟩ : ∃ x, x = by8 s 0 := ⟨_, rfl⟩
    have hlt := by8_lt s 0
    rw [← hx] at i0 hby hlt
    obtain ⟨d, hd⟩ : ∃ d, d = val s 0 3 := ⟨_, rfl⟩
    obtain ⟨c, hc⟩ : ∃ c, c = val s 3 1 := ⟨_, rfl⟩
    obtain ⟨n', hn'⟩ : ∃ n, n = val s 4 4 := ⟨_, rfl⟩
    have bd : 0 ≤ d ∧ d < 8 := by rw [hd]; exact val_bd s 0 3
    have bc : 0 ≤ c ∧ c < 2 := by rw [hc]; exact val_bd s 3 1
    have bn : 0 ≤ n' ∧ n' < 16 := by rw [hn']; exact val_bd s 4 4
    rw [← hd, ← hc, ← hn'] at hby
    obtain ⟨n, rfl⟩ : ∃ n : Nat, n' = (n : Int) := ⟨n'.toNat, by omega⟩
    have HNN := Lib.hid (show srcN s = n by unfold srcN; rw [← hn']; rfl)
    have HDD := Lib.hid hd
    have HCC := Lib.hid hc
    have hn15 : (n : Int) ≤ 15 := by omega
    have hlt' : (x : Int) < 256 := by omega
    have HBY := Lib.hid hby
    have a1 := and_one ((x : Int) / 32) (by omega) (by omega)
    clear hx hlt hd hc hn' hz hby
    by_cases h64 : ¬ (x : Int) / 64 = 2
    · have HD := Lib.hid (show decH s = (zeroH, 0, 70) by unfold decH; rw [if_neg (by have := HN1.out; omega), if_pos (by rw [← HDD.out]; have := HBY.out; omega)])
      have q1 : ((x : Int) / 64 == 2) = false := by rw [beq_eq_false_iff_ne]; exact h64
      have q2 : ((x : Int) / 64 != 2) = true := by unfold bne; rw [q1]; rfl
      clear h64 q1 bd bc bn
      have hcb := HG0.out
      obtain ⟨z0, z1, z2, z3, z4, z5, z6, z7⟩ := cells8 hcb
      have e0 := frozen_of hcb 0
      have e1 := frozen_of hcb 1
      have e2 := frozen_of hcb 2
      have e3 := frozen_of hcb 3
      have e4 := frozen_of hcb 4
      have e5 := frozen_of hcb 5
      have e6 := frozen_of hcb 6
      have e7 := frozen_of hcb 7
      clear hcb
      go_wp2_with fail
      refine ret_rdec (u := .int .i64 70) (stored8 HG0.out) rfl rfl rfl rfl ?_
      exact rdec_zero HD.out ((kept_store8 (S := fun k => w.heap.size ≤ k) (Kept.of_below HB0.out) (.inl HGW.out) _ _ _ _ _ _ _ _).below (Nat.le_refl _) (fun _ h => h))
    · replace h64 := Classical.not_not.1 h64
      have q1 : ((x : Int) / 64 == 2) = true := by rw [beq_iff_eq]; exact h64
      have q2 : ((x : Int) / 64 != 2) = false := by unfold bne; rw [q1]; rfl
      by_cases h32 : ¬ (x : Int) / 32 % 2 = 0
      · have HD := Lib.hid (show decH s = (zeroH, 0, 70) by unfold decH; rw [if_neg (by have := HN1.out; omega), if_pos (by rw [← HDD.out]; have := HBY.out; omega)])
        have q3 : ((x : Int) / 32 % 2 == 0) = false := by rw [beq_eq_false_iff_ne]; exact h32
        have q4 : ((x : Int) / 32 % 2 != 0) = true := by unfold bne; rw [q3]; rfl
        clear h64 q1 h32 q3 bd bc bn
        have hcb := HG0.out
        obtain ⟨z0, z1, z2, z3, z4, z5, z6, z7⟩ := cells8 hcb
        have e0 := frozen_of hcb 0
        have e1 := frozen_of hcb 1
        have e2 := frozen_of hcb 2
        have e3 := frozen_of hcb 3
        have e4 := frozen_of hcb 4
        have e5 := frozen_of hcb 5
        have e6 := frozen_of hcb 6
        have e7 := frozen_of hcb 7
        clear hcb
        go_wp2_with fail
        refine ret_rdec (u := .int .i64 70) (stored8 HG0.out) rfl rfl rfl rfl ?_
        exact rdec_zero HD.out ((kept_store8 (S := fun k => w.heap.size ≤ k) (Kept.of_below HB0.out) (.inl HGW.out) _ _ _ _ _ _ _ _).below (Nat.le_refl _) (fun _ h => h))
      · replace h32 := Classical.not_not.1 h32
        have q3 : ((x : Int) / 32 % 2 == 0) = true := by rw [beq_iff_eq]; exact h32
        have q4 : ((x : Int) / 32 % 2 != 0) = false := by unfold bne; rw [q3]; rfl
        have HM4 := Lib.hid (show val s 0 3 = 4 by rw [← HDD.out]; have := HBY.out; omega)
        have a2 : Go.bits .and .u8 ((x : Int) / 16) 1 = c := by rw [and_one _ (by omega) (by omega)]; have := HBY.out; omega
        have e15 : (x : Int) % 16 = (n : Int) := by have := HBY.out; omega
        clear h64 q1 h32 q3 bd bn
        have HE15 := Lib.hid e15
        clear e15
        go_upto_region 5 with fail
        go_quiet (fail)
        go_upto_region 6 with fail
        rw [HE15.out]
        obtain ⟨more, hmore⟩ : ∃ b, b = (c == 1) := ⟨_, rfl⟩
        rw [← hmore]
        have HMO := Lib.hid hmore
        have hkn : Kept (fun _ => False) W0 (W0.drewN nq) := (Kept.refl _ W0).drewN nq
        have HGa := Lib.hid ((hkn.block g (Array.getElem?_eq_some_iff.1 HG0.out).1 id).trans HG0.out)
        have HWa := Lib.hid (below_then HB0.out HB0.out.size (hkn.below (Nat.le_refl _) (fun _ e => e.elim)))
        obtain ⟨Va, hVa⟩ : ∃ Va, Va = W0.drewN nq := ⟨_, rfl⟩
        rw [← hVa] at HGa HWa ⊢
        clear hVa hkn hmore a1 a2 q2 q4 i0 bc hlt'
        have HMR := Lib.hid (show decH s = if s.size < 12 + 4 * n then (zeroH, 0, 60) else if more = true then decOut s (decE s (12 + 4 * n)) else (hd0 s [], 12 + 4 * n, 0) by
          unfold decH
          rw [if_neg (by have := HN1.out; omega), if_neg (fun e => e HM4.out), HNN.out, ← HCC.out, HMO.out]
          simp only [beq_iff_eq])
        go_upto_region 7 with fail
        obtain ⟨N0, hN0⟩ : ∃ N0 : Nat, 12 + 4 * (n : Int) = (N0 : Int) := ⟨12 + 4 * n, by omega⟩
        rw [hN0]
        have HN0 := Lib.hid (show 12 + 4 * n = N0 by omega)
        rw [HN0.out] at HMR
        have hN00 : 0 ≤ (N0 : Int) := by omega
        have hN0b : (N0 : Int) ≤ 72 := by omega
        clear hN0
        by_cases hsh : Z < (N0 : Int)
        · have HD := Lib.hid (show decH s = (zeroH, 0, 60) by rw [HMR.out, if_pos (by omega)])
          have hcb := HGa.out
          obtain ⟨z0, z1, z2, z3, z4, z5, z6, z7⟩ := cells8 hcb
          have e0 := frozen_of hcb 0
          have e1 := frozen_of hcb 1
          have e2 := frozen_of hcb 2
          have e3 := frozen_of hcb 3
          have e4 := frozen_of hcb 4
          have e5 := frozen_of hcb 5
          have e6 := frozen_of hcb 6
          have e7 := frozen_of hcb 7
          clear hcb
          go_wp2_with fail
          refine ret_rdec (u := .int .i64 60) (stored8 HGa.out) rfl rfl rfl rfl ?_
          exact rdec_zero HD.out ((kept_store8 (S := fun k => w.heap.size ≤ k) (Kept.of_below HWa.out) (.inl HGW.out) _ _ _ _ _ _ _ _).below (Nat.le_refl _) (fun _ h => h))
        · have HFIT := Lib.hid (show N0 ≤ s.size by omega)
          have HM2 := Lib.hid (show decH s = if more = true then decOut s (decE s N0) else (hd0 s [], N0, 0) by rw [HMR.out, if_neg (by omega)])
          clear HMR
          go_wp2_with fail
          refine (ref_read_any s Va).mono ?_
          rintro e Vb ⟨rfl, hVb⟩
          obtain ⟨p, hp⟩ : ∃ p, p = Va.heap.size := ⟨_, rfl⟩
          rw [← hp]
          have HR0 := Lib.hid (show RR 76 Vb p s 0 false by rw [hVb, hp]; exact RR.new _ s Va)
          have hk0 : Kept (fun _ => False) Va Vb := by rw [hVb]; exact (Kept.refl _ Va).alloc _
          have HG00 := Lib.hid ((hk0.block g (Array.getElem?_eq_some_iff.1 HGa.out).1 id).trans HGa.out)
          have HW00 := Lib.hid (below_then HWa.out HWa.out.size (hk0.below (Nat.le_refl _) (fun _ e => e.elim)))
          have HPG := Lib.hid (show g < p by rw [hp]; exact (Array.getElem?_eq_some_iff.1 HGa.out).1)
          clear hVb hk0 hp HG0
          have HG0 := HG00
          have HW0 := HW00
          clear HG00 HW00
          go_wp2_with fail
          refine (rget_fit 8 8 rfl HR0.out (by omega) (by have := HFIT.out; have := HN0.out; omega) HS.out).mono ?_
          rintro e V1 ⟨rfl, h1, hk1⟩
          have HR1 := Lib.hid (show RR 76 V1 p s 8 false from h1)
          have HG1 := Lib.hid ((hk1.block g (Array.getElem?_eq_some_iff.1 HG0.out).1 (fun e => by have := HPG.out; omega)).trans HG0.out)
          have HK1 := Lib.hid hk1
          have HW1 := Lib.hid (show Below w.heap.size w V1 from (Kept.trans (S := fun k => w.heap.size ≤ k) (Kept.of_below HW0.out) hk1 (fun k _ e => by have := HPG.out; have := HGW.out; omega)).below (Nat.le_refl _) (fun _ h => h))
          obtain ⟨vf, hv⟩ : ∃ v, v = val s 0 8 := ⟨_, rfl⟩
          obtain ⟨vf_lo, vf_hi⟩ : 0 ≤ vf ∧ vf < 256 := by rw [hv]; exact val_bd s 0 8
          rw [← hv]
          have Hvf := Lib.hid hv
          clear h1 hk1 hv
          go_wp2_with fail
          refine (rget_fit 1 1 rfl HR1.out (by omega) (by have := HFIT.out; have := HN0.out; omega) HS.out).mono ?_
          rintro e V2 ⟨rfl, h1, hk1⟩
          have HR2 := Lib.hid (show RR 76 V2 p s 9 false from h1)
          have HG2 := Lib.hid ((hk1.block g (Array.getElem?_eq_some_iff.1 HG1.out).1 (fun e => by have := HPG.out; omega)).trans HG1.out)
          have HK2 := Lib.hid hk1
          have HW2 := Lib.hid (show Below w.heap.size w V2 from (Kept.trans (S := fun k => w.heap.size ≤ k) (Kept.of_below HW1.out) hk1 (fun k _ e => by have := HPG.out; have := HGW.out; omega)).below (Nat.le_refl _) (fun _ h => h))
          obtain ⟨vk, hv⟩ : ∃ v, v = val s 8 1 := ⟨_, rfl⟩
          obtain ⟨vk_lo, vk_hi⟩ : 0 ≤ vk ∧ vk < 2 := by rw [hv]; exact val_bd s 8 1
          rw [← hv]
          have Hvk := Lib.hid hv
          clear h1 hk1 hv
          go_wp2_with fail
          refine (rget_fit 7 7 rfl HR2.out (by omega) (by have := HFIT.out; have := HN0.out; omega) HS.out).mono ?_
          rintro e V3 ⟨rfl, h1, hk1⟩
          have HR3 := Lib.hid (show RR 76 V3 p s 16 false from h1)
          have HG3 := Lib.hid ((hk1.block g (Array.getElem?_eq_some_iff.1 HG2.out).1 (fun e => by have := HPG.out; omega)).trans HG2.out)
          have HK3 := Lib.hid hk1
          have HW3 := Lib.hid (show Below w.heap.size w V3 from (Kept.trans (S := fun k => w.heap.size ≤ k) (Kept.of_below HW2.out) hk1 (fun k _ e => by have := HPG.out; have := HGW.out; omega)).below (Nat.le_refl _) (fun _ h => h))
          obtain ⟨vt, hv⟩ : ∃ v, v = val s 9 7 := ⟨_, rfl⟩
          obtain ⟨vt_lo, vt_hi⟩ : 0 ≤ vt ∧ vt < 128 := by rw [hv]; exact val_bd s 9 7
          rw [← hv]
          have Hvt := Lib.hid hv
          clear h1 hk1 hv
          go_wp2_with fail
          refine (rget_fit 16 16 rfl HR3.out (by omega) (by have := HFIT.out; have := HN0.out; omega) HS.out).mono ?_
          rintro e V4 ⟨rfl, h1, hk1⟩
          have HR4 := Lib.hid (show RR 76 V4 p s 32 false from h1)
          have HG4 := Lib.hid ((hk1.block g (Array.getElem?_eq_some_iff.1 HG3.out).1 (fun e => by have := HPG.out; omega)).trans HG3.out)
          have HK4 := Lib.hid hk1
          have HW4 := Lib.hid (show Below w.heap.size w V4 from (Kept.trans (S := fun k => w.heap.size ≤ k) (Kept.of_below HW3.out) hk1 (fun k _ e => by have := HPG.out; have := HGW.out; omega)).below (Nat.le_refl _) (fun _ h => h))
          obtain ⟨vq, hv⟩ : ∃ v, v = val s 16 16 := ⟨_, rfl⟩
          obtain ⟨vq_lo, vq_hi⟩ : 0 ≤ vq ∧ vq < 65536 := by rw [hv]; exact val_bd s 16 16
          rw [← hv]
          have Hvq := Lib.hid hv
          clear h1 hk1 hv
          go_upto_region 12 with fail
          obtain ⟨q, hq⟩ : ∃ q, q = V4.heap.size := ⟨_, rfl⟩
          obtain ⟨V5, hV5⟩ : ∃ U, U = V4.alloc (.cells (dcs (vk == 1) vt vq 0 0 (.slice none 0 0) (.slice none 0 0)) 26) := ⟨_, rfl⟩
          rw [← hV5, ← hq]
          obtain ⟨mb, hmb⟩ : ∃ b, b = (vk == 1) := ⟨_, rfl⟩
          rw [← hmb] at hV5 ⊢
          have HMB := Lib.hid hmb
          have hk5 : Kept (fun _ => False) V4 V5 := by rw [hV5]; exact (Kept.refl _ V4).alloc _
          have HR5 := Lib.hid (HR4.out.kept hk5 id)
          have HG5 := Lib.hid ((hk5.block g (Array.getElem?_eq_some_iff.1 HG4.out).1 id).trans HG4.out)
          have HW5 := Lib.hid (below_then HW4.out HW4.out.size (hk5.below (Nat.le_refl _) (fun _ e => e.elim)))
          have HQ5 := Lib.hid (show V5.heap[q]? = some (.cells (dcs mb vt vq 0 0 (.slice none 0 0) (.slice none 0 0)) 26 (0, 0)) by rw [hV5, hq]; exact heap_alloc_new V4 _)
          have HPQ := Lib.hid (show p < q by rw [hq]; exact (Array.getElem?_eq_some_iff.1 HR4.out).1)
          clear hq hV5 hmb hk5 HR0 HR1 HR2 HR3 HR4 HG0 HG1 HG2 HG3 HG4 HW1 HW2 HW3 HW4
          go_wp2_with fail
          refine (rget_fit 32 32 rfl HR5.out (by omega) (by have := HFIT.out; have := HN0.out; omega) HS.out).mono ?_
          rintro e V6 ⟨rfl, h1, hk1⟩
          have HR6 := Lib.hid (show RR 76 V6 p s 64 false from h1)
          have HG6 := Lib.hid ((hk1.block g (Array.getElem?_eq_some_iff.1 HG5.out).1 (fun e => by have := HPG.out; omega)).trans HG5.out)
          have HK6 := Lib.hid hk1
          have HW6 := Lib.hid (show Below w.heap.size w V6 from (Kept.trans (S := fun k => w.heap.size ≤ k) (Kept.of_below HW5.out) hk1 (fun k _ e => by have := HPG.out; have := HGW.out; omega)).below (Nat.le_refl _) (fun _ h => h))
          obtain ⟨vi, hv⟩ : ∃ v, v = val s 32 32 := ⟨_, rfl⟩
          obtain ⟨vi_lo, vi_hi⟩ : 0 ≤ vi ∧ vi < 4294967296 := by rw [hv]; exact val_bd s 32 32
          rw [← hv]
          have Hvi := Lib.hid hv
          clear h1 hk1 hv
          have HQ6 := Lib.hid (show V6.heap[q]? = some (.cells (dcs mb vt vq 0 0 (.slice none 0 0) (.slice none 0 0)) 26 (0, 0)) from (HK6.out.block q (Array.getElem?_eq_some_iff.1 HQ5.out).1 (fun e => by have := HPQ.out; omega)).trans HQ5.out)
          go_wp2_with fail
          refine (rget_fit 32 32 rfl HR6.out (by omega) (by have := HFIT.out; have := HN0.out; omega) HS.out).mono ?_
          rintro e V7 ⟨rfl, h1, hk1⟩
          have HR7 := Lib.hid (show RR 76 V7 p s 96 false from h1)
          have HG7 := Lib.hid ((hk1.block g (Array.getElem?_eq_some_iff.1 HG6.out).1 (fun e => by have := HPG.out; omega)).trans HG6.out)
          have HK7 := Lib.hid hk1
          have HW7 := Lib.hid (show Below w.heap.size w V7 from (Kept.trans (S := fun k => w.heap.size ≤ k) (Kept.of_below HW6.out) hk1 (fun k _ e => by have := HPG.out; have := HGW.out; omega)).below (Nat.le_refl _) (fun _ h => h))
          obtain ⟨vs, hv⟩ : ∃ v, v = val s 64 32 := ⟨_, rfl⟩
          obtain ⟨vs_lo, vs_hi⟩ : 0 ≤ vs ∧ vs < 4294967296 := by rw [hv]; exact val_bd s 64 32
          rw [← hv]
          have Hvs := Lib.hid hv
          clear h1 hk1 hv
          have HQ7 := Lib.hid (show V7.heap[q]? = some (.cells (dcs mb vt vq 0 0 (.slice none 0 0) (.slice none 0 0)) 26 (0, 0)) from (HK7.out.block q (Array.getElem?_eq_some_iff.1 HQ6.out).1 (fun e => by have := HPQ.out; omega)).trans HQ6.out)
          have hcb := HQ7.out
          have e3 := frozen_of hcb 3
          have e4 := frozen_of hcb 4
          obtain ⟨y0, y1, y2, y3, y4, y5, y6⟩ := cells7 hcb
          clear hcb
          go_upto_region 13 with fail
          obtain ⟨U, hU⟩ : ∃ U, U = (V7.setCell ⟨q, 3, none⟩ (.int .u32 vi)).setCell ⟨q, 4, none⟩ (.int .u32 vs) := ⟨_, rfl⟩
          rw [← hU]
          have hku : Kept (fun k => k = q) V7 U := by rw [hU]; exact ((Kept.refl (fun k => k = q) V7).setCell (p := ⟨q, 3, none⟩) (.inl rfl) _).setCell (p := ⟨q, 4, none⟩) (.inl rfl) _
          have HQU := Lib.hid (show U.heap[q]? = some (.cells (dcs mb vt vq vi vs (.slice none 0 0) (.slice none 0 0)) 26 (0, 0)) by rw [hU]; simp [World.setCell, Array.getElem?_modify, HQ7.out])
          have HGU := Lib.hid ((hku.block g (Array.getElem?_eq_some_iff.1 HG7.out).1 (fun e => by have := HPQ.out; have := HPG.out; omega)).trans HG7.out)
          have HRU := Lib.hid (HR7.out.kept hku (fun e => by have := HPQ.out; omega))
          have HWU := Lib.hid (show Below w.heap.size w U from (Kept.trans (S := fun k => w.heap.size ≤ k) (Kept.of_below HW7.out) hku (fun k _ e => by have := HPQ.out; have := HPG.out; have := HGW.out; omega)).below (Nat.le_refl _) (fun _ h => h))
          clear hU hku e3 e4 y0 y1 y2 y3 y4 y5 y6 HQ5 HQ6 HQ7 HG5 HG6 HG7 HR5 HR6 HR7 HW5 HW6 HW7 HK1 HK2 HK3 HK4 HK6 HK7
          go_wp2_with fail
          go_loopw [9] (fun iv wx => ∃ (i : Nat) (lv : Value), (i : Int) ≤ (n : Int) ∧ iv = .int .i64 (i : Int) ∧ wx.heap[q]? = some (.cells (dcs mb vt vq vi vs lv (.slice none 0 0)) 26 (0, 0)) ∧ wx.heap[g]? = some (.cells zgs 39 (0, 0)) ∧ RW wx 1 lv i (nums .u32 (srcX s i)) ∧ (∀ k, isAt lv k → w.heap.size ≤ k ∧ k ≠ q ∧ k ≠ p ∧ k ≠ g) ∧ RR 76 wx p s (96 + 32 * i) false ∧ Below w.heap.size w wx) (fun iv _ => ((n : Int) - intOf iv).toNat)
          case atStart => exact ⟨0, .slice none 0 0, by omega, rfl, HQU.out, HGU.out, RW.nil _ _, (by rintro k ⟨o, m, c, e⟩; cases e), HRU.out, HWU.out⟩
          case round =>
            obtain ⟨i, lv, hi, rfl, hqx, hgx, hrw, hat, hst, hbw⟩ := hrel
            rename World => X
            have HQX := Lib.hid hqx
            have HGX := Lib.hid hgx
            have HRX := Lib.hid hrw
            have HAT := Lib.hid hat
            have HX := Lib.hid hst
            have HB := Lib.hid hbw
            obtain ⟨lA, lc, rfl⟩ := hrw.shape
            clear hqx hgx hrw hat hst hbw
            by_cases hil : (i : Int) < (n : Int)
            · go_upto_region 16 with fail
              have HS : X.drew.cell? ⟨q, 5, none⟩ = some (.slice lA i lc) := (cells7 HQX.out).2.2.2.2.2.1
              have HSZ := Lib.hid (show s.size ≤ 1099511627776 by omega)
              refine Tail.start 7 (fun w' => w'.cell? ⟨q, 5, none⟩ = some (.slice lA i lc)) (by kernel_rfl) ?_
              refine Tail.take 0 rfl (by kernel_rfl) (fun _ _ _ h => h) (by rfl) HS (fun w hSw => by (try dsimp only at hSw); go_simp; (try with_reducible rfl)) ?_
              try simp only [Act.put, List.setIfInBounds_toArray, List.set_cons_zero, List.set_cons_succ]
              refine Tail.take 1 rfl (by kernel_rfl) (fun _ _ _ h => h) (by rfl) HS (fun w hSw => by (try dsimp only at hSw); go_simp; (try with_reducible rfl)) ?_
              try simp only [Act.put, List.setIfInBounds_toArray, List.set_cons_zero, List.set_cons_succ]
              refine Tail.take 2 rfl (by kernel_rfl) (fun _ _ _ h => h) (by rfl) HS (fun w hSw => by (try dsimp only at hSw); go_simp; (try with_reducible rfl)) ?_
              try simp only [Act.put, List.setIfInBounds_toArray, List.set_cons_zero, List.set_cons_succ]
              refine Tail.one 3 rfl (by kernel_rfl) (fun K hK => ?_)
              go_simp
              refine (rget_fit 32 32 rfl (show RR 76 X.drew p s (96 + 32 * i) false from HX.out.kept ((Kept.refl (fun _ => False) X).drew) id) (by omega) (by have := HFIT.out; have := HN0.out; omega) HSZ.out).mono ?_
              rintro e X1 ⟨rfl, h1, hk1⟩
              have hk2 : Kept (fun k => k = p) X X1 := (Kept.refl (fun k => k = p) X).drew.trans hk1 (fun _ _ h => h)
              have HX1 := Lib.hid h1
              have HQX1 := Lib.hid ((hk2.block q (Array.getElem?_eq_some_iff.1 HQX.out).1 (fun e => by have := HPQ.out; omega)).trans HQX.out)
              have HGX1 := Lib.hid ((hk2.block g (Array.getElem?_eq_some_iff.1 HGX.out).1 (fun e => by have := HPG.out; omega)).trans HGX.out)
              have HRX1 := Lib.hid (HRX.out.kept hk2 (fun k hk e => (HAT.out k hk).2.2.1 e))
              have HB1 := Lib.hid (show Below w.heap.size w X1 from (Kept.trans (S := fun k => w.heap.size ≤ k) (Kept.of_below HB.out) hk2 (fun k _ e => by have := HPG.out; have := HGW.out; omega)).below (Nat.le_refl _) (fun _ h => h))
              obtain ⟨V, hV⟩ : ∃ V, V = val s (96 + 32 * i) 32 := ⟨_, rfl⟩
              rw [← hV]
              have HV := Lib.hid hV
              have HS : X1.cell? ⟨q, 5, none⟩ = some (.slice lA i lc) := (cells7 HQX1.out).2.2.2.2.2.1
              clear h1 hk1 hk2 hV
              refine hK.out _ _ HS ?_
              clear hK K
              try simp only [Act.put, List.setIfInBounds_toArray, List.set_cons_zero, List.set_cons_succ]
              refine Tail.one 4 rfl (by kernel_rfl) (fun K hK => ?_)
              go_simp
              have HS : (X1.alloc (.cells #[.int .u32 V] 22)).cell? ⟨q, 5, none⟩ = some (.slice lA i lc) := ck ((Kept.refl (fun _ => False) X1).alloc _) HS id
              refine hK.out _ _ HS ?_
              clear hK K
              try simp only [Act.put, List.setIfInBounds_toArray, List.set_cons_zero, List.set_cons_succ]
              refine Tail.one 5 rfl (by kernel_rfl) (fun K hK => ?_)
              have HRK := Lib.hid (HRX1.out.kept ((Kept.refl (fun _ => False) X1).alloc (.cells #[.int .u32 V] 22)) (fun _ _ => id))
              have HRDD := Lib.hid (show Rd (X1.alloc (.cells #[.int .u32 V] 22)) 1 (some ⟨X1.heap.size, 0, none⟩) 1 [.int .u32 V] from Rd.one X1 _ _)
              refine step_row rfl (.tmp 69) (.tmp 72) 23 rfl 22 (.int .u32 0) 1 4 Try.underlying23 info_u32 rfl (by omega) (.slice lA i lc) i (nums .u32 (srcX s i)) rfl HRK.out _ _ [.int .u32 V] rfl HRDD.out (by simp [Value.oneCell']) (by omega) ?_
              intro v1 w6 hr1 hk1 hn1
              obtain ⟨A1, cap1, rfl⟩ := hr1.shape
              have HNQ := Lib.hid (show ¬ isAt (.slice lA i lc) q from fun e => (HAT.out q e).2.1 rfl)
              have HS : w6.cell? ⟨q, 5, none⟩ = some (.slice lA i lc) := ck hk1 HS HNQ.out
              have HR1 := Lib.hid hr1
              have HN2 := Lib.hid hn1
              have HK1 := Lib.hid (show Kept (isAt (.slice lA i lc)) X1 w6 from Kept.trans (S := isAt (.slice lA i lc)) ((Kept.refl (isAt (.slice lA i lc)) X1).alloc _) hk1 (fun _ _ h => h))
              clear hr1 hk1 hn1
              refine hK.out _ _ HS ?_
              clear hK K
              try simp only [Act.put, List.setIfInBounds_toArray, List.set_cons_zero, List.set_cons_succ]
              refine Tail.take 6 rfl (by kernel_rfl) (fun _ _ _ h => h) (by rfl) HS (fun w hSw => by (try dsimp only at hSw); go_simp; (try with_reducible rfl)) ?_
              try simp only [Act.put, List.setIfInBounds_toArray, List.set_cons_zero, List.set_cons_succ]
              refine Tail.tail 7 rfl (by kernel_rfl) ?_
              simp only [List.drop_succ_cons, List.drop_zero]
              have HQ6 := Lib.hid ((HK1.out.block q (Array.getElem?_eq_some_iff.1 HQX1.out).1 HNQ.out).trans HQX1.out)
              have HG6 := Lib.hid ((HK1.out.block g (Array.getElem?_eq_some_iff.1 HGX1.out).1 (fun e => (HAT.out g e).2.2.2 rfl)).trans HGX1.out)
              have e5 := frozen_of HQ6.out 5
              go_wp2_with fail
              go_roundw
              case rel =>
                have hks : Kept (fun k => k = q) w6 (w6.setCell ⟨q, 5, none⟩ (.slice A1 (i + 1) cap1)) := (Kept.refl (fun k => k = q) w6).setCell (p := ⟨q, 5, none⟩) (.inl rfl) _
                have hat2 : ∀ k, isAt (.slice A1 (i + 1) cap1) k → w.heap.size ≤ k ∧ k ≠ q ∧ k ≠ p ∧ k ≠ g := fun k hk => by
                  rcases HN2.out k hk with h | h
                  · exact HAT.out k h
                  · have h1 := (Array.getElem?_eq_some_iff.1 HQX1.out).1
                    have h2 := (Array.getElem?_eq_some_iff.1 HGX1.out).1
                    have h3 := (Array.getElem?_eq_some_iff.1 HX1.out).1
                    have h5 := HB1.out.size
                    rw [show (X1.alloc (.cells #[.int .u32 V] 22)).heap.size = X1.heap.size + 1 by simp] at h
                    omega
                refine ⟨i + 1, .slice A1 (i + 1) cap1, by omega, by go_num, ?_, ?_, ?_, hat2, ?_, ?_⟩
                · simp [World.setCell, Array.getElem?_modify, HQ6.out]
                · exact (hks.block g (Array.getElem?_eq_some_iff.1 HG6.out).1 (fun e => by have := HPQ.out; have := HPG.out; omega)).trans HG6.out
                · have h := HR1.out.kept hks (fun k hk e => (hat2 k hk).2.1 e)
                  rw [srcX_succ, nums_append, vx_fit (by have := HFIT.out; have := HN0.out; omega), ← HV.out]
                  exact h
                · have h := (HX1.out.kept HK1.out (fun e => (HAT.out p e).2.2.1 rfl)).kept hks (fun e => by have := HPQ.out; omega)
                  rwa [show 96 + 32 * i + 32 = 96 + 32 * (i + 1) by omega] at h
                · exact (Kept.trans (S := fun k => w.heap.size ≤ k) (Kept.trans (S := fun k => w.heap.size ≤ k) (Kept.of_below HB1.out) HK1.out (fun k _ e => (HAT.out k e).1)) hks (fun k _ e => by have := HPQ.out; have := HPG.out; have := HGW.out; omega)).below (Nat.le_refl _) (fun _ h => h)
              case measure => exact measN n i hil
            · have hin : i = n := by omega
              subst hin
              clear hil hi
              have hcb := HGX.out
              obtain ⟨z0, z1, z2, z3, z4, z5, z6, z7⟩ := cells8 hcb
              have e0 := frozen_of hcb 0
              have e1 := frozen_of hcb 1
              have e2 := frozen_of hcb 2
              have e3 := frozen_of hcb 3
              have e4 := frozen_of hcb 4
              have e5 := frozen_of hcb 5
              have e6 := frozen_of hcb 6
              have e7 := frozen_of hcb 7
              obtain ⟨y0, y1, y2, y3, y4, y5, y6⟩ := cells7 HQX.out
              clear hcb
              have hfit : 12 + 4 * i ≤ s.size := by have := HFIT.out; have := HN0.out; omega
              have HF := Lib.hid hfit
              have HME := Lib.hid (show ∀ xs, (hd0 s xs).m = mb ∧ (hd0 s xs).ty = vt ∧ (hd0 s xs).sq = vq ∧ (hd0 s xs).tm = vi ∧ (hd0 s xs).ss = vs ∧ (hd0 s xs).src = srcX s i from fun xs => ⟨by rw [HMB.out, Hvk.out]; rfl, Hvt.out.symm, Hvq.out.symm, Hvi.out.symm, Hvs.out.symm, by rw [srcX_fit hfit, ← HNN.out]; rfl⟩)
              clear hfit
              cases hm : more with
              | false =>
                have HD := Lib.hid (show decH s = (hd0 s [], N0, 0) by rw [HM2.out, if_neg (by rw [hm]; decide)])
                clear hm
                go_wp2_with fail
                have hks := kept_store8 (S := fun k => k = g) (Kept.refl _ X) (.inl rfl) (.bool mb) (.int .i64 vt) (.int .i64 vq) (.int .u32 vi) (.int .u32 vs) (.slice lA i lc) (.slice none 0 0) (.int .i64 (N0 : Int))
                refine ret_rdec (u := .int .i64 0) (stored8 HGX.out) rfl rfl rfl rfl ?_
                unfold RDecPost
                rw [HD.out]
                obtain ⟨m1, m2, m3, m4, m5, m6⟩ := HME.out []
                refine ⟨mb, vt, vq, vi, vs, .slice lA i lc, .slice none 0 0, rfl, ⟨lA, lc, none, 0, ?_, ?_, ?_⟩, ?_⟩
                · rw [m1, m2, m3, m4, m5, m6, srcX_len]
                  rfl
                · rw [m6, srcX_len]
                  exact (HRX.out.kept hks (fun k hk e => (HAT.out k hk).2.2.2 e)).rd
                · exact ⟨rfl, fun h => absurd h (Nat.lt_irrefl _)⟩
                · exact (Kept.trans (S := fun k => w.heap.size ≤ k) (Kept.of_below HB.out) hks (fun k _ e => by have := HGW.out; omega)).below (Nat.le_refl _) (fun _ h => h)
              | true =>
                have HDM := Lib.hid (show decH s = decOut s (decE s N0) by rw [HM2.out, if_pos hm])
                clear hm
                go_wp2_with fail
                refine (rexts_any s N0 mb vt vq vi vs lA i lc X HS.out HFIT.out).mono ?_
                intro e X2 hpost
                unfold RExtPost at hpost
                cases hde : decE s N0 with
                | error c =>
                  rw [hde] at hpost
                  obtain ⟨rfl, hk1⟩ := hpost
                  have HD := Lib.hid (show decH s = (zeroH, 0, c) by rw [HDM.out, hde]; rfl)
                  have HGY := Lib.hid ((hk1.block g (Array.getElem?_eq_some_iff.1 HGX.out).1).trans HGX.out)
                  have HBY := Lib.hid (below_then HB.out HB.out.size hk1)
                  clear hk1 hde z0 z1 z2 z3 z4 z5 z6 z7 e0 e1 e2 e3 e4 e5 e6 e7 y0 y1 y2 y3 y4 y5 y6
                  have hcb := HGY.out
                  obtain ⟨z0, z1, z2, z3, z4, z5, z6, z7⟩ := cells8 hcb
                  have e0 := frozen_of hcb 0
                  have e1 := frozen_of hcb 1
                  have e2 := frozen_of hcb 2
                  have e3 := frozen_of hcb 3
                  have e4 := frozen_of hcb 4
                  have e5 := frozen_of hcb 5
                  have e6 := frozen_of hcb 6
                  have e7 := frozen_of hcb 7
                  clear hcb
                  go_wp2_with fail
                  refine ret_rdec (u := .int .i64 c) (stored8 HGY.out) rfl rfl rfl rfl ?_
                  exact rdec_zero HD.out ((kept_store8 (S := fun k => w.heap.size ≤ k) (Kept.of_below HBY.out) (.inl HGW.out) _ _ _ _ _ _ _ _).below (Nat.le_refl _) (fun _ h => h))
                | ok x =>
                  rw [hde] at hpost
                  obtain ⟨xA, xc, rfl, hrx, hax, hk1⟩ := hpost
                  have HD := Lib.hid (show decH s = (hd0 s x.1, x.2, 0) by rw [HDM.out, hde]; rfl)
                  have HGY := Lib.hid ((hk1.block g (Array.getElem?_eq_some_iff.1 HGX.out).1).trans HGX.out)
                  have HBY := Lib.hid (below_then HB.out HB.out.size hk1)
                  have HLY := Lib.hid (HRX.out.kept (below_kept hk1) (fun _ _ => id))
                  have HXA := Lib.hid (show ∀ k, isAt (.slice xA x.1.length xc) k → ¬ k = g from fun k hk e => by have h1 := hax k hk; have h2 := (Array.getElem?_eq_some_iff.1 HGX.out).1; omega)
                  have HXY := Lib.hid hrx
                  clear hk1 hde hrx hax z0 z1 z2 z3 z4 z5 z6 z7 e0 e1 e2 e3 e4 e5 e6 e7 y0 y1 y2 y3 y4 y5 y6
                  have hcb := HGY.out
                  obtain ⟨z0, z1, z2, z3, z4, z5, z6, z7⟩ := cells8 hcb
                  have e0 := frozen_of hcb 0
                  have e1 := frozen_of hcb 1
                  have e2 := frozen_of hcb 2
                  have e3 := frozen_of hcb 3
                  have e4 := frozen_of hcb 4
                  have e5 := frozen_of hcb 5
                  have e6 := frozen_of hcb 6
                  have e7 := frozen_of hcb 7
                  clear hcb
                  go_wp2_with fail
                  have hks := kept_store8 (S := fun k => k = g) (Kept.refl _ X2) (.inl rfl) (.bool mb) (.int .i64 vt) (.int .i64 vq) (.int .u32 vi) (.int .u32 vs) (.slice lA i lc) (.slice xA x.1.length xc) (.int .i64 (x.2 : Int))
                  refine ret_rdec (u := .int .i64 0) (stored8 HGY.out) rfl rfl rfl rfl ?_
                  unfold RDecPost
                  rw [HD.out]
                  obtain ⟨m1, m2, m3, m4, m5, m6⟩ := HME.out x.1
                  refine ⟨mb, vt, vq, vi, vs, .slice lA i lc, .slice xA x.1.length xc, rfl, ⟨lA, lc, xA, xc, ?_, ?_, ?_⟩, ?_⟩
                  · rw [m1, m2, m3, m4, m5, m6, srcX_len]
                    rfl
                  · rw [m6, srcX_len]
                    exact (HLY.out.kept hks (fun k hk e => (HAT.out k hk).2.2.2 e)).rd
                  · exact (HXY.out.kept hks HXA.out).rd
                  · exact (Kept.trans (S := fun k => w.heap.size ≤ k) (Kept.of_below HBY.out) hks (fun k _ e => by have := HGW.out; omega)).below (Nat.le_refl _) (fun _ h => h)
end Go.Proofs.Ytccljgohekmjkaa.Rtp
