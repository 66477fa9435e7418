/- What block tells; no condition but the ranges in each. -/
import Derived.Test.YtmkaflfhmpddbaaCcfbDec
import Derived.Test.YtmkaflfhmpddbaaCcfbOwn
import Derived.Test.YtmkaflfhmpddbaaBitsY
namespace Go.Proofs.Ytmkaflfhmpddbaa.Ccfb
open Go.RowKit Go.Proofs.Ytmkaflfhmpddbaa.Plain Go.Proofs.Ytmkaflfhmpddbaa.Heap Go.Proofs.Ytmkaflfhmpddbaa.Open Go.Proofs.Ytmkaflfhmpddbaa.Rows Go.Proofs.Ytmkaflfhmpddbaa.Bits

def zb : Value := .agg #[.int .u32 0, .int .i64 0, .slice none 0 0]
def BlkPost (s : ByteArray) (a p : Nat) (w : World) (e : Ending) (w' : World) : Prop := match decB s a with
  | .error c => e = .returned (.tuple #[zb, .int .i64 c]) ∧ Kept (fun k => k = p) w w'
  | .ok b => ∃ A c, e = .returned (.tuple #[.agg #[.int .u32 b.1, .int .i64 b.2.1, .slice A b.2.2.length c], .int .i64 0]) ∧ RR 72 w' p s (endB a b.2.2.length) false ∧ Rd w' 3 A b.2.2.length (flatM b.2.2) ∧
      (∀ o off, A = some ⟨o, off, none⟩ → 0 < b.2.2.length → w.heap.size ≤ o) ∧ Kept (fun k => k = p) w w'
theorem blk_err {s : ByteArray} {a p : Nat} {w w' : World} {c : Int} (h : decB s a = .error c) (hk : Kept (fun k => k = p) w w') : BlkPost s a p w (.returned (.tuple #[zb, .int .i64 c])) w' := by
  unfold BlkPost
  rw [h]
  exact ⟨rfl, hk⟩
theorem decB_ok {s : ByteArray} {a n : Nat} (h1 : ¬ 8 * s.size < a + 96) (hn : n = cntB s a) (h2 : ¬ 4096 < n) (h3 : ¬ 8 * s.size < endB a n + 32) (h4 : (decMs s (a + 64) n).any badM = false) (h5 : ¬ (n % 2 = 1 ∧ val s (a + 64 + 16 * n) 16 ≠ 0)) :
    decB s a = .ok (val s a 32, val s (a + 32) 16, decMs s (a + 64) n) := by
  unfold decB
  rw [← hn, if_neg h1, if_neg h2, if_neg h3, if_neg (by rw [h4]; exact Bool.false_ne_true), if_neg h5]
theorem blk_ok {s : ByteArray} {a p : Nat} {w w' : World} {b : Bl} {A : Option Addr} {n c : Nat} (h : decB s a = .ok b) (hn : b.2.2.length = n) (hr : RR 72 w' p s (endB a n) false) (hd : Rd w' 3 A n (flatM b.2.2)) (ho : ∀ o off, A = some ⟨o, off, none⟩ → w.heap.size ≤ o) (hk : Kept (fun k => k = p) w w') :
    BlkPost s a p w (.returned (.tuple #[.agg #[.int .u32 b.1, .int .i64 b.2.1, .slice A n c], .int .i64 0])) w' := by
  unfold BlkPost
  rw [h]
  subst hn
  exact ⟨A, c, rfl, hr, hd, fun o off e _ => ho o off e, hk⟩
theorem blk_size : (Try.prog.info? 44).map (·.size) = some 3 := by kernel_rfl
theorem ret_block {R : Ending → World → Prop} {a : Act} {w : World} {b : Nat} {x y z u : Value} (h : w.heap[b]? = some (.cells #[x, y, z] 44 (0, 0))) (ha : a.tmps.getD 2 undef = .pointer (some ⟨b, 0, none⟩)) (hu : a.tmps.getD 3 undef = u) (hd : a.defers = []) (hR : R (.returned (.tuple #[.agg #[x, y, z], u])) w) :
    bodyPost Try.prog Try.f30 R .ret a w :=
  ret_cell_tmp (P := Try.prog) rfl ha h Try.underlying44 rfl blk_size hd (by rw [hu]; exact hR)
theorem measI2 (N : Int) (k : Nat) (h : (k : Int) < N) : (N - (intOf (.int .i64 ((k : Int) + 1)))).toNat < (N - intOf (.int .i64 (k : Int))).toNat := by simp [intOf]; omega
theorem rd_blk (w : World) (t : TypeId) (x y z : Value) : Rd (w.alloc (.cells #[x, y, z] t)) 3 (some ⟨w.heap.size, 0, none⟩) 1 [x, y, z] :=
  Rd.block (w := w.alloc (.cells #[x, y, z] t)) (heap_alloc_new w (.cells #[x, y, z] t)) (sz := 3) (n := 1) (by simp)
theorem hrwShape {w : World} {sz n : Nat} {v : Value} {xs : List Value} (h : RW w sz v n xs) : ∃ A c, v = .slice A n c := h.shape
theorem kept_store3 {S : Nat → Prop} {w w' : World} {b : Nat} (hk : Kept S w w') (hb : S b ∨ w.heap.size ≤ b) (x y z : Value) : Kept S w (((w'.setCell ⟨b, 0, none⟩ x).setCell ⟨b, 1, none⟩ y).setCell ⟨b, 2, none⟩ z) :=
  ((hk.setCell (p := ⟨b, 0, none⟩) hb x).setCell (p := ⟨b, 1, none⟩) hb y).setCell (p := ⟨b, 2, none⟩) hb z
set_option maxRecDepth 10000 in
set_option maxHeartbeats 4000000 in
theorem block_any (s : ByteArray) (a p : Nat) (w : World) (hw : RR 72 w p s a false) (hs : s.size ≤ 65536) (ha : a + 32 ≤ 8 * s.size) :
    Calls Try.prog 30 #[.pointer (some ⟨p, 0, none⟩)] w (BlkPost s a p w) := by
  have hs' : s.size ≤ 1099511627776 := by omega
  have HS := Lib.hid hs'
  have HS2 := Lib.hid hs
  have HA := Lib.hid ha
  have hpl := hw.lt
  obtain ⟨q, hq⟩ : ∃ q, q = w.heap.size := ⟨_, rfl⟩
  obtain ⟨W0, hW0⟩ : ∃ W0, W0 = w.alloc (.cells #[.int .u32 0, .int .i64 0, .slice none 0 0] 44) := ⟨_, rfl⟩
  have HK0 := Lib.hid (show Kept (fun k => k = p) w W0 by rw [hW0]; exact (Kept.refl _ w).alloc _)
  have HR0 := Lib.hid (show RR 72 W0 p s a false by rw [hW0]; exact hw.kept ((Kept.refl (fun _ => False) w).alloc _) id)
  have hqc : W0.heap[q]? = some (.cells #[.int .u32 0, .int .i64 0, .slice none 0 0] 44 (0, 0)) := by rw [hW0, hq]; exact heap_alloc_new w _
  have hqp : q ≠ p := by omega
  have HQ0 := Lib.hid hqc
  have hql : q < W0.heap.size := (Array.getElem?_eq_some_iff.1 hqc).1
  have HE := Lib.hid hq
  have HW0 := Lib.hid hW0
  clear hw hqc hq hW0 hs' hs ha
  obtain ⟨Z, hZ⟩ : ∃ Z, Z = 8 * (s.size : Int) - (a : Int) := ⟨_, rfl⟩
  have HL0 := Lib.hid (left_fit HR0.out (by have := HA.out; omega) HS.out)
  rw [← hZ] at HL0
  have HZ := Lib.hid hZ
  clear hZ
  go_enter Try.func30, Try.ntmps30
  go_upto_region 1 with fail
  rw [← HW0.out, ← HE.out]
  go_wp2_with fail
  refine HL0.out.mono ?_
  rintro e V ⟨rfl, hr1, hk1⟩
  have HR1 := Lib.hid hr1
  have HQ1 := Lib.hid ((hk1.block q hql id).trans HQ0.out)
  have HK1 := Lib.hid (HK0.out.trans hk1 (fun _ _ e => e.elim))
  clear hr1 hk1
  by_cases h96 : Z < 96
  · have hb := HQ1.out
    obtain ⟨z0, z1, z2⟩ := cells3 hb
    have f0 := frozen_of hb 0
    have f1 := frozen_of hb 1
    have f2 := frozen_of hb 2
    clear hb
    go_wp2_with fail
    (try simp only [Exit.inBlock, Exit.then])
    refine ret_block (u := .int .i64 60) (stored3 HQ1.out) ?_ ?_ ?_ ?_
    · rfl
    · rfl
    · rfl
    · exact blk_err (by have := HZ.out; unfold decB; rw [if_pos (by omega)]) (kept_store3 HK1.out (.inr (by have := HE.out; omega)) _ _ _)
  · have h96' : a + 96 ≤ 8 * s.size := by have := HZ.out; omega
    have H96 := Lib.hid h96'
    clear h96'
    go_wp2_with fail
    refine (get_fit 32 32 rfl HR1.out (by omega) (by have := H96.out; omega) HS.out).mono ?_
    rintro e V2 ⟨rfl, hr2, hk2⟩
    have HR2 := Lib.hid hr2
    have HQ2 := Lib.hid ((hk2.block q (Array.getElem?_eq_some_iff.1 HQ1.out).1 (by omega)).trans HQ1.out)
    have HK2 := Lib.hid (HK1.out.trans hk2 (fun _ _ h => h))
    obtain ⟨ss, hss⟩ : ∃ ss, ss = val s a 32 := ⟨_, rfl⟩
    rw [← hss]
    have HSS := Lib.hid hss
    clear hr2 hk2 hss h96 HQ1 HL0 HR1
    go_wp2_with fail
    refine (get_fit 16 16 rfl HR2.out (by omega) (by have := H96.out; omega) HS.out).mono ?_
    rintro e V3 ⟨rfl, hr3, hk3⟩
    have HR3 := Lib.hid hr3
    have HQ3 := Lib.hid ((hk3.block q (Array.getElem?_eq_some_iff.1 HQ2.out).1 (by omega)).trans HQ2.out)
    have HK3 := Lib.hid (HK2.out.trans hk3 (fun _ _ h => h))
    obtain ⟨f0, f1⟩ := val_bd16 s (a + 32)
    obtain ⟨fi, hfi⟩ : ∃ fi, fi = val s (a + 32) 16 := ⟨_, rfl⟩
    rw [← hfi] at f0 f1
    rw [← hfi]
    have HFI := Lib.hid hfi
    clear hr3 hk3 hfi HR2 HQ2
    go_upto_region 4 with fail
    obtain ⟨q4, hq4⟩ : ∃ q4, q4 = V3.heap.size := ⟨_, rfl⟩
    rw [← hq4]
    generalize hW : World.alloc V3 _ = W
    have hkW : Kept (fun _ => False) V3 W := by rw [← hW]; exact (Kept.refl _ V3).alloc _
    have hqc : W.heap[q4]? = some (.cells #[.int .u32 ss, .int .i64 fi, .slice none 0 0] 44 (0, 0)) := by rw [← hW, hq4]; exact heap_alloc_new V3 _
    have HRW := Lib.hid (HR3.out.kept hkW id)
    have HQW := Lib.hid ((hkW.block q (Array.getElem?_eq_some_iff.1 HQ3.out).1 id).trans HQ3.out)
    have HKW := Lib.hid (HK3.out.trans hkW (fun _ _ e => e.elim))
    have H4W := Lib.hid hqc
    have hq4w : w.heap.size ≤ q4 := by have := HK3.out.size; omega
    have hq4l : q4 < W.heap.size := (Array.getElem?_eq_some_iff.1 hqc).1
    have hq4q : q4 ≠ q := by have := (Array.getElem?_eq_some_iff.1 HQ3.out).1; omega
    clear hW hkW hqc hq4 HR3 HQ3
    go_wp2_with fail
    refine (get_fit 16 16 rfl HRW.out (by omega) (by have := H96.out; omega) HS.out).mono ?_
    rintro e V4 ⟨rfl, hr4, hk4⟩
    have HR4 := Lib.hid hr4
    have HQ4 := Lib.hid ((hk4.block q (Array.getElem?_eq_some_iff.1 HQW.out).1 (by omega)).trans HQW.out)
    have H44 := Lib.hid ((hk4.block q4 hq4l (by omega)).trans H4W.out)
    have HK4 := Lib.hid (HKW.out.trans hk4 (fun _ _ h => h))
    have hn0 := (val_bd16 s (a + 48)).2
    rw [show a + 32 + 16 = a + 48 by omega] at HR4 ⊢
    rw [cnt_val] at hn0 ⊢
    obtain ⟨n, hn⟩ : ∃ n, n = cntB s a := ⟨_, rfl⟩
    rw [← hn] at hn0 ⊢
    have HN := Lib.hid hn
    obtain ⟨N, hNN⟩ : ∃ N : Int, N = (n : Int) := ⟨_, rfl⟩
    rw [← hNN] at hn0 ⊢
    have hN0 : 0 ≤ N := by omega
    have HNN := Lib.hid hNN
    clear hr4 hk4 hn hNN HRW HQW H4W
    by_cases hmany : 4096 < N
    · have hb := HQ4.out
      obtain ⟨z0, z1, z2⟩ := cells3 hb
      have e0 := frozen_of hb 0
      have e1 := frozen_of hb 1
      have e2 := frozen_of hb 2
      clear hb
      go_wp2_with fail
      (try simp only [Exit.inBlock, Exit.then])
      refine ret_block (u := .int .i64 3) (stored3 HQ4.out) ?_ ?_ ?_ ?_
      · rfl
      · rfl
      · rfl
      · exact blk_err (by unfold decB; rw [if_neg (by have := H96.out; omega), if_pos (by have := HN.out; have := HNN.out; omega)]) (kept_store3 HK4.out (.inr (by have := HE.out; omega)) _ _ _)
    · have hN1 : N ≤ 4096 := by omega
      clear hmany
      have HL1 := Lib.hid (left_fit HR4.out (by have := H96.out; omega) HS.out)
      rw [show 8 * (s.size : Int) - ((a + 48 + 16 : Nat) : Int) = Z - 64 by have := HZ.out; omega, show a + 48 + 16 = a + 64 by omega] at HL1
      go_wp2_with fail
      refine HL1.out.mono ?_
      rintro e V5 ⟨rfl, hr5, hk5⟩
      have HR5 := Lib.hid hr5
      have HQ5 := Lib.hid ((hk5.block q (Array.getElem?_eq_some_iff.1 HQ4.out).1 id).trans HQ4.out)
      have H45 := Lib.hid ((hk5.block q4 (Array.getElem?_eq_some_iff.1 H44.out).1 id).trans H44.out)
      have HK5 := Lib.hid (HK4.out.trans hk5 (fun _ _ e => e.elim))
      have hZ0 := HZ.out
      have hZ1 : 96 ≤ Z := by have := H96.out; omega
      have hZ2 : Z ≤ 524288 := by have := HS2.out; omega
      clear hr5 hk5 hZ0 HR4 HQ4 H44 HL1
      by_cases hshort : Z - 64 < (N + 1) / 2 * 32 + 32
      · have hb := HQ5.out
        obtain ⟨z0, z1, z2⟩ := cells3 hb
        have e0 := frozen_of hb 0
        have e1 := frozen_of hb 1
        have e2 := frozen_of hb 2
        clear hb
        go_wp2_with fail
        (try simp only [Exit.inBlock, Exit.then])
        refine ret_block (u := .int .i64 60) (stored3 HQ5.out) ?_ ?_ ?_ ?_
        · rfl
        · rfl
        · rfl
        · refine blk_err ?_ (kept_store3 HK5.out (.inr (by have := HE.out; omega)) _ _ _)
          have h1 := HN.out
          have h2 := HNN.out
          have h3 := HZ.out
          unfold decB
          rw [if_neg (by have := H96.out; omega), if_neg (by omega), if_pos (by unfold endB; omega)]
      · have HFIT := Lib.hid (show endB a n + 32 ≤ 8 * s.size by have h1 := HNN.out; have h2 := HZ.out; unfold endB; omega)
        have h16 := Lib.hid (show a + 64 + 16 * n + 32 ≤ 8 * s.size by have h1 := HNN.out; have h2 := HZ.out; omega)
        go_wp2_with fail
        clear hshort
        go_loopw [35] (fun iv wy => ∃ (k : Nat) (lv : Value), (k : Int) ≤ N ∧ iv = .int .i64 (k : Int) ∧ RR 72 wy p s (a + 64 + 16 * k) false ∧ wy.heap[q4]? = some (.cells #[.int .u32 ss, .int .i64 fi, lv] 44 (0, 0)) ∧ RW wy 3 lv k (flatM (decMs s (a + 64) k)) ∧
          (∀ g, isAt lv g → V5.heap.size ≤ g) ∧ (decMs s (a + 64) k).any badM = false ∧ wy.heap[q]? = some (.cells #[.int .u32 0, .int .i64 0, .slice none 0 0] 44 (0, 0)) ∧ Kept (fun g => g = p) w wy ∧ V5.heap.size ≤ wy.heap.size) (fun iv _ => (N - intOf iv).toNat)
        case atStart => exact ⟨0, .slice none 0 0, by omega, rfl, HR5.out, H45.out, RW.nil _ _, fun g hg => (by obtain ⟨_, _, _, e⟩ := hg; cases e), rfl, HQ5.out, HK5.out, Nat.le_refl _⟩
        case round =>
          obtain ⟨k, lv, hk, rfl, hr, h4, hrw, hlo, hany, hq, hkk, hsz⟩ := hrel
          have HR := Lib.hid hr
          have H4 := Lib.hid h4
          have HRW := Lib.hid hrw
          have HLO := Lib.hid hlo
          have HAN := Lib.hid hany
          have HQ := Lib.hid hq
          have HK := Lib.hid hkk
          have hp5 : p < V5.heap.size ∧ q < V5.heap.size ∧ q4 < V5.heap.size := ⟨HR5.out.lt, (Array.getElem?_eq_some_iff.1 HQ5.out).1, (Array.getElem?_eq_some_iff.1 H45.out).1⟩
          clear hr h4 hrw hlo hany hq hkk
          by_cases hkl : (k : Int) < N
          · have HFk := Lib.hid (show a + 64 + 16 * k + 16 ≤ 8 * s.size by have h1 := HNN.out; have h2 := h16.out; omega)
            go_wp2_with fail
            refine (get_fit 1 1 rfl HR.out (by omega) (by have := HFk.out; omega) HS.out).mono ?_
            rintro e X1 ⟨rfl, hr1, hk1⟩
            have HX1 := Lib.hid hr1
            have HKX1 := Lib.hid hk1
            clear hr1 hk1
            obtain ⟨b0, b1⟩ := val_bd1 s (a + 64 + 16 * k)
            obtain ⟨g1, hg1⟩ : ∃ g1, g1 = val s (a + 64 + 16 * k) 1 := ⟨_, rfl⟩
            rw [← hg1] at b0 b1 ⊢
            have HG1 := Lib.hid hg1
            clear hg1
            go_wp2_with fail
            refine (get_fit 2 2 rfl HX1.out (by omega) (by have := HFk.out; omega) HS.out).mono ?_
            rintro e X2 ⟨rfl, hr1, hk1⟩
            have HX2 := Lib.hid hr1
            have HKX2 := Lib.hid (HKX1.out.trans hk1 (fun _ _ h => h))
            clear hr1 hk1
            obtain ⟨c0, c1⟩ := val_bd2 s (a + 64 + 16 * k + 1)
            obtain ⟨g2, hg2⟩ : ∃ g2, g2 = val s (a + 64 + 16 * k + 1) 2 := ⟨_, rfl⟩
            rw [← hg2] at c0 c1 ⊢
            have HG2 := Lib.hid hg2
            clear hg2
            go_wp2_with fail
            refine (get_fit 13 13 rfl HX2.out (by omega) (by have := HFk.out; omega) HS.out).mono ?_
            rintro e X3 ⟨rfl, hr1, hk1⟩
            have HX3 := Lib.hid hr1
            have HKX3 := Lib.hid (HKX2.out.trans hk1 (fun _ _ h => h))
            clear hr1 hk1
            obtain ⟨d0, d1⟩ := val_bd13 s (a + 64 + 16 * k + 1 + 2)
            obtain ⟨g3, hg3⟩ : ∃ g3, g3 = val s (a + 64 + 16 * k + 1 + 2) 13 := ⟨_, rfl⟩
            rw [← hg3] at d0 d1 ⊢
            have HG3 := Lib.hid hg3
            clear hg3
            have HDM := Lib.hid (show decM s (a + 64 + 16 * k) = (decide (g1 = 1), g2, g3) by rw [HG1.out, HG2.out, HG3.out]; rfl)
            have hqk := HKX3.out
            have HQX := Lib.hid ((hqk.block q (by omega) (by omega)).trans HQ.out)
            have H4X := Lib.hid ((hqk.block q4 (by omega) (by omega)).trans H4.out)
            have HRX := Lib.hid (HRW.out.kept hqk (fun g hg e => by have := HLO.out g hg; omega))
            have HKw := Lib.hid (HK.out.trans hqk (fun _ _ h => h))
            have hszX := Nat.le_trans hsz hqk.size
            obtain ⟨lA, lc, rfl⟩ := hrwShape HRW.out
            clear hqk
            have hcase : (g1 = 1) ∨ (g1 = 0 ∧ g2 = 0 ∧ g3 = 0) ∨ (g1 = 0 ∧ (g2 == 0) = false) ∨ (g1 = 0 ∧ g2 = 0 ∧ (g3 == 0) = false) := by
              simp only [beq_eq_false_iff_ne]
              omega
            rcases hcase with rfl | ⟨rfl, rfl, rfl⟩ | ⟨rfl, hx⟩ | ⟨rfl, rfl, hx⟩
            case inr.inr.inl =>
              have hx2 : ¬ g2 = 0 := by simpa using hx
              have hx3 : decide (g2 = 0) = false := decide_eq_false hx2
              have HBD := Lib.hid (show badM (decM s (a + 64 + 16 * k)) = true by rw [HDM.out]; unfold badM; simp [hx2])
              go_upto_region 12 with fail
              obtain ⟨q6, hq6⟩ : ∃ q6, q6 = X3.heap.size := ⟨_, rfl⟩
              rw [← hq6]
              generalize hY : World.alloc X3 _ = Y
              have hqy : Y.heap[q6]? = some (.cells #[.bool false, .int .i64 g2, .int .i64 g3] 47 (0, 0)) := by rw [← hY, hq6]; exact heap_alloc_new X3 _
              have hkY : Kept (fun _ => False) X3 Y := by rw [← hY]; exact (Kept.refl _ X3).alloc _
              have HQY := Lib.hid ((hkY.block q (by omega) id).trans HQX.out)
              have HKY := Lib.hid (HKw.out.trans hkY (fun _ _ e => e.elim))
              obtain ⟨y0, y1, y2⟩ := cells3 hqy
              have hb := HQY.out
              obtain ⟨z0, z1, z2⟩ := cells3 hb
              have e0 := frozen_of hb 0
              have e1 := frozen_of hb 1
              have e2 := frozen_of hb 2
              clear hY hqy hkY hq6 hb
              go_wp2_with fail
              (try simp only [Exit.inBlock, Exit.then])
              refine ret_block (u := .int .i64 70) (stored3 HQY.out) ?_ ?_ ?_ ?_
              · rfl
              · rfl
              · rfl
              · refine blk_err ?_ (kept_store3 HKY.out (.inr (by have := HE.out; omega)) _ _ _)
                have h1 := HN.out
                have h2 := HNN.out
                unfold decB
                rw [← h1]
                rw [if_neg (by have := H96.out; omega), if_neg (by omega), if_neg (by have := HFIT.out; omega), if_pos (any_bad (k := k) (by omega) HBD.out)]
            case inr.inr.inr =>
              have hx2 : ¬ g3 = 0 := by simpa using hx
              have hx3 : decide (g3 = 0) = false := decide_eq_false hx2
              have HBD := Lib.hid (show badM (decM s (a + 64 + 16 * k)) = true by rw [HDM.out]; unfold badM; simp [hx2])
              go_upto_region 12 with fail
              obtain ⟨q6, hq6⟩ : ∃ q6, q6 = X3.heap.size := ⟨_, rfl⟩
              rw [← hq6]
              generalize hY : World.alloc X3 _ = Y
              have hqy : Y.heap[q6]? = some (.cells #[.bool false, .int .i64 0, .int .i64 g3] 47 (0, 0)) := by rw [← hY, hq6]; exact heap_alloc_new X3 _
              have hkY : Kept (fun _ => False) X3 Y := by rw [← hY]; exact (Kept.refl _ X3).alloc _
              have HQY := Lib.hid ((hkY.block q (by omega) id).trans HQX.out)
              have HKY := Lib.hid (HKw.out.trans hkY (fun _ _ e => e.elim))
              obtain ⟨y0, y1, y2⟩ := cells3 hqy
              have hb := HQY.out
              obtain ⟨z0, z1, z2⟩ := cells3 hb
              have e0 := frozen_of hb 0
              have e1 := frozen_of hb 1
              have e2 := frozen_of hb 2
              clear hY hqy hkY hq6 hb
              go_wp2_with fail
              (try simp only [Exit.inBlock, Exit.then])
              refine ret_block (u := .int .i64 70) (stored3 HQY.out) ?_ ?_ ?_ ?_
              · rfl
              · rfl
              · rfl
              · refine blk_err ?_ (kept_store3 HKY.out (.inr (by have := HE.out; omega)) _ _ _)
                have h1 := HN.out
                have h2 := HNN.out
                unfold decB
                rw [← h1]
                rw [if_neg (by have := H96.out; omega), if_neg (by omega), if_neg (by have := HFIT.out; omega), if_pos (any_bad (k := k) (by omega) HBD.out)]
            all_goals
              have HNB := Lib.hid (show badM (decM s (a + 64 + 16 * k)) = false by rw [HDM.out]; rfl)
              go_upto_region 12 with fail
              obtain ⟨q6, hq6⟩ : ∃ q6, q6 = X3.heap.size := ⟨_, rfl⟩
              rw [← hq6]
              generalize hY : World.alloc X3 _ = Y
              have hqy0 : ∀ o, World.alloc X3 o = Y → Y.heap[q6]? = some o := fun o e => by rw [← e, hq6]; exact heap_alloc_new X3 o
              have hqy := hqy0 _ hY
              clear hqy0
              have hkY : Kept (fun _ => False) X3 Y := by rw [← hY]; exact (Kept.refl _ X3).alloc _
              have HQY := Lib.hid ((hkY.block q (by omega) id).trans HQX.out)
              have hY4 := (hkY.block q4 (by omega) id).trans H4X.out
              have HKY := Lib.hid (HKw.out.trans hkY (fun _ _ e => e.elim))
              have HRY := Lib.hid (HRX.out.kept hkY (fun _ _ => id))
              have HXY := Lib.hid (HX3.out.kept hkY id)
              have hszY := Nat.le_trans hszX hkY.size
              obtain ⟨y0, y1, y2⟩ := cells3 hqy
              obtain ⟨x0, x1, x2⟩ := cells3 hY4
              have xf := frozen_of hY4 2
              have HY4 := Lib.hid hY4
              clear hY hqy hkY hq6 hY4
              have hk6 : k ≤ 1000000 := by omega
              go_wp2_with (first
                | (at_builtin
                   refine wpList_row rfl (.tmp 62) (.tmp 64) 42 rfl 47 (.agg #[.bool false, .int .i64 0, .int .i64 0]) 3 24 Try.underlying42 info_metric rfl (by omega) (.slice lA k lc) k (flatM (decMs s (a + 64) k)) rfl (HRY.out.kept ((Kept.refl (fun _ => False) Y).alloc _) (fun _ _ => id)) _ _ (flatM [decM s (a + 64 + 16 * k)]) rfl (by rw [HDM.out]; exact rd_blk Y _ _ _ _) (flatM_one _) (by omega) ?_
                   intro v5 w5 hr5 hk5 hn5
                   obtain ⟨A5, c5, rfl⟩ := hr5.shape
                   have hne : ¬ isAt (.slice lA k lc) q4 := fun e => by have := HLO.out _ e; omega
                   have x2' := ck hk5 (ck ((Kept.refl (fun _ => False) Y).alloc _) x2 id) hne
                   have xf' := (hk5.frozen (p := ⟨q4, 2, none⟩) (World.block_lt_of_cell? _ _ (ck ((Kept.refl (fun _ => False) Y).alloc _) x2 id)) hne).trans ((((Kept.refl (fun _ => False) Y).alloc _).frozen (p := ⟨q4, 2, none⟩) (World.block_lt_of_cell? _ _ x2) id).trans xf)
                   have HR5' := Lib.hid hr5
                   have HK5' := Lib.hid hk5
                   have HN5' := Lib.hid hn5
                   clear hr5 hk5 hn5))
              go_roundw
              case rel =>
                have hkv : Kept (isAt (.slice lA k lc)) Y w5 := Kept.trans (S := isAt (.slice lA k lc)) ((Kept.refl (isAt (.slice lA k lc)) Y).alloc _) HK5'.out (fun _ _ h => h)
                have hYn := HN5'.out
                have hlo := HLO.out
                have hw5 := HK5.out.size
                have hno : ∀ g, isAt (.slice A5 (k + 1) c5) g → V5.heap.size ≤ g := fun g hg => by
                  rcases hYn g hg with h1 | h1
                  · exact hlo g h1
                  · simp at h1; omega
                have hks : Kept (fun g => g = q4) w5 (w5.setCell ⟨q4, 2, none⟩ (.slice A5 (k + 1) c5)) := (Kept.refl (fun g => g = q4) w5).setCell (p := ⟨q4, 2, none⟩) (.inl rfl) _
                have h4w := (hkv.block q4 (by omega) (fun e => by have := hlo _ e; omega)).trans HY4.out
                refine ⟨k + 1, .slice A5 (k + 1) c5, by omega, by go_num, ?_, ?_, ?_, hno, any_succ _ _ _ HAN.out HNB.out, ?_, ?_, ?_⟩
                · have h1 := (HXY.out.kept hkv (fun e => by have := hlo _ e; omega)).kept hks (by omega)
                  rw [show a + 64 + 16 * k + 1 + 2 + 13 = a + 64 + 16 * (k + 1) by omega] at h1
                  exact h1
                · simp [World.setCell, Array.getElem?_modify, h4w]
                · rw [decMs_succ, flatM_append]
                  exact HR5'.out.kept hks (fun g hg e => by have := hno g hg; omega)
                · exact (hks.block q (by have := hkv.size; omega) (by omega)).trans ((hkv.block q (by omega) (fun e => by have := hlo _ e; omega)).trans HQY.out)
                · exact Kept.trans (S := fun g => g = p) (Kept.trans (S := fun g => g = p) HKY.out hkv (fun g hg e => by have := hlo g e; omega)) hks (fun g hg e => by omega)
                · exact Nat.le_trans hszY (Nat.le_trans hkv.size hks.size)
              case measure => exact measI2 N k hkl
          · have HKN := Lib.hid (show k = n by have := HNN.out; omega)
            have hb := HQ.out
            obtain ⟨z0, z1, z2⟩ := cells3 hb
            have e0 := frozen_of hb 0
            have e1 := frozen_of hb 1
            have e2 := frozen_of hb 2
            obtain ⟨lA, lc, rfl⟩ := hrwShape HRW.out
            obtain ⟨y0, y1, y2⟩ := cells3 H4.out
            clear hb
            have hpar : N % 2 = 0 ∨ N % 2 = 1 := by omega
            rcases hpar with hev | hod
            · have hm2 : (N % 2 == 1) = false := by rw [hev]; rfl
              go_wp2_with fail
              (try simp only [Exit.inBlock, Exit.then])
              refine ret_block (u := .int .i64 0) (stored3 HQ.out) ?_ ?_ ?_ ?_
              · rfl
              · rfl
              · rfl
              · have h1 := HN.out
                have h2 := HNN.out
                have hkn := HKN.out
                have hkst := kept_store3 (S := fun g => g = q) (Kept.refl _ wr) (.inl rfl) (.int .u32 ss) (.int .i64 fi) (.slice lA k lc)
                have hlo := HLO.out
                have hw5 := HK5.out.size
                have hok := decB_ok (s := s) (a := a) (n := k) (by have := H96.out; omega) (by rw [hkn]; exact h1) (by omega) (by rw [hkn]; have := HFIT.out; omega) HAN.out (by rintro ⟨h3, _⟩; omega)
                have hbk := blk_ok (w := w) (p := p) (A := lA) (n := k) (c := lc) hok (decMs_len _ _ _) (by have h3 := HR.out.kept hkst (fun e => by omega); rw [show a + 64 + 16 * k = endB a k by unfold endB; omega] at h3; exact h3) (HRW.out.rd.kept hkst (fun b off e hb => by have := hlo b ⟨off, k, lc, by rw [e]⟩; omega)) (fun o off e => by have := hlo o ⟨off, k, lc, by rw [e]⟩; omega) (Kept.trans (S := fun g => g = p) HK.out hkst (fun g hg e => by have := HE.out; omega))
                rw [← HSS.out, ← HFI.out] at hbk
                exact hbk
            · have hm2 : (N % 2 == 1) = true := by rw [hod]; rfl
              go_wp2_with fail
              refine (get_fit 16 16 rfl HR.out (by omega) (by have := h16.out; have := HKN.out; omega) HS.out).mono ?_
              rintro e X9 ⟨rfl, hr9, hk9⟩
              have HR9 := Lib.hid hr9
              have HQ9 := Lib.hid ((hk9.block q (by omega) (by omega)).trans HQ.out)
              have h49 := (hk9.block q4 (by omega) (by omega)).trans H4.out
              have HRD9 := Lib.hid (HRW.out.rd.kept hk9 (fun b off e hb => by have := HLO.out b ⟨off, k, lc, by rw [e]⟩; omega))
              have HK9 := Lib.hid (HK.out.trans hk9 (fun _ _ h => h))
              obtain ⟨y0, y1, y2⟩ := cells3 h49
              have hb := HQ9.out
              obtain ⟨z0, z1, z2⟩ := cells3 hb
              have e0 := frozen_of hb 0
              have e1 := frozen_of hb 1
              have e2 := frozen_of hb 2
              obtain ⟨d0, d1⟩ := val_bd16 s (a + 64 + 16 * k)
              obtain ⟨g9, hg9⟩ : ∃ g9, g9 = val s (a + 64 + 16 * k) 16 := ⟨_, rfl⟩
              rw [← hg9] at d0 d1 ⊢
              have HG9 := Lib.hid hg9
              clear hr9 hk9 h49 hb hg9
              by_cases hz9 : g9 = 0
              · subst hz9
                go_wp2_with fail
                (try simp only [Exit.inBlock, Exit.then])
                refine ret_block (u := .int .i64 0) (stored3 HQ9.out) ?_ ?_ ?_ ?_
                · rfl
                · rfl
                · rfl
                · have h1 := HN.out
                  have h2 := HNN.out
                  have hkn := HKN.out
                  have hkst := kept_store3 (S := fun g => g = q) (Kept.refl _ X9) (.inl rfl) (.int .u32 ss) (.int .i64 fi) (.slice lA k lc)
                  have hlo := HLO.out
                  have hw5 := HK5.out.size
                  have hok := decB_ok (s := s) (a := a) (n := k) (by have := H96.out; omega) (by rw [hkn]; exact h1) (by omega) (by rw [hkn]; have := HFIT.out; omega) HAN.out (by rintro ⟨_, h3⟩; exact h3 HG9.out.symm)
                  have hbk := blk_ok (w := w) (p := p) (A := lA) (n := k) (c := lc) hok (decMs_len _ _ _) (by have h3 := HR9.out.kept hkst (fun e => by omega); rw [show a + 64 + 16 * k + 16 = endB a k by unfold endB; omega] at h3; exact h3) (HRD9.out.kept hkst (fun b off e hb => by have := hlo b ⟨off, k, lc, by rw [e]⟩; omega)) (fun o off e => by have := hlo o ⟨off, k, lc, by rw [e]⟩; omega) (Kept.trans (S := fun g => g = p) HK9.out hkst (fun g hg e => by have := HE.out; omega))
                  rw [← HSS.out, ← HFI.out] at hbk
                  exact hbk
              · have hz2 : (g9 == 0) = false := by simp [hz9]
                have hz3 : decide (g9 = 0) = false := decide_eq_false hz9
                go_wp2_with fail
                (try simp only [Exit.inBlock, Exit.then])
                refine ret_block (u := .int .i64 91) (stored3 HQ9.out) ?_ ?_ ?_ ?_
                · rfl
                · rfl
                · rfl
                · refine blk_err ?_ (kept_store3 HK9.out (.inr (by have := HE.out; omega)) _ _ _)
                  have h1 := HN.out
                  have h2 := HNN.out
                  have h3 := HG9.out
                  have h4 := HAN.out
                  have hkn := HKN.out
                  unfold decB
                  rw [← h1, ← hkn]
                  rw [if_neg (by have := H96.out; omega), if_neg (by omega), if_neg (by rw [hkn]; have := HFIT.out; omega), if_neg (by rw [h4]; exact Bool.false_ne_true), if_pos ⟨by omega, fun e => hz9 (h3.trans e)⟩]
end Go.Proofs.Ytmkaflfhmpddbaa.Ccfb
