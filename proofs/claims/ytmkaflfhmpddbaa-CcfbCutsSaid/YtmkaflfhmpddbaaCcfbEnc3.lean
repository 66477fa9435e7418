/- What Encode tells: the document's; no condition but the ranges in each. -/
import Derived.Test.YtmkaflfhmpddbaaCcfbEnc
import Derived.Test.YtmkaflfhmpddbaaCcfbGood
namespace Go.Proofs.Ytmkaflfhmpddbaa.Ccfb
open Go.RowKit Go.Proofs.Ytmkaflfhmpddbaa.Plain Go.Proofs.Ytmkaflfhmpddbaa.Heap Go.Proofs.Ytmkaflfhmpddbaa.Open Go.Proofs.Ytmkaflfhmpddbaa.Rows Go.Proofs.Ytmkaflfhmpddbaa.Bits

set_option maxRecDepth 10000 in
set_option maxHeartbeats 4000000 in
theorem rsize_any (v : Value) (r : Rep) (w : World) (h : CR w v r) (hgd : goodC r = true) :
    Calls Try.prog 22 #[v] w fun e w' => e = .returned (.int .i64 ((sizeC r : Nat) : Int)) ∧ Below w.heap.size w w' := by
  obtain ⟨A, c, rfl, hbl⟩ := h
  obtain ⟨sn, bs, st⟩ := r
  simp only at hbl
  obtain ⟨n, hn⟩ : ∃ n, n = bs.length := ⟨_, rfl⟩
  simp only [← hn] at hbl ⊢
  have HB := Lib.hid hbl
  have HN := Lib.hid hn
  obtain ⟨hn16, hgb⟩ := goodC_yes hgd
  simp only at hn16 hgb
  rw [← HN.out] at hn16
  have HGB := Lib.hid hgb
  have hn16' : (n : Int) ≤ 16 := by omega
  clear hbl hn hgd hgb hn16
  go_enter Try.func22, Try.ntmps22
  go_wp2_with fail
  obtain ⟨b0, hb0⟩ : ∃ b0, b0 = w.heap.size := ⟨_, rfl⟩
  rw [← hb0]
  generalize hW0 : World.alloc w _ = W0
  have hbx := heap_alloc_new w (.cells #[.int .u32 sn, .slice A n c, .int .u32 st] 25)
  rw [hW0, ← hb0] at hbx
  have HW0 := Lib.hid (show Below w.heap.size w W0 by rw [← hW0]; exact (Below.refl _ w).alloc (Nat.le_refl _) _)
  obtain ⟨_, bx1, _⟩ := cells3 hbx
  have BX1 := Lib.hid bx1
  have hb0l : b0 < W0.heap.size := World.block_lt_of_cell? _ _ bx1
  clear hW0 hbx bx1 hb0
  go_loopw [3, 4] (fun sv iv wx => ∃ i : Nat, (i : Int) ≤ (n : Int) ∧ iv = .int .i64 (i : Int) ∧ sv = .int .i64 ((8 + sizeBs (bs.take i) : Nat) : Int) ∧ 8 + sizeBs (bs.take i) ≤ 8 + 9000 * i ∧ Below W0.heap.size W0 wx) (fun _ iv _ => ((n : Int) - intOf iv).toNat)
  case atStart => exact ⟨0, by omega, rfl, rfl, by simp [sizeBs], Below.refl _ _⟩
  case round =>
    obtain ⟨i, hi, rfl, rfl, hsz, hbw⟩ := hrel
    have HW := Lib.hid hbw
    have HWw := Lib.hid (below_then HW0.out HW0.out.size hbw)
    have t1 := (hbw.cell (p := ⟨b0, 1, none⟩) hb0l).trans BX1.out
    obtain ⟨Z, hZ⟩ : ∃ Z, Z = 8 + sizeBs (bs.take i) := ⟨_, rfl⟩
    rw [← hZ] at hsz ⊢
    have HZ := Lib.hid hZ
    clear hbw hZ
    by_cases hil : (i : Int) < (n : Int)
    · obtain ⟨g, off, x, rfl, hg, hx, hxm, y0, y1, MA, mc, y2, hrd⟩ := (HB.out.below HWw.out).at (i := i) (by omega)
      have hx4 := (HGB.out x hxm).2.2.1
      have HST := Lib.hid (sizeBs_take hx)
      obtain ⟨ss, fi, ms⟩ := x
      simp only at y0 y1 y2 hrd hx4
      obtain ⟨m, hm⟩ : ∃ m, m = ms.length := ⟨_, rfl⟩
      rw [← hm] at y2 hx4
      have hsb : sizeB (ss, fi, ms) = 8 + (m + 1) / 2 * 4 := by rw [hm]; rfl
      have hm4 : (m : Int) ≤ 4096 := by omega
      have hzz : (Z : Int) ≤ 8 + 9000 * (i : Int) := by omega
      have HSB := Lib.hid hsb
      clear hx hxm hrd hx4 hm hsb
      go_wp2_with fail
      go_roundw
      case rel => exact ⟨i + 1, by omega, by go_num, by congr 1; have h1 := HST.out; have h2 := HSB.out; have h3 := HZ.out; rw [h1, h2]; omega, by have h1 := HST.out; have h2 := HSB.out; have h3 := HZ.out; rw [h1, h2]; omega, HW.out⟩
      case measure => exact measN n i hil
    · have hin : i = n := by omega
      have hzc : Z = sizeC (sn, bs, st) := by
        have h1 := HZ.out
        rw [hin, HN.out, List.take_length] at h1
        exact h1
      have HZC := Lib.hid hzc
      clear hzc
      go_wp2_with fail
      go_ret
      exact ⟨by rw [← HZC.out]; rfl, HWw.out⟩
set_option maxRecDepth 10000 in
set_option maxHeartbeats 4000000 in
theorem rencode_any (v : Value) (r : Rep) (w : World) (h : CR w v r) (ok : okC r) :
    Calls Try.prog 12 #[v] w fun e w' => e = .returned (.tuple #[.string (encR r).1, .int .i64 (encR r).2]) ∧ Below w.heap.size w w' := by
  have HC := Lib.hid h
  obtain ⟨A, c, rfl, hbl⟩ := h
  obtain ⟨sn, bs, st⟩ := r
  simp only at hbl
  obtain ⟨n, hn⟩ : ∃ n, n = bs.length := ⟨_, rfl⟩
  simp only [← hn] at hbl HC ⊢
  have HB := Lib.hid hbl
  have HN := Lib.hid hn
  have hs0 := ok.s0
  have hs1 := ok.s1
  have ht0 := ok.t0
  have ht1 := ok.t1
  have HOK := Lib.hid ok.bs
  simp only at hs0 hs1 ht0 ht1 HOK
  clear hbl hn ok
  obtain ⟨b0, hb0⟩ : ∃ b0, b0 = w.heap.size := ⟨_, rfl⟩
  obtain ⟨W0, hW0⟩ : ∃ W0, W0 = w.alloc (.cells #[.int .u32 sn, .slice A n c, .int .u32 st] 25) := ⟨_, rfl⟩
  have hbx := heap_alloc_new w (.cells #[.int .u32 sn, .slice A n c, .int .u32 st] 25)
  rw [← hW0, ← hb0] at hbx
  have HW0 := Lib.hid (show Below w.heap.size w W0 by rw [hW0]; exact (Below.refl _ w).alloc (Nat.le_refl _) _)
  obtain ⟨bx0, bx1, bx2⟩ := cells3 hbx
  have hb0l : b0 < W0.heap.size := World.block_lt_of_cell? _ _ bx1
  have HG := Lib.hid (rgood_any _ (sn, bs, st) W0 (HC.out.below HW0.out))
  have HE0 := Lib.hid hb0
  have HE1 := Lib.hid hW0
  clear hbx hb0 hW0
  go_enter Try.func12, Try.ntmps12
  go_upto_region 1 with fail
  rw [← HE1.out, ← HE0.out]
  go_wp2_with fail
  refine HG.out.mono ?_
  rintro e V ⟨rfl, hv⟩
  have HV := Lib.hid (below_then HW0.out HW0.out.size hv)
  have v0 := (hv.cell (p := ⟨b0, 0, none⟩) hb0l).trans bx0
  have v1 := (hv.cell (p := ⟨b0, 1, none⟩) hb0l).trans bx1
  have v2 := (hv.cell (p := ⟨b0, 2, none⟩) hb0l).trans bx2
  have hb0v : b0 < V.heap.size := World.block_lt_of_cell? _ _ v1
  clear hv bx0 bx1 bx2 hb0l
  cases hgd : goodC (sn, bs, st) with
  | false =>
    have HGD := Lib.hid hgd
    clear hgd
    go_wp2_with fail
    go_ret2
    exact ⟨by rw [encR_bad HGD.out]; rfl, HV.out⟩
  | true =>
    have HGD := Lib.hid hgd
    obtain ⟨hn16, hgb⟩ := goodC_yes hgd
    simp only at hn16 hgb
    rw [← HN.out] at hn16
    have HGB := Lib.hid hgb
    have hszV : w.heap.size ≤ V.heap.size := HV.out.size
    have hn16' : (n : Int) ≤ 16 := by omega
    have HSz := Lib.hid (rsize_any _ (sn, bs, st) V (HC.out.below HV.out) HGD.out)
    clear hgd hgb hn16
    go_wp2_with fail
    refine HSz.out.mono ?_
    rintro e Y ⟨rfl, hy⟩
    obtain ⟨Z, hZ⟩ : ∃ Z, Z = sizeC (sn, bs, st) := ⟨_, rfl⟩
    rw [← hZ]
    have HZC := Lib.hid hZ
    have HW := Lib.hid hy
    have HWw := Lib.hid (below_then HV.out hszV hy)
    clear hy hZ
    have hszY : w.heap.size ≤ Y.heap.size := HWw.out.size
    have y0 := (HW.out.cell (p := ⟨b0, 0, none⟩) hb0v).trans v0
    have y1 := (HW.out.cell (p := ⟨b0, 1, none⟩) hb0v).trans v1
    have y2 := (HW.out.cell (p := ⟨b0, 2, none⟩) hb0v).trans v2
    have hb0y : b0 < Y.heap.size := World.block_lt_of_cell? _ _ y1
    clear v0 v1 v2 hb0v
    by_cases hlong : 65536 < (Z : Int)
    · go_wp2_with fail
      go_ret2
      exact ⟨by rw [encR_long HGD.out (by have := HZC.out; omega)]; rfl, HWw.out⟩
    · have HT := Lib.hid (show 8 * sizeC (sn, bs, st) ≤ 524288 by have := HZC.out; omega)
      have HLO := Lib.hid (show ¬ 65536 < sizeC (sn, bs, st) by have := HZC.out; omega)
      have HSC := Lib.hid (show sizeC (sn, bs, st) = 8 + sizeBs bs from rfl)
      go_wp2_with fail
      clear hlong
      refine (ref_write_any Y).mono ?_
      rintro e U ⟨rfl, hU⟩
      have HX0 := Lib.hid (show WX 69 Y U Y.heap.size (fun k => k < Y.heap.size) [] by rw [hU]; exact WX.new _ Y)
      obtain ⟨p, hp⟩ : ∃ p, p = Y.heap.size := ⟨_, rfl⟩
      rw [← hp] at HX0 ⊢
      have hb0p : b0 < p := by omega
      have HP := Lib.hid hp
      have u0 := HX0.out.cell (b := b0) hb0p y0
      have Y1 := Lib.hid y1
      have Y2 := Lib.hid y2
      clear hU hp y0 y1 y2
      go_wp2_with fail
      refine (WX.rput HX0.out (by simp) hs0 hs1 32).mono ?_
      rintro e U1 ⟨rfl, h1⟩
      rw [show (32 : Int) = ((32 : Nat) : Int) from rfl, puts_fit (by omega) (by simp), List.nil_append] at h1
      have HX1 := Lib.hid h1
      have u1 := h1.cell (b := b0) hb0p Y1.out
      clear h1 u0
      go_wp2_with fail
      go_loopw [5] (fun iv wx => ∃ i : Nat, (i : Int) ≤ (n : Int) ∧ iv = .int .i64 (i : Int) ∧ WX 69 Y wx p (fun k => k < p) (bitsOf sn 32 ++ encBs (bs.take i))) (fun iv _ => ((n : Int) - intOf iv).toNat)
      case atStart => exact ⟨0, by omega, rfl, by simpa [encBs] using HX1.out⟩
      case round =>
        obtain ⟨i, hi, rfl, hwx⟩ := hrel
        rename World => X
        have HX := Lib.hid hwx
        have HXw := Lib.hid (below_then HWw.out hszY (hwx.below (fun k hk => by rw [HP.out]; exact hk)))
        have x2 := hwx.cell (b := b0) hb0p Y2.out
        have x1' := hwx.cell (b := b0) hb0p Y1.out
        clear hwx
        by_cases hil : (i : Int) < (n : Int)
        · obtain ⟨g, off, x, rfl, hg, hx, hxm, y0, y1, MA, mc, y2, hrd⟩ := HB.out.at (i := i) (by omega)
          replace y0 := (HXw.out.cell (p := ⟨g, off + i * 3, none⟩) hg).trans y0
          replace y1 := (HXw.out.cell (p := ⟨g, off + i * 3 + 1, none⟩) hg).trans y1
          replace y2 := (HXw.out.cell (p := ⟨g, off + i * 3 + 2, none⟩) hg).trans y2
          have hgb := HGB.out x hxm
          have hob := HOK.out x hxm
          have hs := sizeBs_take hx
          have hle := sizeBs_le bs (i + 1)
          have HET := Lib.hid (encBs_take hx)
          obtain ⟨ss, fi, ms⟩ := x
          simp only at y0 y1 y2 hrd hgb
          obtain ⟨f0, f1, f2, f3⟩ := hgb
          have o0 := hob.s0
          have o1 := hob.s1
          simp only at o0 o1
          obtain ⟨m, hm⟩ : ∃ m, m = ms.length := ⟨_, rfl⟩
          rw [← hm] at y2 f2
          have hsb : sizeB (ss, fi, ms) = 8 + (m + 1) / 2 * 4 := by rw [hm]; rfl
          obtain ⟨P, hP⟩ : ∃ P, P = bitsOf sn 32 ++ encBs (bs.take i) := ⟨_, rfl⟩
          have hpl : P.length = 32 + 8 * sizeBs (bs.take i) := by rw [hP, List.length_append, bitsOf_length, encBs_len]
          have hp32 : P.length % 32 = 0 := by
            have : ∀ l : List Bl, sizeBs l % 4 = 0 := by
              intro l
              induction l with
              | nil => rfl
              | cons b l ih => rw [sizeBs_cons]; unfold sizeB; omega
            have := this (bs.take i)
            omega
          have HPm := Lib.hid hp32
          have HPL := Lib.hid (show P.length + 8 * (8 + (m + 1) / 2 * 4) + 32 ≤ 524288 by have h1 := HT.out; have h2 := HSC.out; omega)
          have HM := Lib.hid hm
          have HPe := Lib.hid hP
          have HF3 := Lib.hid f3
          have HRD := Lib.hid hrd
          rw [← hP] at HX
          have hm4 : (m : Int) ≤ 4096 := by omega
          clear hx hxm hrd hm hsb hob hs hle hpl hp32 hP f2 f3
          go_upto_region 11 with fail
          obtain ⟨q, hq⟩ : ∃ q, q = X.heap.size := ⟨_, rfl⟩
          rw [← hq]
          generalize hW : World.alloc X _ = W
          have hqc : W.heap[q]? = some (.cells #[.int .u32 ss, .int .i64 fi, .slice MA m mc] 44 (0, 0)) := by rw [← hW, hq]; exact heap_alloc_new X _
          have HG0 := Lib.hid (show WX 69 W W p (fun k => k < p ∨ k = q) P by rw [← hW, hq]; exact HX.out.grab _)
          have HKW := Lib.hid (show Kept (fun k => ¬ k < p) Y W by rw [← hW]; exact HX.out.kp.alloc _)
          have hwW : Below X.heap.size X W := by rw [← hW]; exact (Below.refl _ X).alloc (Nat.le_refl _) _
          have HWw2 := Lib.hid (below_then HXw.out HXw.out.size hwW)
          obtain ⟨z0, z1, z2⟩ := cells3 hqc
          have Z1 := Lib.hid z1
          have Z2 := Lib.hid z2
          have HQ := Lib.hid hq
          clear hW hqc hq hwW y0 y1 y2 z1 z2 u1 x2
          go_wp2_with fail
          refine (WX.rput HG0.out (by have := HPL.out; omega) o0 o1 32).mono ?_
          rintro e U2 ⟨rfl, h1⟩
          rw [show (32 : Int) = ((32 : Nat) : Int) from rfl, puts_fit (by omega) (by have := HPL.out; omega)] at h1
          have z1 := h1.cell (b := q) (.inr rfl) Z1.out
          have HG1 := Lib.hid h1
          clear h1 z0
          go_wp2_with fail
          refine (WX.rput HG1.out (by rw [List.length_append, bitsOf_length]; have := HPL.out; omega) (by omega) (by omega) 16).mono ?_
          rintro e U3 ⟨rfl, h1⟩
          rw [show (16 : Int) = ((16 : Nat) : Int) from rfl, puts_fit (by omega) (by rw [List.length_append, bitsOf_length]; have := HPL.out; omega)] at h1
          have z2 := h1.cell (b := q) (.inr rfl) Z2.out
          have HG2 := Lib.hid h1
          clear h1 z1
          go_wp2_with fail
          refine (WX.rput HG2.out (by simp only [List.length_append, bitsOf_length]; have := HPL.out; omega) (by omega) (by omega) 16).mono ?_
          rintro e U4 ⟨rfl, h1⟩
          rw [show (16 : Int) = ((16 : Nat) : Int) from rfl, puts_fit (by omega) (by simp only [List.length_append, bitsOf_length]; have := HPL.out; omega)] at h1
          obtain ⟨Q, hQ⟩ : ∃ Q, Q = P ++ bitsOf ss 32 ++ bitsOf fi 16 ++ bitsOf (m : Int) 16 := ⟨_, rfl⟩
          rw [← hQ] at h1
          have HQL := Lib.hid (show Q.length = P.length + 64 by rw [hQ]; simp only [List.length_append, bitsOf_length])
          replace z2 := h1.cell (b := q) (.inr rfl) Z2.out
          have HG3 := Lib.hid h1
          have HQe := Lib.hid hQ
          clear h1 hQ
          go_wp2_with fail
          go_loopw [7] (fun kv wy => ∃ k : Nat, (k : Int) ≤ (m : Int) ∧ kv = .int .i64 (k : Int) ∧ WX 69 W wy p (fun k => k < p ∨ k = q) (Q ++ encMs (ms.take k))) (fun kv _ => ((m : Int) - intOf kv).toNat)
          case atStart => exact ⟨0, by omega, rfl, by simpa [encMs] using HG3.out⟩
          case round =>
            obtain ⟨k, hk, rfl, hwx⟩ := hrel
            have HI := Lib.hid hwx
            have HIl := Lib.hid (show (Q ++ encMs (ms.take k)).length = P.length + 64 + 16 * k by
              rw [List.length_append, encMs_len, List.length_take, HQL.out, ← HM.out]
              omega)
            have z2 := HI.out.cell (b := q) (.inr rfl) Z2.out
            clear hwx
            by_cases hkl : (k : Int) < (m : Int)
            · have HIY := Lib.hid (HI.out.drop HKW.out (fun j hj => .inl hj) (fun j hj => by have := HP.out; omega))
              have HIw := Lib.hid (below_then HWw.out hszY (HIY.out.below (fun j hj => by rw [HP.out]; exact hj)))
              obtain ⟨g2, off2, y, rfl, hg2, hy, hym, x0, x1, x2⟩ := met_at (HRD.out.below HIw.out) (k := k) (by have := HM.out; omega)
              have hgm := goodM_yes (HF3.out y hym)
              have HEM := Lib.hid (encMs_take hy)
              obtain ⟨gt, ec, ag⟩ := y
              simp only at x0 x1 x2 hgm
              obtain ⟨e1, e2, e3, e4, _⟩ := hgm
              have hkm : k + 1 ≤ m := by omega
              have HLk := Lib.hid (show P.length + 64 + 16 * k + 16 ≤ 524288 by have := HPL.out; omega)
              clear hy hym
              go_upto_region 18 with fail
              obtain ⟨q2, hq2⟩ : ∃ q2, q2 = wr.heap.size := ⟨_, rfl⟩
              rw [← hq2]
              generalize hV : World.alloc wr _ = V2
              have hqv : V2.heap[q2]? = some (.cells #[.bool gt, .int .i64 ec, .int .i64 ag] 47 (0, 0)) := by rw [← hV, hq2]; exact heap_alloc_new wr _
              have HJ0 := Lib.hid (show WX 69 V2 V2 p (fun k => (k < p ∨ k = q) ∨ k = q2) (Q ++ encMs (ms.take k)) by rw [← hV, hq2]; exact HI.out.grab _)
              have HKV := Lib.hid (show Kept (fun k => ¬ (k < p ∨ k = q)) W V2 by rw [← hV]; exact HI.out.kp.alloc _)
              have HEl := Lib.hid HI.out.lt
              obtain ⟨v0, v1, v2⟩ := cells3 hqv
              have V1c := Lib.hid v1
              have V2c := Lib.hid v2
              clear hV hqv hq2 x0 x1 x2 v1 v2 HI HIY HIw
              have hput1 : ∀ wz, WX 69 V2 wz p (fun k => (k < p ∨ k = q) ∨ k = q2) (Q ++ encMs (ms.take k)) → Calls Try.prog 24 #[.pointer (some ⟨p, 0, none⟩), .int .u32 (b01 gt), .int .i64 1] wz fun e w' => e = .returned (.tuple #[]) ∧ WX 69 V2 w' p (fun k => (k < p ∨ k = q) ∨ k = q2) (Q ++ encMs (ms.take k) ++ bitsOf (b01 gt) 1) := by
                intro wz hz
                have h := WX.rput hz (by rw [HIl.out]; have := HLk.out; omega) (v := b01 gt) (by unfold b01; split <;> omega) (by unfold b01; split <;> omega) 1
                rw [show (1 : Int) = ((1 : Nat) : Int) from rfl, puts_fit (by omega) (by rw [HIl.out]; have := HLk.out; omega)] at h
                exact h
              have HP1 := Lib.hid hput1
              clear hput1
              have HL1 := Lib.hid (show (Q ++ encMs (ms.take k) ++ bitsOf (b01 gt) 1).length = P.length + 64 + 16 * k + 1 by rw [List.length_append, HIl.out, bitsOf_length])
              cases gt
              all_goals
                go_wp2_with fail
                refine (HP1.out _ HJ0.out).mono ?_
                rintro e U5 ⟨rfl, h1⟩
                have v1 := h1.cell (b := q2) (.inr rfl) V1c.out
                have HJ1 := Lib.hid h1
                clear h1
                go_wp2_with fail
                refine (WX.rput HJ1.out (by rw [HL1.out]; have := HLk.out; omega) (by omega) (by omega) 2).mono ?_
                rintro e U6 ⟨rfl, h1⟩
                rw [show (2 : Int) = ((2 : Nat) : Int) from rfl, puts_fit (by omega) (by rw [HL1.out]; have := HLk.out; omega)] at h1
                have v2 := h1.cell (b := q2) (.inr rfl) V2c.out
                have HJ2 := Lib.hid h1
                clear h1
                go_wp2_with fail
                refine (WX.rput HJ2.out (by rw [List.length_append, HL1.out, bitsOf_length]; have := HLk.out; omega) (by omega) (by omega) 13).mono ?_
                rintro e U7 ⟨rfl, h1⟩
                rw [show (13 : Int) = ((13 : Nat) : Int) from rfl, puts_fit (by omega) (by rw [List.length_append, HL1.out, bitsOf_length]; have := HLk.out; omega)] at h1
                have HJ3 := Lib.hid h1
                clear h1
                go_wp2_with fail
                go_roundw
                case rel =>
                  refine ⟨k + 1, by omega, by go_num, ?_⟩
                  have h2 := HJ3.out.drop HKV.out (fun j hj => .inl hj) HEl.out
                  rw [HEM.out]
                  simp only [List.append_assoc] at h2
                  unfold encM
                  exact h2
                case measure => exact measN m k hkl
            · have hkm : k = m := by omega
              have hall : ms.take k = ms := by rw [hkm, HM.out]; exact List.take_length
              rw [hall] at HI HIl
              have HPD := Lib.hid (pad_blk (m := m) HPm.out (Q ++ encMs ms) (by rw [HIl.out, hkm]))
              have hpd : padB m ≤ 16 ∧ P.length + 64 + 16 * m + padB m ≤ 524288 := by
                have := HPL.out
                unfold padB
                split <;> omega
              have HPB := Lib.hid hpd
              clear hpd
              go_wp2_with fail
              refine (WX.ralign HI.out (by rw [HIl.out]; have := HPB.out; omega) 32).mono ?_
              rintro e U5 ⟨rfl, h1⟩
              rw [show (32 : Int) = ((32 : Nat) : Int) from rfl, aligns_fit (by omega) (by omega) (by rw [HPD.out, HIl.out]; have := HPB.out; omega), HPD.out] at h1
              have HJ := Lib.hid (h1.drop HKW.out (fun j hj => .inl hj) (fun j hj => by have := HP.out; omega))
              clear h1
              go_wp2_with fail
              go_roundw
              case rel =>
                refine ⟨i + 1, by omega, by go_num, ?_⟩
                have e : Q ++ encMs ms ++ List.replicate (padB m) 0 = bitsOf sn 32 ++ encBs (bs.take (i + 1)) := by
                  rw [HET.out, HQe.out, HPe.out, HM.out]
                  unfold encBl zeros
                  simp only [List.append_assoc]
                rw [← e]
                exact HJ.out
              case measure => exact measN n i hil
        · have hin : i = n := by omega
          have hall : bs.take i = bs := by rw [hin, HN.out]; exact List.take_length
          rw [hall] at HX
          have HL := Lib.hid (show (bitsOf sn 32 ++ encBs bs).length + 32 ≤ 524288 by
            rw [List.length_append, bitsOf_length, encBs_len]
            have h1 := HT.out
            have h2 := HSC.out
            omega)
          go_wp2_with fail
          refine (WX.rput HX.out (by have := HL.out; omega) ht0 ht1 32).mono ?_
          rintro e U5 ⟨rfl, h1⟩
          rw [show (32 : Int) = ((32 : Nat) : Int) from rfl, puts_fit (by omega) HL.out] at h1
          have HJ := Lib.hid h1
          have HJw := Lib.hid (below_then HWw.out hszY (h1.below (fun k hk => by rw [HP.out]; exact hk)))
          clear h1
          go_wp2_with fail
          refine (WX.rtext HJ.out).mono ?_
          rintro e U6 ⟨rfl, rfl⟩
          go_wp2_with fail
          go_ret2
          refine ⟨?_, HJw.out⟩
          rw [encR_good HGD.out HLO.out]
          unfold encC
          rw [← List.append_assoc]
          rfl
end Go.Proofs.Ytmkaflfhmpddbaa.Ccfb
