/- What the document's Decode tells; no condition but the ranges in each. -/
import Derived.Test.YtmkaflfhmpddbaaCcfbDec3
namespace Go.Proofs.Ytmkaflfhmpddbaa.Ccfb
open Go.RowKit Go.Proofs.Ytmkaflfhmpddbaa.Plain Go.Proofs.Ytmkaflfhmpddbaa.Heap Go.Proofs.Ytmkaflfhmpddbaa.Open Go.Proofs.Ytmkaflfhmpddbaa.Rows Go.Proofs.Ytmkaflfhmpddbaa.Bits

theorem ret_rdecode {R : Ending → World → Prop} {a : Act} {w : World} {b : Nat} {x y z u : Value} (h : w.heap[b]? = some (.cells #[x, y, z] 25 (0, 0))) (ha : a.tmps.getD 2 undef = .pointer (some ⟨b, 0, none⟩)) (hu : a.tmps.getD 3 undef = u) (hd : a.defers = []) (hR : R (.returned (.tuple #[.agg #[x, y, z], u])) w) :
    bodyPost Try.prog Try.f17 R .ret a w :=
  ret_cell_tmp (P := Try.prog) rfl ha h Try.underlying25 rfl ccfb_size hd (by rw [hu]; exact hR)
theorem dec_zero0 {s : ByteArray} {w w' : World} {a : Nat} {bs : List Bl} {c : Int} (h1 : decC s = decOut s (decBs s 17 32 [])) (h2 : decBs s 17 32 [] = decBs s (17 - bs.length) a bs) (h3 : bs.length ≤ 16) (h4 : ¬ bs.length = 16) (h5 : ¬ 8 * s.size ≤ a + 32) (h6 : decB s a = .error c) (hb : Below w.heap.size w w') :
    DecPost s w (.returned (.tuple #[zc, .int .i64 c])) w' := dec_zero (by rw [h1, h2, decBs_err h3 h4 h5 h6]; rfl) hb
def muR (s : ByteArray) (p : Nat) (w : World) : Nat := 8 * s.size - (intOf ((w.cell? ⟨p, 1, none⟩).getD undef)).toNat
set_option maxRecDepth 10000 in
set_option maxHeartbeats 8000000 in
theorem rdecode_main (s : ByteArray) (w0 : World) (h0 : ¬ 65536 < s.size) (h1 : s.size % 4 = 0) (h2 : ¬ s.size < 8) :
    Calls Try.prog 17 #[.string s] w0 (DecPost s w0) := by
  have HDC := Lib.hid (decC_main h0 h1 h2)
  have hs' : s.size ≤ 1099511627776 := by omega
  have HS := Lib.hid hs'
  have HS2 := Lib.hid (show s.size ≤ 65536 by omega)
  have HS8 := Lib.hid (show 8 ≤ s.size by omega)
  obtain ⟨SZ, hZ⟩ : ∃ SZ : Int, SZ = (s.size : Int) := ⟨_, rfl⟩
  have i0 : SZ ≤ 65536 := by omega
  have i1 : (SZ % 4 == 0) = true := by rw [hZ]; simp; omega
  have i2 : 8 ≤ SZ := by omega
  have HZs := Lib.hid hZ
  have hsz : (s.size : Int) = SZ := hZ.symm
  clear h0 h1 h2 hs' hZ
  obtain ⟨q, hq⟩ : ∃ q, q = w0.heap.size := ⟨_, rfl⟩
  obtain ⟨W0, hW0⟩ : ∃ W0, W0 = w0.alloc (.cells #[.int .u32 0, .slice none 0 0, .int .u32 0] 25) := ⟨_, rfl⟩
  have hqc : W0.heap[q]? = some (.cells #[.int .u32 0, .slice none 0 0, .int .u32 0] 25 (0, 0)) := by rw [hW0, hq]; exact heap_alloc_new w0 _
  have HQ0 := Lib.hid hqc
  have HK0 := Lib.hid (show Kept (fun _ => False) w0 W0 by rw [hW0]; exact (Kept.refl _ w0).alloc _)
  have HRD0 := Lib.hid (ref_read_any s W0)
  have HE := Lib.hid hq
  have HW0 := Lib.hid hW0
  clear hqc hq hW0
  obtain ⟨p, hp⟩ : ∃ p, p = W0.heap.size := ⟨_, rfl⟩
  obtain ⟨V, hV⟩ : ∃ V, V = W0.alloc (.cells #[.string s, .int .i64 0, .bool false] 74) := ⟨_, rfl⟩
  rw [← hp, ← hV] at HRD0
  have HRV := Lib.hid (show RR 74 V p s 0 false by rw [hV, hp]; exact RR.new _ s W0)
  have HKV := Lib.hid (show Kept (fun _ => False) W0 V by rw [hV]; exact (Kept.refl _ W0).alloc _)
  have HP := Lib.hid hp
  clear hp hV
  go_enter Try.func17, Try.ntmps17
  go_upto_region 7 with fail
  rw [← HW0.out, ← HE.out]
  have hpl : p < V.heap.size := HRV.out.lt
  have hqV := (HKV.out.block q (Array.getElem?_eq_some_iff.1 HQ0.out).1 id).trans HQ0.out
  have HQV := Lib.hid hqV
  have hpq : p ≠ q := by have := HP.out; have := (Array.getElem?_eq_some_iff.1 HQ0.out).1; omega
  have HBV := Lib.hid (show Below w0.heap.size w0 V from (HK0.out.trans HKV.out (fun _ _ e => e)).below (Nat.le_refl _) (fun _ e => e.elim))
  have hqw : w0.heap.size ≤ q := by rw [HE.out]; exact Nat.le_refl _
  have hpw : w0.heap.size ≤ p := by rw [HP.out]; exact HK0.out.size
  clear hqV
  go_wp2_with fail
  refine HRD0.out.mono ?_
  rintro e V' ⟨rfl, hVV⟩
  rw [hVV]
  clear hVV
  go_wp2_with fail
  refine (rget_fit 32 32 rfl HRV.out (by omega) (by have := HS8.out; omega) HS.out).mono ?_
  rintro e Y0 ⟨rfl, hr2, hk2⟩
  have HR2 := Lib.hid hr2
  have HK2 := Lib.hid hk2
  clear hr2 hk2
  obtain ⟨q5, hq5⟩ : ∃ q5, q5 = Y0.heap.size := ⟨_, rfl⟩
  obtain ⟨W1, hW1⟩ : ∃ W1, W1 = Y0.alloc (.cells #[.int .u32 (val s 0 32), .slice none 0 0, .int .u32 0] 25) := ⟨_, rfl⟩
  have hka : Kept (fun _ => False) Y0 W1 := by rw [hW1]; exact (Kept.refl _ Y0).alloc _
  have H5W := Lib.hid (show W1.heap[q5]? = some (.cells #[.int .u32 (val s 0 32), .slice none 0 0, .int .u32 0] 25 (0, 0)) by rw [hW1, hq5]; exact heap_alloc_new Y0 _)
  have hkw := HK2.out.trans hka (fun _ _ e => e.elim)
  have HQW := Lib.hid ((hkw.block q (Array.getElem?_eq_some_iff.1 HQV.out).1 (fun e => hpq e.symm)).trans HQV.out)
  have HRW1 := Lib.hid (HR2.out.kept hka id)
  have HBW := Lib.hid (show Below w0.heap.size w0 W1 from (Kept.trans (S := fun g => w0.heap.size ≤ g) (Kept.of_below HBV.out) hkw (fun g _ e => by omega)).below (Nat.le_refl _) (fun _ h => h))
  have hq5l : q5 < W1.heap.size := (Array.getElem?_eq_some_iff.1 H5W.out).1
  have hpq5 : p < q5 := by have := HK2.out.size; omega
  have hqq5 : q < q5 := by have := HK2.out.size; have := (Array.getElem?_eq_some_iff.1 HQV.out).1; omega
  have HW1 := Lib.hid hW1
  have HQ5e := Lib.hid hq5
  clear hka hkw hW1 hq5
  go_wp2_with fail
  rw [← HW1.out, ← HQ5e.out]
  go_loopw [] (fun wx => ∃ (a : Nat) (bs : List Bl) (lv : Value) (F : Nat → Prop), RR 74 wx p s a false ∧ a % 32 = 0 ∧ a + 32 ≤ 8 * s.size ∧ wx.heap[q5]? = some (.cells #[.int .u32 (val s 0 32), lv, .int .u32 0] 25 (0, 0)) ∧ OB W1.heap.size F wx lv bs ∧ (∀ g, F g → g < wx.heap.size) ∧
    wx.heap[q]? = some (.cells #[.int .u32 0, .slice none 0 0, .int .u32 0] 25 (0, 0)) ∧ bs.length ≤ 16 ∧ decBs s 17 32 [] = decBs s (17 - bs.length) a bs ∧ Below w0.heap.size w0 wx ∧ W1.heap.size ≤ wx.heap.size) (fun wx => muR s p wx)
  case atStart => exact ⟨32, [], .slice none 0 0, fun _ => False, HRW1.out, rfl, by have := HS8.out; omega, H5W.out, OB.nil _ _, fun g hg => hg.elim, HQW.out, Nat.zero_le _, rfl, HBW.out, Nat.le_refl _⟩
  case round =>
    obtain ⟨a, bs, lv, F, hr, ha32, ha, h5, hob, hF, hqz, hbl, hdec, hbw, hszw⟩ := hrel
    have HR := Lib.hid hr
    have HA := Lib.hid ha
    have HA32 := Lib.hid ha32
    have H5 := Lib.hid h5
    have HO := Lib.hid hob
    have HF := Lib.hid hF
    have HQ := Lib.hid hqz
    have HBL := Lib.hid hbl
    have HDE := Lib.hid hdec
    have HB := Lib.hid hbw
    clear hr ha ha32 h5 hob hF hqz hbl hdec hbw
    obtain ⟨Z, hZ⟩ : ∃ Z : Int, Z = 8 * (s.size : Int) - (a : Int) := ⟨_, rfl⟩
    have HL := Lib.hid (rleft_fit HR.out (by have := HA.out; omega) HS.out)
    rw [← hZ] at HL
    have HZ := Lib.hid hZ
    clear hZ
    go_wp2_with fail
    refine HL.out.mono ?_
    rintro e w ⟨rfl, hr1, hk1⟩
    have HRw := Lib.hid hr1
    have H5w := Lib.hid ((hk1.block q5 (Array.getElem?_eq_some_iff.1 H5.out).1 id).trans H5.out)
    have HQw := Lib.hid ((hk1.block q (Array.getElem?_eq_some_iff.1 HQ.out).1 id).trans HQ.out)
    have HOw := Lib.hid (HO.out.run hk1)
    have HBw := Lib.hid (below_then HB.out HB.out.size (hk1.below (Nat.le_refl _) (fun _ e => e.elim)))
    have HFw := Lib.hid (show ∀ g, F g → g < w.heap.size from fun g hg => Nat.lt_of_lt_of_le (HF.out g hg) hk1.size)
    have hszW := Nat.le_trans hszw hk1.size
    have hq5w : q5 < w.heap.size := (Array.getElem?_eq_some_iff.1 H5w.out).1
    have HMU := Lib.hid (show muR s p w = muR s p wr by unfold muR; rw [HRw.out.cells.2.1, HR.out.cells.2.1])
    clear hr1 hk1
    obtain ⟨on, hon⟩ : ∃ on, on = bs.length := ⟨_, rfl⟩
    have HON := Lib.hid hon
    obtain ⟨oA, oc, rfl⟩ : ∃ oA oc, lv = .slice oA on oc := by rw [hon]; exact HOw.out.shape
    clear hon
    obtain ⟨y0, y1, y2⟩ := cells3 H5w.out
    by_cases hmore : 32 < Z
    · have HNS := Lib.hid (show ¬ 8 * s.size ≤ a + 32 by have := HZ.out; omega)
      by_cases h16 : on = 16
      · have hb := HQw.out
        obtain ⟨z0, z1, z2⟩ := cells3 hb
        have e0 := frozen_of hb 0
        have e1 := frozen_of hb 1
        have e2 := frozen_of hb 2
        clear hb
        subst h16
        go_wp2_with fail
        (try simp only [Exit.inBlock, Exit.then])
        refine ret_rdecode (u := .int .i64 3) (stored3 HQw.out) ?_ ?_ ?_ ?_
        · rfl
        · rfl
        · rfl
        · refine dec_zero (by rw [HDC.out, HDE.out, decBs_many HON.out.symm HNS.out]; rfl) ?_
          exact (kept_store3 (S := fun g => w0.heap.size ≤ g) (Kept.of_below HBw.out) (.inl hqw) _ _ _).below (Nat.le_refl _) (fun _ h => h)
      · have h16' : ((on : Int) == 16) = false := by simp; omega
        have HLT := Lib.hid (show ¬ bs.length = 16 by rw [← HON.out]; exact h16)
        clear h16
        have HFIN := Lib.hid (fun (Y : World) (hk : Kept (fun k => k = p) w Y) => show Below w0.heap.size w0 (((Y.setCell ⟨q, 0, none⟩ (.int .u32 0)).setCell ⟨q, 1, none⟩ (.slice none 0 0)).setCell ⟨q, 2, none⟩ (.int .u32 0)) from
          (kept_store3 (S := fun g => w0.heap.size ≤ g) (Kept.trans (S := fun g => w0.heap.size ≤ g) (Kept.of_below HBw.out) hk (fun g _ e => by omega)) (.inl hqw) _ _ _).below (Nat.le_refl _) (fun _ h => h))
        have HL0 := Lib.hid (rleft_fit HRw.out (by have := HA.out; omega) HS.out)
        rw [← HZ.out] at HL0
        go_wp2_with fail
        refine HL0.out.mono ?_
        rintro e V2 ⟨rfl, hr1, hk1⟩
        have HR1 := Lib.hid hr1
        have HQ1 := Lib.hid ((hk1.block q (Array.getElem?_eq_some_iff.1 HQw.out).1 id).trans HQw.out)
        have HK1 := Lib.hid (show Kept (fun k => k = p) w V2 from hk1.mono (fun _ _ e => e.elim))
        have hqp : q ≠ p := fun e => hpq e.symm
        clear hr1 hk1
        by_cases h96 : Z < 96
        · have hb := HQ1.out
          obtain ⟨z0, z1, z2⟩ := cells3 hb
          have f0 := frozen_of hb 0
          have f1 := frozen_of hb 1
          have f2 := frozen_of hb 2
          clear hb
          go_wp2_with fail
          (try simp only [Exit.inBlock, Exit.then])
          refine ret_rdecode (u := .int .i64 60) (stored3 HQ1.out) ?_ ?_ ?_ ?_
          · rfl
          · rfl
          · rfl
          · exact dec_zero (by rw [HDC.out, HDE.out, decBs_err HBL.out HLT.out HNS.out (by have := HZ.out; unfold decB; rw [if_pos (by omega)])]; rfl) (HFIN.out _ HK1.out)
        · have h96' : a + 96 ≤ 8 * s.size := by have := HZ.out; omega
          have H96 := Lib.hid h96'
          clear h96'
          go_wp2_with fail
          refine (rget_fit 32 32 rfl HR1.out (by omega) (by have := H96.out; omega) HS.out).mono ?_
          rintro e V2 ⟨rfl, hr2, hk2⟩
          have HR2 := Lib.hid hr2
          have HQ2 := Lib.hid ((hk2.block q (Array.getElem?_eq_some_iff.1 HQ1.out).1 (by omega)).trans HQ1.out)
          have HK2 := Lib.hid (HK1.out.trans hk2 (fun _ _ h => h))
          obtain ⟨ss, hss⟩ : ∃ ss, ss = val s a 32 := ⟨_, rfl⟩
          rw [← hss]
          have HSS := Lib.hid hss
          clear hr2 hk2 hss h96 HQ1 HL0 HR1
          go_wp2_with fail
          refine (rget_fit 16 16 rfl HR2.out (by omega) (by have := H96.out; omega) HS.out).mono ?_
          rintro e V3 ⟨rfl, hr3, hk3⟩
          have HR3 := Lib.hid hr3
          have HQ3 := Lib.hid ((hk3.block q (Array.getElem?_eq_some_iff.1 HQ2.out).1 (by omega)).trans HQ2.out)
          have HK3 := Lib.hid (HK2.out.trans hk3 (fun _ _ h => h))
          obtain ⟨f0, f1⟩ := val_bd16 s (a + 32)
          obtain ⟨fi, hfi⟩ : ∃ fi, fi = val s (a + 32) 16 := ⟨_, rfl⟩
          rw [← hfi] at f0 f1
          rw [← hfi]
          have HFI := Lib.hid hfi
          clear hr3 hk3 hfi HR2 HQ2
          go_upto_region 15 with fail
          obtain ⟨q4, hq4⟩ : ∃ q4, q4 = V3.heap.size := ⟨_, rfl⟩
          rw [← hq4]
          generalize hW : World.alloc V3 _ = W
          have hkW : Kept (fun _ => False) V3 W := by rw [← hW]; exact (Kept.refl _ V3).alloc _
          have hqc : W.heap[q4]? = some (.cells #[.int .u32 ss, .int .i64 fi, .slice none 0 0] 44 (0, 0)) := by rw [← hW, hq4]; exact heap_alloc_new V3 _
          have HRW := Lib.hid (HR3.out.kept hkW id)
          have HQW := Lib.hid ((hkW.block q (Array.getElem?_eq_some_iff.1 HQ3.out).1 id).trans HQ3.out)
          have HKW := Lib.hid (HK3.out.trans hkW (fun _ _ e => e.elim))
          have H4W := Lib.hid hqc
          have hq4w : w.heap.size ≤ q4 := by have := HK3.out.size; omega
          have hq4l : q4 < W.heap.size := (Array.getElem?_eq_some_iff.1 hqc).1
          have hq4q : q4 ≠ q := by have := (Array.getElem?_eq_some_iff.1 HQ3.out).1; omega
          clear hW hkW hqc hq4 HR3 HQ3
          go_wp2_with fail
          refine (rget_fit 16 16 rfl HRW.out (by omega) (by have := H96.out; omega) HS.out).mono ?_
          rintro e V4 ⟨rfl, hr4, hk4⟩
          have HR4 := Lib.hid hr4
          have HQ4 := Lib.hid ((hk4.block q (Array.getElem?_eq_some_iff.1 HQW.out).1 (by omega)).trans HQW.out)
          have H44 := Lib.hid ((hk4.block q4 hq4l (by omega)).trans H4W.out)
          have HK4 := Lib.hid (HKW.out.trans hk4 (fun _ _ h => h))
          have hn0 := (val_bd16 s (a + 48)).2
          rw [show a + 32 + 16 = a + 48 by omega] at HR4 ⊢
          rw [cnt_val] at hn0 ⊢
          obtain ⟨n, hn⟩ : ∃ n, n = cntB s a := ⟨_, rfl⟩
          rw [← hn] at hn0 ⊢
          have HN := Lib.hid hn
          obtain ⟨N, hNN⟩ : ∃ N : Int, N = (n : Int) := ⟨_, rfl⟩
          rw [← hNN] at hn0 ⊢
          have hN0 : 0 ≤ N := by omega
          have HNN := Lib.hid hNN
          clear hr4 hk4 hn hNN HRW HQW H4W
          by_cases hmany : 4096 < N
          · have hb := HQ4.out
            obtain ⟨z0, z1, z2⟩ := cells3 hb
            have e0 := frozen_of hb 0
            have e1 := frozen_of hb 1
            have e2 := frozen_of hb 2
            clear hb
            go_wp2_with fail
            (try simp only [Exit.inBlock, Exit.then])
            refine ret_rdecode (u := .int .i64 3) (stored3 HQ4.out) ?_ ?_ ?_ ?_
            · rfl
            · rfl
            · rfl
            · exact dec_zero (by rw [HDC.out, HDE.out, decBs_err HBL.out HLT.out HNS.out (by unfold decB; rw [if_neg (by have := H96.out; omega), if_pos (by have := HN.out; have := HNN.out; omega)])]; rfl) (HFIN.out _ HK4.out)
          · have hN1 : N ≤ 4096 := by omega
            clear hmany
            have HL1 := Lib.hid (rleft_fit HR4.out (by have := H96.out; omega) HS.out)
            rw [show 8 * (s.size : Int) - ((a + 48 + 16 : Nat) : Int) = Z - 64 by have := HZ.out; omega, show a + 48 + 16 = a + 64 by omega] at HL1
            go_wp2_with fail
            refine HL1.out.mono ?_
            rintro e V5 ⟨rfl, hr5, hk5⟩
            have HR5 := Lib.hid hr5
            have HQ5 := Lib.hid ((hk5.block q (Array.getElem?_eq_some_iff.1 HQ4.out).1 id).trans HQ4.out)
            have H45 := Lib.hid ((hk5.block q4 (Array.getElem?_eq_some_iff.1 H44.out).1 id).trans H44.out)
            have HK5 := Lib.hid (HK4.out.trans hk5 (fun _ _ e => e.elim))
            have hZ0 := HZ.out
            have hZ1 : 96 ≤ Z := by have := H96.out; omega
            have hZ2 : Z ≤ 524288 := by have := HS2.out; omega
            clear hr5 hk5 hZ0 HR4 HQ4 H44 HL1
            by_cases hshort : Z - 64 < (N + 1) / 2 * 32 + 32
            · have hb := HQ5.out
              obtain ⟨z0, z1, z2⟩ := cells3 hb
              have e0 := frozen_of hb 0
              have e1 := frozen_of hb 1
              have e2 := frozen_of hb 2
              clear hb
              go_wp2_with fail
              (try simp only [Exit.inBlock, Exit.then])
              refine ret_rdecode (u := .int .i64 60) (stored3 HQ5.out) ?_ ?_ ?_ ?_
              · rfl
              · rfl
              · rfl
              · refine dec_zero0 HDC.out HDE.out HBL.out HLT.out HNS.out ?_ (HFIN.out _ HK5.out)
                have h1 := HN.out
                have h2 := HNN.out
                have h3 := HZ.out
                unfold decB
                rw [if_neg (by have := H96.out; omega), if_neg (by omega), if_pos (by unfold endB; omega)]
            · have HFIT := Lib.hid (show endB a n + 32 ≤ 8 * s.size by have h1 := HNN.out; have h2 := HZ.out; unfold endB; omega)
              have h16 := Lib.hid (show a + 64 + 16 * n + 32 ≤ 8 * s.size by have h1 := HNN.out; have h2 := HZ.out; omega)
              go_wp2_with fail
              clear hshort
              go_loopw [8] (fun iv wy => ∃ (k : Nat) (lv : Value), (k : Int) ≤ N ∧ iv = .int .i64 (k : Int) ∧ RR 74 wy p s (a + 64 + 16 * k) false ∧ wy.heap[q4]? = some (.cells #[.int .u32 ss, .int .i64 fi, lv] 44 (0, 0)) ∧ RW wy 3 lv k (flatM (decMs s (a + 64) k)) ∧
                (∀ g, isAt lv g → V5.heap.size ≤ g) ∧ (decMs s (a + 64) k).any badM = false ∧ wy.heap[q]? = some (.cells #[.int .u32 0, .slice none 0 0, .int .u32 0] 25 (0, 0)) ∧ Kept (fun g => g = p) w wy ∧ V5.heap.size ≤ wy.heap.size) (fun iv _ => (N - intOf iv).toNat)
              case atStart => exact ⟨0, .slice none 0 0, by omega, rfl, HR5.out, H45.out, RW.nil _ _, fun g hg => (by obtain ⟨_, _, _, e⟩ := hg; cases e), rfl, HQ5.out, HK5.out, Nat.le_refl _⟩
              case round =>
                obtain ⟨k, lv, hk, rfl, hr, h4, hrw, hlo, hany, hq, hkk, hsz⟩ := hrel
                have HR := Lib.hid hr
                have H4 := Lib.hid h4
                have HRW := Lib.hid hrw
                have HLO := Lib.hid hlo
                have HAN := Lib.hid hany
                have HQ := Lib.hid hq
                have HK := Lib.hid hkk
                have hp5 : p < V5.heap.size ∧ q < V5.heap.size ∧ q4 < V5.heap.size := ⟨HR5.out.lt, (Array.getElem?_eq_some_iff.1 HQ5.out).1, (Array.getElem?_eq_some_iff.1 H45.out).1⟩
                clear hr h4 hrw hlo hany hq hkk
                by_cases hkl : (k : Int) < N
                · have HFk := Lib.hid (show a + 64 + 16 * k + 16 ≤ 8 * s.size by have h1 := HNN.out; have h2 := h16.out; omega)
                  go_wp2_with fail
                  refine (rget_fit 1 1 rfl HR.out (by omega) (by have := HFk.out; omega) HS.out).mono ?_
                  rintro e X1 ⟨rfl, hr1, hk1⟩
                  have HX1 := Lib.hid hr1
                  have HKX1 := Lib.hid hk1
                  clear hr1 hk1
                  obtain ⟨b0, b1⟩ := val_bd1 s (a + 64 + 16 * k)
                  obtain ⟨g1, hg1⟩ : ∃ g1, g1 = val s (a + 64 + 16 * k) 1 := ⟨_, rfl⟩
                  rw [← hg1] at b0 b1 ⊢
                  have HG1 := Lib.hid hg1
                  clear hg1
                  go_wp2_with fail
                  refine (rget_fit 2 2 rfl HX1.out (by omega) (by have := HFk.out; omega) HS.out).mono ?_
                  rintro e X2 ⟨rfl, hr1, hk1⟩
                  have HX2 := Lib.hid hr1
                  have HKX2 := Lib.hid (HKX1.out.trans hk1 (fun _ _ h => h))
                  clear hr1 hk1
                  obtain ⟨c0, c1⟩ := val_bd2 s (a + 64 + 16 * k + 1)
                  obtain ⟨g2, hg2⟩ : ∃ g2, g2 = val s (a + 64 + 16 * k + 1) 2 := ⟨_, rfl⟩
                  rw [← hg2] at c0 c1 ⊢
                  have HG2 := Lib.hid hg2
                  clear hg2
                  go_wp2_with fail
                  refine (rget_fit 13 13 rfl HX2.out (by omega) (by have := HFk.out; omega) HS.out).mono ?_
                  rintro e X3 ⟨rfl, hr1, hk1⟩
                  have HX3 := Lib.hid hr1
                  have HKX3 := Lib.hid (HKX2.out.trans hk1 (fun _ _ h => h))
                  clear hr1 hk1
                  obtain ⟨d0, d1⟩ := val_bd13 s (a + 64 + 16 * k + 1 + 2)
                  obtain ⟨g3, hg3⟩ : ∃ g3, g3 = val s (a + 64 + 16 * k + 1 + 2) 13 := ⟨_, rfl⟩
                  rw [← hg3] at d0 d1 ⊢
                  have HG3 := Lib.hid hg3
                  clear hg3
                  have HDM := Lib.hid (show decM s (a + 64 + 16 * k) = (decide (g1 = 1), g2, g3) by rw [HG1.out, HG2.out, HG3.out]; rfl)
                  have hqk := HKX3.out
                  have HQX := Lib.hid ((hqk.block q (by omega) (by omega)).trans HQ.out)
                  have H4X := Lib.hid ((hqk.block q4 (by omega) (by omega)).trans H4.out)
                  have HRX := Lib.hid (HRW.out.kept hqk (fun g hg e => by have := HLO.out g hg; omega))
                  have HKw := Lib.hid (HK.out.trans hqk (fun _ _ h => h))
                  have hszX := Nat.le_trans hsz hqk.size
                  obtain ⟨lA, lc, rfl⟩ := hrwShape HRW.out
                  clear hqk
                  have hcase : (g1 = 1) ∨ (g1 = 0 ∧ g2 = 0 ∧ g3 = 0) ∨ (g1 = 0 ∧ (g2 == 0) = false) ∨ (g1 = 0 ∧ g2 = 0 ∧ (g3 == 0) = false) := by
                    simp only [beq_eq_false_iff_ne]
                    omega
                  rcases hcase with rfl | ⟨rfl, rfl, rfl⟩ | ⟨rfl, hx⟩ | ⟨rfl, rfl, hx⟩
                  case inr.inr.inl =>
                    have hx2 : ¬ g2 = 0 := by simpa using hx
                    have hx3 : decide (g2 = 0) = false := decide_eq_false hx2
                    have HBD := Lib.hid (show badM (decM s (a + 64 + 16 * k)) = true by rw [HDM.out]; unfold badM; simp [hx2])
                    go_upto_region 24 with fail
                    obtain ⟨q6, hq6⟩ : ∃ q6, q6 = X3.heap.size := ⟨_, rfl⟩
                    rw [← hq6]
                    generalize hY : World.alloc X3 _ = Y
                    have hqy : Y.heap[q6]? = some (.cells #[.bool false, .int .i64 g2, .int .i64 g3] 47 (0, 0)) := by rw [← hY, hq6]; exact heap_alloc_new X3 _
                    have hkY : Kept (fun _ => False) X3 Y := by rw [← hY]; exact (Kept.refl _ X3).alloc _
                    have HQY := Lib.hid ((hkY.block q (by omega) id).trans HQX.out)
                    have HKY := Lib.hid (HKw.out.trans hkY (fun _ _ e => e.elim))
                    obtain ⟨y0, y1, y2⟩ := cells3 hqy
                    have hb := HQY.out
                    obtain ⟨z0, z1, z2⟩ := cells3 hb
                    have e0 := frozen_of hb 0
                    have e1 := frozen_of hb 1
                    have e2 := frozen_of hb 2
                    clear hY hqy hkY hq6 hb
                    go_wp2_with fail
                    (try simp only [Exit.inBlock, Exit.then])
                    refine ret_rdecode (u := .int .i64 70) (stored3 HQY.out) ?_ ?_ ?_ ?_
                    · rfl
                    · rfl
                    · rfl
                    · refine dec_zero0 HDC.out HDE.out HBL.out HLT.out HNS.out ?_ (HFIN.out _ HKY.out)
                      have h1 := HN.out
                      have h2 := HNN.out
                      unfold decB
                      rw [← h1]
                      rw [if_neg (by have := H96.out; omega), if_neg (by omega), if_neg (by have := HFIT.out; omega), if_pos (any_bad (k := k) (by omega) HBD.out)]
                  case inr.inr.inr =>
                    have hx2 : ¬ g3 = 0 := by simpa using hx
                    have hx3 : decide (g3 = 0) = false := decide_eq_false hx2
                    have HBD := Lib.hid (show badM (decM s (a + 64 + 16 * k)) = true by rw [HDM.out]; unfold badM; simp [hx2])
                    go_upto_region 24 with fail
                    obtain ⟨q6, hq6⟩ : ∃ q6, q6 = X3.heap.size := ⟨_, rfl⟩
                    rw [← hq6]
                    generalize hY : World.alloc X3 _ = Y
                    have hqy : Y.heap[q6]? = some (.cells #[.bool false, .int .i64 0, .int .i64 g3] 47 (0, 0)) := by rw [← hY, hq6]; exact heap_alloc_new X3 _
                    have hkY : Kept (fun _ => False) X3 Y := by rw [← hY]; exact (Kept.refl _ X3).alloc _
                    have HQY := Lib.hid ((hkY.block q (by omega) id).trans HQX.out)
                    have HKY := Lib.hid (HKw.out.trans hkY (fun _ _ e => e.elim))
                    obtain ⟨y0, y1, y2⟩ := cells3 hqy
                    have hb := HQY.out
                    obtain ⟨z0, z1, z2⟩ := cells3 hb
                    have e0 := frozen_of hb 0
                    have e1 := frozen_of hb 1
                    have e2 := frozen_of hb 2
                    clear hY hqy hkY hq6 hb
                    go_wp2_with fail
                    (try simp only [Exit.inBlock, Exit.then])
                    refine ret_rdecode (u := .int .i64 70) (stored3 HQY.out) ?_ ?_ ?_ ?_
                    · rfl
                    · rfl
                    · rfl
                    · refine dec_zero0 HDC.out HDE.out HBL.out HLT.out HNS.out ?_ (HFIN.out _ HKY.out)
                      have h1 := HN.out
                      have h2 := HNN.out
                      unfold decB
                      rw [← h1]
                      rw [if_neg (by have := H96.out; omega), if_neg (by omega), if_neg (by have := HFIT.out; omega), if_pos (any_bad (k := k) (by omega) HBD.out)]
                  all_goals
                    have HNB := Lib.hid (show badM (decM s (a + 64 + 16 * k)) = false by rw [HDM.out]; rfl)
                    go_upto_region 24 with fail
                    obtain ⟨q6, hq6⟩ : ∃ q6, q6 = X3.heap.size := ⟨_, rfl⟩
                    rw [← hq6]
                    generalize hY : World.alloc X3 _ = Y
                    have hqy0 : ∀ o, World.alloc X3 o = Y → Y.heap[q6]? = some o := fun o e => by rw [← e, hq6]; exact heap_alloc_new X3 o
                    have hqy := hqy0 _ hY
                    clear hqy0
                    have hkY : Kept (fun _ => False) X3 Y := by rw [← hY]; exact (Kept.refl _ X3).alloc _
                    have HQY := Lib.hid ((hkY.block q (by omega) id).trans HQX.out)
                    have hY4 := (hkY.block q4 (by omega) id).trans H4X.out
                    have HKY := Lib.hid (HKw.out.trans hkY (fun _ _ e => e.elim))
                    have HRY := Lib.hid (HRX.out.kept hkY (fun _ _ => id))
                    have HXY := Lib.hid (HX3.out.kept hkY id)
                    have hszY := Nat.le_trans hszX hkY.size
                    obtain ⟨y0, y1, y2⟩ := cells3 hqy
                    obtain ⟨x0, x1, x2⟩ := cells3 hY4
                    have xf := frozen_of hY4 2
                    have HY4 := Lib.hid hY4
                    clear hY hqy hkY hq6 hY4
                    have hk6 : k ≤ 1000000 := by omega
                    go_wp2_with (first
                      | (at_builtin
                         refine wpList_row rfl (.tmp 91) (.tmp 93) 42 rfl 47 (.agg #[.bool false, .int .i64 0, .int .i64 0]) 3 24 Try.underlying42 info_metric rfl (by omega) (.slice lA k lc) k (flatM (decMs s (a + 64) k)) rfl (HRY.out.kept ((Kept.refl (fun _ => False) Y).alloc _) (fun _ _ => id)) _ _ (flatM [decM s (a + 64 + 16 * k)]) rfl (by rw [HDM.out]; exact rd_blk Y _ _ _ _) (flatM_one _) (by omega) ?_
                         intro v5 w5 hr5 hk5 hn5
                         obtain ⟨A5, c5, rfl⟩ := hr5.shape
                         have hne : ¬ isAt (.slice lA k lc) q4 := fun e => by have := HLO.out _ e; omega
                         have x2' := ck hk5 (ck ((Kept.refl (fun _ => False) Y).alloc _) x2 id) hne
                         have xf' := (hk5.frozen (p := ⟨q4, 2, none⟩) (World.block_lt_of_cell? _ _ (ck ((Kept.refl (fun _ => False) Y).alloc _) x2 id)) hne).trans ((((Kept.refl (fun _ => False) Y).alloc _).frozen (p := ⟨q4, 2, none⟩) (World.block_lt_of_cell? _ _ x2) id).trans xf)
                         have HR5' := Lib.hid hr5
                         have HK5' := Lib.hid hk5
                         have HN5' := Lib.hid hn5
                         clear hr5 hk5 hn5))
                    go_roundw
                    case rel =>
                      have hkv : Kept (isAt (.slice lA k lc)) Y w5 := Kept.trans (S := isAt (.slice lA k lc)) ((Kept.refl (isAt (.slice lA k lc)) Y).alloc _) HK5'.out (fun _ _ h => h)
                      have hYn := HN5'.out
                      have hlo := HLO.out
                      have hw5 := HK5.out.size
                      have hno : ∀ g, isAt (.slice A5 (k + 1) c5) g → V5.heap.size ≤ g := fun g hg => by
                        rcases hYn g hg with h1 | h1
                        · exact hlo g h1
                        · simp at h1; omega
                      have hks : Kept (fun g => g = q4) w5 (w5.setCell ⟨q4, 2, none⟩ (.slice A5 (k + 1) c5)) := (Kept.refl (fun g => g = q4) w5).setCell (p := ⟨q4, 2, none⟩) (.inl rfl) _
                      have h4w := (hkv.block q4 (by omega) (fun e => by have := hlo _ e; omega)).trans HY4.out
                      refine ⟨k + 1, .slice A5 (k + 1) c5, by omega, by go_num, ?_, ?_, ?_, hno, any_succ _ _ _ HAN.out HNB.out, ?_, ?_, ?_⟩
                      · have h1 := (HXY.out.kept hkv (fun e => by have := hlo _ e; omega)).kept hks (by omega)
                        rw [show a + 64 + 16 * k + 1 + 2 + 13 = a + 64 + 16 * (k + 1) by omega] at h1
                        exact h1
                      · simp [World.setCell, Array.getElem?_modify, h4w]
                      · rw [decMs_succ, flatM_append]
                        exact HR5'.out.kept hks (fun g hg e => by have := hno g hg; omega)
                      · exact (hks.block q (by have := hkv.size; omega) (by omega)).trans ((hkv.block q (by omega) (fun e => by have := hlo _ e; omega)).trans HQY.out)
                      · exact Kept.trans (S := fun g => g = p) (Kept.trans (S := fun g => g = p) HKY.out hkv (fun g hg e => by have := hlo g e; omega)) hks (fun g hg e => by omega)
                      · exact Nat.le_trans hszY (Nat.le_trans hkv.size hks.size)
                    case measure => exact measI2 N k hkl
                · have HKN := Lib.hid (show k = n by have := HNN.out; omega)
                  have hb := HQ.out
                  obtain ⟨z0, z1, z2⟩ := cells3 hb
                  have e0 := frozen_of hb 0
                  have e1 := frozen_of hb 1
                  have e2 := frozen_of hb 2
                  obtain ⟨lA, lc, rfl⟩ := hrwShape HRW.out
                  clear hb
                  have hpar : N % 2 = 0 ∨ N % 2 = 1 := by omega
                  rcases hpar with hev | hod
                  · have hm2 : (N % 2 == 1) = false := by rw [hev]; rfl
                    go_upto_region 29 with fail
                    have HKY := Lib.hid (show Kept (fun g => g = p) w wr from HK.out)
                    have H5Y := (HKY.out.block q5 hq5w (by omega)).trans H5w.out
                    have H4Y := H4.out
                    have HQY := Lib.hid (HQ.out)
                    have HOY := HOw.out.kept HKY.out (fun g hg e => by have := HOw.out.own g hg; omega) (fun g hg e => by have := (HOw.out.fb g hg).1; omega)
                    have HRY := Lib.hid (show RR 74 wr p s (endB a k) false by have h3 := HR.out; have h4 := HKN.out; have h5 := HNN.out; rw [show a + 64 + 16 * k = endB a k by unfold endB; omega] at h3; exact h3)
                    have HDY := Lib.hid (HRW.out.rd)
                    obtain ⟨v0, v1, v2⟩ := cells3 H4Y
                    obtain ⟨x0, x1, x2⟩ := cells3 H5Y
                    have xf := frozen_of H5Y 1
                    have H5Y' := Lib.hid H5Y
                    have HOY' := Lib.hid HOY
                    obtain ⟨l, l1, l2, l3⟩ := HOY.ex
                    have L1 := Lib.hid l1
                    have L2 := Lib.hid (show RW wr 3 (.slice oA on oc) on (flatB l) by rw [← HON.out] at l2; exact l2)
                    have L3 := Lib.hid l3
                    have hn16 : on ≤ 1000000 := by have h1 := HBL.out; have h2 := HON.out; omega
                    clear H5Y H4Y HOY l1 l2 l3
                    go_wp2_with (first
                      | (at_builtin
                         refine wpList_row rfl (.tmp 106) (.tmp 108) 23 rfl 44 (.agg #[.int .u32 0, .int .i64 0, .slice none 0 0]) 3 40 Try.underlying23 info_block rfl (by omega) (.slice oA on oc) on (flatB l) rfl (L2.out.kept ((Kept.refl (fun _ => False) wr).alloc _) (fun _ _ => id)) _ _ (flatB [((ss, fi, decMs s (a + 64) k), .slice lA k lc)]) rfl (rd_blk wr _ _ _ _) (by intro u hu; simp [flatB] at hu; rcases hu with rfl | rfl | rfl <;> rfl) hn16 ?_
                         intro v5 w5 hr5 hk5 hn5
                         obtain ⟨A5, c5, rfl⟩ := hr5.shape
                         have hne : ¬ isAt (.slice oA on oc) q5 := fun e => by have := HOY'.out.own _ e; omega
                         have x1' := ck hk5 (ck ((Kept.refl (fun _ => False) wr).alloc _) x1 id) hne
                         have xf' := (hk5.frozen (p := ⟨q5, 1, none⟩) (World.block_lt_of_cell? _ _ (ck ((Kept.refl (fun _ => False) wr).alloc _) x1 id)) hne).trans ((((Kept.refl (fun _ => False) wr).alloc _).frozen (p := ⟨q5, 1, none⟩) (World.block_lt_of_cell? _ _ x1) id).trans xf)
                         have HR5' := Lib.hid hr5
                         have HK5' := Lib.hid hk5
                         have HN5' := Lib.hid hn5
                         clear hr5 hk5 hn5))
                    go_roundw
                    case rel =>
                      have hkv : Kept (isAt (.slice oA on oc)) wr w5 := Kept.trans (S := isAt (.slice oA on oc)) ((Kept.refl (isAt (.slice oA on oc)) wr).alloc _) HK5'.out (fun _ _ h => h)
                      have hks : Kept (fun g => g = q5) w5 (w5.setCell ⟨q5, 1, none⟩ (.slice A5 (on + 1) c5)) := (Kept.refl (fun g => g = q5) w5).setCell (p := ⟨q5, 1, none⟩) (.inl rfl) _
                      have hlo2 := HOY'.out.own
                      have hfb2 := HOY'.out.fb
                      have hln : bs.length = on := HON.out.symm
                      have hyw := HKY.out.size
                      obtain ⟨W4, hW4⟩ : ∃ W4, W4 = wr.alloc (.cells #[.int .u32 ss, .int .i64 fi, .slice lA k lc] 44) := ⟨_, rfl⟩
                      have hk4 : Kept (fun _ => False) wr W4 := by rw [hW4]; exact (Kept.refl _ wr).alloc _
                      have hk5 := HK5'.out
                      have hn5 := HN5'.out
                      rw [← hW4] at hk5 hn5
                      have hO4 := HOY'.out.run hk4
                      have h4sz := hk4.size
                      have h5sz := hk5.size
                      have hml : (decMs s (a + 64) k).length = k := decMs_len _ _ _
                      have hlo3 := HLO.out
                      have hw5v := HK5.out.size
                      have hpush := OB.push hO4 L1.out (fun x hx => by
                        obtain ⟨A', c', e1, e2, e3⟩ := L3.out x hx
                        exact ⟨A', c', e1, e2.kept hk4 (fun _ _ _ => id), e3⟩) (x := (ss, fi, decMs s (a + 64) k)) (A := lA) (c := lc) (by omega) (by have h := HDY.out.kept hk4 (fun _ _ _ => id); rw [hml]; exact h) (fun o off e h0 => by
                        have h1 := hlo3 o ⟨off, k, lc, by rw [e]⟩
                        refine ⟨by omega, fun h2 => ?_⟩
                        have := HOw.out.lt h2
                        omega) (by have h := HR5'.out; rw [hml, hln]; exact h) hk5 hn5 (fun g hg => by have := HFw.out g hg; omega)
                      have hA5 : ∀ g, isAt (.slice A5 (on + 1) c5) g → W1.heap.size ≤ g := hpush.own
                      have h5w := (hkv.block q5 (by omega) (fun e => by have := hlo2 _ e; omega)).trans H5Y'.out
                      have hrp := (HRY.out.kept hkv (fun e => by have := hlo2 _ e; omega)).kept hks (by omega)
                      have h1 := HN.out
                      have h2 := HNN.out
                      have hkn := HKN.out
                      have hok := decB_ok (s := s) (a := a) (n := k) (by have := H96.out; omega) (by rw [hkn]; exact h1) (by omega) (by rw [hkn]; have := HFIT.out; omega) HAN.out (by rintro ⟨h3, _⟩; omega)
                      have hnx := decBs_next HBL.out HLT.out HNS.out hok
                      rw [← HSS.out, ← HFI.out] at hnx
                      refine ⟨endB a k, bs ++ [(ss, fi, decMs s (a + 64) k)], .slice A5 (on + 1) c5, _, hrp, ?_, by rw [hkn]; exact HFIT.out, ?_, hpush.kept hks (fun g hg e => by have := hA5 g hg; omega) (fun g hg e => by have := (hpush.fb g hg).1; omega), fun g hg => ?_, ?_, ?_, ?_, ?_, ?_⟩
                      · have := HA32.out
                        unfold endB
                        omega
                      · simp [World.setCell, Array.getElem?_modify, h5w]
                      · have hss := hks.size
                        rcases hg with hg | ⟨h0, off, e⟩
                        · have := HFw.out g hg; omega
                        · obtain ⟨b', off', e', hlt, _⟩ := HDY.out.2 (by rw [hml] at h0; exact h0)
                          rw [e] at e'
                          injection e' with e'
                          injection e' with e' _
                          omega
                      · exact (hks.block q (by omega) (by omega)).trans ((hkv.block q (by omega) (fun e => by have := hlo2 _ e; omega)).trans HQY.out)
                      · rw [List.length_append, List.length_singleton, hln]
                        have h1 := HBL.out
                        have h2 := HLT.out
                        omega
                      · rw [HDE.out, hnx, hml]
                      · exact (Kept.trans (S := fun g => w0.heap.size ≤ g) (Kept.of_below HBw.out) (Kept.trans (S := fun g => g = p ∨ W1.heap.size ≤ g ∨ g = q5) (HKY.out.mono (fun g _ e => .inl e)) (Kept.trans (S := fun g => g = p ∨ W1.heap.size ≤ g ∨ g = q5) (hkv.mono (fun g _ e => .inr (.inl (hlo2 g e)))) hks (fun g _ e => .inr (.inr e))) (fun g _ e => e)) (fun g _ e => by omega)).below (Nat.le_refl _) (fun _ h => h)
                      · have := hks.size; omega
                    case measure =>
                      have hkv : Kept (isAt (.slice oA on oc)) wr w5 := Kept.trans (S := isAt (.slice oA on oc)) ((Kept.refl (isAt (.slice oA on oc)) wr).alloc _) HK5'.out (fun _ _ h => h)
                      have hks : Kept (fun g => g = q5) w5 (w5.setCell ⟨q5, 1, none⟩ (.slice A5 (on + 1) c5)) := (Kept.refl (fun g => g = q5) w5).setCell (p := ⟨q5, 1, none⟩) (.inl rfl) _
                      have hlo2 := HOY'.out.own
                      have hrp := (HRY.out.kept hkv (fun e => by have := hlo2 _ e; omega)).kept hks (by omega)
                      have c1 := HRw.out.cells.2.1
                      have c2 := hrp.cells.2.1
                      rw [← HMU.out]
                      unfold muR
                      rw [c1, c2]
                      have h1 := HFIT.out
                      have hkn := HKN.out
                      rw [← hkn] at h1
                      simp only [Option.getD_some, intOf]
                      unfold endB at h1 ⊢
                      omega
                  · have hm2 : (N % 2 == 1) = true := by rw [hod]; rfl
                    go_wp2_with fail
                    refine (rget_fit 16 16 rfl HR.out (by omega) (by have := h16.out; have := HKN.out; omega) HS.out).mono ?_
                    rintro e X9 ⟨rfl, hr9, hk9⟩
                    have HR9 := Lib.hid hr9
                    have HQ9 := Lib.hid ((hk9.block q (by omega) (by omega)).trans HQ.out)
                    have h49 := (hk9.block q4 (by omega) (by omega)).trans H4.out
                    have HRD9 := Lib.hid (HRW.out.rd.kept hk9 (fun b off e hb => by have := HLO.out b ⟨off, k, lc, by rw [e]⟩; omega))
                    have HK9 := Lib.hid (HK.out.trans hk9 (fun _ _ h => h))
                    have H49 := Lib.hid h49
                    have hb := HQ9.out
                    obtain ⟨z0, z1, z2⟩ := cells3 hb
                    have e0 := frozen_of hb 0
                    have e1 := frozen_of hb 1
                    have e2 := frozen_of hb 2
                    obtain ⟨d0, d1⟩ := val_bd16 s (a + 64 + 16 * k)
                    obtain ⟨g9, hg9⟩ : ∃ g9, g9 = val s (a + 64 + 16 * k) 16 := ⟨_, rfl⟩
                    rw [← hg9] at d0 d1 ⊢
                    have HG9 := Lib.hid hg9
                    clear hr9 hk9 h49 hb hg9
                    by_cases hz9 : g9 = 0
                    · subst hz9
                      go_upto_region 29 with fail
                      have HKY := Lib.hid (show Kept (fun g => g = p) w X9 from HK9.out)
                      have H5Y := (HKY.out.block q5 hq5w (by omega)).trans H5w.out
                      have H4Y := H49.out
                      have HQY := Lib.hid (HQ9.out)
                      have HOY := HOw.out.kept HKY.out (fun g hg e => by have := HOw.out.own g hg; omega) (fun g hg e => by have := (HOw.out.fb g hg).1; omega)
                      have HRY := Lib.hid (show RR 74 X9 p s (endB a k) false by have h3 := HR9.out; have h4 := HKN.out; have h5 := HNN.out; rw [show a + 64 + 16 * k + 16 = endB a k by unfold endB; omega] at h3; exact h3)
                      have HDY := Lib.hid (HRD9.out)
                      obtain ⟨v0, v1, v2⟩ := cells3 H4Y
                      obtain ⟨x0, x1, x2⟩ := cells3 H5Y
                      have xf := frozen_of H5Y 1
                      have H5Y' := Lib.hid H5Y
                      have HOY' := Lib.hid HOY
                      obtain ⟨l, l1, l2, l3⟩ := HOY.ex
                      have L1 := Lib.hid l1
                      have L2 := Lib.hid (show RW X9 3 (.slice oA on oc) on (flatB l) by rw [← HON.out] at l2; exact l2)
                      have L3 := Lib.hid l3
                      have hn16 : on ≤ 1000000 := by have h1 := HBL.out; have h2 := HON.out; omega
                      clear H5Y H4Y HOY l1 l2 l3
                      go_wp2_with (first
                        | (at_builtin
                           refine wpList_row rfl (.tmp 106) (.tmp 108) 23 rfl 44 (.agg #[.int .u32 0, .int .i64 0, .slice none 0 0]) 3 40 Try.underlying23 info_block rfl (by omega) (.slice oA on oc) on (flatB l) rfl (L2.out.kept ((Kept.refl (fun _ => False) X9).alloc _) (fun _ _ => id)) _ _ (flatB [((ss, fi, decMs s (a + 64) k), .slice lA k lc)]) rfl (rd_blk X9 _ _ _ _) (by intro u hu; simp [flatB] at hu; rcases hu with rfl | rfl | rfl <;> rfl) hn16 ?_
                           intro v5 w5 hr5 hk5 hn5
                           obtain ⟨A5, c5, rfl⟩ := hr5.shape
                           have hne : ¬ isAt (.slice oA on oc) q5 := fun e => by have := HOY'.out.own _ e; omega
                           have x1' := ck hk5 (ck ((Kept.refl (fun _ => False) X9).alloc _) x1 id) hne
                           have xf' := (hk5.frozen (p := ⟨q5, 1, none⟩) (World.block_lt_of_cell? _ _ (ck ((Kept.refl (fun _ => False) X9).alloc _) x1 id)) hne).trans ((((Kept.refl (fun _ => False) X9).alloc _).frozen (p := ⟨q5, 1, none⟩) (World.block_lt_of_cell? _ _ x1) id).trans xf)
                           have HR5' := Lib.hid hr5
                           have HK5' := Lib.hid hk5
                           have HN5' := Lib.hid hn5
                           clear hr5 hk5 hn5))
                      go_roundw
                      case rel =>
                        have hkv : Kept (isAt (.slice oA on oc)) X9 w5 := Kept.trans (S := isAt (.slice oA on oc)) ((Kept.refl (isAt (.slice oA on oc)) X9).alloc _) HK5'.out (fun _ _ h => h)
                        have hks : Kept (fun g => g = q5) w5 (w5.setCell ⟨q5, 1, none⟩ (.slice A5 (on + 1) c5)) := (Kept.refl (fun g => g = q5) w5).setCell (p := ⟨q5, 1, none⟩) (.inl rfl) _
                        have hlo2 := HOY'.out.own
                        have hfb2 := HOY'.out.fb
                        have hln : bs.length = on := HON.out.symm
                        have hyw := HKY.out.size
                        obtain ⟨W4, hW4⟩ : ∃ W4, W4 = X9.alloc (.cells #[.int .u32 ss, .int .i64 fi, .slice lA k lc] 44) := ⟨_, rfl⟩
                        have hk4 : Kept (fun _ => False) X9 W4 := by rw [hW4]; exact (Kept.refl _ X9).alloc _
                        have hk5 := HK5'.out
                        have hn5 := HN5'.out
                        rw [← hW4] at hk5 hn5
                        have hO4 := HOY'.out.run hk4
                        have h4sz := hk4.size
                        have h5sz := hk5.size
                        have hml : (decMs s (a + 64) k).length = k := decMs_len _ _ _
                        have hlo3 := HLO.out
                        have hw5v := HK5.out.size
                        have hpush := OB.push hO4 L1.out (fun x hx => by
                          obtain ⟨A', c', e1, e2, e3⟩ := L3.out x hx
                          exact ⟨A', c', e1, e2.kept hk4 (fun _ _ _ => id), e3⟩) (x := (ss, fi, decMs s (a + 64) k)) (A := lA) (c := lc) (by omega) (by have h := HDY.out.kept hk4 (fun _ _ _ => id); rw [hml]; exact h) (fun o off e h0 => by
                          have h1 := hlo3 o ⟨off, k, lc, by rw [e]⟩
                          refine ⟨by omega, fun h2 => ?_⟩
                          have := HOw.out.lt h2
                          omega) (by have h := HR5'.out; rw [hml, hln]; exact h) hk5 hn5 (fun g hg => by have := HFw.out g hg; omega)
                        have hA5 : ∀ g, isAt (.slice A5 (on + 1) c5) g → W1.heap.size ≤ g := hpush.own
                        have h5w := (hkv.block q5 (by omega) (fun e => by have := hlo2 _ e; omega)).trans H5Y'.out
                        have hrp := (HRY.out.kept hkv (fun e => by have := hlo2 _ e; omega)).kept hks (by omega)
                        have h1 := HN.out
                        have h2 := HNN.out
                        have hkn := HKN.out
                        have hok := decB_ok (s := s) (a := a) (n := k) (by have := H96.out; omega) (by rw [hkn]; exact h1) (by omega) (by rw [hkn]; have := HFIT.out; omega) HAN.out (by rintro ⟨_, h3⟩; exact h3 HG9.out.symm)
                        have hnx := decBs_next HBL.out HLT.out HNS.out hok
                        rw [← HSS.out, ← HFI.out] at hnx
                        refine ⟨endB a k, bs ++ [(ss, fi, decMs s (a + 64) k)], .slice A5 (on + 1) c5, _, hrp, ?_, by rw [hkn]; exact HFIT.out, ?_, hpush.kept hks (fun g hg e => by have := hA5 g hg; omega) (fun g hg e => by have := (hpush.fb g hg).1; omega), fun g hg => ?_, ?_, ?_, ?_, ?_, ?_⟩
                        · have := HA32.out
                          unfold endB
                          omega
                        · simp [World.setCell, Array.getElem?_modify, h5w]
                        · have hss := hks.size
                          rcases hg with hg | ⟨h0, off, e⟩
                          · have := HFw.out g hg; omega
                          · obtain ⟨b', off', e', hlt, _⟩ := HDY.out.2 (by rw [hml] at h0; exact h0)
                            rw [e] at e'
                            injection e' with e'
                            injection e' with e' _
                            omega
                        · exact (hks.block q (by omega) (by omega)).trans ((hkv.block q (by omega) (fun e => by have := hlo2 _ e; omega)).trans HQY.out)
                        · rw [List.length_append, List.length_singleton, hln]
                          have h1 := HBL.out
                          have h2 := HLT.out
                          omega
                        · rw [HDE.out, hnx, hml]
                        · exact (Kept.trans (S := fun g => w0.heap.size ≤ g) (Kept.of_below HBw.out) (Kept.trans (S := fun g => g = p ∨ W1.heap.size ≤ g ∨ g = q5) (HKY.out.mono (fun g _ e => .inl e)) (Kept.trans (S := fun g => g = p ∨ W1.heap.size ≤ g ∨ g = q5) (hkv.mono (fun g _ e => .inr (.inl (hlo2 g e)))) hks (fun g _ e => .inr (.inr e))) (fun g _ e => e)) (fun g _ e => by omega)).below (Nat.le_refl _) (fun _ h => h)
                        · have := hks.size; omega
                      case measure =>
                        have hkv : Kept (isAt (.slice oA on oc)) X9 w5 := Kept.trans (S := isAt (.slice oA on oc)) ((Kept.refl (isAt (.slice oA on oc)) X9).alloc _) HK5'.out (fun _ _ h => h)
                        have hks : Kept (fun g => g = q5) w5 (w5.setCell ⟨q5, 1, none⟩ (.slice A5 (on + 1) c5)) := (Kept.refl (fun g => g = q5) w5).setCell (p := ⟨q5, 1, none⟩) (.inl rfl) _
                        have hlo2 := HOY'.out.own
                        have hrp := (HRY.out.kept hkv (fun e => by have := hlo2 _ e; omega)).kept hks (by omega)
                        have c1 := HRw.out.cells.2.1
                        have c2 := hrp.cells.2.1
                        rw [← HMU.out]
                        unfold muR
                        rw [c1, c2]
                        have h1 := HFIT.out
                        have hkn := HKN.out
                        rw [← hkn] at h1
                        simp only [Option.getD_some, intOf]
                        unfold endB at h1 ⊢
                        omega
                    · have hz2 : (g9 == 0) = false := by simp [hz9]
                      have hz3 : decide (g9 = 0) = false := decide_eq_false hz9
                      go_wp2_with fail
                      (try simp only [Exit.inBlock, Exit.then])
                      refine ret_rdecode (u := .int .i64 91) (stored3 HQ9.out) ?_ ?_ ?_ ?_
                      · rfl
                      · rfl
                      · rfl
                      · refine dec_zero0 HDC.out HDE.out HBL.out HLT.out HNS.out ?_ (HFIN.out _ HK9.out)
                        have h1 := HN.out
                        have h2 := HNN.out
                        have h3 := HG9.out
                        have h4 := HAN.out
                        have hkn := HKN.out
                        unfold decB
                        rw [← h1, ← hkn]
                        rw [if_neg (by have := H96.out; omega), if_neg (by omega), if_neg (by rw [hkn]; have := HFIT.out; omega), if_neg (by rw [h4]; exact Bool.false_ne_true), if_pos ⟨by omega, fun e => hz9 (h3.trans e)⟩]
    · have HEND := Lib.hid (show a + 32 = 8 * s.size by have := HZ.out; have := HA.out; omega)
      go_wp2_with fail
      refine (rget_fit 32 32 rfl HRw.out (by omega) (by have := HEND.out; omega) HS.out).mono ?_
      rintro e Y ⟨rfl, hr2, hk2⟩
      have h5y := (hk2.block q5 (Array.getElem?_eq_some_iff.1 H5w.out).1 (by omega)).trans H5w.out
      have hqy := (hk2.block q (Array.getElem?_eq_some_iff.1 HQw.out).1 (fun e => hpq e.symm)).trans HQw.out
      obtain ⟨x0, x1, x2⟩ := cells3 h5y
      have xf := frozen_of h5y 2
      have H5Y := Lib.hid h5y
      have HQY := Lib.hid hqy
      have HKY := Lib.hid hk2
      clear h5y hqy hk2 hr2
      go_upto_region 31 with fail
      generalize hY2 : World.setCell Y _ _ = Y2
      have hk5 : Kept (fun g => g = q5) Y Y2 := by rw [← hY2]; exact (Kept.refl (fun g => g = q5) Y).setCell (p := ⟨q5, 2, none⟩) (.inl rfl) _
      have h52 : Y2.heap[q5]? = some (.cells #[.int .u32 (val s 0 32), .slice oA on oc, .int .u32 (val s a 32)] 25 (0, 0)) := by
        have h1 := H5Y.out
        rw [← hY2]
        simp [World.setCell, Array.getElem?_modify, h1]
      have hq2 := (hk5.block q (Array.getElem?_eq_some_iff.1 HQY.out).1 (by omega)).trans HQY.out
      have HK2 := Lib.hid (show Kept (fun g => g = p ∨ g = q5) w Y2 from Kept.trans (S := fun g => g = p ∨ g = q5) (HKY.out.mono (fun _ _ e => .inl e)) hk5 (fun _ _ e => .inr e))
      obtain ⟨x0, x1, x2⟩ := cells3 h52
      obtain ⟨z0, z1, z2⟩ := cells3 hq2
      have e0 := frozen_of hq2 0
      have e1 := frozen_of hq2 1
      have e2 := frozen_of hq2 2
      have HQ2 := Lib.hid hq2
      clear hY2 hk5 h52 hq2
      go_wp2_with fail
      (try simp only [Exit.inBlock, Exit.then])
      refine ret_rdecode (u := .int .i64 0) (stored3 HQ2.out) ?_ ?_ ?_ ?_
      · rfl
      · rfl
      · rfl
      · have hd : decC s = ((val s 0 32, bs, val s a 32), 0) := by rw [HDC.out, HDE.out, decBs_end HBL.out (by have := HEND.out; omega)]; rfl
        unfold DecPost
        rw [hd]
        have hks := kept_store3 (S := fun g => g = p ∨ g = q5 ∨ g = q) (HK2.out.mono (fun _ _ e => by rcases e with e | e; exact .inl e; exact .inr (.inl e))) (.inl (.inr (.inr rfl))) (.int .u32 (val s 0 32)) (.slice oA on oc) (.int .u32 (val s a 32))
        have hob := HOw.out
        rw [HON.out] at hob hks ⊢
        have hob2 := hob.kept hks (fun g hg e => by have := hob.own g hg; omega) (fun g hg e => by have := (hob.fb g hg).1; omega)
        exact ⟨_, rfl, ⟨oA, oc, rfl, hob2.blks⟩, (Kept.trans (S := fun g => w0.heap.size ≤ g) (Kept.of_below HBw.out) hks (fun g _ e => by omega)).below (Nat.le_refl _) (fun _ h => h)⟩
/-- What Decode tells of a body that cannot be. -/
theorem rdecode_bad (s : ByteArray) (w : World) (h : 65536 < s.size ∨ s.size % 4 ≠ 0 ∨ s.size < 8) : Calls Try.prog 17 #[.string s] w (DecPost s w) := by
  have HD := Lib.hid (show (65536 < s.size ∧ decC s = (zeroC, 2)) ∨ (¬ 65536 < s.size ∧ s.size % 4 ≠ 0 ∧ decC s = (zeroC, 90)) ∨ (¬ 65536 < s.size ∧ s.size % 4 = 0 ∧ s.size < 8 ∧ decC s = (zeroC, 60)) by
    unfold decC
    by_cases h1 : 65536 < s.size
    · exact .inl ⟨h1, by rw [if_pos h1]⟩
    · by_cases h2 : s.size % 4 ≠ 0
      · exact .inr (.inl ⟨h1, h2, by rw [if_neg h1, if_pos h2]⟩)
      · have h3 : s.size < 8 := by omega
        exact .inr (.inr ⟨h1, by omega, h3, by rw [if_neg h1, if_neg h2, if_pos h3]⟩))
  obtain ⟨Z, hZ⟩ : ∃ Z : Int, Z = (s.size : Int) := ⟨_, rfl⟩
  have HZ := Lib.hid hZ
  have hsz : (s.size : Int) = Z := hZ.symm
  have hz0 : 0 ≤ Z := by omega
  obtain ⟨q, hq⟩ : ∃ q, q = w.heap.size := ⟨_, rfl⟩
  obtain ⟨W0, hW0⟩ : ∃ W0, W0 = w.alloc (.cells #[.int .u32 0, .slice none 0 0, .int .u32 0] 25) := ⟨_, rfl⟩
  have hqc : W0.heap[q]? = some (.cells #[.int .u32 0, .slice none 0 0, .int .u32 0] 25 (0, 0)) := by rw [hW0, hq]; exact heap_alloc_new w _
  have HQ0 := Lib.hid hqc
  have HK0 := Lib.hid (show Below w.heap.size w (((W0.setCell ⟨q, 0, none⟩ (.int .u32 0)).setCell ⟨q, 1, none⟩ (.slice none 0 0)).setCell ⟨q, 2, none⟩ (.int .u32 0)) by
    have h1 : Kept (fun g => w.heap.size ≤ g) w W0 := by rw [hW0]; exact (Kept.refl _ w).alloc _
    exact (kept_store3 h1 (.inr (by omega)) _ _ _).below (Nat.le_refl _) (fun _ h => h))
  obtain ⟨z0, z1, z2⟩ := cells3 hqc
  have e0 := frozen_of hqc 0
  have e1 := frozen_of hqc 1
  have e2 := frozen_of hqc 2
  have HE := Lib.hid hq
  have HW0 := Lib.hid hW0
  have hcase : 65536 < Z ∨ (Z ≤ 65536 ∧ (Z % 4 == 0) = false) ∨ (Z ≤ 65536 ∧ (Z % 4 == 0) = true ∧ Z < 8) := by
    simp only [beq_eq_false_iff_ne, beq_iff_eq]
    omega
  clear hqc hq hW0 hZ h
  rcases hcase with h1 | ⟨h1, h2⟩ | ⟨h1, h2, h3⟩
  · have hd : decC s = (zeroC, 2) := by
      have := HZ.out
      rcases HD.out with ⟨g1, h⟩ | ⟨g1, g2, h⟩ | ⟨g1, g2, g3, h⟩
      · exact h
      · omega
      · omega
    have HDD := Lib.hid hd
    clear hd
    go_enter Try.func17, Try.ntmps17
    go_upto_region 1 with fail
    rw [← HW0.out, ← HE.out]
    go_wp2_with fail
    (try simp only [Exit.inBlock, Exit.then])
    refine ret_rdecode (u := .int .i64 2) (stored3 HQ0.out) ?_ ?_ ?_ ?_
    · rfl
    · rfl
    · rfl
    · exact dec_zero HDD.out HK0.out
  · have hd : decC s = (zeroC, 90) := by
      have := HZ.out
      have h2' : ¬ Z % 4 = 0 := by simpa using h2
      rcases HD.out with ⟨g1, h⟩ | ⟨g1, g2, h⟩ | ⟨g1, g2, g3, h⟩
      · omega
      · exact h
      · omega
    have HDD := Lib.hid hd
    clear hd
    go_enter Try.func17, Try.ntmps17
    go_upto_region 1 with fail
    rw [← HW0.out, ← HE.out]
    go_wp2_with fail
    (try simp only [Exit.inBlock, Exit.then])
    refine ret_rdecode (u := .int .i64 90) (stored3 HQ0.out) ?_ ?_ ?_ ?_
    · rfl
    · rfl
    · rfl
    · exact dec_zero HDD.out HK0.out
  · have hd : decC s = (zeroC, 60) := by
      have := HZ.out
      have h2' : Z % 4 = 0 := by simpa using h2
      rcases HD.out with ⟨g1, h⟩ | ⟨g1, g2, h⟩ | ⟨g1, g2, g3, h⟩
      · omega
      · omega
      · exact h
    have HDD := Lib.hid hd
    clear hd
    go_enter Try.func17, Try.ntmps17
    go_upto_region 1 with fail
    rw [← HW0.out, ← HE.out]
    go_wp2_with fail
    (try simp only [Exit.inBlock, Exit.then])
    refine ret_rdecode (u := .int .i64 60) (stored3 HQ0.out) ?_ ?_ ?_ ?_
    · rfl
    · rfl
    · rfl
    · exact dec_zero HDD.out HK0.out
theorem rdecode_any (s : ByteArray) (w : World) : Calls Try.prog 17 #[.string s] w (DecPost s w) := by
  by_cases h : 65536 < s.size ∨ s.size % 4 ≠ 0 ∨ s.size < 8
  · exact rdecode_bad s w h
  · exact rdecode_main s w (by omega) (by omega) (by omega)
end Go.Proofs.Ytmkaflfhmpddbaa.Ccfb
