/- The extensions, as the program reads them: the walk; no condition but the ranges in each. -/
import Derived.Test.YtccljgohekmjkaaRtpDec2
namespace Go.Proofs.Ytccljgohekmjkaa.Rtp
open Go.RowKit Go.Proofs.Ytccljgohekmjkaa.Plain Go.Proofs.Ytccljgohekmjkaa.Heap Go.Proofs.Ytccljgohekmjkaa.Open Go.Proofs.Ytccljgohekmjkaa.Rows Go.Proofs.Ytccljgohekmjkaa.Bits

set_option maxRecDepth 10000 in
set_option maxHeartbeats 8000000 in
theorem exts_any (s : ByteArray) (q0 p : Nat) (w : World) (hw : ST w p s (8 * q0)) (hs : s.size ≤ 1099511627776) :
    Calls Try.prog 32 #[.pointer (some ⟨p, 0, none⟩)] w (ExtPost s q0 p w) := by
  have HST := Lib.hid hw
  have HS := Lib.hid hs
  clear hw hs
  go_enter Try.func32, Try.ntmps32
  go_wp2
  refine wp_scope_pass 0 (JE s w p q0) muE rfl ?_ ?_
  · rintro ⟨ts, ds⟩ X ⟨q, left, f, l, lv, hd, hts, t0, t5, t6, t7, hst, hq, hlf, hdec, hgt, hrw, hat, hll, hk⟩
    obtain rfl : ds = [] := hd
    obtain ⟨fn, hf, hts⟩ := arr_fun ts 99 hts
    have f0 : fn 0 = .pointer (some ⟨p, 0, none⟩) := (hf 0 (by omega)).trans t0
    have f5 : fn 5 = .int .i64 (left : Int) := (hf 5 (by omega)).trans t5
    have f6 : fn 6 = lv := (hf 6 (by omega)).trans t6
    have f7 : fn 7 = .int .i64 ((mask l : Nat) : Int) := (hf 7 (by omega)).trans t7
    rw [range99] at hts
    simp only [List.map_cons, List.map_nil, f0, f5, f6, f7] at hts
    subst hts
    have HX := Lib.hid hst
    have HQ := Lib.hid hq
    have HD := Lib.hid hdec
    have HG := Lib.hid hgt
    have HR := Lib.hid hrw
    have HAT := Lib.hid hat
    have HLL := Lib.hid hll
    have HK := Lib.hid hk
    have HPL := Lib.hid hst.lt
    obtain ⟨f', rfl⟩ : ∃ f', f = f' + 1 := ⟨f - 1, by omega⟩
    have HLF := Lib.hid hlf
    obtain ⟨n, hn⟩ : ∃ n, n = l.length := ⟨_, rfl⟩
    have HN := Lib.hid hn
    have hn3 : (left : Int) ≤ 300000 := by omega
    obtain ⟨lA, lc, rfl⟩ : ∃ lA lc, lv = .slice lA n lc := by rw [hn]; exact hrw.shape
    clear hf t0 t5 t6 t7 f0 f5 f6 f7 hst hq hdec hgt hrw hat hll hk hlf hn
    by_cases hl0 : (left : Int) = 0
    · have hl0' : left = 0 := by omega
      subst hl0'
      clear hl0 hn3
      go_wp2_with fail
      simp only [Exit.jump]
      go_ret2
      unfold ExtPost
      rw [HD.out, decX_end]
      refine ⟨lA, lc, ?_, ?_, ?_, HX.out, HQ.out, HK.out⟩
      · rw [← HN.out]; rfl
      · have h := HR.out; rw [HN.out] at h; exact h
      · have h := HAT.out; rw [HN.out] at h; exact h
    · have hl0' : ((left : Int) == 0) = false := by rw [beq_eq_false_iff_ne]; exact hl0
      have HL0 := Lib.hid (show ¬ left = 0 by omega)
      obtain ⟨L1, hL1⟩ : ∃ L1 : Nat, (left : Int) - 1 = (L1 : Int) := ⟨left - 1, by omega⟩
      have HL1 := Lib.hid (show left - 1 = L1 by omega)
      have hL1b : (L1 : Int) ≤ 300000 := by omega
      clear hl0
      go_wp2_with fail
      refine (get_st 4 4 rfl HX.out (by omega) HS.out).mono ?_
      rintro e X1 ⟨rfl, h1, hk1⟩
      have HX1 := Lib.hid h1
      have HK1 := Lib.hid hk1
      obtain ⟨ID, hID⟩ : ∃ ID, ID = vx s (8 * q) 4 := ⟨_, rfl⟩
      have hIDb : 0 ≤ ID ∧ ID < 16 := by rw [hID]; exact vx_bd s (8 * q) 4
      obtain ⟨i0, i1⟩ := hIDb
      rw [← hID]
      have HID := Lib.hid hID
      clear h1 hk1 hID
      go_wp2_with fail
      refine (get_st 4 4 rfl HX1.out (by omega) HS.out).mono ?_
      rintro e X2 ⟨rfl, h1, hk1⟩
      have HX2 := Lib.hid h1
      have HK2 := Lib.hid (HK1.out.trans hk1 (fun _ _ h => h))
      obtain ⟨NN, hNN⟩ : ∃ NN, NN = vx s (8 * q + 4) 4 := ⟨_, rfl⟩
      have hNb : 0 ≤ NN ∧ NN < 16 := by rw [hNN]; exact vx_bd s (8 * q + 4) 4
      obtain ⟨n0, n1⟩ := hNb
      rw [← hNN]
      have HNN := Lib.hid hNN
      clear h1 hk1 hNN HX1 HK1
      go_wp2_with fail
      refine (bad_st HX2.out).mono ?_
      rintro e X3 ⟨rfl, h1, hk1⟩
      have HX3 := Lib.hid h1
      have HK3 := Lib.hid (HK.out.trans (HK2.out.trans hk1 (fun _ _ h => h.elim)) (fun _ _ h => h))
      have HKL := Lib.hid (HK2.out.trans hk1 (fun _ _ h => h.elim))
      clear h1 hk1 HX2 HK2
      by_cases hsh : s.size ≤ q
      · rw [decide_eq_true (by omega)]
        have HSH := Lib.hid hsh
        clear hsh
        go_wp2_with fail
        simp only [Exit.jump]
        go_ret2
        exact ext_err (by rw [HD.out, decX_short HL0.out HSH.out]) HK3.out
      · rw [decide_eq_false (by omega)]
        have HSH := Lib.hid hsh
        have hi' : ID = xId s q := by rw [HID.out, vx_fit (by omega)]; rfl
        have hn' : NN + 1 = ((xN s q : Nat) : Int) := by
          rw [HNN.out, vx_fit (by omega)]
          have := bd4 s (8 * q + 4)
          unfold xN
          omega
        have HIX := Lib.hid hi'
        obtain ⟨Nn, hNn⟩ : ∃ Nn, Nn = xN s q := ⟨_, rfl⟩
        rw [← hNn] at hn'
        have HNx := Lib.hid hNn
        have HNN1 := Lib.hid hn'
        have hn1 : 1 ≤ (Nn : Int) := by omega
        have hn16 : (Nn : Int) ≤ 16 := by omega
        clear hsh hi' hNn n0 n1
        by_cases hpad : ID = 0 ∧ Nn = 1
        · obtain ⟨e1, e2⟩ := hpad
          have HPD := Lib.hid (decX_pad (f := f') (l := l) HL0.out HSH.out ⟨by rw [← HIX.out]; exact e1, by rw [← HNx.out]; exact e2⟩)
          subst e1 e2
          go_wp2_with fail
          go_step3
          refine ⟨rfl, ⟨q + 1, L1, f', l, .slice lA n lc, rfl, rfl, rfl, rfl, rfl, rfl, ?_, ?_, ?_, ?_, HG.out, ?_, HAT.out, ?_, HK3.out⟩, ?_⟩
          · have h := HX3.out
            rwa [show 8 * q + 4 + 4 = 8 * (q + 1) by omega] at h
          · have := HSH.out; omega
          · have := HLF.out; have := HL1.out; have := HL0.out; omega
          · rw [HD.out, HPD.out, HL1.out]
          · have h := HR.out.kept HKL.out (fun g hg e => by have := HAT.out g hg; have := HST.out.lt; omega)
            exact h
          · have := HLL.out; have := HL1.out; omega
          · have := HL1.out; have := HL0.out; simp [muE, intOf]; omega
        · have HNP := Lib.hid (show ¬ (xId s q = 0 ∧ xN s q = 1) by rw [← HIX.out, ← HNx.out]; exact hpad)
          by_cases hid0 : ID = 0
          · have hne : ((Nn : Int) == 1) = false := by rw [beq_eq_false_iff_ne]; intro e; exact hpad ⟨hid0, by omega⟩
            have HB := Lib.hid (decX_bad (f := f') (l := l) HL0.out HSH.out HNP.out (.inl (by rw [← HIX.out]; exact hid0)))
            subst hid0
            clear hpad
            go_wp2_with fail
            simp only [Exit.jump]
            go_ret2
            exact ext_err (by rw [HD.out, HB.out]) HK3.out
          · have hid1 : (ID == 0) = false := by rw [beq_eq_false_iff_ne]; exact hid0
            by_cases hid15 : ID = 15
            · have HB := Lib.hid (decX_bad (f := f') (l := l) HL0.out HSH.out HNP.out (.inr (.inl (by rw [← HIX.out]; exact hid15))))
              subst hid15
              clear hpad
              go_wp2_with fail
              simp only [Exit.jump]
              go_ret2
              exact ext_err (by rw [HD.out, HB.out]) HK3.out
            · have hid2 : (ID == 15) = false := by rw [beq_eq_false_iff_ne]; exact hid15
              have hall : ∀ x ∈ l, goodX x = true := by have h := goodTo_all HG.out; rwa [List.take_length] at h
              have hand := mask_and hall (k := ID) (by omega) (by omega)
              have HALL := Lib.hid hall
              have HI1 := Lib.hid (show 1 ≤ ID ∧ ID ≤ 14 by omega)
              clear hall
              cases hhit : hasId l ID with
              | true =>
                have HB := Lib.hid (decX_bad (f := f') (l := l) HL0.out HSH.out HNP.out (.inr (.inr (.inl (by rw [← HIX.out]; exact hhit)))))
                rw [hhit, if_pos rfl] at hand
                clear hpad hhit hid0 hid15
                go_wp2_with fail
                simp only [Exit.jump]
                go_ret2
                exact ext_err (by rw [HD.out, HB.out]) HK3.out
              | false =>
                rw [hhit, if_neg (by decide)] at hand
                have HH := Lib.hid hhit
                clear hhit
                by_cases hmo : (L1 : Int) < (Nn : Int)
                · have HB := Lib.hid (decX_bad (f := f') (l := l) HL0.out HSH.out HNP.out (.inr (.inr (.inr (by rw [← HNx.out, HL1.out]; omega)))))
                  clear hpad hid0 hid15
                  go_wp2_with fail
                  simp only [Exit.jump]
                  go_ret2
                  exact ext_err (by rw [HD.out, HB.out]) HK3.out
                · have HNB := Lib.hid (show ¬ (xId s q = 0 ∨ xId s q = 15 ∨ hasId l (xId s q) = true ∨ left - 1 < xN s q) by
                    rw [← HIX.out, ← HNx.out, HL1.out, HH.out]
                    intro e
                    rcases e with e | e | e | e
                    · exact hid0 e
                    · exact hid15 e
                    · cases e
                    · omega)
                  have hor := mask_or (l := l ++ [(ID, sub s (q + 1) Nn)]) (i := l.length) (x := (ID, sub s (q + 1) Nn)) (by rw [List.take_append_of_le_length (Nat.le_refl _), List.take_length]; exact HALL.out) (by simp) HI1.out.1 HI1.out.2
                  rw [List.take_append_of_le_length (Nat.le_refl _), List.take_length, show l.length + 1 = (l ++ [(ID, sub s (q + 1) Nn)]).length by simp, List.take_length] at hor
                  simp only at hor
                  obtain ⟨M2, hM2⟩ : ∃ M2, M2 = mask (l ++ [(ID, sub s (q + 1) Nn)]) := ⟨_, rfl⟩
                  rw [← hM2] at hor
                  have HM2 := Lib.hid hM2
                  have hmk := run_make_row' (P := Try.prog) 65 5 (.int .u8 0) 1 Try.underlying65 info_u8 rfl .i64 .i64 Nn (by omega) (by omega)
                  obtain ⟨L2, hL2⟩ : ∃ L2 : Nat, (L1 : Int) - (Nn : Int) = (L2 : Int) := ⟨L1 - Nn, by omega⟩
                  have HL2 := Lib.hid (show L1 - Nn = L2 by omega)
                  clear hpad hid0 hid15 hM2
                  go_upto_region 20 with fail
                  obtain ⟨b, hb⟩ : ∃ b, b = X3.heap.size := ⟨_, rfl⟩
                  rw [← hb]
                  generalize hWm : World.alloc X3 _ = Wm
                  have hkm : Kept (fun _ => False) X3 Wm := by rw [← hWm]; exact (Kept.refl _ X3).alloc _
                  have HRM := Lib.hid (show Wm.rowIs b 5 Nn (fun _ => .int .u8 0) by rw [← hWm, hb]; exact World.rowIs_made X3 (.int .u8 0) Nn 5)
                  have HXM := Lib.hid (HX3.out.kept hkm id)
                  have HKM := Lib.hid (HKL.out.trans hkm (fun _ _ h => h.elim))
                  have HBX := Lib.hid (show X.heap.size ≤ b by rw [hb]; exact HKL.out.size)
                  have HBP := Lib.hid (show b ≠ p by have h1 := HX3.out.lt; omega)
                  have HWX := Lib.hid HK.out.size
                  clear hWm hkm hb hor hmk hand
                  go_wp2_with fail
                  rw [show decide (L1 < Nn) = false from decide_eq_false (by omega)]
                  clear hn' hL1
                  go_loopw [77] (fun iv wx => ∃ i : Nat, (i : Int) ≤ (Nn : Int) ∧ iv = .int .i64 (i : Int) ∧ ST wx p s (8 * (q + 1) + 8 * i) ∧ wx.rowIs b 5 Nn (fun j => .int .u8 (if j < i then vx s (8 * (q + 1 + j)) 8 else 0)) ∧ Kept (fun k => k = p ∨ k = b) Wm wx) (fun iv _ => ((Nn : Int) - intOf iv).toNat)
                  case atStart => exact ⟨0, by omega, rfl, by have h := HXM.out; rwa [show 8 * q + 4 + 4 = 8 * (q + 1) + 8 * 0 by omega] at h, HRM.out.congr (fun j _ => by simp), Kept.refl _ _⟩
                  case round =>
                    obtain ⟨i, hi, rfl, hst, hrow, hkw⟩ := hrel
                    rename World => Y
                    have HY := Lib.hid hst
                    have HRY := Lib.hid hrow
                    have HKY := Lib.hid hkw
                    clear hst hrow hkw
                    by_cases hil : (i : Int) < (Nn : Int)
                    · go_wp2_with fail
                      refine (get_st 8 8 rfl HY.out (by omega) HS.out).mono ?_
                      rintro e Y1 ⟨rfl, h1, hk1⟩
                      obtain ⟨V, hV⟩ : ∃ V, V = vx s (8 * (q + 1) + 8 * i) 8 := ⟨_, rfl⟩
                      have hVb : 0 ≤ V ∧ V < 256 := by rw [hV]; exact vx_bd s _ 8
                      obtain ⟨v0, v1⟩ := hVb
                      rw [← hV]
                      have HV := Lib.hid hV
                      have hr1 := HRY.out.of_block (hk1.block b HRY.out.lt (fun e => HBP.out e))
                      have hc := hr1.cell (i := i) (by omega)
                      rw [if_neg (Nat.lt_irrefl i)] at hc
                      have hfz := hr1.frozen i
                      have HY1 := Lib.hid h1
                      have HR1 := Lib.hid hr1
                      have HK1 := Lib.hid (HKY.out.trans hk1 (fun _ _ h => .inl h))
                      clear h1 hk1 hV hr1
                      go_wp2_with fail
                      go_roundw
                      case rel =>
                        have hks : Kept (fun k => k = b) Y1 (Y1.setCell ⟨b, i, none⟩ (.int .u8 V)) := (Kept.refl (fun k => k = b) Y1).setCell (p := ⟨b, i, none⟩) (.inl rfl) _
                        refine ⟨i + 1, by omega, by go_num, ?_, (HR1.out.set i (.int .u8 V)).congr (fun j hj => ?_), HK1.out.trans hks (fun _ _ h => .inr h)⟩
                        · have h := HY1.out.kept hks (fun e => HBP.out e.symm)
                          rwa [show 8 * (q + 1) + 8 * i + 8 = 8 * (q + 1) + 8 * (i + 1) by omega] at h
                        · by_cases hji : j = i
                          · subst hji
                            rw [if_pos rfl, if_pos (Nat.lt_succ_self j), HV.out, show 8 * (q + 1) + 8 * j = 8 * (q + 1 + j) by omega]
                          · rw [if_neg hji]
                            by_cases hlt : j < i
                            · rw [if_pos hlt, if_pos (by omega)]
                            · rw [if_neg hlt, if_neg (by omega)]
                      case measure => exact measN Nn i hil
                    · have hin : i = Nn := by omega
                      have HIN := Lib.hid hin
                      clear hin
                      go_wp2_with fail
                      refine (bad_st HY.out).mono ?_
                      rintro e Y1 ⟨rfl, h1, hk1⟩
                      have hr1 := HRY.out.of_block (hk1.block b HRY.out.lt id)
                      have HY1 := Lib.hid h1
                      have HR1 := Lib.hid hr1
                      have HK1 := Lib.hid (HKM.out.trans (HKY.out.trans hk1 (fun _ _ h => h.elim)) (S := fun k => k = p) (fun g hg h => by rcases h with h | h; exact h; have := HBX.out; omega))
                      clear h1 hk1 hr1
                      have HKX1 := Lib.hid (HK.out.trans HK1.out (fun _ _ h => h))
                      by_cases hlk : s.size < q + 1 + Nn
                      · rw [decide_eq_true (by have := HIN.out; omega)]
                        have HB := Lib.hid (decX_lack (f := f') (l := l) HL0.out HSH.out HNP.out HNB.out (by rw [← HNx.out]; exact hlk))
                        clear hlk
                        go_wp2_with fail
                        simp only [Exit.jump]
                        go_ret2
                        exact ext_err (by rw [HD.out, HB.out]) HKX1.out
                      · rw [decide_eq_false (by have := HIN.out; omega)]
                        have HB := Lib.hid (decX_next (f := f') (l := l) HL0.out HSH.out HNP.out HNB.out (by rw [← HNx.out]; exact hlk))
                        have HLK := Lib.hid hlk
                        have hcv := conv_sub (n := Nn) (cap := Nn) (q := q + 1) (s := s) (HR1.out.congr (fun j hj => by rw [if_pos (by have := HIN.out; omega), vx_fit (by have := HLK.out; omega)])) (by omega)
                        obtain ⟨D, hD⟩ : ∃ D, D = sub s (q + 1) Nn := ⟨_, rfl⟩
                        rw [← hD] at hcv
                        have HDD := Lib.hid hD
                        have HRy := Lib.hid (HR.out.kept HK1.out (fun g hg e => by have := HAT.out g hg; have := HST.out.lt; omega))
                        have hnl : n ≤ 1000000 := by have := HLL.out; have := HN.out; omega
                        have HNL := Lib.hid hnl
                        clear hlk hD hnl hil hi
                        have HRn := Lib.hid (show RW Y1 2 (.slice lA n lc) n (flatX l) by have h := HRy.out; rw [← HN.out] at h; exact h)
                        go_wp2_with (first
                          | (at_builtin
                             refine wpList_row rfl (.tmp 92) (.tmp 97) 24 rfl 47 (.agg #[.int .i64 0, .string ByteArray.empty]) 2 24 Try.underlying24 info_ext rfl (by omega) (.slice lA n lc) n (flatX l) rfl (HRn.out.kept ((Kept.refl (fun _ => False) Y1).alloc _) (fun _ _ => id)) _ _ (flatX [(ID, D)]) rfl (rd_blk2 Y1 _ _ _) (flatX_one _) HNL.out ?_
                             intro v5 w5 hr5 hk5 hn5
                             obtain ⟨A5, c5, rfl⟩ := hr5.shape
                             have HR5 := Lib.hid hr5
                             have HK5 := Lib.hid hk5
                             have HN5 := Lib.hid hn5
                             clear hr5 hk5 hn5))
                        go_step3
                        have hk6 : Kept (isAt (.slice lA n lc)) Y1 w5 := Kept.trans (S := isAt (.slice lA n lc)) ((Kept.refl (isAt (.slice lA n lc)) Y1).alloc _) HK5.out (fun _ _ h => h)
                        have hpat : ¬ isAt (.slice lA n lc) p := fun e => by have := HAT.out p e; have := HST.out.lt; omega
                        refine ⟨rfl, ⟨q + 1 + Nn, L2, f', l ++ [(ID, D)], .slice A5 (n + 1) c5, rfl, rfl, rfl, rfl, rfl, ?_, ?_, ?_, ?_, ?_, ?_, ?_, ?_, ?_, ?_⟩, ?_⟩
                        · show Value.int .i64 ((M2 : Nat) : Int) = .int .i64 ((mask (l ++ [(ID, D)]) : Nat) : Int)
                          rw [HM2.out, HDD.out]
                        · have h := HY1.out.kept hk6 hpat
                          rwa [HIN.out, show 8 * (q + 1) + 8 * Nn = 8 * (q + 1 + Nn) by omega] at h
                        · have := HLK.out; omega
                        · have := HLF.out; have := HL1.out; have := HL0.out; have := HL2.out; omega
                        · rw [HD.out, HB.out, HL1.out, ← HNx.out, HL2.out, ← HIX.out, HDD.out]
                        · rw [List.length_append, List.length_singleton]
                          exact goodTo_push HG.out (goodX_mk HI1.out.1 HI1.out.2 (by show 1 ≤ D.size; rw [HDD.out, sub_size (by have := HLK.out; omega)]; omega) (by show D.size ≤ 16; rw [HDD.out, sub_size (by have := HLK.out; omega)]; omega)) HH.out
                        · have h := HR5.out
                          rw [← flatX_append] at h
                          rw [List.length_append, List.length_singleton, ← HN.out]
                          exact h
                        · intro g hg
                          rcases HN5.out g hg with h | h
                          · exact HAT.out g h
                          · rw [h]
                            have h1 := HK1.out.size
                            have h2 := HWX.out
                            have h3 : (Y1.alloc (.cells #[.int .i64 ID, .string D] 47)).heap.size = Y1.heap.size + 1 := by simp
                            rw [h3]
                            omega
                        · have := HLL.out; have := HL1.out; have := HL2.out; rw [List.length_append, List.length_singleton]; omega
                        · exact HKX1.out.trans hk6 (S := fun k => k = p) (fun g hg h => by have := HAT.out g h; omega)
                        · have := HL1.out; have := HL2.out; have := HL0.out; simp [muE, intOf]; omega
  · intro hp
    have HP := Lib.hid hp
    clear hp
    go_wp2_with fail
    refine (get_st 16 16 rfl HST.out (by omega) HS.out).mono ?_
    rintro e Y ⟨rfl, h1, hk1⟩
    have HY := Lib.hid h1
    have HKY := Lib.hid hk1
    obtain ⟨M, hM⟩ : ∃ M, M = vx s (8 * q0) 16 := ⟨_, rfl⟩
    rw [← hM]
    have HM := Lib.hid hM
    clear h1 hk1 hM
    go_wp2_with fail
    refine (bad_st HY.out).mono ?_
    rintro e Y1 ⟨rfl, h1, hk1⟩
    have HY1 := Lib.hid h1
    have HK1 := Lib.hid (HKY.out.trans hk1 (fun _ _ h => h.elim))
    clear h1 hk1
    by_cases hb : s.size < q0 + 2
    · rw [decide_eq_true (by omega)]
      have HB := Lib.hid (show decE s q0 = .error 60 by unfold decE; rw [if_pos hb])
      have HC := Lib.hid (show 8 * s.size < 8 * q0 + 16 by omega)
      clear hb
      go_wp2_with fail
      refine (short_any (c := 71) HY1.out).mono ?_
      rw [if_pos HC.out]
      rintro e Y2 ⟨rfl, h1, hk1⟩
      have HK2 := Lib.hid (HK1.out.trans hk1 (fun _ _ h => h.elim))
      clear h1 hk1
      go_wp2_with fail
      simp only [Exit.jump]
      go_ret2
      exact ext_err HB.out HK2.out
    · rw [decide_eq_false (by omega)]
      have hMv : M = val s (8 * q0) 16 := by rw [HM.out, vx_fit (by omega)]
      by_cases hm : M = 48862
      · have HMM := Lib.hid (show val s (8 * q0) 16 = 48862 by rw [← hMv]; exact hm)
        have HB := Lib.hid hb
        subst hm
        clear hMv hb
        go_wp2_with fail
        refine (get_st 16 16 rfl HY1.out (by omega) HS.out).mono ?_
        rintro e Y2 ⟨rfl, h1, hk1⟩
        have HY2 := Lib.hid h1
        have HK2 := Lib.hid (HK1.out.trans hk1 (fun _ _ h => h))
        obtain ⟨L, hL⟩ : ∃ L, L = vx s (8 * q0 + 16) 16 := ⟨_, rfl⟩
        have hLb : 0 ≤ L ∧ L < 65536 := by rw [hL]; exact vx_bd s (8 * q0 + 16) 16
        obtain ⟨l0, l1⟩ := hLb
        rw [← hL]
        have HL := Lib.hid hL
        clear h1 hk1 hL
        go_wp2_with fail
        refine (bad_st HY2.out).mono ?_
        rintro e Y3 ⟨rfl, h1, hk1⟩
        have HY3 := Lib.hid h1
        have HK3 := Lib.hid (HK2.out.trans hk1 (fun _ _ h => h.elim))
        clear h1 hk1
        by_cases hb4 : s.size < q0 + 4
        · rw [decide_eq_true (by omega)]
          have HE := Lib.hid (show decE s q0 = .error 60 by unfold decE; rw [if_neg HB.out, if_neg (fun e => e HMM.out), if_pos hb4])
          clear hb4
          go_wp2_with fail
          simp only [Exit.jump]
          go_ret2
          exact ext_err HE.out HK3.out
        · rw [decide_eq_false (by omega)]
          have HE := Lib.hid (show decE s q0 = decX s (extN s q0 + 1) (q0 + 4) (extN s q0) [] by unfold decE; rw [if_neg HB.out, if_neg (fun e => e HMM.out), if_neg hb4])
          have hLv : 4 * L = ((extN s q0 : Nat) : Int) := by
            unfold extN
            rw [← vx_fit (by omega), ← HL.out]
            omega
          have HB4 := Lib.hid hb4
          have HLV := Lib.hid hLv
          have HLB := Lib.hid (show L < 65536 from l1)
          clear hb4
          go_upto_region 8 with fail
          go_cut [5, 7] (fun s5 s7 wx => s5 = .int .i64 ((extN s q0 : Nat) : Int) ∧ s7 = .int .i64 0 ∧ wx = Y3)
          case first =>
            go_wp2_with fail
            go_meet
            exact ⟨by rw [← HLV.out], rfl, rfl⟩
          case rest =>
            obtain ⟨rfl, rfl, rfl⟩ := hcut
            rename_i K hK
            refine hK _ _ (HP.out _ _ ⟨q0 + 4, extN s q0, extN s q0 + 1, [], .slice none 0 0, rfl, rfl, rfl, rfl, rfl, rfl, ?_, ?_, Nat.lt_succ_self _, HE.out, rfl, RW.nil _ _, ?_, ?_, HK3.out⟩)
            · have h := HY3.out
              rwa [show 8 * q0 + 16 + 16 = 8 * (q0 + 4) by omega] at h
            · have := HB4.out; omega
            · rintro g ⟨o, m, c, e⟩
              cases e
            · have := HLV.out; have := HLB.out; simp; omega
      · have hm' : (M == 48862) = false := by rw [beq_eq_false_iff_ne]; exact hm
        have hm2 : (M != 48862) = true := by unfold bne; rw [hm']; rfl
        have HE := Lib.hid (show decE s q0 = .error 71 by unfold decE; rw [if_neg hb, if_pos (by rw [← hMv]; exact hm)])
        have HC := Lib.hid (show ¬ 8 * s.size < 8 * q0 + 16 by omega)
        clear hb hMv hm hm'
        go_wp2_with fail
        refine (short_any (c := 71) HY1.out).mono ?_
        rw [if_neg HC.out]
        rintro e Y2 ⟨rfl, h1, hk1⟩
        have HK2 := Lib.hid (HK1.out.trans hk1 (fun _ _ h => h.elim))
        clear h1 hk1
        go_wp2_with fail
        simp only [Exit.jump]
        go_ret2
        exact ext_err HE.out HK2.out
end Go.Proofs.Ytccljgohekmjkaa.Rtp
