/- Which reports are good: the document's walk; no condition but the ranges in each. -/
import Derived.Test.YtmedlplgeeeodaaTwGood
namespace Go.Proofs.Ytmedlplgeeeodaa.Tw
open Go.RowKit Go.Proofs.Ytmedlplgeeeodaa.Plain Go.Proofs.Ytmedlplgeeeodaa.Heap Go.Proofs.Ytmedlplgeeeodaa.Open Go.Proofs.Ytmedlplgeeeodaa.Rows Go.Proofs.Ytmedlplgeeeodaa.Bits
set_option maxRecDepth 10000 in
set_option maxHeartbeats 4000000 in
theorem rgood_any (v : Value) (h : Tw) (w : World) (k : TR w v h) :
    Calls Try.prog 14 #[v] w fun e w' => e = .returned (.bool (goodT h)) ∧ Below w.heap.size w w' := by
  obtain ⟨A, c, B, d, rfl, k1, k2⟩ := k
  obtain ⟨b0, hb0⟩ : ∃ b0, b0 = w.heap.size := ⟨_, rfl⟩
  obtain ⟨W0, hW0⟩ : ∃ W0, W0 = w.alloc (.cells (tcs h A c B d) 25) := ⟨_, rfl⟩
  have H0 := Lib.hid (show TX w W0 b0 h A c B d by rw [hb0]; exact TX.new (Below.refl _ w) k1 k2 hW0)
  have HE := Lib.hid hb0
  have HW := Lib.hid hW0
  clear k1 k2 hb0 hW0
  obtain ⟨n, hn⟩ : ∃ n, n = h.st.length := ⟨_, rfl⟩
  obtain ⟨m, hm⟩ : ∃ m, m = h.ds.length := ⟨_, rfl⟩
  have HN := Lib.hid hn
  have HM := Lib.hid hm
  have x2 := H0.out.c2
  have x3 := H0.out.c3
  have x4 := H0.out.c4
  have x5 := H0.out.c5
  have x6 := H0.out.c6
  rw [← hn] at x5
  rw [← hm] at x6
  clear hn hm
  go_enter Try.func14, Try.ntmps14
  go_upto_region 1 with fail
  rw [← HW.out, ← HE.out]
  rcases goodB_ways h.fi h.ba h.ct n with h0 | h0 | h0 | h0 | h0 | h0 | h0 | h0 | h0
  case inr.inr.inr.inr.inr.inr.inr.inr =>
    obtain ⟨a1, a2, a3, a4, a5, a6, a7, a8⟩ := h0
    have HGB := Lib.hid (show goodB h = true from goodB_iff.2 ⟨by omega, by omega, by omega, by omega, by omega, by omega, by have := HN.out; omega, by have := HN.out; omega⟩)
    go_wp2_with fail
    go_loopw [3, 4] (fun mv iv wx => ∃ i : Nat, (i : Int) ≤ (n : Int) ∧ iv = .int .i64 (i : Int) ∧ mv = .int .i64 ((nz (h.st.take i) : Nat) : Int) ∧ goodTo h.st h.ds i = true ∧ wx = W0) (fun _ iv _ => ((n : Int) - intOf iv).toNat)
    case atStart => exact ⟨0, by omega, rfl, rfl, rfl, rfl⟩
    case round =>
      obtain ⟨i, hi, rfl, rfl, hgt, rfl⟩ := hrel
      have HGT := Lib.hid hgt
      clear hgt
      by_cases hil : (i : Int) < (n : Int)
      · obtain ⟨g, off, x, e, hg, hx, hxm, y0⟩ := int_at H0.out.r1 (k := i) (by have := HN.out; omega)
        subst e
        obtain ⟨K, hK⟩ : ∃ K, K = nz (h.st.take i) := ⟨_, rfl⟩
        rw [← hK]
        have hKi : (K : Int) ≤ (i : Int) := by have := nz_take_le h.st i; omega
        have HX := Lib.hid hx
        have HK := Lib.hid hK
        have HIL := Lib.hid (show i < h.st.length by have := HN.out; omega)
        clear hx hxm hK hg
        rcases (show x < 0 ∨ (0 ≤ x ∧ 2 < x) ∨ x = 0 ∨ x = 1 ∨ x = 2 by omega) with s | ⟨s, s2⟩ | s | s | s
        · have HF := Lib.hid (good_stop HIL.out (ok_range HX.out (.inl s)))
          go_wp2_with fail
          go_ret
          exact ⟨by rw [HF.out]; rfl, H0.out.bw⟩
        · have HF := Lib.hid (good_stop HIL.out (ok_range HX.out (.inr s2)))
          go_wp2_with fail
          go_ret
          exact ⟨by rw [HF.out]; rfl, H0.out.bw⟩
        · subst s
          have HS := Lib.hid (show nz (h.st.take (i + 1)) = K by rw [nz_take HX.out, if_pos rfl, ← HK.out]; rfl)
          have HG := Lib.hid (show goodTo h.st h.ds (i + 1) = true by rw [goodTo, HGT.out, ok_zero HX.out]; rfl)
          go_wp2_with fail
          go_roundw
          case rel => exact ⟨i + 1, by omega, by go_num, by rw [HS.out], HG.out, trivial⟩
          case measure => exact measN n i hil
        · subst s
          by_cases hKm : (K : Int) = (m : Int)
          · have HF := Lib.hid (good_stop HIL.out (ok_none HX.out (by decide) (by rw [← HK.out]; have := HM.out; omega)))
            have hKge : (m : Int) ≤ (K : Int) := by omega
            clear hKm
            go_wp2_with fail
            go_ret
            exact ⟨by rw [HF.out]; rfl, H0.out.bw⟩
          · have hKb : ((K : Int) == (m : Int)) = false := by rw [beq_eq_false_iff_ne]; exact hKm
            have HNZ := Lib.hid (show ¬ (K : Int) = (m : Int) from hKm)
            clear hKm
            by_cases hKl : (K : Int) < (m : Int)
            · obtain ⟨g2, off2, dv, e, hg2, hd, hdm, y1⟩ := int_at H0.out.r2 (k := K) (by have := HM.out; omega)
              subst e
              have HD := Lib.hid (show h.ds[nz (h.st.take i)]? = some dv by rw [← HK.out]; exact hd)
              clear hd hdm hg2
              rcases (show dv < 0 ∨ 255 < dv ∨ (0 ≤ dv ∧ dv ≤ 255) by omega) with t | t | t
              · have HF := Lib.hid (good_stop HIL.out ((ok_some HX.out (by decide) (by decide) HD.out).trans (dok_no (.inr (.inr ⟨rfl, .inl t⟩)))))
                go_wp2_with fail
                go_ret
                exact ⟨by rw [HF.out]; rfl, H0.out.bw⟩
              · have HF := Lib.hid (good_stop HIL.out ((ok_some HX.out (by decide) (by decide) HD.out).trans (dok_no (.inr (.inr ⟨rfl, .inr t⟩)))))
                go_wp2_with fail
                go_ret
                exact ⟨by rw [HF.out]; rfl, H0.out.bw⟩
              · have HS := Lib.hid (show nz (h.st.take (i + 1)) = K + 1 by rw [nz_take HX.out, if_neg (by decide), ← HK.out])
                have HG := Lib.hid (show goodTo h.st h.ds (i + 1) = true by rw [goodTo, HGT.out, ok_some HX.out (by decide) (by decide) HD.out, dok_yes (by omega) (by omega)]; rfl)
                obtain ⟨t0, t1⟩ := t
                go_wp2_with fail
                go_roundw
                case rel => exact ⟨i + 1, by omega, by go_num, by rw [HS.out]; go_num, HG.out, trivial⟩
                case measure => exact measN n i hil
            · -- more than there are: the first one that lacks has ended the walk
              exfalso
              have h1 := HGT.out
              exact absurd (nz_goodTo h1) (by rw [← HK.out]; have := HM.out; have := HNZ.out; omega)
        · subst s
          by_cases hKm : (K : Int) = (m : Int)
          · have HF := Lib.hid (good_stop HIL.out (ok_none HX.out (by decide) (by rw [← HK.out]; have := HM.out; omega)))
            have hKge : (m : Int) ≤ (K : Int) := by omega
            clear hKm
            go_wp2_with fail
            go_ret
            exact ⟨by rw [HF.out]; rfl, H0.out.bw⟩
          · have hKb : ((K : Int) == (m : Int)) = false := by rw [beq_eq_false_iff_ne]; exact hKm
            have HNZ := Lib.hid (show ¬ (K : Int) = (m : Int) from hKm)
            clear hKm
            by_cases hKl : (K : Int) < (m : Int)
            · obtain ⟨g2, off2, dv, e, hg2, hd, hdm, y1⟩ := int_at H0.out.r2 (k := K) (by have := HM.out; omega)
              subst e
              have HD := Lib.hid (show h.ds[nz (h.st.take i)]? = some dv by rw [← HK.out]; exact hd)
              clear hd hdm hg2
              rcases (show dv < -32768 ∨ 32767 < dv ∨ (-32768 ≤ dv ∧ dv ≤ 32767) by omega) with t | t | t
              · have HF := Lib.hid (good_stop HIL.out ((ok_some HX.out (by decide) (by decide) HD.out).trans (dok_no (.inl t))))
                go_wp2_with fail
                go_ret
                exact ⟨by rw [HF.out]; rfl, H0.out.bw⟩
              · have HF := Lib.hid (good_stop HIL.out ((ok_some HX.out (by decide) (by decide) HD.out).trans (dok_no (.inr (.inl t)))))
                go_wp2_with fail
                go_ret
                exact ⟨by rw [HF.out]; rfl, H0.out.bw⟩
              · have HS := Lib.hid (show nz (h.st.take (i + 1)) = K + 1 by rw [nz_take HX.out, if_neg (by decide), ← HK.out])
                have HG := Lib.hid (show goodTo h.st h.ds (i + 1) = true by rw [goodTo, HGT.out, ok_some HX.out (by decide) (by decide) HD.out, dok_yes (by omega) (by omega)]; rfl)
                obtain ⟨t0, t1⟩ := t
                go_wp2_with fail
                go_roundw
                case rel => exact ⟨i + 1, by omega, by go_num, by rw [HS.out]; go_num, HG.out, trivial⟩
                case measure => exact measN n i hil
            · -- more than there are: the first one that lacks has ended the walk
              exfalso
              have h1 := HGT.out
              exact absurd (nz_goodTo h1) (by rw [← HK.out]; have := HM.out; have := HNZ.out; omega)
      · have hin : i = n := by omega
        have HGN := Lib.hid (show goodT h = decide (nz (h.st.take i) = m) by
          unfold goodT
          rw [HGB.out, HM.out, hin, HN.out, List.take_length, ← HN.out, ← hin, HGT.out]
          rfl)
        obtain ⟨K, hK⟩ : ∃ K, K = nz (h.st.take i) := ⟨_, rfl⟩
        rw [← hK] at HGN ⊢
        have hKm : ((K : Int) == (m : Int)) = decide (K = m) := by
          by_cases e : K = m
          · rw [decide_eq_true e, beq_iff_eq]; omega
          · rw [decide_eq_false e, beq_eq_false_iff_ne]; omega
        obtain ⟨q, hq⟩ : ∃ q, q = decide (K = m) := ⟨_, rfl⟩
        rw [← hq] at hKm HGN
        clear hK hq
        go_wp2_with fail
        go_ret
        exact ⟨by rw [HGN.out]; rfl, H0.out.bw⟩
  all_goals
    have HF := Lib.hid (show goodT h = false from goodB_no (by have := HN.out; omega))
    first
      | obtain ⟨a1, a2, a3, a4, a5, a6, a7, a8⟩ := h0
      | obtain ⟨a1, a2, a3, a4, a5, a6, a7⟩ := h0
      | obtain ⟨a1, a2, a3, a4, a5, a6⟩ := h0
      | obtain ⟨a1, a2, a3, a4, a5⟩ := h0
      | obtain ⟨a1, a2, a3, a4⟩ := h0
      | obtain ⟨a1, a2, a3⟩ := h0
      | obtain ⟨a1, a2⟩ := h0
      | skip
    go_wp2_with fail
    go_ret
    exact ⟨by rw [HF.out]; rfl, H0.out.bw⟩
end Go.Proofs.Ytmedlplgeeeodaa.Tw
