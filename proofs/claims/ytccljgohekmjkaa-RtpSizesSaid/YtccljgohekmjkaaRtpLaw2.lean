/- RtpSizes: as long as its parts ask. -/
import Derived.Test.YtccljgohekmjkaaRtpLaw
namespace Go.Proofs.Ytccljgohekmjkaa.Rtp
open Go.RowKit Go.Proofs.Ytccljgohekmjkaa.Plain Go.Proofs.Ytccljgohekmjkaa.Heap Go.Proofs.Ytccljgohekmjkaa.Open Go.Proofs.Ytccljgohekmjkaa.Rows Go.Proofs.Ytccljgohekmjkaa.Bits
theorem enc_size {h : Hd} : (txt (encB h)).size = sizeH h := by
  have h1 := txt_size (encB h)
  rw [encB_len] at h1
  omega
set_option maxRecDepth 10000 in
set_option maxHeartbeats 4000000 in
theorem RtpSizes_any (v : Value) (h : Hd) (w : World) (k : HR w v h) (ok : okH h) :
    Calls Try.prog 7 #[v] w fun e w' => e = .returned (.bool true) ∧ Below w.heap.size w w' := by
  obtain ⟨A, c, B, d, rfl, k1, k2⟩ := k
  obtain ⟨b0, hb0⟩ : ∃ b0, b0 = w.heap.size := ⟨_, rfl⟩
  obtain ⟨W0, hW0⟩ : ∃ W0, W0 = w.alloc (.cells (hcs h A c B d) 26) := ⟨_, rfl⟩
  have H0 := Lib.hid (show HX w W0 b0 h A c B d by rw [hb0]; exact HX.new (Below.refl _ w) k1 k2 hW0)
  have HE := Lib.hid hb0
  have HW := Lib.hid hW0
  have OK := Lib.hid ok
  have x0 := H0.out.c0
  have x1 := H0.out.c1
  have x2 := H0.out.c2
  have x3 := H0.out.c3
  have x4 := H0.out.c4
  have x5 := H0.out.c5
  have x6 := H0.out.c6
  clear k1 k2 ok hb0 hW0
  go_enter Try.func7, Try.ntmps7
  go_upto_region 1 with fail
  rw [← HW.out, ← HE.out]
  go_wp2_with fail
  refine (large_any _ h W0 H0.out.hr).mono ?_
  rintro e W1 ⟨lg, rfl, hsm, hb1⟩
  have H1 := Lib.hid (H0.out.run hb1)
  have y0 := H1.out.c0
  have y1 := H1.out.c1
  have y2 := H1.out.c2
  have y3 := H1.out.c3
  have y4 := H1.out.c4
  have y5 := H1.out.c5
  have y6 := H1.out.c6
  clear hb1 x0 x1 x2 x3 x4 x5 x6
  cases lg with
  | true =>
    clear hsm
    go_wp2_with fail
    refine (wakes_any _).mono ?_
    rintro e W2 ⟨rfl, hb2⟩
    have H2 := Lib.hid (H1.out.run hb2)
    clear hb2
    go_wp2_with fail
    go_ret
    exact ⟨rfl, H2.out.bw⟩
  | false =>
    have HSM := Lib.hid (hsm rfl)
    clear hsm
    go_wp2_with fail
    refine (copy_any _ h W1 H1.out.hr HSM.out).mono ?_
    rintro e W2 ⟨v', rfl, hhr, hb2⟩
    have H2 := Lib.hid (H1.out.run hb2)
    have HHR := Lib.hid hhr
    clear hhr hb2 y0 y1 y2 y3 y4 y5 y6
    go_wp2_with fail
    refine (encode_any _ h W2 HHR.out OK.out).mono ?_
    rintro e W3 ⟨rfl, hb3⟩
    have H3 := Lib.hid (H2.out.run hb3)
    clear hb3 HHR
    obtain ⟨n, hn⟩ : ∃ n, n = h.src.length := ⟨_, rfl⟩
    obtain ⟨m, hm⟩ : ∃ m, m = h.xs.length := ⟨_, rfl⟩
    have HN := Lib.hid hn
    have HM := Lib.hid hm
    have hn1 : (n : Int) ≤ 100 := by have := HSM.out.1; omega
    have hm1 : (m : Int) ≤ 100 := by have := HSM.out.2.1; omega
    have x0 := H3.out.c0
    have x1 := H3.out.c1
    have x2 := H3.out.c2
    have x3 := H3.out.c3
    have x4 := H3.out.c4
    have x5 := H3.out.c5
    have x6 := H3.out.c6
    rw [← hn] at x5
    rw [← hm] at x6
    clear hn hm
    have hcr := H3.out.hr
    unfold hcs at hcr
    rw [← HN.out, ← HM.out] at hcr
    have HCR := Lib.hid hcr
    clear hcr
    cases hgd : goodH h with
    | false =>
      rw [encR_bad hgd]
      simp only
      have HGD := Lib.hid hgd
      clear hgd
      go_wp2_with fail
      refine (rgood_any _ h W3 HCR.out).mono ?_
      rw [HGD.out]
      rintro e W4 ⟨rfl, hb4⟩
      have H4 := Lib.hid (H3.out.run hb4)
      clear hb4 x0 x1 x2 x3 x4 x5 x6
      go_wp2_with fail
      refine (wakes_any _).mono ?_
      rintro e W9 ⟨rfl, hb9⟩
      have H9 := Lib.hid (H4.out.run hb9)
      clear hb9
      go_wp2_with fail
      go_ret
      exact ⟨rfl, H9.out.bw⟩
    | true =>
      rw [encR_good hgd]
      simp only
      obtain ⟨T, hT⟩ : ∃ T, txt (encB h) = T := ⟨_, rfl⟩
      rw [hT]
      have HGD := Lib.hid hgd
      have HT := Lib.hid (show T.size = sizeH h by rw [← hT]; exact enc_size)
      have HXS := Lib.hid HSM.out.2.2
      clear hgd hT
      by_cases hm0 : (m : Int) = 0
      · have hmn : ¬ (0 : Int) < (m : Int) := by omega
        have hTs : (T.size : Int) = 12 + 4 * (n : Int) := by
          rw [HT.out]
          unfold sizeH
          rw [if_pos (by rw [← HM.out]; omega), ← HN.out]
          omega
        clear hm0
        go_wp2_with fail
        refine (rgood_any _ h W3 HCR.out).mono ?_
        rw [HGD.out]
        rintro e W4 ⟨rfl, hb4⟩
        have H4 := Lib.hid (H3.out.run hb4)
        clear hb4 x0 x1 x2 x3 x4 x5 x6
        go_wp2_with fail
        refine (wakes_any _).mono ?_
        rintro e W9 ⟨rfl, hb9⟩
        have H9 := Lib.hid (H4.out.run hb9)
        clear hb9
        go_wp2_with fail
        go_ret
        exact ⟨rfl, H9.out.bw⟩
      · have hmn : (0 : Int) < (m : Int) := by omega
        have hmx : ¬ m = 0 := by omega
        have HMX := Lib.hid hmx
        clear hmx hm0
        go_wp2_with fail
        go_loopw [6, 7] (fun kv iv wx => ∃ (i K : Nat), (i : Int) ≤ (m : Int) ∧ iv = .int .i64 (i : Int) ∧ kv = .int .i64 (K : Int) ∧ K = extLen (h.xs.take i) ∧ K ≤ 1001 * i ∧ Below W3.heap.size W3 wx) (fun _ iv _ => ((m : Int) - intOf iv).toNat)
        case atStart => exact ⟨0, 0, by omega, rfl, rfl, by simp [extLen], by omega, Below.refl _ _⟩
        case round =>
          obtain ⟨i, K, hi, rfl, rfl, hK, hK1, hbw⟩ := hrel
          have HB := Lib.hid hbw
          have HKe := Lib.hid hK
          have H4 := Lib.hid (H3.out.run hbw)
          have u0 := H4.out.c0
          have u1 := H4.out.c1
          have u2 := H4.out.c2
          have u3 := H4.out.c3
          have u4 := H4.out.c4
          have u5 := H4.out.c5
          have u6 := H4.out.c6
          rw [← HN.out] at u5
          rw [← HM.out] at u6
          have hK1' : (K : Int) ≤ 1001 * (i : Int) := by omega
          clear hK hK1 hbw x0 x1 x2 x3 x4 x5 x6
          by_cases hil : (i : Int) < (m : Int)
          · obtain ⟨g, off, x, e, hg, hx, hxm, z0, z1⟩ := ext_at H4.out.r2 (k := i) (by have := HM.out; omega)
            subst e
            have hx1 := HXS.out x hxm
            have HLT := Lib.hid (extLen_take hx)
            obtain ⟨id, dt⟩ := x
            simp only at z0 z1 hx1
            obtain ⟨S, hS⟩ : ∃ S, S = dt.size := ⟨_, rfl⟩
            have hSL : (dt.size : Int) = (S : Int) := by omega
            have hS1 : (S : Int) ≤ 1000 := by omega
            have HS := Lib.hid (show dt.size = S from hS.symm)
            clear hx hxm hx1 hS
            go_wp2_with fail
            go_roundw
            case rel => exact ⟨i + 1, K + (1 + S), by omega, by go_num, by go_num, by rw [HLT.out, HKe.out, HS.out], by omega, HB.out⟩
            case measure => exact measN m i hil
          · have hin : i = m := by omega
            have hall : h.xs.take i = h.xs := by rw [hin, HM.out]; exact List.take_length
            rw [hall] at HKe
            obtain ⟨D, hD⟩ : ∃ D, D = (K + 3) / 4 := ⟨_, rfl⟩
            have hD' : ((K : Int) + 3).tdiv 4 = (D : Int) := by rw [Int.tdiv_eq_ediv_of_nonneg (by omega)]; omega
            have hDl : (D : Int) ≤ 30000 := by omega
            have hTs : (T.size : Int) = 12 + 4 * (n : Int) + (4 + (D : Int) * 4) := by
              rw [HT.out]
              unfold sizeH
              rw [if_neg (by rw [← HM.out]; exact HMX.out), ← HN.out, show extW h.xs = D by rw [hD, HKe.out]; rfl]
              omega
            have hcr4 := H4.out.hr
            unfold hcs at hcr4
            rw [← HN.out, ← HM.out] at hcr4
            have HCR4 := Lib.hid hcr4
            clear hall hD hcr4
            rename World => X
            go_wp2_with fail
            refine (rgood_any _ h X HCR4.out).mono ?_
            rw [HGD.out]
            rintro e W5 ⟨rfl, hb5⟩
            have H5 := Lib.hid (H4.out.run hb5)
            clear hb5 u0 u1 u2 u3 u4 u5 u6
            go_wp2_with fail
            refine (wakes_any _).mono ?_
            rintro e W9 ⟨rfl, hb9⟩
            have H9 := Lib.hid (H5.out.run hb9)
            clear hb9
            go_wp2_with fail
            go_ret
            exact ⟨rfl, H9.out.bw⟩
theorem RtpSizes_row (c0 : Array Value) (z0) (w : World) (h : rH w c0.toList z0) :
    Calls Try.prog 7 #[.agg c0] w fun e w' => e = .returned (.bool true) ∧ Below w.heap.size w w' := by
  obtain ⟨r, hr, ok⟩ : ∃ r, HR w (.agg c0) r ∧ okH r := ⟨_, arg_rep h⟩
  exact RtpSizes_any _ r w hr ok
end Go.Proofs.Ytccljgohekmjkaa.Rtp
