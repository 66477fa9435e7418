/- What Encode tells of a header: the document's; no condition but the ranges in each. -/
import Derived.Test.YtccljgohekmjkaaRtpEnc
import Derived.Test.YtccljgohekmjkaaRtpGood2
namespace Go.Proofs.Ytccljgohekmjkaa.Rtp
open Go.RowKit Go.Proofs.Ytccljgohekmjkaa.Plain Go.Proofs.Ytccljgohekmjkaa.Heap Go.Proofs.Ytccljgohekmjkaa.Open Go.Proofs.Ytccljgohekmjkaa.Rows Go.Proofs.Ytccljgohekmjkaa.Bits
theorem one_any (b : Bool) (w : World) : Calls Try.prog 25 #[.bool b] w fun e w' => e = .returned (.int .u32 (b01 b)) ∧ w' = w := by
  go_enter Try.func25, Try.ntmps25
  cases b
  all_goals
    go_wp2_with fail
    go_ret
    exact ⟨rfl, rfl⟩
set_option maxRecDepth 10000 in
set_option maxHeartbeats 8000000 in
theorem rencode_any (v : Value) (h : Hd) (w : World) (k : HR w v h) (ok : okH h) :
    Calls Try.prog 12 #[v] w fun e w' => e = .returned (.tuple #[.string (encR h).1, .int .i64 (encR h).2]) ∧ Below w.heap.size w w' := by
  obtain ⟨A, c, B, d, rfl, k1, k2⟩ := k
  obtain ⟨b0, hb0⟩ : ∃ b0, b0 = w.heap.size := ⟨_, rfl⟩
  obtain ⟨W0, hW0⟩ : ∃ W0, W0 = w.alloc (.cells (hcs h A c B d) 26) := ⟨_, rfl⟩
  have H0 := Lib.hid (show HX w W0 b0 h A c B d by rw [hb0]; exact HX.new (Below.refl _ w) k1 k2 hW0)
  have HE := Lib.hid hb0
  have HW := Lib.hid hW0
  have OK := Lib.hid ok
  clear k1 k2 hb0 hW0
  have t0 := ok.t0
  have t1 := ok.t1
  have s0 := ok.s0
  have s1 := ok.s1
  clear ok
  have x0 := H0.out.c0
  have x1 := H0.out.c1
  have x2 := H0.out.c2
  have x3 := H0.out.c3
  have x4 := H0.out.c4
  have x5 := H0.out.c5
  have x6 := H0.out.c6
  go_enter Try.func12, Try.ntmps12
  go_upto_region 1 with fail
  rw [← HW.out, ← HE.out]
  go_wp2_with fail
  refine (rgood_any _ h W0 H0.out.hr).mono ?_
  rintro e V ⟨rfl, hv⟩
  have HV := Lib.hid (H0.out.run hv)
  clear hv x0 x1 x2 x3 x4 x5 x6
  cases hgd : goodH h with
  | false =>
    have HGD := Lib.hid hgd
    clear hgd
    go_wp2_with fail
    go_ret2
    exact ⟨by rw [encR_bad HGD.out]; rfl, HV.out.bw⟩
  | true =>
    have HGD := Lib.hid hgd
    obtain ⟨hgr, hgt⟩ : goodR h = true ∧ goodTo h.xs h.xs.length = true := by unfold goodH at hgd; exact Bool.and_eq_true_iff.1 hgd
    have HGT := Lib.hid hgt
    obtain ⟨y0, y1, q0, q1, n15, m14⟩ := goodR_yes hgr
    obtain ⟨n, hn⟩ : ∃ n, n = h.src.length := ⟨_, rfl⟩
    obtain ⟨m, hm⟩ : ∃ m, m = h.xs.length := ⟨_, rfl⟩
    have HN := Lib.hid hn
    have HM := Lib.hid hm
    have hn15 : (n : Int) ≤ 15 := by omega
    have hm14 : (m : Int) ≤ 14 := by omega
    clear hgd hgr hgt hn hm n15 m14
    go_wp2_with fail
    refine (ref_write_any V).mono ?_
    rintro e U ⟨rfl, hU⟩
    have HX0 := Lib.hid (show WX 70 V U V.heap.size (fun k => k < V.heap.size) [] by rw [hU]; exact WX.new _ V)
    obtain ⟨p, hp⟩ : ∃ p, p = V.heap.size := ⟨_, rfl⟩
    rw [← hp] at HX0 ⊢
    have HP := Lib.hid hp
    clear hU hp
    go_wp2_with fail
    refine (WX.rput HX0.out (by simp) (by omega) (by omega) 2).mono ?_
    rintro e U1 ⟨rfl, h1⟩
    rw [show (2 : Int) = ((2 : Nat) : Int) from rfl, puts_fit (by omega) (by simp), List.nil_append] at h1
    have HX1 := Lib.hid h1
    clear h1
    go_wp2_with fail
    refine (WX.rput HX1.out (by rw [bitsOf_length]; omega) (by omega) (by omega) 1).mono ?_
    rintro e U2 ⟨rfl, h1⟩
    rw [show (1 : Int) = ((1 : Nat) : Int) from rfl, puts_fit (by omega) (by rw [bitsOf_length]; omega)] at h1
    have HX2 := Lib.hid h1
    have HK2 := Lib.hid (HV.out.run (h1.below (fun k hk => by rw [HP.out]; exact hk)))
    have u6 := HK2.out.c6
    rw [← HM.out] at u6
    clear h1
    go_wp2_with fail
    refine (one_any _ _).mono ?_
    rintro e u ⟨rfl, rfl⟩
    go_wp2_with fail
    refine (WX.rput HX2.out (by simp only [List.length_append, bitsOf_length]; omega) (b01_lo _) (b01_hi _) 1).mono ?_
    rintro e U3 ⟨rfl, h1⟩
    rw [show (1 : Int) = ((1 : Nat) : Int) from rfl, puts_fit (by omega) (by simp only [List.length_append, bitsOf_length]; omega)] at h1
    have HX3 := Lib.hid h1
    clear u6
    have HK3 := Lib.hid (HV.out.run (h1.below (fun k hk => by rw [HP.out]; exact hk)))
    have u5 := HK3.out.c5
    rw [← HN.out] at u5
    clear h1
    go_wp2_with fail
    refine (WX.rput HX3.out (by simp only [List.length_append, bitsOf_length]; omega) (by omega) (by omega) 4).mono ?_
    rintro e U4 ⟨rfl, h1⟩
    rw [show (4 : Int) = ((4 : Nat) : Int) from rfl, puts_fit (by omega) (by simp only [List.length_append, bitsOf_length]; omega)] at h1
    have HX4 := Lib.hid h1
    clear u5
    have HK4 := Lib.hid (HV.out.run (h1.below (fun k hk => by rw [HP.out]; exact hk)))
    have u0 := HK4.out.c0
    clear h1
    go_wp2_with fail
    refine (one_any _ _).mono ?_
    rintro e u ⟨rfl, rfl⟩
    go_wp2_with fail
    refine (WX.rput HX4.out (by simp only [List.length_append, bitsOf_length]; omega) (b01_lo _) (b01_hi _) 1).mono ?_
    rintro e U5 ⟨rfl, h1⟩
    rw [show (1 : Int) = ((1 : Nat) : Int) from rfl, puts_fit (by omega) (by simp only [List.length_append, bitsOf_length]; omega)] at h1
    have HX5 := Lib.hid h1
    clear u0
    have HK5 := Lib.hid (HV.out.run (h1.below (fun k hk => by rw [HP.out]; exact hk)))
    have u1 := HK5.out.c1
    clear h1
    go_wp2_with fail
    refine (WX.rput HX5.out (by simp only [List.length_append, bitsOf_length]; omega) (by omega) (by omega) 7).mono ?_
    rintro e U6 ⟨rfl, h1⟩
    rw [show (7 : Int) = ((7 : Nat) : Int) from rfl, puts_fit (by omega) (by simp only [List.length_append, bitsOf_length]; omega)] at h1
    have HX6 := Lib.hid h1
    clear u1
    have HK6 := Lib.hid (HV.out.run (h1.below (fun k hk => by rw [HP.out]; exact hk)))
    have u2 := HK6.out.c2
    clear h1
    go_wp2_with fail
    refine (WX.rput HX6.out (by simp only [List.length_append, bitsOf_length]; omega) (by omega) (by omega) 16).mono ?_
    rintro e U7 ⟨rfl, h1⟩
    rw [show (16 : Int) = ((16 : Nat) : Int) from rfl, puts_fit (by omega) (by simp only [List.length_append, bitsOf_length]; omega)] at h1
    have HX7 := Lib.hid h1
    clear u2
    have HK7 := Lib.hid (HV.out.run (h1.below (fun k hk => by rw [HP.out]; exact hk)))
    have u3 := HK7.out.c3
    clear h1
    go_wp2_with fail
    refine (WX.rput HX7.out (by simp only [List.length_append, bitsOf_length]; omega) t0 t1 32).mono ?_
    rintro e U8 ⟨rfl, h1⟩
    rw [show (32 : Int) = ((32 : Nat) : Int) from rfl, puts_fit (by omega) (by simp only [List.length_append, bitsOf_length]; omega)] at h1
    have HX8 := Lib.hid h1
    clear u3
    have HK8 := Lib.hid (HV.out.run (h1.below (fun k hk => by rw [HP.out]; exact hk)))
    have u4 := HK8.out.c4
    clear h1
    go_wp2_with fail
    refine (WX.rput HX8.out (by simp only [List.length_append, bitsOf_length]; omega) s0 s1 32).mono ?_
    rintro e U9 ⟨rfl, h1⟩
    rw [show (32 : Int) = ((32 : Nat) : Int) from rfl, puts_fit (by omega) (by simp only [List.length_append, bitsOf_length]; omega)] at h1
    have HX9 := Lib.hid h1
    clear u4
    have HK9 := Lib.hid (HV.out.run (h1.below (fun k hk => by rw [HP.out]; exact hk)))
    have u5 := HK9.out.c5
    rw [← HN.out] at u5
    clear h1
    obtain ⟨Q, hQ⟩ : ∃ Q, Q = headB h := ⟨_, rfl⟩
    have HQL := Lib.hid (show Q.length = 96 by rw [hQ]; exact headB_len h)
    have HQ := Lib.hid hQ
    replace HX9 := Lib.hid (show WX 70 V U9 p (fun k => k < p) Q by rw [hQ]; unfold headB; rw [← HM.out, ← HN.out]; exact HX9.out)
    clear hQ HX0 HX1 HX2 HX3 HX4 HX5 HX6 HX7 HX8
    go_wp2_with fail
    go_loopw [5] (fun iv wx => ∃ i : Nat, (i : Int) ≤ (n : Int) ∧ iv = .int .i64 (i : Int) ∧ WX 70 V wx p (fun k => k < p) (Q ++ encS (h.src.take i))) (fun iv _ => ((n : Int) - intOf iv).toNat)
    case atStart => exact ⟨0, by omega, rfl, by simpa [encS] using HX9.out⟩
    case round =>
      obtain ⟨i, hi, rfl, hwx⟩ := hrel
      have HX := Lib.hid hwx
      have HXL := Lib.hid (show (Q ++ encS (h.src.take i)).length ≤ 96 + 32 * i by rw [List.length_append, HQL.out, encS_len, List.length_take]; omega)
      have HKi := Lib.hid (HV.out.run (hwx.below (fun k hk => by rw [HP.out]; exact hk)))
      have u5 := HKi.out.c5
      rw [← HN.out] at u5
      have u6 := HKi.out.c6
      rw [← HM.out] at u6
      clear hwx
      by_cases hil : (i : Int) < (n : Int)
      · obtain ⟨g, off, x, e, hg, hx, hxm, z0⟩ := src_at HKi.out.r1 (k := i) (by have := HN.out; omega)
        subst e
        obtain ⟨xl, xh⟩ := OK.out.src x hxm
        have HET := Lib.hid (encS_take hx)
        clear hx hxm
        go_wp2_with fail
        refine (WX.rput HX.out (by have := HXL.out; omega) xl xh 32).mono ?_
        rintro e U2 ⟨rfl, h1⟩
        rw [show (32 : Int) = ((32 : Nat) : Int) from rfl, puts_fit (by omega) (by have := HXL.out; omega)] at h1
        have HY := Lib.hid h1
        clear h1
        go_wp2_with fail
        go_roundw
        case rel =>
          refine ⟨i + 1, by omega, by go_num, ?_⟩
          rw [HET.out, ← List.append_assoc]
          exact HY.out
        case measure => exact measN n i hil
      · have hin : i = n := by omega
        have hall : h.src.take i = h.src := by rw [hin, HN.out]; exact List.take_length
        rw [hall] at HX HXL
        clear hall
        have HQS : ∃ Q2, Q2 = Q ++ encS h.src := ⟨_, rfl⟩
        obtain ⟨Q2, hQ2⟩ := HQS
        rw [← hQ2] at HX
        have HL2 := Lib.hid (show Q2.length = 96 + 32 * h.src.length by rw [hQ2, List.length_append, HQL.out, encS_len])
        have HQ2 := Lib.hid hQ2
        have HFIN := Lib.hid (show m = 0 → encB h = Q2 from fun e => by unfold encB; rw [if_pos (by rw [← HM.out]; exact e), List.append_nil, ← HQ.out, HQ2.out])
        have HFIN2 := Lib.hid (show ¬ m = 0 → encB h = Q2 ++ extB h.xs from fun e => by unfold encB; rw [if_neg (by rw [← HM.out]; exact e), ← HQ.out, HQ2.out])
        have HNI := Lib.hid hin
        clear hQ2
        rename World => X
        by_cases hm0 : (m : Int) = 0
        · have hm1 : ¬ (0 : Int) < (m : Int) := by omega
          go_wp2_with fail
          refine (WX.rtext HX.out).mono ?_
          rintro e U6 ⟨rfl, rfl⟩
          go_wp2_with fail
          go_ret2
          exact ⟨by rw [encR_good HGD.out, HFIN.out (by omega)]; rfl, HKi.out.bw⟩
        · have hm1 : (0 : Int) < (m : Int) := by omega
          have hmx : ¬ m = 0 := by omega
          have HMX := Lib.hid hmx
          clear hmx
          go_wp2_with fail
          go_loopw [6, 7] (fun nv iv wx => ∃ (i K : Nat), (i : Int) ≤ (m : Int) ∧ iv = .int .i64 (i : Int) ∧ nv = .int .i64 (K : Int) ∧ K = extLen (h.xs.take i) ∧ K ≤ 17 * i ∧ WX 70 V wx p (fun k => k < p) Q2) (fun _ iv _ => ((m : Int) - intOf iv).toNat)
          case atStart => exact ⟨0, 0, by omega, rfl, rfl, by simp [extLen], by omega, HX.out⟩
          case round =>
            obtain ⟨i, K, hi, rfl, rfl, hK, hK17, hwx⟩ := hrel
            have HXC := Lib.hid hwx
            have HKj := Lib.hid (HV.out.run (hwx.below (fun k hk => by rw [HP.out]; exact hk)))
            have u6 := HKj.out.c6
            rw [← HM.out] at u6
            have HKe := Lib.hid hK
            have hK17' : (K : Int) ≤ 17 * (i : Int) := by omega
            clear hK hK17 hwx
            by_cases hil : (i : Int) < (m : Int)
            · obtain ⟨g, off, x, e, hg, hx, hxm, z0, z1⟩ := ext_at HKj.out.r2 (k := i) (by have := HM.out; omega)
              subst e
              have hgx := goodX_yes (goodTo_at HGT.out (by have := HM.out; omega) hx).1
              have HLT := Lib.hid (extLen_take hx)
              obtain ⟨id, dt⟩ := x
              simp only at z0 z1 hgx
              obtain ⟨S, hS⟩ : ∃ S, S = dt.size := ⟨_, rfl⟩
              have hSL : (dt.size : Int) = (S : Int) := by omega
              have hS16 : (S : Int) ≤ 16 := by omega
              have HS := Lib.hid (show dt.size = S from hS.symm)
              clear hx hxm hgx hS
              go_wp2_with fail
              go_roundw
              case rel => exact ⟨i + 1, K + (1 + S), by omega, by go_num, by go_num, by rw [HLT.out, HKe.out, HS.out], by omega, HXC.out⟩
              case measure => exact measN m i hil
            · have hin : i = m := by omega
              have hall : h.xs.take i = h.xs := by rw [hin, HM.out]; exact List.take_length
              rw [hall] at HKe
              obtain ⟨D, hD⟩ : ∃ D, D = (K + 3) / 4 := ⟨_, rfl⟩
              have hD' : ((K : Int) + 3).tdiv 4 = (D : Int) := by rw [Int.tdiv_eq_ediv_of_nonneg (by omega)]; omega
              have hDl : (D : Int) ≤ 60 := by omega
              have HD := Lib.hid (show (D : Int) = (extW h.xs : Int) by rw [hD, HKe.out]; rfl)
              have HK238 := Lib.hid (show extLen h.xs ≤ 238 by have := HKe.out; omega)
              clear hall hD
              rename World => X
              go_wp2_with fail
              refine (WX.rput HXC.out (by have := HL2.out; have := HN.out; omega) (by omega) (by omega) 16).mono ?_
              rintro e U2 ⟨rfl, h1⟩
              rw [show (16 : Int) = ((16 : Nat) : Int) from rfl, puts_fit (by omega) (by have := HL2.out; have := HN.out; omega)] at h1
              have HY1 := Lib.hid h1
              clear h1
              go_wp2_with fail
              refine (WX.rput HY1.out (by rw [List.length_append, bitsOf_length]; have := HL2.out; have := HN.out; omega) (by omega) (by omega) 16).mono ?_
              rintro e U3 ⟨rfl, h1⟩
              rw [show (16 : Int) = ((16 : Nat) : Int) from rfl, puts_fit (by omega) (by rw [List.length_append, bitsOf_length]; have := HL2.out; have := HN.out; omega)] at h1
              obtain ⟨Q3, hQ3⟩ : ∃ Q3, Q3 = Q2 ++ bitsOf 48862 16 ++ bitsOf (D : Int) 16 := ⟨_, rfl⟩
              rw [← hQ3] at h1
              have HY2 := Lib.hid h1
              have HL3 := Lib.hid (show Q3.length = 128 + 32 * h.src.length by rw [hQ3]; simp only [List.length_append, bitsOf_length]; have := HL2.out; omega)
              have HQ3 := Lib.hid hQ3
              clear u6
              have HKy := Lib.hid (HV.out.run (h1.below (fun k hk => by rw [HP.out]; exact hk)))
              have u6 := HKy.out.c6
              rw [← HM.out] at u6
              clear h1 hQ3
              go_wp2_with fail
              go_loopw [8] (fun iv wx => ∃ i : Nat, (i : Int) ≤ (m : Int) ∧ iv = .int .i64 (i : Int) ∧ WX 70 V wx p (fun k => k < p) (Q3 ++ encXs (h.xs.take i))) (fun iv _ => ((m : Int) - intOf iv).toNat)
              case atStart => exact ⟨0, by omega, rfl, by simpa [encXs] using HY2.out⟩
              case round =>
                obtain ⟨i, hi, rfl, hwx⟩ := hrel
                have HX := Lib.hid hwx
                clear u6
                have HEL := Lib.hid (show ∀ i, extLen (h.xs.take i) ≤ extLen h.xs from fun i => by
                  have e := extLen_append (h.xs.take i) (h.xs.drop i)
                  rw [List.take_append_drop] at e
                  omega)
                obtain ⟨P, hP⟩ : ∃ P, P = Q3 ++ encXs (h.xs.take i) := ⟨_, rfl⟩
                have HPL := Lib.hid (show P.length = 128 + 32 * n + 8 * extLen (h.xs.take i) by rw [hP, List.length_append, HL3.out, encXs_len, HN.out])
                have HPe := Lib.hid hP
                rw [← hP] at HX
                have HKz := Lib.hid (HV.out.run (hwx.below (fun k hk => by rw [HP.out]; exact hk)))
                have u6 := HKz.out.c6
                rw [← HM.out] at u6
                clear hwx hP
                by_cases hil : (i : Int) < (m : Int)
                · obtain ⟨g, off, x, e, hg, hx, hxm, z0, z1⟩ := ext_at HKz.out.r2 (k := i) (by have := HM.out; omega)
                  subst e
                  have hgx := goodX_yes (goodTo_at HGT.out (by have := HM.out; omega) hx).1
                  have HET := Lib.hid (encXs_take hx)
                  have HLT := Lib.hid (extLen_take hx)
                  obtain ⟨id, dt⟩ := x
                  simp only at z0 z1 hgx
                  obtain ⟨d1, d2, d3, d4⟩ := hgx
                  obtain ⟨S, hS⟩ : ∃ S, S = dt.size := ⟨_, rfl⟩
                  have hSL : (dt.size : Int) = (S : Int) := by omega
                  have hS1 : 1 ≤ (S : Int) := by omega
                  have hS16 : (S : Int) ≤ 16 := by omega
                  have HS := Lib.hid (show dt.size = S from hS.symm)
                  have HROOM := Lib.hid (show P.length + 8 * (1 + S) ≤ 3000 by
                    have h1 := HPL.out
                    have h2 := HEL.out (i + 1)
                    rw [HLT.out] at h2
                    have h3 := HK238.out
                    simp only at h2
                    omega)
                  have HXI := Lib.hid hx
                  clear hx hxm hS d3 d4
                  go_wp2_with fail
                  refine (WX.rput HX.out (by have := HROOM.out; omega) (by omega) (by omega) 4).mono ?_
                  rintro e U4 ⟨rfl, h1⟩
                  rw [show (4 : Int) = ((4 : Nat) : Int) from rfl, puts_fit (by omega) (by have := HROOM.out; omega)] at h1
                  have HG1 := Lib.hid h1
                  have HKn := Lib.hid (HV.out.run (h1.below (fun k hk => by rw [HP.out]; exact hk)))
                  clear u6 z0 z1
                  have u6 := HKn.out.c6
                  rw [← HM.out] at u6
                  have z1 := (rd_at HKn.out.r2 HXI.out).2
                  clear HKn
                  clear h1
                  go_wp2_with fail
                  refine (WX.rput HG1.out (by rw [List.length_append, bitsOf_length]; have := HROOM.out; omega) (by omega) (by omega) 4).mono ?_
                  rintro e U5 ⟨rfl, h1⟩
                  rw [show (4 : Int) = ((4 : Nat) : Int) from rfl, puts_fit (by omega) (by rw [List.length_append, bitsOf_length]; have := HROOM.out; omega)] at h1
                  obtain ⟨Q4, hQ4⟩ : ∃ Q4, Q4 = P ++ bitsOf id 4 ++ bitsOf ((S : Int) - 1) 4 := ⟨_, rfl⟩
                  rw [← hQ4] at h1
                  have HG2 := Lib.hid h1
                  have HL4 := Lib.hid (show Q4.length = P.length + 8 by rw [hQ4]; simp only [List.length_append, bitsOf_length])
                  have HQ4 := Lib.hid hQ4
                  have HKn := Lib.hid (HV.out.run (h1.below (fun k hk => by rw [HP.out]; exact hk)))
                  clear u6 z1
                  have u6 := HKn.out.c6
                  rw [← HM.out] at u6
                  have z1 := (rd_at HKn.out.r2 HXI.out).2
                  clear HKn
                  clear h1 hQ4
                  go_wp2_with fail
                  go_loopw [9] (fun jv wx => ∃ j : Nat, (j : Int) ≤ (S : Int) ∧ jv = .int .i64 (j : Int) ∧ WX 70 V wx p (fun k => k < p) (Q4 ++ bitsS dt 0 (8 * j))) (fun jv _ => ((S : Int) - intOf jv).toNat)
                  case atStart => exact ⟨0, by omega, rfl, by simpa [bitsS] using HG2.out⟩
                  case round =>
                    obtain ⟨j, hj, rfl, h1⟩ := hrel
                    have HJ := Lib.hid h1
                    have HKn := Lib.hid (HV.out.run (h1.below (fun k hk => by rw [HP.out]; exact hk)))
                    clear u6 z1
                    have u6 := HKn.out.c6
                    rw [← HM.out] at u6
                    have z1 := (rd_at HKn.out.r2 HXI.out).2
                    clear HKn
                    clear h1
                    by_cases hjl : (j : Int) < (S : Int)
                    · have hrb := run_byte dt j (by have := HS.out; omega)
                      have hbl := by8_lt dt j
                      obtain ⟨b, hb⟩ : ∃ b, b = by8 dt j := ⟨_, rfl⟩
                      rw [← hb] at hrb hbl
                      have hbl' : (b : Int) < 256 := by omega
                      have HBT := Lib.hid (bytes_take dt j)
                      have HB := Lib.hid hb
                      clear hb hbl
                      go_wp2_with fail
                      refine (WX.rput HJ.out (by rw [List.length_append, bitsS_len]; have := HL4.out; have := HROOM.out; omega) (by omega) (by omega) 8).mono ?_
                      rintro e U6 ⟨rfl, h1⟩
                      rw [show (8 : Int) = ((8 : Nat) : Int) from rfl, puts_fit (by omega) (by rw [List.length_append, bitsS_len]; have := HL4.out; have := HROOM.out; omega)] at h1
                      have HJ2 := Lib.hid h1
                      clear h1
                      go_wp2_with fail
                      go_roundw
                      case rel =>
                        refine ⟨j + 1, by omega, by go_num, ?_⟩
                        rw [HBT.out, ← List.append_assoc, ← HB.out]
                        exact HJ2.out
                      case measure => exact measN S j hjl
                    · have hjS : j = S := by omega
                      have HZ := HJ
                      go_wp2_with fail
                      go_roundw
                      case rel =>
                        refine ⟨i + 1, by omega, by go_num, ?_⟩
                        have h2 := HZ.out
                        rw [HQ4.out, HPe.out, hjS] at h2
                        rw [HET.out]
                        unfold encX
                        simp only [List.append_assoc] at h2 ⊢
                        rw [HS.out]
                        exact h2
                      case measure => exact measN m i hil
                · have hin : i = m := by omega
                  have hall : h.xs.take i = h.xs := by rw [hin, HM.out]; exact List.take_length
                  rw [hall] at HPL HPe
                  have HPD := Lib.hid (pad_x h.xs n HPL.out)
                  have HP1 := Lib.hid (show P.length + padX h.xs ≤ 3000 by have h1 := HPL.out; have h2 := HK238.out; unfold padX extW; omega)
                  clear hall
                  go_wp2_with fail
                  refine (WX.ralign HX.out (by have := HP1.out; omega) 32).mono ?_
                  rintro e U5 ⟨rfl, h1⟩
                  rw [show (32 : Int) = ((32 : Nat) : Int) from rfl, aligns_fit (by omega) (by omega) (by rw [HPD.out]; have := HP1.out; omega), HPD.out] at h1
                  have HJ := Lib.hid h1
                  have HKf := Lib.hid (HV.out.run (h1.below (fun k hk => by rw [HP.out]; exact hk)))
                  clear h1
                  go_wp2_with fail
                  refine (WX.rtext HJ.out).mono ?_
                  rintro e U6 ⟨rfl, rfl⟩
                  go_wp2_with fail
                  go_ret2
                  refine ⟨?_, HKf.out.bw⟩
                  rw [encR_good HGD.out, HFIN2.out HMX.out, HPe.out, HQ3.out]
                  unfold extB
                  rw [HD.out]
                  simp only [List.append_assoc]
                  rfl
end Go.Proofs.Ytccljgohekmjkaa.Rtp
