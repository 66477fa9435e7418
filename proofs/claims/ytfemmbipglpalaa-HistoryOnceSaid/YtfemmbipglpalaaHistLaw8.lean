/- HistoryOnce: its walk; no condition but what data there is. -/
import Derived.Test.YtfemmbipglpalaaHistLaw7
namespace Go.Proofs.Ytfemmbipglpalaa.History
open Go.RowKit Go.Proofs.Ytfemmbipglpalaa.Plain Go.Proofs.Ytfemmbipglpalaa.Heap Go.Proofs.Ytfemmbipglpalaa.Maps Go.Proofs.Ytfemmbipglpalaa.Open

set_option maxRecDepth 10000 in
set_option maxHeartbeats 4000000 in
theorem HistoryOnce_any (n : Int) (A1 : Option Addr) (n1 c1 : Nat) (zs : List (List R5)) (now : Int) (w : World) (_ : (Lit.int .i64 n).wf = true) (h1 : Els 1 (rSl 5 rRep) w A1 n1 zs) (_ : (Lit.int .i64 now).wf = true) :
    Calls Try.prog 3 #[.int .i64 n, .slice A1 n1 c1, .int .i64 now] w fun e w' => e = .returned (.bool true) ∧ Below w.heap.size w w' := by
  have R1 := Lib.hid h1
  clear h1
  obtain ⟨K, hK, hK1⟩ : ∃ K : Nat, n % 300 = (K : Int) ∧ K < 300 := by
    have m0 := Int.emod_nonneg n (show (300 : Int) ≠ 0 by omega)
    have m1 := Int.emod_lt_of_pos n (show (0 : Int) < 300 by omega)
    exact ⟨(n % 300).toNat, by omega, by omega⟩
  have HK := Lib.hid hK
  have HK1 := Lib.hid hK1
  have hmk := run_make_row' (P := Try.prog) 30 3 (.int .i64 0) 8 Try.underlying30 info_int rfl .i64 .i64 K (by omega) (by omega)
  clear hK hK1
  go_enter Try.func3, Try.ntmps3
  go_wp2_with fail
  refine (new_hb 1125899906842624 _ (by decide) (by decide)).mono ?_
  rintro e w1 ⟨p, r, rfl, h1⟩
  have H1 := Lib.hid h1
  clear h1
  go_wp2_with fail
  refine (mod_any n 300 _ (by decide) (by decide)).mono ?_
  rintro e w2 ⟨rfl, rfl⟩
  rw [HK.out]
  go_wp2_with fail
  go_loopw [10, 11, 12] (fun iv _ _ wr => ∃ (i : Nat) (h : HS), i ≤ K ∧ iv = .int .i64 (i : Int) ∧ Sn i h ∧ HB w.heap.size w wr p r h) (fun iv _ _ _ => K - (intOf iv).toNat)
  case atStart => exact ⟨0, _, by omega, rfl, sn_fresh _, H1.out⟩
  case round =>
    obtain ⟨i, h, hi, rfl, hs, hb⟩ := hrel
    have HSn := Lib.hid hs
    have HBr := Lib.hid hb
    clear hs hb H1
    by_cases hlt : i < K
    · have hlt' : (i : Int) < (K : Int) := by omega
      have hlt3 : (i : Int) < 300 := by have := HK1.out; omega
      obtain ⟨s1, s2⟩ := sn_send HSn.out (by have := HK1.out; omega)
      have S1 := Lib.hid s1
      have S2 := Lib.hid s2
      clear s1 s2
      go_wp2_with fail
      refine (HBr.out.send HSn.out.o.ok 10 i).mono ?_
      rintro e w3 ⟨rfl, h3⟩
      rw [S1.out]
      have H3 := Lib.hid h3
      clear h3
      go_wp2_with fail
      go_roundw
      case rel => exact ⟨i + 1, _, hlt, by go_num, S2.out, H3.out⟩
      case measure => exact meas5 K i hlt
    · have hlt' : ¬ (i : Int) < (K : Int) := by omega
      obtain rfl : K = i := Nat.le_antisymm (Nat.le_of_not_lt hlt) hi
      obtain ⟨g, hg⟩ : ∃ g, g = wr.heap.size := ⟨_, rfl⟩
      have H2 := Lib.hid (show OS w.heap.size w (wr.alloc (.cells (madeCells #[.int .i64 0] K) 3)) p r g K h (ks h.l) from by
        rw [hg]
        have hc := HBr.out.hr.cells
        refine ⟨HBr.out.run ((Below.refl _ _).alloc (Nat.le_refl _) _), (World.rowIs_made wr (.int .i64 0) K 3).congr fun j hj => ?_, HBr.out.sz, ?_, ?_, by simp⟩
        · unfold tvv tv
          rw [if_pos (HSn.out.mem j hj)]
        · have := hc.2.2.2.2.2.2.2.1; omega
        · have := hc.2.2.2.2.2.2.2.2; omega)
      have HO := Lib.hid HSn.out.o
      clear HSn HBr hlt hlt' hi
      go_wp2_with fail
      rw [← hg]
      clear hg
      generalize World.alloc wr _ = W2 at *
      go_loopw [15] (fun jv wr => ∃ (j : Nat) (h : HS), j ≤ 20 ∧ jv = .int .i64 (j : Int) ∧ On K h ∧ OS w.heap.size w wr p r g K h (ks h.l)) (fun jv _ => 20 - (intOf jv).toNat)
      case atStart => exact ⟨0, h, by omega, rfl, HO.out, H2.out⟩
      case round =>
        clear HO H2
        clear h
        obtain ⟨j, h, hj, rfl, ho, hos⟩ := hrel
        have HO := Lib.hid ho
        have HOS := Lib.hid hos
        clear ho hos
        by_cases hgo : j < n1 ∧ (j : Int) < 20
        · obtain ⟨hlt, hlt3⟩ := hgo
          obtain ⟨b, off, rfl, hb, A2, n2, c2, rs, hc, hl2, hm2, hrd⟩ := row_at R1.out hlt
          have x0 := (HOS.out.hb.below.cell (p := ⟨b, off + j, none⟩) hb).trans hc
          have HRD := Lib.hid (show Rd wr 5 A2 n2 (flat5 rs) from by
            refine ⟨hrd.1, fun h0 => ?_⟩
            obtain ⟨b, off, e, hb, hc⟩ := hrd.2 h0
            exact ⟨b, off, e, Nat.lt_of_lt_of_le hb HOS.out.hb.below.size, fun i u hi => (HOS.out.hb.below.cell (p := ⟨b, off + i, none⟩) hb).trans (hc i u hi)⟩)
          have HL2 := Lib.hid hl2
          have x1 : (wr.alloc (.cells #[] 51)).cell? ⟨b, off + j, none⟩ = some (.slice A2 n2 c2) := (((Below.refl wr.heap.size wr).alloc (Nat.le_refl _) _).cell (p := ⟨b, off + j, none⟩) (Nat.lt_of_lt_of_le hb HOS.out.hb.below.size)).trans x0
          clear hc hm2 hl2 hrd
          have hj1 : j + 1 ≤ 20 := by omega
          by_cases hbig : (2000 : Int) < (n2 : Int)
          · go_wp2_with fail
            refine (wakes_any _).mono ?_
            rintro e w3 ⟨rfl, hb⟩
            go_wp2
            go_ret
            exact ⟨rfl, below_then HOS.out.hb.below HOS.out.hb.sz hb⟩
          · go_upto_region 18 with fail
            go_wp2_with (first
              | (at_builtin
                 refine wpList_app rfl (.tmp 68) (.tmp 72) 31 rfl wr.heap.size 51 (.agg #[.int .i64 0, .bool false, .int .i64 0, .bool false, .bool false]) 5 32 Try.underlying31 info_rep rfl (by omega) (.slice (some ⟨wr.heap.size, 0, none⟩) 0 0) 0 [] rfl (own_empty wr wr.heap.size 51 5 (Nat.le_refl _)) A2 n2 c2 (flat5 rs) rfl (HRD.out.below ((Below.refl _ _).alloc (Nat.le_refl _) _)) (flat5_one _) (by simp only [maxLen]; omega) (by omega) (by simp) ?_
                 intro v2 w4 hown hg hat')
              | fail)
            obtain ⟨A5, c5, rfl⟩ := own_slice hown
            have hbl : Below wr.heap.size wr w4 := ((Below.refl _ _).alloc (Nat.le_refl _) _).trans ((Kept.of_grown hg).below (by simp) (fun i e => by
              have : i = wr.heap.size := by simpa [Value.ownBlock] using e.symm
              omega))
            have H4 := Lib.hid (HOS.out.run hbl)
            have hrd4 := Rd.of_own hown
            have hnb : ∀ b off, A5 = some ⟨b, off, none⟩ → b ≠ p ∧ b ≠ r := by
              rintro b off rfl
              have h1 := own_ge hown (k := b) rfl
              have h2 := HOS.out.hb.hr.cells
              have h3 := h2.2.2.2.2.2.2.2.1
              have h4 := h2.2.2.2.2.2.2.2.2
              omega
            have hn2 : 0 + n2 ≤ 1000000 := by omega
            simp only [List.nil_append] at hrd4
            have HZ := Lib.hid (HO.out.hear rs)
            refine (H4.out.hear HO.out A5 (0 + n2) c5 rs now hrd4 (by have := HL2.out; omega) hn2 hnb).mono ?_
            rintro e w5 ⟨Ag, Al, mg, ml, cg, cl, rfl, hmg, hml, hrs⟩
            have HRS := Lib.hid hrs
            have HMG := Lib.hid hmg
            have HML := Lib.hid hml
            clear hrs hmg hml hrd4 hnb hn2 hbl hown hg hat' x0 x1 hb
            clear HRD HL2 H4 HOS HO
            obtain ⟨s3, hs3⟩ : ∃ s3, s3 = hearL h rs := ⟨_, rfl⟩
            rw [← hs3] at HZ HRS HMG HML
            clear hs3
            have hsz : s3.2.1.length ≤ K ∧ s3.2.2.length ≤ K := all3_len HZ.out.2.1 fun x hx => (HZ.out.2.2.1 x hx).imp id (·.1)
            have hmgb : mg ≤ 300 := by have h1 := HMG.out; have h2 := HK1.out; omega
            have hmlb : ml ≤ 300 := by have h1 := HML.out; have h2 := HK1.out; omega
            clear hsz
            go_wp2_with fail
            go_loopw [18] (fun mv wr => ∃ m : Nat, m ≤ mg ∧ mv = .int .i64 (m : Int) ∧ RS w.heap.size w wr p r g K s3 ((ks (all3 s3)).drop m) Ag Al) (fun mv _ => mg - (intOf mv).toNat)
            case atStart => exact ⟨0, Nat.zero_le _, rfl, HRS.out⟩
            case round =>
              clear HRS
              obtain ⟨m, hm, rfl, hrs⟩ := hrel
              have HRS := Lib.hid hrs
              clear hrs
              by_cases hlt : m < mg
              · have hlt' : (m : Int) < (mg : Int) := by omega
                obtain ⟨x, hx⟩ : ∃ x, s3.2.1[m]? = some x := ⟨_, List.getElem?_eq_getElem (by have := HMG.out; omega)⟩
                obtain ⟨b2, off2, rfl, hb2, hc2⟩ := HRS.out.rg.2 (by have := HMG.out; omega)
                obtain ⟨t0, t2⟩ := flat6_get _ m x hx
                have y0 := hc2 _ _ t0
                have y2 := hc2 _ _ t2
                rw [← Nat.add_assoc] at y2
                have hk := all3_got hx
                obtain ⟨k1, k2, k3, k4⟩ := HZ.out.2.2.1 x.1 (by unfold all3; rw [List.mem_append]; exact .inl (List.mem_map.2 ⟨x, List.mem_of_getElem? hx, rfl⟩))
                obtain ⟨sn, hsn⟩ : ∃ sn : Nat, x.1.1 = (sn : Int) := ⟨x.1.1.toNat, by omega⟩
                rw [k4] at y2
                rw [hsn] at y0 y2 k1 k2 hk
                obtain ⟨v0, v1⟩ := tv_step HZ.out.2.1 hk
                have hsk : sn < K := by omega
                have z0 : wr.cell? ⟨g, sn, none⟩ = some (.int .i64 0) := by
                  have := HRS.out.os.row.cell hsk
                  unfold tvv at this
                  rwa [v0] at this
                have z1 := HRS.out.os.row.frozen sn
                have V1 := Lib.hid v1
                clear hx hc2 t0 t2 k3 k4 hk hsn v0 v1
                go_upto_region 22 with fail
                go_quiet (fail)
                go_wp2_with fail
                go_roundw
                case rel => exact ⟨m + 1, hlt, by go_num, (HRS.out.run (below_drewN (Below.refl _ _) _)).set sn _ V1.out⟩
                case measure => exact meas5 mg m hlt
              · obtain rfl : mg = m := Nat.le_antisymm (Nat.le_of_not_lt hlt) hm
                clear hlt hm
                have HRS0 := HRS
                clear HRS
                have hlt : ¬ (mg : Int) < (mg : Int) := by omega
                go_wp2_with fail
                go_loopw [19] (fun mv wr => ∃ m : Nat, m ≤ ml ∧ mv = .int .i64 (m : Int) ∧ RS w.heap.size w wr p r g K s3 ((ks (all3 s3)).drop (mg + m)) Ag Al) (fun mv _ => ml - (intOf mv).toNat)
                case atStart => exact ⟨0, Nat.zero_le _, rfl, HRS0.out⟩
                case round =>
                  clear HRS0
                  obtain ⟨m, hm, rfl, hrs⟩ := hrel
                  have HRS := Lib.hid hrs
                  clear hrs hlt
                  by_cases hlt : m < ml
                  · have hlt' : (m : Int) < (ml : Int) := by omega
                    obtain ⟨x, hx⟩ : ∃ x, s3.2.2[m]? = some x := ⟨_, List.getElem?_eq_getElem (by have := HML.out; omega)⟩
                    obtain ⟨b2, off2, rfl, hb2, hc2⟩ := HRS.out.rl.2 (by have := HML.out; omega)
                    obtain ⟨t0, t1, t2⟩ := flat3_get _ m x hx
                    have y0 := hc2 _ _ t0
                    have hk := all3_lost hx
                    rw [← HMG.out] at hk
                    obtain ⟨k1, k2, k3, k4⟩ := HZ.out.2.2.1 x (by unfold all3; rw [List.mem_append, List.mem_append]; exact .inr (.inl (List.mem_of_getElem? hx)))
                    obtain ⟨sn, hsn⟩ : ∃ sn : Nat, x.1 = (sn : Int) := ⟨x.1.toNat, by omega⟩
                    rw [hsn] at y0 k1 k2 hk
                    obtain ⟨v0, v1⟩ := tv_step HZ.out.2.1 hk
                    have hsk : sn < K := by omega
                    have z0 : wr.cell? ⟨g, sn, none⟩ = some (.int .i64 0) := by
                      have := HRS.out.os.row.cell hsk
                      unfold tvv at this
                      rwa [v0] at this
                    have z1 := HRS.out.os.row.frozen sn
                    have V1 := Lib.hid v1
                    clear hx hc2 t0 t1 t2 k3 k4 hk hsn v0 v1
                    go_wp2_with fail
                    go_roundw
                    case rel => exact ⟨m + 1, hlt, by go_num, HRS.out.set sn _ V1.out⟩
                    case measure => exact meas5 ml m hlt
                  · obtain rfl : ml = m := Nat.le_antisymm (Nat.le_of_not_lt hlt) hm
                    clear hlt hm
                    have hlt : ¬ (ml : Int) < (ml : Int) := by omega
                    have HF := Lib.hid (show OS w.heap.size w wr p r g K s3.1 (ks s3.1.l) from by
                      have := HRS.out.os
                      rw [HMG.out, HML.out, all3_end] at this
                      exact this)
                    clear HRS
                    go_wp2_with fail
                    go_roundw
                    case rel => exact ⟨j + 1, s3.1, hj1, by go_num, HZ.out.1, HF.out⟩
                    case measure => exact meas5 20 j (by omega)
        · have hno : ¬ j < n1 ∨ (j < n1 ∧ ¬ (j : Int) < 20) := by
            by_cases h1 : j < n1
            · exact .inr ⟨h1, fun h2 => hgo ⟨h1, h2⟩⟩
            · exact .inl h1
          clear hgo
          go_upto_region 14 with fail
          go_cut [56] (fun s56 wx => s56 = .bool false ∧ wx = wr)
          case first =>
            rcases hno with h1 | ⟨h1, h2⟩
            · go_wp2_with fail
              go_meet
              exact ⟨rfl, rfl⟩
            · go_wp2_with fail
              go_meet
              exact ⟨rfl, rfl⟩
          case rest =>
          obtain ⟨rfl, hw⟩ := hcut
          rw [hw]
          clear hw hno
          go_wp2_with fail
          go_loopw [14, 20] (fun sv iv wr5 => ∃ i : Nat, i ≤ K ∧ iv = .int .i64 (i : Int) ∧ sv = .int .i64 (sumTo (ks h.l) i) ∧ wr5 = wr) (fun _ iv _ => K - (intOf iv).toNat)
          case atStart => exact ⟨0, Nat.zero_le _, rfl, rfl, rfl⟩
          case round =>
            obtain ⟨i, hi, rfl, rfl, hw5⟩ := hrel
            rw [hw5]
            clear hw5
            have hK3 : (K : Int) < 300 := by have := HK1.out; omega
            obtain ⟨b1, b2⟩ := sumTo_bd (ks h.l) i
            obtain ⟨b3, b4⟩ := tv_bd (ks h.l) i
            obtain ⟨S, hS⟩ : ∃ S, S = sumTo (ks h.l) i := ⟨_, rfl⟩
            rw [← hS] at b1 b2 ⊢
            have HS' := Lib.hid hS
            clear hS
            by_cases hlt : i < K
            · have hlt' : (i : Int) < (K : Int) := by omega
              have z0 := HOS.out.row.cell hlt
              unfold tvv at z0
              obtain ⟨T, hT⟩ : ∃ T, T = tv (ks h.l) i := ⟨_, rfl⟩
              rw [← hT] at z0 b3 b4
              have HT := Lib.hid hT
              have e1 : wrap64 (S + T) = S + T := w64 (by omega) (by omega)
              clear hT
              go_wp2_with fail
              go_roundw
              case rel => exact ⟨i + 1, hlt, by go_num, by rw [HS'.out, HT.out]; rfl, by first | rfl | trivial⟩
              case measure => exact meas5 K i hlt
            · obtain rfl : K = i := Nat.le_antisymm (Nat.le_of_not_lt hlt) hi
              clear hlt hi
              have hlt : ¬ (K : Int) < (K : Int) := by omega
              obtain ⟨q1, q2⟩ := HO.out.sum
              obtain ⟨L, hL⟩ : ∃ L : Int, L = (h.l.length : Int) := ⟨_, rfl⟩
              rw [← hL] at q1 q2
              have hSL : S = (K : Int) - L := HS'.out.trans q1
              have e1 : wrap64 ((K : Int) - S) = L := by rw [hSL]; rw [show (K : Int) - (K - L) = L by omega]; exact w64 (by omega) (by omega)
              have e2 : wrap64 (10 * L) = 10 * L := w64 (by omega) (by omega)
              have HLn := Lib.hid hL
              have HFl := Lib.hid q2
              have e0 : (K : Int) - S = L := by omega
              clear hL q1 q2 hSL b3 b4
              go_wp2_with fail
              refine (HOS.out.hb.count).mono ?_
              rintro e w6 ⟨rfl, h6⟩
              rw [← HLn.out]
              have H6 := Lib.hid h6
              clear h6
              go_wp2_with fail
              refine (H6.out.flying).mono ?_
              rintro e w7 ⟨rfl, h7⟩
              rw [HFl.out]
              have H7 := Lib.hid h7
              clear h7
              go_wp2_with fail
              refine (wakes_any _).mono ?_
              rintro e w8 ⟨rfl, hb⟩
              go_wp2
              go_ret
              exact ⟨rfl, below_then H7.out.below H7.out.sz hb⟩
end Go.Proofs.Ytfemmbipglpalaa.History
