/- The law of there and back; no condition but that the arguments are of their kinds. -/
import Derived.Test.YtmedlplgeeeodaaTwLaw2
import Derived.Test.YtmedlplgeeeodaaTwBack5
namespace Go.Proofs.Ytmedlplgeeeodaa.Tw
open Go.RowKit Go.Proofs.Ytmedlplgeeeodaa.Plain Go.Proofs.Ytmedlplgeeeodaa.Heap Go.Proofs.Ytmedlplgeeeodaa.Open Go.Proofs.Ytmedlplgeeeodaa.Rows Go.Proofs.Ytmedlplgeeeodaa.Bits Go.Proofs.Ytmedlplgeeeodaa.Tail
theorem decT_facts (s : ByteArray) : ((decT s).2 = 0 → goodT (decT s).1 = true ∧ okT (decT s).1) ∧ ((decT s).2 ≠ 0 → (decT s).1 = zeroT) := ⟨decT_good, decT_zero⟩
theorem encR_ways {h : Tw} {T : ByteArray} {E : Int} (h1 : T = (encR h).1) (h2 : E = (encR h).2) (h0 : E = 0) : goodT h = true ∧ T = txt (encB h) := by
  subst h1 h2
  cases hg : goodT h with
  | false => rw [encR_bad hg] at h0; exact absurd h0 (by decide)
  | true => rw [encR_good hg]; exact ⟨rfl, rfl⟩
theorem good_small {h : Tw} (k : goodT h = true) : small h := by
  obtain ⟨k1, k2, k3⟩ := goodT_iff k
  have g := goodB_iff.1 k1
  have := nz_le h.st
  exact ⟨by omega, by omega⟩
set_option linter.unusedSimpArgs false in
set_option maxRecDepth 10000 in
set_option maxHeartbeats 8000000 in
theorem TwccBack_any (v : Value) (h : Tw) (s : ByteArray) (w : World) (k : TC w v h) (ok : okT h) :
    Calls Try.prog 5 #[v, .string s] w fun e w' => e = .returned (.bool true) ∧ Below w.heap.size w w' := by
  obtain ⟨A, c, B, d, rfl, k1, k2, k3⟩ := k
  obtain ⟨Z, hZ⟩ : ∃ Z : Int, (s.size : Int) = Z := ⟨_, rfl⟩
  obtain ⟨b0, hb0⟩ : ∃ b0, b0 = w.heap.size := ⟨_, rfl⟩
  obtain ⟨W0, hW0⟩ : ∃ W0, W0 = w.alloc (.cells (tcs h A c B d) 25) := ⟨_, rfl⟩
  have H0 := bx (show TX w W0 b0 h A c B d by rw [hb0]; exact TX.new (Below.refl _ w) k1 k2 hW0)
  have HE := bx hb0
  have HW := bx hW0
  have OK := bx ok
  have HC := bx k3
  clear k1 k2 k3 hb0 hW0 ok
  obtain ⟨n, hn⟩ : ∃ n, n = h.st.length := ⟨_, rfl⟩
  obtain ⟨m, hm⟩ : ∃ m, m = h.ds.length := ⟨_, rfl⟩
  have HN := bx hn
  have HM := bx hm
  clear hn hm
  obtain ⟨x0, x1, x2, x3, x4, x5, x6⟩ := tx_cells H0.out HN.out HM.out
  go_enter Try.func5, Try.ntmps5
  go_upto_region 1 with fail
  rw [← HW.out, ← HE.out]
  go_wp2_with fail
  refine (large_any _ h W0 (tr_agg H0.out.tr HN.out HM.out)).mono ?_
  rintro e W1 ⟨rfl, hb⟩
  have H1 := bx (H0.out.run hb)
  have hsm := bx (fun hl : largeB h = false => small_of hl)
  obtain ⟨lg, hlg⟩ : ∃ lg, lg = largeB h := ⟨_, rfl⟩
  rw [← hlg] at hsm ⊢
  clear hb hlg x0 x1 x2 x3 x4 x5 x6
  have hways : lg = true ∨ (lg = false ∧ 70000 < Z) ∨ (lg = false ∧ ¬ 70000 < Z) := by
    cases lg with
    | true => exact .inl rfl
    | false =>
      by_cases a1 : 70000 < Z
      · exact .inr (.inl ⟨rfl, a1⟩)
      · exact .inr (.inr ⟨rfl, a1⟩)
  rcases hways with rfl | ⟨rfl, g1⟩ | ⟨rfl, g1⟩
  · clear hsm
    go_wp2_with fail
    refine (wakes_any W1).mono ?_
    rintro e W99 ⟨rfl, hb99⟩
    have H99 := bx (H1.out.run hb99)
    clear hb99
    go_wp2_with fail
    go_ret
    exact ⟨rfl, H99.out.bw⟩
  · clear hsm
    go_wp2_with fail
    refine (wakes_any W1).mono ?_
    rintro e W99 ⟨rfl, hb99⟩
    have H99 := bx (H1.out.run hb99)
    clear hb99
    go_wp2_with fail
    go_ret
    exact ⟨rfl, H99.out.bw⟩
  · have HSM := bx (hsm.out rfl)
    have HSZ := bx (show s.size ≤ 1099511627776 by omega)
    clear hsm
    obtain ⟨x0, x1, x2, x3, x4, x5, x6⟩ := tx_cells H1.out HN.out HM.out
    go_wp2_with fail
    refine (copy_any _ h W1 (tr_agg H1.out.tr HN.out HM.out) HSM.out).mono ?_
    rintro e W2 ⟨v2, rfl, ⟨A1, c1, B1, d1, rfl, k1, k2, k3⟩, hb⟩
    have H2 := bx (H1.out.run hb)
    have HTC := bx (show TC W2 (.agg #[.int .u32 h.sn, .int .u32 h.md, .int .i64 h.fi, .int .i64 h.ba, .int .i64 h.ct, .slice A1 n c1, .slice B1 m d1]) h from ⟨A1, c1, B1, d1, by rw [HN.out, HM.out], k1, k2, k3⟩)
    clear hb k1 k2 k3 x0 x1 x2 x3 x4 x5 x6
    rw [← HN.out, ← HM.out]
    go_wp2_with fail
    refine (encode_any _ h W2 HTC.out OK.out).mono ?_
    obtain ⟨E1, hE1⟩ : ∃ E1, E1 = (encR h).1 := ⟨_, rfl⟩
    obtain ⟨E2, hE2⟩ : ∃ E2, E2 = (encR h).2 := ⟨_, rfl⟩
    rw [← hE1, ← hE2]
    rintro e W3 ⟨rfl, hb⟩
    have HEE1 := bx hE1
    have HEE2 := bx hE2
    have H3 := bx (H2.out.run hb)
    clear hb hE1 hE2 HTC
    go_upto_if 30 with fail
    go_cut [] (fun wx => TX w wx b0 h A c B d)
    case first =>
      by_cases hE : E2 = 0
      · have hgd := encR_ways HEE1.out HEE2.out hE
        have HD := bx (show decT E1 = (h, 0) by rw [hgd.2]; exact decT_back OK.out hgd.1)
        have HSE := bx (show E1.size ≤ 1099511627776 by
          rw [hgd.2]
          obtain ⟨f1, f2, f3, f4, f5, f6⟩ := encB_facts hgd.1
          omega)
        subst hE
        clear hgd
        go_wp2_with fail
        refine (decode_any E1 W3 HSE.out).mono ?_
        unfold DecPost
        rw [HD.out]
        rintro e W4 ⟨v4, rfl, ⟨A4, c4, B4, d4, rfl, k3, k4, _⟩, hb4⟩
        have H4 := bx (H3.out.run hb4)
        obtain ⟨b5, hb5⟩ : ∃ b5, b5 = W4.heap.size := ⟨_, rfl⟩
        obtain ⟨W5, hW5⟩ : ∃ W5, W5 = W4.alloc (.cells (tcs h A4 c4 B4 d4) 25) := ⟨_, rfl⟩
        have HI5 := bx (show TX w W5 b5 h A4 c4 B4 d4 by rw [hb5]; exact TX.new H4.out.bw k3 k4 hW5)
        have H5 := bx (H4.out.run (w' := W5) (by rw [hW5]; exact (Below.refl _ W4).alloc (Nat.le_refl _) _))
        have HE5 := bx hb5
        have HW5 := bx hW5
        obtain ⟨y0, y1, y2, y3, y4, y5, y6⟩ := tx_cells H5.out HN.out HM.out
        obtain ⟨i0, i1, i2, i3, i4, i5, i6⟩ := tx_cells HI5.out HN.out HM.out
        clear k3 k4 hb4 hb5 hW5
        simp only
        go_upto_region 6 with fail
        rw [← HW5.out, ← HE5.out]
        go_wp2_with fail
        refine (same_any _ _ h W5 (tr_agg HI5.out.tr HN.out HM.out) (tr_agg H5.out.tr HN.out HM.out) HSM.out).mono ?_
        rintro e W6 ⟨rfl, hb6⟩
        have H6 := bx (H5.out.run hb6)
        clear hb6 y0 y1 y2 y3 y4 y5 y6 i0 i1 i2 i3 i4 i5 i6
        go_wp2_with fail
        go_meet
        exact H6.out
      · have hE' : (E2 == 0) = false := by rw [beq_eq_false_iff_ne]; exact hE
        go_wp2_with fail
        go_meet
        exact H3.out
    case rest =>
      obtain hcut := hcut
      rename World => W7
      have H7 := bx hcut
      clear hcut
      go_wp2_with fail
      refine (decode_any s W7 HSZ.out).mono ?_
      unfold DecPost
      have DO := bx (decT_facts s)
      generalize decT s = DD at DO ⊢
      obtain ⟨q, F⟩ := DD
      simp only at DO ⊢
      rintro e W8 ⟨v8, rfl, ⟨A8, c8, B8, d8, rfl, k3, k4, k5⟩, hb8⟩
      have HK5 := bx k5
      have H8 := bx (H7.out.run hb8)
      obtain ⟨b9, hb9⟩ : ∃ b9, b9 = W8.heap.size := ⟨_, rfl⟩
      obtain ⟨W9, hW9⟩ : ∃ W9, W9 = W8.alloc (.cells (tcs q A8 c8 B8 d8) 25) := ⟨_, rfl⟩
      have H9 := bx (show TX w W9 b9 q A8 c8 B8 d8 by rw [hb9]; exact TX.new H8.out.bw k3 k4 hW9)
      have HE9 := bx hb9
      have HW9 := bx hW9
      obtain ⟨N2, hn2⟩ : ∃ n, n = q.st.length := ⟨_, rfl⟩
      obtain ⟨M2, hm2⟩ : ∃ m, m = q.ds.length := ⟨_, rfl⟩
      have HN2 := bx hn2
      have HM2 := bx hm2
      clear k3 k4 k5 hb8 hb9 hW9 hn2 hm2
      obtain ⟨y0, y1, y2, y3, y4, y5, y6⟩ := tx_cells H9.out HN2.out HM2.out
      go_upto_region 9 with fail
      rw [← HW9.out, ← HE9.out]
      by_cases hF : F = 0
      · obtain ⟨gq, okq⟩ := DO.out.1 hF
        have HOQ := bx okq
        have HGQ := bx gq
        have HDQ := bx (decT_back okq gq)
        have HSQ := bx (show (txt (encB q)).size ≤ 1099511627776 by
          obtain ⟨f1, f2, f3, f4, f5, f6⟩ := encB_facts gq
          omega)
        subst hF
        clear okq gq DO
        go_wp2_with fail
        refine (encode_any _ q W9 (show TC W9 (.agg #[.int .u32 q.sn, .int .u32 q.md, .int .i64 q.fi, .int .i64 q.ba, .int .i64 q.ct, .slice A8 N2 c8, .slice B8 M2 d8]) q from ⟨A8, c8, B8, d8, by rw [HN2.out, HM2.out], H9.out.r1, H9.out.r2, HK5.out⟩) HOQ.out).mono ?_
        rw [encR_good HGQ.out]
        rintro e W10 ⟨rfl, hb10⟩
        have H10 := bx (H9.out.run hb10)
        clear hb10 y0 y1 y2 y3 y4 y5 y6
        simp only
        obtain ⟨U, hU⟩ : ∃ U, txt (encB q) = U := ⟨_, rfl⟩
        rw [hU] at HDQ HSQ ⊢
        clear hU
        go_wp2_with fail
        refine (decode_any U W10 HSQ.out).mono ?_
        unfold DecPost
        rw [HDQ.out]
        rintro e W11 ⟨v11, rfl, ⟨A11, c11, B11, d11, rfl, k3, k4, _⟩, hb11⟩
        have H11 := bx (H10.out.run hb11)
        obtain ⟨b12, hb12⟩ : ∃ b12, b12 = W11.heap.size := ⟨_, rfl⟩
        obtain ⟨W12, hW12⟩ : ∃ W12, W12 = W11.alloc (.cells (tcs q A11 c11 B11 d11) 25) := ⟨_, rfl⟩
        have HI12 := bx (show TX w W12 b12 q A11 c11 B11 d11 by rw [hb12]; exact TX.new H11.out.bw k3 k4 hW12)
        have H12 := bx (H11.out.run (w' := W12) (by rw [hW12]; exact (Below.refl _ W11).alloc (Nat.le_refl _) _))
        have HE12 := bx hb12
        have HW12 := bx hW12
        clear k3 k4 hb11 hb12 hW12
        simp only
        go_upto_region 13 with fail
        rw [← HW12.out, ← HE12.out]
        obtain ⟨x0, x1, x2, x3, x4, x5, x6⟩ := tx_cells H12.out HN2.out HM2.out
        obtain ⟨i0, i1, i2, i3, i4, i5, i6⟩ := tx_cells HI12.out HN2.out HM2.out
        go_wp2_with fail
        refine (same_any _ _ q W12 (tr_agg HI12.out.tr HN2.out HM2.out) (tr_agg H12.out.tr HN2.out HM2.out) (good_small HGQ.out)).mono ?_
        rintro e W14 ⟨rfl, hb⟩
        have H14 := bx (H12.out.run hb)
        clear hb x0 x1 x2 x3 x4 x5 x6 i0 i1 i2 i3 i4 i5 i6
        obtain ⟨x0, x1, x2, x3, x4, x5, x6⟩ := tx_cells H14.out HN2.out HM2.out
        go_wp2_with fail
        refine (good_any _ q W14 (tr_agg H14.out.tr HN2.out HM2.out)).mono ?_
        rw [HGQ.out]
        rintro e W15 ⟨rfl, hb⟩
        have H15 := bx (H14.out.run hb)
        clear hb x0 x1 x2 x3 x4 x5 x6
        go_wp2_with fail
        refine (wakes_any W15).mono ?_
        rintro e W99 ⟨rfl, hb99⟩
        have H99 := bx (H15.out.run hb99)
        clear hb99
        go_wp2_with fail
        go_ret
        exact ⟨rfl, H99.out.bw⟩
      · have hF' : (F == 0) = false := by rw [beq_eq_false_iff_ne]; exact hF
        have e1 := DO.out.2 hF
        subst e1
        have hn2 : N2 = 0 := HN2.out
        have hm2 : M2 = 0 := HM2.out
        subst hn2 hm2
        go_wp2_with fail
        refine (wakes_any W9).mono ?_
        rintro e W99 ⟨rfl, hb99⟩
        have H99 := bx (H9.out.run hb99)
        clear hb99
        go_wp2_with fail
        go_ret
        exact ⟨rfl, H99.out.bw⟩
theorem TwccBack_row (c0 : Array Value) (z0) (s : ByteArray) (w : World) (h : rT w c0.toList z0) (_ : s.size ≤ maxLen) :
    Calls Try.prog 5 #[.agg c0, .string s] w fun e w' => e = .returned (.bool true) ∧ Below w.heap.size w w' := by
  obtain ⟨r, hr, ok⟩ : ∃ r, TC w (.agg c0) r ∧ okT r := ⟨_, arg_rep h⟩
  exact TwccBack_any _ r s w hr ok
end Go.Proofs.Ytmedlplgeeeodaa.Tw
