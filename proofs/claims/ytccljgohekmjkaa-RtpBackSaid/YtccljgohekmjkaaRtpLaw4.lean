/- RtpBack: what was encoded is decoded; what was decoded is encoded to what decodes alike. -/
import Derived.Test.YtccljgohekmjkaaRtpLaw
import Derived.Test.YtccljgohekmjkaaRtpBack4
namespace Go.Proofs.Ytccljgohekmjkaa.Rtp
open Go.RowKit Go.Proofs.Ytccljgohekmjkaa.Plain Go.Proofs.Ytccljgohekmjkaa.Heap Go.Proofs.Ytccljgohekmjkaa.Open Go.Proofs.Ytccljgohekmjkaa.Rows Go.Proofs.Ytccljgohekmjkaa.Bits
theorem ag_app (T B : ByteArray) : Ag (T ++ B) T T.size := fun a ha => by
  unfold bt
  have h : (T ++ B).data.toList = T.data.toList ++ B.data.toList := by simp
  rw [h]
  congr 3
  simp only [List.getD_eq_getElem?_getD]
  rw [List.getElem?_append_left (by rw [Array.length_toList]; show a / 8 < T.size; omega)]
theorem ag_same (T : ByteArray) (K : Nat) : Ag T T K := fun _ _ => rfl
theorem size_app (T B : ByteArray) : (T ++ B).size = T.size + B.size := ByteArray.size_append
theorem dec_app {h : Hd} (ok : okH h) (hg : goodH h = true) (B : ByteArray) : decH (txt (encB h) ++ B) = (h, (txt (encB h)).size, 0) := by
  rw [decH_walk ok hg (ag_app (txt (encB h)) B) (Way.whole (enc_tsize h) (by rw [size_app]; omega)), enc_tsize]
  rfl
theorem dec_same {h : Hd} (ok : okH h) (hg : goodH h = true) : decH (txt (encB h)) = (h, (txt (encB h)).size, 0) := by
  rw [decH_walk ok hg (ag_same (txt (encB h)) (txt (encB h)).size) (Way.whole (enc_tsize h) (Nat.le_refl _)), enc_tsize]
  rfl
theorem size_bd {h : Hd} (hg : goodH h = true) : (txt (encB h)).size ≤ 400 := by
  rw [enc_tsize]
  have h1 := extLen_bd hg
  have h2 := (goodR_yes (show goodR h = true from by unfold goodH at hg; exact (Bool.and_eq_true_iff.1 hg).1)).2.2.2.2.1
  unfold sizeH extW
  split <;> omega
theorem small_of {h : Hd} (hg : goodH h = true) : small h := by
  obtain ⟨h1, h2⟩ : goodR h = true ∧ goodTo h.xs h.xs.length = true := by unfold goodH at hg; exact Bool.and_eq_true_iff.1 hg
  have hall : ∀ x ∈ h.xs, goodX x = true := by have := goodTo_all h2; rwa [List.take_length] at this
  obtain ⟨_, _, _, _, a, b⟩ := goodR_yes h1
  exact ⟨by omega, by omega, fun x hx => by have := goodX_yes (hall x hx); omega⟩
set_option maxRecDepth 10000 in
set_option maxHeartbeats 4000000 in
theorem RtpBack_any (v : Value) (h : Hd) (bh s : ByteArray) (w : World) (k : HR w v h) (ok : okH h) :
    Calls Try.prog 5 #[v, .string bh, .string s] w fun e w' => e = .returned (.bool true) ∧ Below w.heap.size w w' := by
  obtain ⟨N, hN⟩ : ∃ N : Int, (s.size : Int) = N := ⟨_, rfl⟩
  obtain ⟨M, hM⟩ : ∃ M : Int, (bh.size : Int) = M := ⟨_, rfl⟩
  obtain ⟨A, c, B, d, rfl, k1, k2⟩ := k
  obtain ⟨b0, hb0⟩ : ∃ b0, b0 = w.heap.size := ⟨_, rfl⟩
  obtain ⟨W0, hW0⟩ : ∃ W0, W0 = w.alloc (.cells (hcs h A c B d) 26) := ⟨_, rfl⟩
  have H0 := Lib.hid (show HX w W0 b0 h A c B d by rw [hb0]; exact HX.new (Below.refl _ w) k1 k2 hW0)
  have HE := Lib.hid hb0
  have HW := Lib.hid hW0
  have OK := Lib.hid ok
  have x0 := H0.out.c0
  have x1 := H0.out.c1
  have x2 := H0.out.c2
  have x3 := H0.out.c3
  have x4 := H0.out.c4
  have x5 := H0.out.c5
  have x6 := H0.out.c6
  clear k1 k2 ok hb0 hW0
  go_enter Try.func5, Try.ntmps5
  go_upto_region 1 with fail
  rw [← HW.out, ← HE.out]
  go_wp2_with fail
  refine (large_any _ h W0 H0.out.hr).mono ?_
  rintro e W1 ⟨lg, rfl, hsm, hb1⟩
  have H1 := Lib.hid (H0.out.run hb1)
  have y0 := H1.out.c0
  have y1 := H1.out.c1
  have y2 := H1.out.c2
  have y3 := H1.out.c3
  have y4 := H1.out.c4
  have y5 := H1.out.c5
  have y6 := H1.out.c6
  clear hb1 x0 x1 x2 x3 x4 x5 x6
  have hways : lg = true ∨ (lg = false ∧ 1000 < M) ∨ (lg = false ∧ ¬ 1000 < M ∧ 300000 < N) ∨ (lg = false ∧ ¬ 1000 < M ∧ ¬ 300000 < N) := by
    cases lg with
    | true => exact .inl rfl
    | false =>
      by_cases a1 : 1000 < M
      · exact .inr (.inl ⟨rfl, a1⟩)
      · by_cases a2 : 300000 < N
        · exact .inr (.inr (.inl ⟨rfl, a1, a2⟩))
        · exact .inr (.inr (.inr ⟨rfl, a1, a2⟩))
  rcases hways with rfl | ⟨rfl, g1⟩ | ⟨rfl, g1, g2⟩ | ⟨rfl, g1, g2⟩
  · clear hsm
    go_wp2_with fail
    refine (wakes_any _).mono ?_
    rintro e W9 ⟨rfl, hb9⟩
    have H9 := Lib.hid (H1.out.run hb9)
    clear hb9
    go_wp2_with fail
    go_ret
    exact ⟨rfl, H9.out.bw⟩
  · clear hsm
    go_wp2_with fail
    refine (wakes_any _).mono ?_
    rintro e W9 ⟨rfl, hb9⟩
    have H9 := Lib.hid (H1.out.run hb9)
    clear hb9
    go_wp2_with fail
    go_ret
    exact ⟨rfl, H9.out.bw⟩
  · clear hsm
    go_wp2_with fail
    refine (wakes_any _).mono ?_
    rintro e W9 ⟨rfl, hb9⟩
    have H9 := Lib.hid (H1.out.run hb9)
    clear hb9
    go_wp2_with fail
    go_ret
    exact ⟨rfl, H9.out.bw⟩
  · have HSM := Lib.hid (hsm rfl)
    clear hsm
    go_wp2_with fail
    refine (copy_any _ h W1 H1.out.hr HSM.out).mono ?_
    rintro e W2 ⟨v', rfl, hhr, hb2⟩
    have H2 := Lib.hid (H1.out.run hb2)
    have HHR := Lib.hid hhr
    clear hhr hb2 y0 y1 y2 y3 y4 y5 y6
    go_wp2_with fail
    refine (encode_any _ h W2 HHR.out OK.out).mono ?_
    rintro e W3 ⟨rfl, hb3⟩
    have H3 := Lib.hid (H2.out.run hb3)
    clear hb3 HHR
    have x0 := H3.out.c0
    have x1 := H3.out.c1
    have x2 := H3.out.c2
    have x3 := H3.out.c3
    have x4 := H3.out.c4
    have x5 := H3.out.c5
    have x6 := H3.out.c6
    obtain ⟨T, E, hR⟩ : ∃ T E, encR h = (T, E) := ⟨_, _, rfl⟩
    have HR := Lib.hid hR
    rw [hR]
    clear hR
    simp only
    go_upto_if 40 with fail
    go_cut [] (fun wx => HX w wx b0 h A c B d)
    case first =>
      by_cases hE : E = 0
      · subst hE
        have hgd : goodH h = true ∧ T = txt (encB h) := by
          cases hg : goodH h with
          | false => have := HR.out; rw [encR_bad hg] at this; injection this with _ e; exact absurd e (by decide)
          | true => have := HR.out; rw [encR_good hg] at this; injection this with e _; exact ⟨rfl, e.symm⟩
        have HD := Lib.hid (show decH (T ++ bh) = (h, T.size, 0) by rw [hgd.2]; exact dec_app OK.out hgd.1 bh)
        have hT4 : T.size ≤ 400 := by rw [hgd.2]; exact size_bd hgd.1
        obtain ⟨L, hL⟩ : ∃ L : Int, (T.size : Int) = L := ⟨_, rfl⟩
        have HSZ := Lib.hid (show (T ++ bh).size ≤ 1099511627776 by rw [size_app]; omega)
        have hL4 : L ≤ 400 := by omega
        clear hgd hT4
        go_wp2_with fail
        refine (decode_any (T ++ bh) W3 HSZ.out).mono ?_
        unfold DecPost
        rw [HD.out]
        rintro e W4 ⟨v4, rfl, ⟨A4, c4, B4, d4, rfl, k3, k4⟩, hb4⟩
        have H4 := Lib.hid (H3.out.run hb4)
        obtain ⟨b5, hb5⟩ : ∃ b5, b5 = W4.heap.size := ⟨_, rfl⟩
        obtain ⟨W5, hW5⟩ : ∃ W5, W5 = W4.alloc (.cells (hcs h A4 c4 B4 d4) 26) := ⟨_, rfl⟩
        have HI5 := Lib.hid (show HX w W5 b5 h A4 c4 B4 d4 by rw [hb5]; exact HX.new H4.out.bw k3 k4 hW5)
        have H5 := Lib.hid (H4.out.run (w' := W5) (by rw [hW5]; exact (Below.refl _ W4).alloc (Nat.le_refl _) _))
        have HE5 := Lib.hid hb5
        have HW5 := Lib.hid hW5
        have y0 := H5.out.c0
        have y1 := H5.out.c1
        have y2 := H5.out.c2
        have y3 := H5.out.c3
        have y4 := H5.out.c4
        have y5 := H5.out.c5
        have y6 := H5.out.c6
        have i0 := HI5.out.c0
        have i1 := HI5.out.c1
        have i2 := HI5.out.c2
        have i3 := HI5.out.c3
        have i4 := HI5.out.c4
        have i5 := HI5.out.c5
        have i6 := HI5.out.c6
        clear k3 k4 hb4 hb5 hW5 x0 x1 x2 x3 x4 x5 x6
        simp only
        go_upto_region 6 with fail
        rw [← HW5.out, ← HE5.out]
        go_wp2_with fail
        refine (same_any _ _ h W5 H5.out.hr HI5.out.hr HSM.out).mono ?_
        rintro e W6 ⟨rfl, hb6⟩
        have H6 := Lib.hid (H5.out.run hb6)
        clear hb6 y0 y1 y2 y3 y4 y5 y6 i0 i1 i2 i3 i4 i5 i6
        go_wp2_with fail
        go_meet
        exact H6.out
      · have hE' : (E == 0) = false := by rw [beq_eq_false_iff_ne]; exact hE
        go_wp2_with fail
        go_meet
        exact H3.out
    case rest =>
      obtain hcut := hcut
      rename World => W7
      have H7 := Lib.hid hcut
      clear hcut x0 x1 x2 x3 x4 x5 x6
      have HS3 := Lib.hid (show s.size ≤ 1099511627776 by omega)
      go_wp2_with fail
      refine (decode_any s W7 HS3.out).mono ?_
      rintro e W8 ⟨v8, rfl, ⟨A8, c8, B8, d8, rfl, k3, k4⟩, hb8⟩
      have H8 := Lib.hid (H7.out.run hb8)
      have DO := Lib.hid (decH_ok s)
      generalize decH s = DD at k3 k4 DO
      obtain ⟨q, sz, F⟩ := DD
      simp only at k3 k4 DO
      obtain ⟨b9, hb9⟩ : ∃ b9, b9 = W8.heap.size := ⟨_, rfl⟩
      obtain ⟨W9, hW9⟩ : ∃ W9, W9 = W8.alloc (.cells (hcs q A8 c8 B8 d8) 26) := ⟨_, rfl⟩
      have H9 := Lib.hid (show HX w W9 b9 q A8 c8 B8 d8 by rw [hb9]; exact HX.new H8.out.bw k3 k4 hW9)
      have HE9 := Lib.hid hb9
      have HW9 := Lib.hid hW9
      have y0 := H9.out.c0
      have y1 := H9.out.c1
      have y2 := H9.out.c2
      have y3 := H9.out.c3
      have y4 := H9.out.c4
      have y5 := H9.out.c5
      have y6 := H9.out.c6
      clear k3 k4 hb8 hb9 hW9
      simp only
      go_upto_region 9 with fail
      rw [← HW9.out, ← HE9.out]
      by_cases hF : F = 0
      · obtain ⟨okq, gq, hsz⟩ := DO.out.1 hF
        have HOQ := Lib.hid okq
        have HGQ := Lib.hid gq
        have HDQ := Lib.hid (dec_same okq gq)
        have HSQ := Lib.hid (size_bd gq)
        have hszN : (sz : Int) ≤ N := by omega
        subst hF
        clear okq gq hsz
        go_wp2_with fail
        refine (encode_any _ q W9 H9.out.hr HOQ.out).mono ?_
        rw [encR_good HGQ.out]
        rintro e W10 ⟨rfl, hb10⟩
        have H10 := Lib.hid (H9.out.run hb10)
        have x0 := H10.out.c0
        have x1 := H10.out.c1
        have x2 := H10.out.c2
        have x3 := H10.out.c3
        have x4 := H10.out.c4
        have x5 := H10.out.c5
        have x6 := H10.out.c6
        clear hb10 y0 y1 y2 y3 y4 y5 y6
        simp only
        obtain ⟨U, hU⟩ : ∃ U, txt (encB q) = U := ⟨_, rfl⟩
        rw [hU] at HDQ HSQ ⊢
        have HUS := Lib.hid (show U.size ≤ 1099511627776 by have := HSQ.out; omega)
        clear hU
        go_wp2_with fail
        refine (decode_any U W10 HUS.out).mono ?_
        unfold DecPost
        rw [HDQ.out]
        rintro e W11 ⟨v11, rfl, ⟨A11, c11, B11, d11, rfl, k3, k4⟩, hb11⟩
        have H11 := Lib.hid (H10.out.run hb11)
        obtain ⟨b12, hb12⟩ : ∃ b12, b12 = W11.heap.size := ⟨_, rfl⟩
        obtain ⟨W12, hW12⟩ : ∃ W12, W12 = W11.alloc (.cells (hcs q A11 c11 B11 d11) 26) := ⟨_, rfl⟩
        have HI12 := Lib.hid (show HX w W12 b12 q A11 c11 B11 d11 by rw [hb12]; exact HX.new H11.out.bw k3 k4 hW12)
        have H12 := Lib.hid (H11.out.run (w' := W12) (by rw [hW12]; exact (Below.refl _ W11).alloc (Nat.le_refl _) _))
        have HE12 := Lib.hid hb12
        have HW12 := Lib.hid hW12
        have u0 := H12.out.c0
        have u1 := H12.out.c1
        have u2 := H12.out.c2
        have u3 := H12.out.c3
        have u4 := H12.out.c4
        have u5 := H12.out.c5
        have u6 := H12.out.c6
        have z0 := HI12.out.c0
        have z1 := HI12.out.c1
        have z2 := HI12.out.c2
        have z3 := HI12.out.c3
        have z4 := HI12.out.c4
        have z5 := HI12.out.c5
        have z6 := HI12.out.c6
        clear k3 k4 hb11 hb12 hW12 x0 x1 x2 x3 x4 x5 x6
        simp only
        go_upto_region 13 with fail
        rw [← HW12.out, ← HE12.out]
        go_wp2_with fail
        refine (same_any _ _ q W12 H12.out.hr HI12.out.hr (small_of HGQ.out)).mono ?_
        rintro e W13 ⟨rfl, hb13⟩
        have H13 := Lib.hid (H12.out.run hb13)
        clear hb13 u0 u1 u2 u3 u4 u5 u6 z0 z1 z2 z3 z4 z5 z6
        go_wp2_with fail
        refine (wakes_any _).mono ?_
        rintro e W9 ⟨rfl, hb9⟩
        have H9 := Lib.hid (H13.out.run hb9)
        clear hb9
        go_wp2_with fail
        go_ret
        exact ⟨rfl, H9.out.bw⟩
      · have hF' : (F == 0) = false := by rw [beq_eq_false_iff_ne]; exact hF
        obtain ⟨e1, e2⟩ := DO.out.2 hF
        subst e1 e2
        go_wp2_with fail
        refine (wakes_any _).mono ?_
        rintro e W9 ⟨rfl, hb9⟩
        have H9 := Lib.hid (H9.out.run hb9)
        clear hb9
        go_wp2_with fail
        go_ret
        exact ⟨rfl, H9.out.bw⟩
theorem RtpBack_row (c0 : Array Value) (z0) (bh s : ByteArray) (w : World) (h : rH w c0.toList z0) (_ : bh.size ≤ maxLen) (_ : s.size ≤ maxLen) :
    Calls Try.prog 5 #[.agg c0, .string bh, .string s] w fun e w' => e = .returned (.bool true) ∧ Below w.heap.size w w' := by
  obtain ⟨r, hr, ok⟩ : ∃ r, HR w (.agg c0) r ∧ okH r := ⟨_, arg_rep h⟩
  exact RtpBack_any _ r bh s w hr ok
end Go.Proofs.Ytccljgohekmjkaa.Rtp
