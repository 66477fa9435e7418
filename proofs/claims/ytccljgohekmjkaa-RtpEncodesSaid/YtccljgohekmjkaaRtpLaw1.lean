/- RtpEncodes: the bytes of every header, or that it is none. -/
import Derived.Test.YtccljgohekmjkaaRtpLaw
namespace Go.Proofs.Ytccljgohekmjkaa.Rtp
open Go.RowKit Go.Proofs.Ytccljgohekmjkaa.Plain Go.Proofs.Ytccljgohekmjkaa.Heap Go.Proofs.Ytccljgohekmjkaa.Open Go.Proofs.Ytccljgohekmjkaa.Rows Go.Proofs.Ytccljgohekmjkaa.Bits
set_option maxRecDepth 10000 in
set_option maxHeartbeats 4000000 in
theorem RtpEncodes_any (v : Value) (h : Hd) (w : World) (k : HR w v h) (ok : okH h) :
    Calls Try.prog 3 #[v] w fun e w' => e = .returned (.bool true) ∧ Below w.heap.size w w' := by
  obtain ⟨A, c, B, d, rfl, k1, k2⟩ := k
  obtain ⟨b0, hb0⟩ : ∃ b0, b0 = w.heap.size := ⟨_, rfl⟩
  obtain ⟨W0, hW0⟩ : ∃ W0, W0 = w.alloc (.cells (hcs h A c B d) 26) := ⟨_, rfl⟩
  have H0 := Lib.hid (show HX w W0 b0 h A c B d by rw [hb0]; exact HX.new (Below.refl _ w) k1 k2 hW0)
  have HE := Lib.hid hb0
  have HW := Lib.hid hW0
  have OK := Lib.hid ok
  have x0 := H0.out.c0
  have x1 := H0.out.c1
  have x2 := H0.out.c2
  have x3 := H0.out.c3
  have x4 := H0.out.c4
  have x5 := H0.out.c5
  have x6 := H0.out.c6
  clear k1 k2 ok hb0 hW0
  go_enter Try.func3, Try.ntmps3
  go_upto_region 1 with fail
  rw [← HW.out, ← HE.out]
  go_wp2_with fail
  refine (large_any _ h W0 H0.out.hr).mono ?_
  rintro e W1 ⟨lg, rfl, hsm, hb1⟩
  have H1 := Lib.hid (H0.out.run hb1)
  have y0 := H1.out.c0
  have y1 := H1.out.c1
  have y2 := H1.out.c2
  have y3 := H1.out.c3
  have y4 := H1.out.c4
  have y5 := H1.out.c5
  have y6 := H1.out.c6
  clear hb1 x0 x1 x2 x3 x4 x5 x6
  cases lg with
  | true =>
    clear hsm
    go_wp2_with fail
    refine (wakes_any _).mono ?_
    rintro e W2 ⟨rfl, hb2⟩
    have H2 := Lib.hid (H1.out.run hb2)
    clear hb2
    go_wp2_with fail
    go_ret
    exact ⟨rfl, H2.out.bw⟩
  | false =>
    have HSM := Lib.hid (hsm rfl)
    clear hsm
    go_wp2_with fail
    refine (copy_any _ h W1 H1.out.hr HSM.out).mono ?_
    rintro e W2 ⟨v', rfl, ⟨A', c', B', d', rfl, g1, g2⟩, hb2⟩
    have H2 := Lib.hid (H1.out.run hb2)
    obtain ⟨b3, hb3⟩ : ∃ b3, b3 = W2.heap.size := ⟨_, rfl⟩
    obtain ⟨W3, hW3⟩ : ∃ W3, W3 = W2.alloc (.cells (hcs h A' c' B' d') 26) := ⟨_, rfl⟩
    have HI3 := Lib.hid (show HX w W3 b3 h A' c' B' d' by rw [hb3]; exact HX.new H2.out.bw g1 g2 hW3)
    have H3 := Lib.hid (H2.out.run (w' := W3) (by rw [hW3]; exact (Below.refl _ W2).alloc (Nat.le_refl _) _))
    have HE3 := Lib.hid hb3
    have HW3 := Lib.hid hW3
    have x0 := H3.out.c0
    have x1 := H3.out.c1
    have x2 := H3.out.c2
    have x3 := H3.out.c3
    have x4 := H3.out.c4
    have x5 := H3.out.c5
    have x6 := H3.out.c6
    have i0 := HI3.out.c0
    have i1 := HI3.out.c1
    have i2 := HI3.out.c2
    have i3 := HI3.out.c3
    have i4 := HI3.out.c4
    have i5 := HI3.out.c5
    have i6 := HI3.out.c6
    clear g1 g2 hb2 hb3 hW3 y0 y1 y2 y3 y4 y5 y6
    go_upto_region 4 with fail
    rw [← HW3.out, ← HE3.out]
    go_wp2_with fail
    refine (encode_any _ h W3 HI3.out.hr OK.out).mono ?_
    rintro e W4 ⟨rfl, hb4⟩
    have H4 := Lib.hid (H3.out.run hb4)
    have HI4 := Lib.hid (HI3.out.run hb4)
    have y0 := H4.out.c0
    have y1 := H4.out.c1
    have y2 := H4.out.c2
    have y3 := H4.out.c3
    have y4 := H4.out.c4
    have y5 := H4.out.c5
    have y6 := H4.out.c6
    clear hb4 x0 x1 x2 x3 x4 x5 x6 i0 i1 i2 i3 i4 i5 i6
    go_wp2_with fail
    refine (rencode_any _ h W4 H4.out.hr OK.out).mono ?_
    rintro e W5 ⟨rfl, hb5⟩
    have H5 := Lib.hid (H4.out.run hb5)
    have HI5 := Lib.hid (HI4.out.run hb5)
    have x0 := H5.out.c0
    have x1 := H5.out.c1
    have x2 := H5.out.c2
    have x3 := H5.out.c3
    have x4 := H5.out.c4
    have x5 := H5.out.c5
    have x6 := H5.out.c6
    have i0 := HI5.out.c0
    have i1 := HI5.out.c1
    have i2 := HI5.out.c2
    have i3 := HI5.out.c3
    have i4 := HI5.out.c4
    have i5 := HI5.out.c5
    have i6 := HI5.out.c6
    clear hb5 y0 y1 y2 y3 y4 y5 y6
    generalize hR : encR h = R
    obtain ⟨T, E⟩ := R
    simp only
    go_wp2_with fail
    refine (same_any _ _ h W5 HI5.out.hr H5.out.hr HSM.out).mono ?_
    rintro e W6 ⟨rfl, hb6⟩
    have H6 := Lib.hid (H5.out.run hb6)
    clear hb6 x0 x1 x2 x3 x4 x5 x6 i0 i1 i2 i3 i4 i5 i6
    go_wp2_with fail
    refine (wakes_any _).mono ?_
    rintro e W9 ⟨rfl, hb9⟩
    have H9 := Lib.hid (H6.out.run hb9)
    clear hb9
    go_wp2_with fail
    go_ret
    exact ⟨rfl, H9.out.bw⟩
theorem RtpEncodes_row (c0 : Array Value) (z0) (w : World) (h : rH w c0.toList z0) :
    Calls Try.prog 3 #[.agg c0] w fun e w' => e = .returned (.bool true) ∧ Below w.heap.size w w' := by
  obtain ⟨r, hr, ok⟩ : ∃ r, HR w (.agg c0) r ∧ okH r := ⟨_, arg_rep h⟩
  exact RtpEncodes_any _ r w hr ok
end Go.Proofs.Ytccljgohekmjkaa.Rtp
