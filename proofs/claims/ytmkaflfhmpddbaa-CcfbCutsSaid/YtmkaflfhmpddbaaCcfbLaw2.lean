/- CcfbDecodes: both decoders answer alike. -/
import Derived.Test.YtmkaflfhmpddbaaCcfbLaw
namespace Go.Proofs.Ytmkaflfhmpddbaa.Ccfb
open Go.RowKit Go.Proofs.Ytmkaflfhmpddbaa.Plain Go.Proofs.Ytmkaflfhmpddbaa.Heap Go.Proofs.Ytmkaflfhmpddbaa.Open Go.Proofs.Ytmkaflfhmpddbaa.Rows Go.Proofs.Ytmkaflfhmpddbaa.Bits
theorem dec_small (s : ByteArray) : small (decC s).1 := by
  obtain ⟨h1, h2⟩ := goodC_yes (dec_ok s).2
  exact ⟨by omega, fun b hb => by have := (h2 b hb).2.2.1; omega⟩
set_option maxRecDepth 10000 in
set_option maxHeartbeats 4000000 in
theorem CcfbDecodes_any (s : ByteArray) (w : World) :
    Calls Try.prog 4 #[.string s] w fun e w' => e = .returned (.bool true) ∧ Below w.heap.size w w' := by
  obtain ⟨N, hN⟩ : ∃ N : Int, (s.size : Int) = N := ⟨_, rfl⟩
  go_enter Try.func4, Try.ntmps4
  by_cases hl : 70000 < N
  · go_wp2_with fail
    refine (wakes_any _).mono ?_
    rintro e W2 ⟨rfl, hb2⟩
    have H2 := Lib.hid hb2
    clear hb2
    go_wp2_with fail
    go_ret
    exact ⟨rfl, H2.out⟩
  · go_wp2_with fail
    refine (decode_any s w).mono ?_
    rintro e W1 ⟨v, rfl, ⟨A, c, rfl, hbl⟩, hb1⟩
    have SM := Lib.hid (dec_small s)
    generalize hD : decC s = D at hbl SM
    obtain ⟨r, E⟩ := D
    have HD := Lib.hid hD
    obtain ⟨b0, hb0⟩ : ∃ b0, b0 = W1.heap.size := ⟨_, rfl⟩
    obtain ⟨W2, hW2⟩ : ∃ W2, W2 = W1.alloc (.cells #[.int .u32 r.1, .slice A r.2.1.length c, .int .u32 r.2.2] 25) := ⟨_, rfl⟩
    have H2 := Lib.hid (show BX w W2 b0 r A c by rw [hb0]; exact BX.new hb1 hbl hW2)
    have HE := Lib.hid hb0
    have HW := Lib.hid hW2
    have x0 := H2.out.c0
    have x1 := H2.out.c1
    have x2 := H2.out.c2
    clear hbl hb1 hb0 hW2 hD
    simp only
    go_upto_region 4 with fail
    rw [← HW.out, ← HE.out]
    go_wp2_with fail
    refine (rdecode_any s W2).mono ?_
    unfold DecPost
    rw [HD.out]
    rintro e W3 ⟨v, rfl, ⟨A', c', rfl, hbl⟩, hb3⟩
    have H3 := Lib.hid (H2.out.run hb3)
    obtain ⟨b1, hb1⟩ : ∃ b1, b1 = W3.heap.size := ⟨_, rfl⟩
    obtain ⟨W4, hW4⟩ : ∃ W4, W4 = W3.alloc (.cells #[.int .u32 r.1, .slice A' r.2.1.length c', .int .u32 r.2.2] 25) := ⟨_, rfl⟩
    have HI4 := Lib.hid (show BX w W4 b1 r A' c' by rw [hb1]; exact BX.new H3.out.bw hbl hW4)
    have H4 := Lib.hid (H3.out.run (w' := W4) (by rw [hW4]; exact (Below.refl _ W3).alloc (Nat.le_refl _) _))
    have HE4 := Lib.hid hb1
    have HW4 := Lib.hid hW4
    have y0 := H4.out.c0
    have y1 := H4.out.c1
    have y2 := H4.out.c2
    have i0 := HI4.out.c0
    have i1 := HI4.out.c1
    have i2 := HI4.out.c2
    clear hbl hb3 hb1 hW4 x0 x1 x2
    simp only
    go_upto_region 5 with fail
    rw [← HW4.out, ← HE4.out]
    go_wp2_with fail
    refine (same_any _ _ r r W4 H4.out.cr HI4.out.cr SM.out).mono ?_
    rw [same_refl]
    rintro e W5 ⟨rfl, hb5⟩
    have H5 := Lib.hid (H4.out.run hb5)
    clear hb5 y0 y1 y2 i0 i1 i2
    go_wp2_with fail
    refine (wakes_any _).mono ?_
    rintro e W6 ⟨rfl, hb6⟩
    have H6 := Lib.hid (H5.out.run hb6)
    clear hb6
    go_wp2_with fail
    go_ret
    exact ⟨rfl, H6.out.bw⟩
theorem CcfbDecodes_row (s : ByteArray) (w : World) (_ : s.size ≤ maxLen) :
    Calls Try.prog 4 #[.string s] w fun e w' => e = .returned (.bool true) ∧ Below w.heap.size w w' :=
  CcfbDecodes_any s w
end Go.Proofs.Ytmkaflfhmpddbaa.Ccfb
