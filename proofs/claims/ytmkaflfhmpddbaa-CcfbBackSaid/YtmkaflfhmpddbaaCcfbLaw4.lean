/- CcfbBack: what was encoded is decoded, what was decoded is encoded as it was. -/
import Derived.Test.YtmkaflfhmpddbaaCcfbLaw3
namespace Go.Proofs.Ytmkaflfhmpddbaa.Ccfb
open Go.RowKit Go.Proofs.Ytmkaflfhmpddbaa.Plain Go.Proofs.Ytmkaflfhmpddbaa.Heap Go.Proofs.Ytmkaflfhmpddbaa.Open Go.Proofs.Ytmkaflfhmpddbaa.Rows Go.Proofs.Ytmkaflfhmpddbaa.Bits
/-- A text that was decoded is encoded as it was. -/
theorem enc_back {s : ByteArray} (h : (decC s).2 = 0) : encR (decC s).1 = (s, 0) := by
  have h1 := enc_dec (s := s) (q := (decC s).1) (by rw [← h])
  rw [encR_good h1.2.1 (by rw [h1.2.2.1]; have := h1.2.2.2.1; omega), h1.2.2.2.2]
set_option maxRecDepth 10000 in
set_option maxHeartbeats 4000000 in
/-- The second half: what was decoded. -/
theorem CcfbBack_any (v : Value) (r : Rep) (s : ByteArray) (w : World) (h : CR w v r) (ok : okC r) :
    Calls Try.prog 5 #[v, .string s] w fun e w' => e = .returned (.bool true) ∧ Below w.heap.size w w' := by
  obtain ⟨N, hN⟩ : ∃ N : Int, (s.size : Int) = N := ⟨_, rfl⟩
  obtain ⟨A, c, rfl, hbl⟩ := h
  obtain ⟨b0, hb0⟩ : ∃ b0, b0 = w.heap.size := ⟨_, rfl⟩
  obtain ⟨W0, hW0⟩ : ∃ W0, W0 = w.alloc (.cells #[.int .u32 r.1, .slice A r.2.1.length c, .int .u32 r.2.2] 25) := ⟨_, rfl⟩
  have H0 := Lib.hid (show BX w W0 b0 r A c by rw [hb0]; exact BX.new (Below.refl _ w) hbl hW0)
  have HE := Lib.hid hb0
  have HW := Lib.hid hW0
  have OK := Lib.hid ok
  have x0 := H0.out.c0
  have x1 := H0.out.c1
  have x2 := H0.out.c2
  clear hbl ok hb0 hW0
  go_enter Try.func5, Try.ntmps5
  go_upto_region 1 with fail
  rw [← HW.out, ← HE.out]
  go_wp2_with fail
  refine (large_any _ r W0 H0.out.cr).mono ?_
  rintro e W1 ⟨lg, rfl, hsm, hb1⟩
  have H1 := Lib.hid (H0.out.run hb1)
  have y0 := H1.out.c0
  have y1 := H1.out.c1
  have y2 := H1.out.c2
  clear hb1 x0 x1 x2
  by_cases hbig : lg = true ∨ 70000 < N
  · have hway : lg = true ∨ (lg = false ∧ 70000 < N) := by cases lg with
      | true => exact .inl rfl
      | false => exact .inr ⟨rfl, hbig.resolve_left (fun e => nomatch e)⟩
    clear hsm hbig
    rcases hway with rfl | ⟨rfl, hl⟩
    · go_wp2_with fail
      refine (wakes_any _).mono ?_
      rintro e W2 ⟨rfl, hb2⟩
      have H2 := Lib.hid (H1.out.run hb2)
      clear hb2
      go_wp2_with fail
      go_ret
      exact ⟨rfl, H2.out.bw⟩
    · go_wp2_with fail
      refine (wakes_any _).mono ?_
      rintro e W2 ⟨rfl, hb2⟩
      have H2 := Lib.hid (H1.out.run hb2)
      clear hb2
      go_wp2_with fail
      go_ret
      exact ⟨rfl, H2.out.bw⟩
  · obtain ⟨rfl, hl⟩ : lg = false ∧ ¬ 70000 < N := ⟨by cases lg with
      | true => exact absurd (.inl rfl) hbig
      | false => rfl, fun h => hbig (.inr h)⟩
    clear hbig
    have HSM := Lib.hid (hsm rfl)
    clear hsm
    go_wp2_with fail
    refine (copy_any _ r W1 H1.out.cr HSM.out).mono ?_
    rintro e W2 ⟨v', rfl, hcr, hb2⟩
    have H2 := Lib.hid (H1.out.run hb2)
    have HCR := Lib.hid hcr
    clear hb2 hcr y0 y1 y2
    go_wp2_with fail
    refine (encode_any _ r W2 HCR.out OK.out).mono ?_
    rintro e W3 ⟨rfl, hb3⟩
    have H3 := Lib.hid (H2.out.run hb3)
    have x0 := H3.out.c0
    have x1 := H3.out.c1
    have x2 := H3.out.c2
    clear hb3 HCR
    -- what follows once the first half is past
    obtain ⟨T, E, hR⟩ : ∃ T E, encR r = (T, E) := ⟨_, _, rfl⟩
    have HR := Lib.hid hR
    rw [hR]
    clear hR
    simp only
    go_upto_if 28 with fail
    go_cut [] (fun wx => BX w wx b0 r A c)
    case first =>
      by_cases hE : E = 0
      · subst hE
        have HD := Lib.hid (show decC T = (r, 0) by
          rcases enc_ways r with ⟨hg, he⟩ | ⟨hg, hs, he⟩ | ⟨hg, hs, he⟩
          · rw [HR.out] at he; injection he with _ he2; exact absurd he2 (by decide)
          · rw [HR.out] at he; injection he with _ he2; exact absurd he2 (by decide)
          · rw [HR.out] at he; injection he with he1 _; rw [he1]; exact dec_enc OK.out hg hs)
        go_wp2_with fail
        refine (decode_any T W3).mono ?_
        unfold DecPost
        rw [HD.out]
        rintro e W4 ⟨v4, rfl, ⟨A4, c4, rfl, hbl4⟩, hb4⟩
        have H4 := Lib.hid (H3.out.run hb4)
        obtain ⟨b5, hb5⟩ : ∃ b5, b5 = W4.heap.size := ⟨_, rfl⟩
        obtain ⟨W5, hW5⟩ : ∃ W5, W5 = W4.alloc (.cells #[.int .u32 r.1, .slice A4 r.2.1.length c4, .int .u32 r.2.2] 25) := ⟨_, rfl⟩
        have HI5 := Lib.hid (show BX w W5 b5 r A4 c4 by rw [hb5]; exact BX.new H4.out.bw hbl4 hW5)
        have H5 := Lib.hid (H4.out.run (w' := W5) (by rw [hW5]; exact (Below.refl _ W4).alloc (Nat.le_refl _) _))
        have HE5 := Lib.hid hb5
        have HW5 := Lib.hid hW5
        have y0 := H5.out.c0
        have y1 := H5.out.c1
        have y2 := H5.out.c2
        have i0 := HI5.out.c0
        have i1 := HI5.out.c1
        have i2 := HI5.out.c2
        clear hbl4 hb4 hb5 hW5 x0 x1 x2
        simp only
        go_upto_region 6 with fail
        rw [← HW5.out, ← HE5.out]
        go_wp2_with fail
        refine (same_any _ _ r r W5 HI5.out.cr H5.out.cr HSM.out).mono ?_
        rw [same_refl]
        rintro e W6 ⟨rfl, hb6⟩
        have H6 := Lib.hid (H5.out.run hb6)
        clear hb6 y0 y1 y2 i0 i1 i2
        go_wp2_with fail
        go_meet
        exact H6.out
      · have hE' : (E == 0) = false := by rw [beq_eq_false_iff_ne]; exact hE
        go_wp2_with fail
        go_meet
        exact H3.out
    case rest =>
      obtain hcut := hcut
      rename World => W7
      have H7 := Lib.hid hcut
      clear hcut x0 x1 x2
      go_wp2_with fail
      refine (decode_any s W7).mono ?_
      rintro e W8 ⟨v8, rfl, ⟨A8, c8, rfl, hbl8⟩, hb8⟩
      have H8 := Lib.hid (H7.out.run hb8)
      have SM := Lib.hid (show (decC s).2 ≠ 0 → (decC s).1 = zeroC from dec_err)
      have DO := Lib.hid (dec_ok s)
      have EB := Lib.hid (show (decC s).2 = 0 → encR (decC s).1 = (s, 0) from enc_back)
      generalize decC s = D at hbl8 SM DO EB
      obtain ⟨q, F⟩ := D
      simp only at hbl8 SM DO EB
      obtain ⟨b9, hb9⟩ : ∃ b9, b9 = W8.heap.size := ⟨_, rfl⟩
      obtain ⟨W9, hW9⟩ : ∃ W9, W9 = W8.alloc (.cells #[.int .u32 q.1, .slice A8 q.2.1.length c8, .int .u32 q.2.2] 25) := ⟨_, rfl⟩
      have H9 := Lib.hid (show BX w W9 b9 q A8 c8 by rw [hb9]; exact BX.new H8.out.bw hbl8 hW9)
      have HE9 := Lib.hid hb9
      have HW9 := Lib.hid hW9
      have y0 := H9.out.c0
      have y1 := H9.out.c1
      have y2 := H9.out.c2
      clear hbl8 hb8 hb9 hW9
      simp only
      go_upto_region 9 with fail
      rw [← HW9.out, ← HE9.out]
      by_cases hF : F = 0
      · subst hF
        have EB2 := Lib.hid (EB.out rfl)
        go_wp2_with fail
        refine (encode_any _ q W9 H9.out.cr DO.out.1).mono ?_
        rw [EB2.out]
        rintro e W10 ⟨rfl, hb10⟩
        have H10 := Lib.hid (H9.out.run hb10)
        have i0 := H10.out.c0
        have i1 := H10.out.c1
        have i2 := H10.out.c2
        clear hb10 y0 y1 y2
        simp only
        go_wp2_with fail
        refine (good_any _ q W10 H10.out.cr).mono ?_
        rw [DO.out.2]
        rintro e W11 ⟨rfl, hb11⟩
        have H11 := Lib.hid (H10.out.run hb11)
        clear hb11 i0 i1 i2
        go_wp2_with fail
        refine (wakes_any _).mono ?_
        rintro e W12 ⟨rfl, hb12⟩
        have H12 := Lib.hid (H11.out.run hb12)
        clear hb12
        go_wp2_with fail
        go_ret
        exact ⟨rfl, H12.out.bw⟩
      · have hF' : (F == 0) = false := by rw [beq_eq_false_iff_ne]; exact hF
        have hq := SM.out hF
        subst hq
        go_wp2_with fail
        refine (wakes_any _).mono ?_
        rintro e W12 ⟨rfl, hb12⟩
        have H12 := Lib.hid (H9.out.run hb12)
        clear hb12
        go_wp2_with fail
        go_ret
        exact ⟨rfl, H12.out.bw⟩
theorem CcfbBack_row (c0 : Array Value) (z0) (s : ByteArray) (w : World) (h : rC w c0.toList z0) (_ : s.size ≤ maxLen) :
    Calls Try.prog 5 #[.agg c0, .string s] w fun e w' => e = .returned (.bool true) ∧ Below w.heap.size w w' := by
  obtain ⟨r, hr, ok⟩ : ∃ r, CR w (.agg c0) r ∧ okC r := ⟨_, arg_rep h⟩
  exact CcfbBack_any _ r s w hr ok
end Go.Proofs.Ytmkaflfhmpddbaa.Ccfb
