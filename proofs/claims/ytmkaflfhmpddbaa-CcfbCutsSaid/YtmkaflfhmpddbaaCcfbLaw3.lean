/- CcfbSize: as long as its packets ask. -/
import Derived.Test.YtmkaflfhmpddbaaCcfbLaw
namespace Go.Proofs.Ytmkaflfhmpddbaa.Ccfb
open Go.RowKit Go.Proofs.Ytmkaflfhmpddbaa.Plain Go.Proofs.Ytmkaflfhmpddbaa.Heap Go.Proofs.Ytmkaflfhmpddbaa.Open Go.Proofs.Ytmkaflfhmpddbaa.Rows Go.Proofs.Ytmkaflfhmpddbaa.Bits
theorem enc_ways (r : Rep) : (goodC r = false ∧ encR r = (⟨#[]⟩, 1)) ∨ (goodC r = true ∧ 65536 < sizeC r ∧ encR r = (⟨#[]⟩, 2)) ∨ (goodC r = true ∧ ¬ 65536 < sizeC r ∧ encR r = (txt (encC r), 0)) := by
  cases h : goodC r with
  | false => exact .inl ⟨rfl, encR_bad h⟩
  | true =>
    by_cases h2 : 65536 < sizeC r
    · exact .inr (.inl ⟨rfl, h2, encR_long h h2⟩)
    · exact .inr (.inr ⟨rfl, h2, encR_good h h2⟩)
set_option maxRecDepth 10000 in
set_option maxHeartbeats 4000000 in
theorem CcfbSize_any (v : Value) (r : Rep) (w : World) (h : CR w v r) (ok : okC r) :
    Calls Try.prog 7 #[v] w fun e w' => e = .returned (.bool true) ∧ Below w.heap.size w w' := by
  obtain ⟨A, c, rfl, hbl⟩ := h
  obtain ⟨b0, hb0⟩ : ∃ b0, b0 = w.heap.size := ⟨_, rfl⟩
  obtain ⟨W0, hW0⟩ : ∃ W0, W0 = w.alloc (.cells #[.int .u32 r.1, .slice A r.2.1.length c, .int .u32 r.2.2] 25) := ⟨_, rfl⟩
  have H0 := Lib.hid (show BX w W0 b0 r A c by rw [hb0]; exact BX.new (Below.refl _ w) hbl hW0)
  have HE := Lib.hid hb0
  have HW := Lib.hid hW0
  have OK := Lib.hid ok
  have x0 := H0.out.c0
  have x1 := H0.out.c1
  have x2 := H0.out.c2
  clear hbl ok hb0 hW0
  go_enter Try.func7, Try.ntmps7
  go_upto_region 1 with fail
  rw [← HW.out, ← HE.out]
  go_wp2_with fail
  refine (large_any _ r W0 H0.out.cr).mono ?_
  rintro e W1 ⟨lg, rfl, hsm, hb1⟩
  have H1 := Lib.hid (H0.out.run hb1)
  have y0 := H1.out.c0
  have y1 := H1.out.c1
  have y2 := H1.out.c2
  clear hb1 x0 x1 x2
  cases lg with
  | true =>
    clear hsm
    go_wp2_with fail
    refine (wakes_any _).mono ?_
    rintro e W2 ⟨rfl, hb2⟩
    have H2 := Lib.hid (H1.out.run hb2)
    clear hb2
    go_wp2_with fail
    go_ret
    exact ⟨rfl, H2.out.bw⟩
  | false =>
    have HSM := Lib.hid (hsm rfl)
    clear hsm
    go_wp2_with fail
    refine (copy_any _ r W1 H1.out.cr HSM.out).mono ?_
    rintro e W2 ⟨v', rfl, hcr, hb2⟩
    have H2 := Lib.hid (H1.out.run hb2)
    have HCR := Lib.hid hcr
    clear hb2 hcr y0 y1 y2
    go_wp2_with fail
    refine (encode_any _ r W2 HCR.out OK.out).mono ?_
    rintro e W3 ⟨rfl, hb3⟩
    have H3 := Lib.hid (H2.out.run hb3)
    clear hb3
    generalize hR : encR r = R
    obtain ⟨T, E⟩ := R
    have HR := Lib.hid hR
    clear hR HCR
    simp only
    obtain ⟨n, hn⟩ : ∃ n, n = r.2.1.length := ⟨_, rfl⟩
    have HN := Lib.hid hn
    clear hn
    have hn1 : (n : Int) ≤ 1000 := by have := HSM.out.1; have := HN.out; omega
    go_wp2_with fail
    go_loopw [5, 6] (fun sv iv wx => ∃ (i Z : Nat), (i : Int) ≤ (n : Int) ∧ iv = .int .i64 (i : Int) ∧ sv = .int .i64 (Z : Int) ∧ Z = 8 + sizeBs (r.2.1.take i) ∧ Z ≤ 8 + 20100 * i ∧ Below W3.heap.size W3 wx) (fun _ iv _ => ((n : Int) - intOf iv).toNat)
    case atStart => exact ⟨0, 8, by omega, rfl, rfl, by simp [sizeBs], by omega, Below.refl _ _⟩
    case round =>
      obtain ⟨i, Z, hi, rfl, rfl, hz, hzb, hbw⟩ := hrel
      have H4 := Lib.hid (H3.out.run hbw)
      have HB4 := Lib.hid hbw
      have HZ := Lib.hid hz
      have t0 := H4.out.c0
      have t1 := H4.out.c1
      have t2 := H4.out.c2
      rw [← HN.out] at t1
      have hzb' : (Z : Int) ≤ 8 + 20100 * (i : Int) := by omega
      have hz4 : (Z : Int).tmod 4 = 0 := by
        have : Z % 4 = 0 := by
          rw [HZ.out]
          have : ∀ l : List Bl, sizeBs l % 4 = 0 := fun l => by
            induction l with
            | nil => rfl
            | cons b l ih => rw [sizeBs_cons]; unfold sizeB; omega
          have := this (r.2.1.take i)
          omega
        rw [Int.tmod_eq_emod_of_nonneg (by omega)]
        omega
      have HZ4 := Lib.hid hz4
      clear hz hbw hz4 hzb
      by_cases hil : (i : Int) < (n : Int)
      · have hblk := H4.out.bl
        rw [← HN.out] at hblk
        obtain ⟨g, off, x, rfl, hg, hx, hxm, z0, z1, MA, mc, z2, hrd⟩ := hblk.at (i := i) (by omega)
        have HST := Lib.hid (sizeBs_take hx)
        have hm1 := HSM.out.2 x hxm
        obtain ⟨m, hm⟩ : ∃ m, m = x.2.2.length := ⟨_, rfl⟩
        rw [← hm] at z2 hm1
        have hm1' : (m : Int) ≤ 10000 := by omega
        have HSB := Lib.hid (show sizeB x = 8 + (m + 1) / 2 * 4 by rw [hm]; rfl)
        clear hblk hx hxm hrd hm hm1
        obtain ⟨Y, hY⟩ : ∃ Y : Nat, Y = Z + (8 + 2 * m) := ⟨_, rfl⟩
        obtain ⟨Q, hQ⟩ : ∃ Q : Nat, Q = Y % 4 := ⟨_, rfl⟩
        have hQ' : (Y : Int).tmod 4 = (Q : Int) := by rw [Int.tmod_eq_emod_of_nonneg (by omega)]; omega
        have hQ3 : (Q : Int) ≤ 3 := by omega
        have hY' : (Z : Int) + (8 + 2 * (m : Int)) = (Y : Int) := by omega
        have hYb : (Y : Int) ≤ 30000000 := by omega
        have HY := Lib.hid hY
        have HQ := Lib.hid hQ
        clear hY hQ
        go_wp2_with fail
        go_roundw
        case rel => 
          have h1 := HST.out
          have h2 := HSB.out
          have h3 := HZ.out
          have h4 := HY.out
          have h5 := HQ.out
          have h6 := HZ4.out
          rw [Int.tmod_eq_emod_of_nonneg (by omega)] at h6
          exact ⟨i + 1, Y + Q, by omega, by go_num, by go_num, by rw [h1, h2]; omega, by omega, HB4.out⟩
        case measure => exact measN n i hil
      · have hin : i = n := by omega
        have hzc : Z = sizeC r := by
          have h1 := HZ.out
          rw [hin, HN.out, List.take_length] at h1
          exact h1
        rcases enc_ways r with ⟨hg, he⟩ | ⟨hg, hs, he⟩ | ⟨hg, hs, he⟩
        · rw [HR.out] at he
          injection he with he1 he2
          subst he1 he2
          have HG := Lib.hid hg
          clear hzc hg
          go_wp2_with fail
          have hcr4 := H4.out.cr
          rw [← HN.out] at hcr4
          refine (rgood_any _ r _ hcr4).mono ?_
          clear hcr4
          rw [HG.out]
          rintro e W5 ⟨rfl, hb5⟩
          have H5 := Lib.hid (H4.out.run hb5)
          clear hb5 t0 t1 t2
          go_wp2_with fail
          refine (wakes_any _).mono ?_
          rintro e W6 ⟨rfl, hb6⟩
          have H6 := Lib.hid (H5.out.run hb6)
          clear hb6
          go_wp2_with fail
          go_ret
          exact ⟨rfl, H6.out.bw⟩
        · rw [HR.out] at he
          injection he with he1 he2
          subst he1 he2
          have HG := Lib.hid hg
          have hz65 : 65536 < (Z : Int) := by omega
          clear hzc hg hs
          go_wp2_with fail
          have hcr4 := H4.out.cr
          rw [← HN.out] at hcr4
          refine (rgood_any _ r _ hcr4).mono ?_
          clear hcr4
          rw [HG.out]
          rintro e W5 ⟨rfl, hb5⟩
          have H5 := Lib.hid (H4.out.run hb5)
          clear hb5 t0 t1 t2
          go_wp2_with fail
          refine (wakes_any _).mono ?_
          rintro e W6 ⟨rfl, hb6⟩
          have H6 := Lib.hid (H5.out.run hb6)
          clear hb6
          go_wp2_with fail
          go_ret
          exact ⟨rfl, H6.out.bw⟩
        · rw [HR.out] at he
          injection he with he1 he2
          have hTs : (T.size : Int) = (Z : Int) := by rw [he1, enc_size, ← hzc]
          subst he2
          have hz65 : (Z : Int) ≤ 65536 := by omega
          clear hzc hg hs he1
          go_wp2_with fail
          refine (wakes_any _).mono ?_
          rintro e W6 ⟨rfl, hb6⟩
          have H6 := Lib.hid (H4.out.run hb6)
          clear hb6
          go_wp2_with fail
          go_ret
          exact ⟨rfl, H6.out.bw⟩
theorem CcfbSize_row (c0 : Array Value) (z0) (w : World) (h : rC w c0.toList z0) :
    Calls Try.prog 7 #[.agg c0] w fun e w' => e = .returned (.bool true) ∧ Below w.heap.size w w' := by
  obtain ⟨r, hr, ok⟩ : ∃ r, CR w (.agg c0) r ∧ okC r := ⟨_, arg_rep h⟩
  exact CcfbSize_any _ r w hr ok
end Go.Proofs.Ytmkaflfhmpddbaa.Ccfb
