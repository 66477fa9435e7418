/- RtpCuts: a header that is cut off anywhere is short. -/
import Derived.Test.YtccljgohekmjkaaRtpLaw
import Derived.Test.YtccljgohekmjkaaRtpBack3
namespace Go.Proofs.Ytccljgohekmjkaa.Rtp
open Go.RowKit Go.Proofs.Ytccljgohekmjkaa.Plain Go.Proofs.Ytccljgohekmjkaa.Heap Go.Proofs.Ytccljgohekmjkaa.Open Go.Proofs.Ytccljgohekmjkaa.Rows Go.Proofs.Ytccljgohekmjkaa.Bits
theorem at_walk (a : Int) (M : Nat) (h : 0 < M) (h' : M ≤ 65536) : ∃ n : Nat, n < M ∧ wrap64 ((IntKind.u64.wrap a).tmod (M : Int)) = (n : Int) := by
  have e : ∀ n, IntKind.u64.wrap n = n % 18446744073709551616 := fun n => by simp [IntKind.wrap, IntKind.bits, IntKind.signed]
  rw [e]
  have h0 : 0 ≤ a % 18446744073709551616 := by omega
  generalize a % 18446744073709551616 = x at *
  rw [Int.tmod_eq_emod_of_nonneg h0]
  have h1 := Int.emod_nonneg x (show (M : Int) ≠ 0 by omega)
  have h2 := Int.emod_lt_of_pos x (show (0 : Int) < (M : Int) by omega)
  obtain ⟨n, hn⟩ := Int.eq_ofNat_of_zero_le h1
  rw [hn] at h2 ⊢
  exact ⟨n, by omega, w64 (by omega) (by omega)⟩
theorem run_cut (w : World) (T : ByteArray) (K : Nat) (h : K ≤ T.size) : (Instr.slice 9 (.string T) none (some (.int .i64 (K : Int))) none).run Try.prog w = .ok (.string (T.extract 0 K)) w := by
  have := run_slice_string_h (P := Try.prog) w 9 T Try.underlying9 .i64 (K : Int) (by omega) (by omega)
  simpa using this
theorem ag_cut (T : ByteArray) (K : Nat) : Ag (T.extract 0 K) T K := fun a ha => by
  unfold bt
  have h : (T.extract 0 K).data.toList = T.data.toList.take K := by simp [ByteArray.data_extract]
  rw [h]
  congr 3
  simp only [List.getD_eq_getElem?_getD]
  rw [List.getElem?_take_of_lt (by omega)]
set_option maxRecDepth 10000 in
set_option maxHeartbeats 4000000 in
theorem RtpCuts_any (v : Value) (h : Hd) (a : Int) (w : World) (k : HR w v h) (ok : okH h) :
    Calls Try.prog 6 #[v, .int .i64 a] w fun e w' => e = .returned (.bool true) ∧ Below w.heap.size w w' := by
  obtain ⟨A, c, B, d, rfl, k1, k2⟩ := k
  obtain ⟨b0, hb0⟩ : ∃ b0, b0 = w.heap.size := ⟨_, rfl⟩
  obtain ⟨W0, hW0⟩ : ∃ W0, W0 = w.alloc (.cells (hcs h A c B d) 26) := ⟨_, rfl⟩
  have H0 := Lib.hid (show HX w W0 b0 h A c B d by rw [hb0]; exact HX.new (Below.refl _ w) k1 k2 hW0)
  have HE := Lib.hid hb0
  have HW := Lib.hid hW0
  have OK := Lib.hid ok
  have x0 := H0.out.c0
  have x1 := H0.out.c1
  have x2 := H0.out.c2
  have x3 := H0.out.c3
  have x4 := H0.out.c4
  have x5 := H0.out.c5
  have x6 := H0.out.c6
  clear k1 k2 ok hb0 hW0
  go_enter Try.func6, Try.ntmps6
  go_upto_region 1 with fail
  rw [← HW.out, ← HE.out]
  go_wp2_with fail
  refine (large_any _ h W0 H0.out.hr).mono ?_
  rintro e W1 ⟨lg, rfl, hsm, hb1⟩
  have H1 := Lib.hid (H0.out.run hb1)
  have y0 := H1.out.c0
  have y1 := H1.out.c1
  have y2 := H1.out.c2
  have y3 := H1.out.c3
  have y4 := H1.out.c4
  have y5 := H1.out.c5
  have y6 := H1.out.c6
  clear hb1 x0 x1 x2 x3 x4 x5 x6
  cases lg with
  | true =>
    clear hsm
    go_wp2_with fail
    refine (wakes_any _).mono ?_
    rintro e W2 ⟨rfl, hb2⟩
    have H2 := Lib.hid (H1.out.run hb2)
    clear hb2
    go_wp2_with fail
    go_ret
    exact ⟨rfl, H2.out.bw⟩
  | false =>
    have HSM := Lib.hid (hsm rfl)
    clear hsm
    go_wp2_with fail
    refine (copy_any _ h W1 H1.out.hr HSM.out).mono ?_
    rintro e W2 ⟨v', rfl, hhr, hb2⟩
    have H2 := Lib.hid (H1.out.run hb2)
    have HHR := Lib.hid hhr
    clear hhr hb2 y0 y1 y2 y3 y4 y5 y6
    go_wp2_with fail
    refine (encode_any _ h W2 HHR.out OK.out).mono ?_
    rintro e W3 ⟨rfl, hb3⟩
    have H3 := Lib.hid (H2.out.run hb3)
    clear hb3 HHR
    cases hgd : goodH h with
    | false =>
      rw [encR_bad hgd]
      clear hgd
      simp only
      go_wp2_with fail
      refine (wakes_any _).mono ?_
      rintro e W9 ⟨rfl, hb9⟩
      have H9 := Lib.hid (H3.out.run hb9)
      clear hb9
      go_wp2_with fail
      go_ret
      exact ⟨rfl, H9.out.bw⟩
    | true =>
      rw [encR_good hgd]
      simp only
      obtain ⟨T, hT⟩ : ∃ T, txt (encB h) = T := ⟨_, rfl⟩
      obtain ⟨M, hM⟩ : ∃ M, M = sizeH h := ⟨_, rfl⟩
      have hTs : (T.size : Int) = (M : Int) := by rw [← hT, enc_tsize, hM]
      have hM8 : 8 ≤ (M : Int) := by rw [hM]; unfold sizeH; omega
      have hM6 : (M : Int) ≤ 65536 := by
        rw [hM]
        have h1 := extLen_bd hgd
        have h2 := (goodR_yes (show goodR h = true from by unfold goodH at hgd; exact (Bool.and_eq_true_iff.1 hgd).1)).2.2.2.2.1
        unfold sizeH extW
        split <;> omega
      obtain ⟨K, hK, ek⟩ := at_walk a M (by omega) (by omega)
      have hTn : T.toList.isEmpty = false := by
        rw [ByteArray.toList_eq]
        cases h : T.data.toList with
        | nil =>
          have h1 : T.data.toList.length = T.size := Array.length_toList
          rw [h] at h1
          have h2 : (0 : Nat) = T.size := h1
          omega
        | cons _ _ => rfl
      obtain ⟨P, hP⟩ : ∃ P, P = T.extract 0 K := ⟨_, rfl⟩
      have hsl : ∀ wx, (Instr.slice 9 (.string T) none (some (.int .i64 (K : Int))) none).run Try.prog wx = .ok (.string P) wx := fun wx => by rw [hP]; exact run_cut wx T K (by omega)
      have hPs : P.size = K := by rw [hP, ByteArray.size_extract]; omega
      have HD := Lib.hid (show decH P = (zeroH, 0, 60) from decH_walk OK.out hgd (S := P) (K := K) (R := .error 60) (by rw [hT, hP]; exact ag_cut T K) (Way.cut hPs.symm (by rw [← hM]; exact hK)))
      have HPL := Lib.hid (show P.size ≤ 1099511627776 by omega)
      rw [hT]
      clear hgd hT hM hP hK hPs
      go_upto_region 9 with fail
      rw [ek]
      clear hTn hTs hM8 ek hM6
      go_wp2_with fail
      refine (decode_any P W3 HPL.out).mono ?_
      unfold DecPost
      rw [HD.out]
      rintro e W4 ⟨v4, rfl, ⟨A4, c4, B4, d4, rfl, g1, g2⟩, hb4⟩
      have H4 := Lib.hid (H3.out.run (hb4.alloc hb4.size (.cells (hcs zeroH A4 c4 B4 d4) 26)))
      clear g1 g2 hb4 hsl
      simp only
      go_wp2_with fail
      refine (wakes_any _).mono ?_
      rintro e W9 ⟨rfl, hb9⟩
      have H9 := Lib.hid (H4.out.run hb9)
      clear hb9
      go_wp2_with fail
      go_ret
      exact ⟨rfl, H9.out.bw⟩
theorem RtpCuts_row (c0 : Array Value) (z0) (a : Int) (w : World) (h : rH w c0.toList z0) (_ : (Lit.int .i64 a).wf = true) :
    Calls Try.prog 6 #[.agg c0, .int .i64 a] w fun e w' => e = .returned (.bool true) ∧ Below w.heap.size w w' := by
  obtain ⟨r, hr, ok⟩ : ∃ r, HR w (.agg c0) r ∧ okH r := ⟨_, arg_rep h⟩
  exact RtpCuts_any _ r a w hr ok
end Go.Proofs.Ytccljgohekmjkaa.Rtp
