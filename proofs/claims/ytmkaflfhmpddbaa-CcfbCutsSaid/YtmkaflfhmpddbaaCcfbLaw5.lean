/- CcfbCuts: a body that is cut off is another one, or none. -/
import Derived.Test.YtmkaflfhmpddbaaCcfbLaw3
import Derived.Test.YtmkaflfhmpddbaaCcfbLaw2
namespace Go.Proofs.Ytmkaflfhmpddbaa.Ccfb
open Go.RowKit Go.Proofs.Ytmkaflfhmpddbaa.Plain Go.Proofs.Ytmkaflfhmpddbaa.Heap Go.Proofs.Ytmkaflfhmpddbaa.Open Go.Proofs.Ytmkaflfhmpddbaa.Rows Go.Proofs.Ytmkaflfhmpddbaa.Bits
/-- How many packets blocks tell. -/
def cntBs (bs : List Bl) : Nat := (bs.map fun b => b.2.2.length).sum
theorem cntBs_append (a b : List Bl) : cntBs (a ++ b) = cntBs a + cntBs b := by simp [cntBs]
theorem cntBs_take {bs : List Bl} {i : Nat} {x : Bl} (h : bs[i]? = some x) : cntBs (bs.take (i + 1)) = cntBs (bs.take i) + x.2.2.length := by
  obtain ⟨hl, rfl⟩ := List.getElem?_eq_some_iff.1 h
  rw [List.take_succ_eq_append_getElem hl, cntBs_append]
  simp [cntBs]
theorem cntBs_size (bs : List Bl) : 2 * cntBs bs ≤ sizeBs bs := by
  induction bs with
  | nil => exact Nat.le_refl _
  | cons b bs ih =>
    rw [sizeBs_cons]
    have : cntBs (b :: bs) = b.2.2.length + cntBs bs := by simp [cntBs]
    rw [this]
    unfold sizeB
    omega
theorem cut_count (p : ByteArray) : 2 * cntBs (decC p).1.2.1 ≤ p.size := by
  by_cases h : (decC p).2 = 0
  · have h1 := enc_dec (s := p) (q := (decC p).1) (by rw [← h])
    have h2 := cntBs_size (decC p).1.2.1
    have h3 := h1.2.2.1
    unfold sizeC at h3
    omega
  · rw [dec_err h]
    exact Nat.zero_le _
theorem cut_odd {p : ByteArray} (h : p.size ≤ 65536) (h2 : p.size % 4 ≠ 0) : (decC p).2 = 90 := by
  unfold decC
  rw [if_neg (by omega), if_pos h2]
theorem cut_other {p : ByteArray} {r : Rep} (h : (decC p).2 = 0) (hs : p.size < sizeC r) : same (decC p).1 r = false := by
  have h1 := enc_dec (s := p) (q := (decC p).1) (by rw [← h])
  have h3 := h1.2.2.1
  unfold same
  refine decide_eq_false fun e => ?_
  rw [e] at h3
  omega
theorem at_walk (a : Int) (M : Nat) (h : 0 < M) (h' : M ≤ 65536) : ∃ n : Nat, n < M ∧ wrap64 ((IntKind.u64.wrap a).tmod (M : Int)) = (n : Int) := by
  have e : ∀ n, IntKind.u64.wrap n = n % 18446744073709551616 := fun n => by simp [IntKind.wrap, IntKind.bits, IntKind.signed]
  rw [e]
  have h0 : 0 ≤ a % 18446744073709551616 := by omega
  generalize a % 18446744073709551616 = x at *
  rw [Int.tmod_eq_emod_of_nonneg h0]
  have h1 := Int.emod_nonneg x (show (M : Int) ≠ 0 by omega)
  have h2 := Int.emod_lt_of_pos x (show (0 : Int) < (M : Int) by omega)
  obtain ⟨n, hn⟩ := Int.eq_ofNat_of_zero_le h1
  rw [hn] at h2 ⊢
  exact ⟨n, by omega, w64 (by omega) (by omega)⟩
theorem run_cut (w : World) (T : ByteArray) (K : Nat) (h : K ≤ T.size) : (Instr.slice 9 (.string T) none (some (.int .i64 (K : Int))) none).run Try.prog w = .ok (.string (T.extract 0 K)) w := by
  have := run_slice_string_h (P := Try.prog) w 9 T Try.underlying9 .i64 (K : Int) (by omega) (by omega)
  simpa using this
set_option maxRecDepth 10000 in
set_option maxHeartbeats 4000000 in
theorem CcfbCuts_any (v : Value) (r : Rep) (a : Int) (w : World) (h : CR w v r) (ok : okC r) :
    Calls Try.prog 6 #[v, .int .i64 a] w fun e w' => e = .returned (.bool true) ∧ Below w.heap.size w w' := by
  obtain ⟨A, c, rfl, hbl⟩ := h
  obtain ⟨b0, hb0⟩ : ∃ b0, b0 = w.heap.size := ⟨_, rfl⟩
  obtain ⟨W0, hW0⟩ : ∃ W0, W0 = w.alloc (.cells #[.int .u32 r.1, .slice A r.2.1.length c, .int .u32 r.2.2] 25) := ⟨_, rfl⟩
  have H0 := Lib.hid (show BX w W0 b0 r A c by rw [hb0]; exact BX.new (Below.refl _ w) hbl hW0)
  have HE := Lib.hid hb0
  have HW := Lib.hid hW0
  have OK := Lib.hid ok
  have x0 := H0.out.c0
  have x1 := H0.out.c1
  have x2 := H0.out.c2
  clear hbl ok hb0 hW0
  go_enter Try.func6, Try.ntmps6
  go_upto_region 1 with fail
  rw [← HW.out, ← HE.out]
  go_wp2_with fail
  refine (large_any _ r W0 H0.out.cr).mono ?_
  rintro e W1 ⟨lg, rfl, hsm, hb1⟩
  have H1 := Lib.hid (H0.out.run hb1)
  have y0 := H1.out.c0
  have y1 := H1.out.c1
  have y2 := H1.out.c2
  clear hb1 x0 x1 x2
  cases lg with
  | true =>
    clear hsm
    go_wp2_with fail
    refine (wakes_any _).mono ?_
    rintro e W2 ⟨rfl, hb2⟩
    have H2 := Lib.hid (H1.out.run hb2)
    clear hb2
    go_wp2_with fail
    go_ret
    exact ⟨rfl, H2.out.bw⟩
  | false =>
    have HSM := Lib.hid (hsm rfl)
    clear hsm
    go_wp2_with fail
    refine (copy_any _ r W1 H1.out.cr HSM.out).mono ?_
    rintro e W2 ⟨v', rfl, hcr, hb2⟩
    have H2 := Lib.hid (H1.out.run hb2)
    have HCR := Lib.hid hcr
    clear hb2 hcr y0 y1 y2
    go_wp2_with fail
    refine (encode_any _ r W2 HCR.out OK.out).mono ?_
    rintro e W3 ⟨rfl, hb3⟩
    have H3 := Lib.hid (H2.out.run hb3)
    have x0 := H3.out.c0
    have x1 := H3.out.c1
    have x2 := H3.out.c2
    clear hb3 HCR
    rcases enc_ways r with ⟨hg, he⟩ | ⟨hg, hs, he⟩ | ⟨hg, hs, he⟩
    · rw [he]
      clear hg he
      simp only
      go_wp2_with fail
      refine (wakes_any _).mono ?_
      rintro e W6 ⟨rfl, hb6⟩
      have H6 := Lib.hid (H3.out.run hb6)
      clear hb6
      go_wp2_with fail
      go_ret
      exact ⟨rfl, H6.out.bw⟩
    · rw [he]
      clear hg he hs
      simp only
      go_wp2_with fail
      refine (wakes_any _).mono ?_
      rintro e W6 ⟨rfl, hb6⟩
      have H6 := Lib.hid (H3.out.run hb6)
      clear hb6
      go_wp2_with fail
      go_ret
      exact ⟨rfl, H6.out.bw⟩
    · rw [he]
      simp only
      obtain ⟨T, hT⟩ : ∃ T, txt (encC r) = T := ⟨_, rfl⟩
      obtain ⟨M, hM⟩ : ∃ M, M = sizeC r := ⟨_, rfl⟩
      have hTs : (T.size : Int) = (M : Int) := by rw [← hT, enc_size, hM]
      have HTS := Lib.hid hTs
      have hM8 : 8 ≤ (M : Int) := by rw [hM]; unfold sizeC; omega
      have hM6 : (M : Int) ≤ 65536 := by omega
      have HM := Lib.hid hM
      obtain ⟨K, hK, ek⟩ := at_walk a M (by omega) (by omega)
      have hTn : T.toList.isEmpty = false := by
        rw [ByteArray.toList_eq]
        cases h : T.data.toList with
        | nil =>
          have h1 : T.data.toList.length = T.size := Array.length_toList
          rw [h] at h1
          have h2 : (0 : Nat) = T.size := h1
          omega
        | cons _ _ => rfl
      rw [hT]
      clear hg he hs hT hM
      obtain ⟨P, hP⟩ : ∃ P, P = T.extract 0 K := ⟨_, rfl⟩
      have hsl : ∀ wx, (Instr.slice 9 (.string T) none (some (.int .i64 (K : Int))) none).run Try.prog wx = .ok (.string P) wx := fun wx => by rw [hP]; exact run_cut wx T K (by omega)
      have HPS := Lib.hid (show P.size = K by rw [hP, ByteArray.size_extract]; omega)
      have HK := Lib.hid hK
      clear hP hK
      go_upto_region 9 with fail
      rw [ek]
      clear hTn hTs hM8 ek HTS
      have HM6 := Lib.hid hM6
      clear hM6
      go_wp2_with fail
      refine (decode_any P W3).mono ?_
      rintro e W8 ⟨v8, rfl, ⟨A8, c8, rfl, hbl8⟩, hb8⟩
      have H8 := Lib.hid (H3.out.run hb8)
      have ODD := Lib.hid (show K % 4 ≠ 0 → (decC P).2 = 90 from fun h => cut_odd (by rw [HPS.out]; have := HK.out; have := HM6.out; omega) (by rw [HPS.out]; exact h))
      have OTH := Lib.hid (show (decC P).2 = 0 → same (decC P).1 r = false from fun h => cut_other h (by rw [HPS.out, ← HM.out]; exact HK.out))
      have CNT := Lib.hid (show 2 * cntBs (decC P).1.2.1 ≤ K from HPS.out ▸ cut_count P)
      have SM := Lib.hid (dec_small P)
      generalize decC P = D at hbl8 ODD OTH CNT SM
      obtain ⟨q, F⟩ := D
      simp only at hbl8 ODD OTH CNT SM
      obtain ⟨b9, hb9⟩ : ∃ b9, b9 = W8.heap.size := ⟨_, rfl⟩
      obtain ⟨W9, hW9⟩ : ∃ W9, W9 = W8.alloc (.cells #[.int .u32 q.1, .slice A8 q.2.1.length c8, .int .u32 q.2.2] 25) := ⟨_, rfl⟩
      have HI9 := Lib.hid (show BX w W9 b9 q A8 c8 by rw [hb9]; exact BX.new H8.out.bw hbl8 hW9)
      have H9 := Lib.hid (H8.out.run (w' := W9) (by rw [hW9]; exact (Below.refl _ W8).alloc (Nat.le_refl _) _))
      have HE9 := Lib.hid hb9
      have HW9 := Lib.hid hW9
      have y0 := H9.out.c0
      have y1 := H9.out.c1
      have y2 := H9.out.c2
      have i0 := HI9.out.c0
      have i1 := HI9.out.c1
      have i2 := HI9.out.c2
      clear hbl8 hb8 hb9 hW9 x0 x1 x2 hsl
      simp only
      go_upto_region 10 with fail
      rw [← HW9.out, ← HE9.out]
      go_cut [59] (fun tv wx => tv = .bool false ∧ BX w wx b0 r A c ∧ BX w wx b9 q A8 c8)
      case first =>
        by_cases hk4 : K % 4 = 0
        · have hk : (K : Int).tmod 4 = 0 := by rw [Int.tmod_eq_emod_of_nonneg (by omega)]; omega
          by_cases hF : F = 0
          · subst hF
            have OT := Lib.hid (OTH.out rfl)
            clear hk4
            go_wp2_with fail
            refine (same_any _ _ q r W9 HI9.out.cr H9.out.cr SM.out).mono ?_
            rw [OT.out]
            rintro e W10 ⟨rfl, hb10⟩
            have H10 := Lib.hid (H9.out.run hb10)
            have HI10 := Lib.hid (HI9.out.run hb10)
            clear hb10
            go_wp2_with fail
            go_meet
            exact ⟨rfl, H10.out, HI10.out⟩
          · have hF' : (F == 0) = false := by rw [beq_eq_false_iff_ne]; exact hF
            clear hk4
            go_wp2_with fail
            go_meet
            exact ⟨rfl, H9.out, HI9.out⟩
        · have hF := ODD.out hk4
          obtain ⟨Q, hk⟩ : ∃ Q : Int, (K : Int).tmod 4 = Q := ⟨_, rfl⟩
          have hQ0 : (Q == 0) = false := by rw [beq_eq_false_iff_ne, ← hk, Int.tmod_eq_emod_of_nonneg (by omega)]; omega
          have hQ1 : (Q != 0) = true := by unfold bne; rw [hQ0]; rfl
          subst hF
          clear hk4 hQ0
          go_wp2_with fail
          go_meet
          exact ⟨rfl, H9.out, HI9.out⟩
      case rest =>
        obtain ⟨rfl, hca, hcb⟩ := hcut
        rename World => W11
        rename_i K0 hK0
        have H11 := Lib.hid hca
        have HI11 := Lib.hid hcb
        clear hca hcb y0 y1 y2 i0 i1 i2
        refine hK0 _ _ ?_
        obtain ⟨n, hn⟩ : ∃ n, n = q.2.1.length := ⟨_, rfl⟩
        have HN := Lib.hid hn
        have hn1 : (n : Int) ≤ 1000 := by have := SM.out.1; omega
        clear hn
        go_wp2_with fail
        go_loopw [10, 11] (fun sv iv wx => ∃ (i Z : Nat), (i : Int) ≤ (n : Int) ∧ iv = .int .i64 (i : Int) ∧ sv = .int .i64 (Z : Int) ∧ Z = cntBs (q.2.1.take i) ∧ Z ≤ 10000 * i ∧ Below W11.heap.size W11 wx) (fun _ iv _ => ((n : Int) - intOf iv).toNat)
        case atStart => exact ⟨0, 0, by omega, rfl, rfl, by simp [cntBs], by omega, Below.refl _ _⟩
        case round =>
          obtain ⟨i, Z, hi, rfl, rfl, hz, hzb, hbw⟩ := hrel
          have H12 := Lib.hid (HI11.out.run hbw)
          have HB12 := Lib.hid hbw
          have HZ := Lib.hid hz
          have t1 := H12.out.c1
          rw [← HN.out] at t1
          have hzb' : (Z : Int) ≤ 10000 * (i : Int) := by omega
          clear hz hbw hzb
          by_cases hil : (i : Int) < (n : Int)
          · have hblk := H12.out.bl
            rw [← HN.out] at hblk
            obtain ⟨g, off, x, rfl, hg, hx, hxm, z0, z1, MA, mc, z2, hrd⟩ := hblk.at (i := i) (by omega)
            have HST := Lib.hid (cntBs_take hx)
            have hm1 := SM.out.2 x hxm
            obtain ⟨m, hm⟩ : ∃ m, m = x.2.2.length := ⟨_, rfl⟩
            rw [← hm] at z2 hm1
            have hm1' : (m : Int) ≤ 10000 := by omega
            have HMM := Lib.hid hm
            clear hblk hx hxm hrd hm hm1
            go_wp2_with fail
            go_roundw
            case rel => exact ⟨i + 1, Z + m, by omega, by go_num, by go_num, by rw [HST.out, ← HMM.out, ← HZ.out], by omega, HB12.out⟩
            case measure => exact measN n i hil
          · have hin : i = n := by omega
            have h2 : 2 * (Z : Int) ≤ (K : Int) := by
              have h1 := HZ.out
              rw [hin, HN.out, List.take_length] at h1
              have := CNT.out
              rw [← h1] at this
              omega
            go_wp2_with fail
            refine (wakes_any _).mono ?_
            rintro e W13 ⟨rfl, hb13⟩
            have H13 := Lib.hid (H12.out.run hb13)
            clear hb13
            go_wp2_with fail
            go_ret
            exact ⟨rfl, H13.out.bw⟩
theorem CcfbCuts_row (c0 : Array Value) (z0) (a : Int) (w : World) (h : rC w c0.toList z0) (_ : (Lit.int .i64 a).wf = true) :
    Calls Try.prog 6 #[.agg c0, .int .i64 a] w fun e w' => e = .returned (.bool true) ∧ Below w.heap.size w w' := by
  obtain ⟨r, hr, ok⟩ : ∃ r, CR w (.agg c0) r ∧ okC r := ⟨_, arg_rep h⟩
  exact CcfbCuts_any _ r a w hr ok
end Go.Proofs.Ytmkaflfhmpddbaa.Ccfb
