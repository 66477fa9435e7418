/- The law BitsFull; no condition but that the arguments are of their kinds. -/
import Derived.Test.YtlbpoenkdnampaaBitsLaw1
namespace Go.Proofs.Ytlbpoenkdnampaa.Bits
open Go.RowKit Go.Proofs.Ytlbpoenkdnampaa.Plain Go.Proofs.Ytlbpoenkdnampaa.Heap Go.Proofs.Ytlbpoenkdnampaa.Open

theorem txt_size (L : List Int) : (txt L).size = (L.length + 7) / 8 := by
  rw [← pk_length L]
  simp [txt, strOfNums, ByteArray.size]
theorem align_wb (B : Nat) (w0 w : World) (L : List Int) (n : Int) (p : Nat) (h : WB 53 B w0 w p L) (hL : L.length ≤ 524288) :
    Calls Try.prog 23 #[.pointer (some ⟨p, 0, none⟩), .int .i64 n] w fun e w' => e = .returned (.tuple #[]) ∧ WB 53 B w0 w' p (aligns L n) := by
  obtain ⟨hp, hB, h0, g, hg, hw⟩ := h
  exact (align_any L n p g w hw hL).mono fun e w' ⟨h1, g', h2, h3⟩ => ⟨h1, WB.fr hp hB h0 hg h2 h3⟩
theorem WB.done {t : TypeId} {B : Nat} {w0 w w' : World} {p : Nat} {L : List Int} (h : WB t B w0 w p L) (hb : Below w.heap.size w w') : Below B w0 w' := below_then h.2.2.1 h.2.1 hb
theorem puts_len {L : List Int} {v : Int} {n : Nat} (hn : n ≤ 32) (hl : L.length + n ≤ 524288) : puts L v n = L ++ bitsOf v n := by
  unfold puts
  rw [if_neg (by omega), Int.toNat_natCast]
theorem puts_over {L : List Int} {v n : Int} (hl : 524288 < (L.length : Int) + n) : puts L v n = L := by
  unfold puts
  rw [if_pos (by omega)]
theorem puts_zero (L : List Int) (v : Int) : puts L v 0 = L := by
  unfold puts
  split
  · rfl
  · simp [bitsOf]
theorem aligns_full {L : List Int} (h : L.length = 524288) : aligns L 64 = L := by
  unfold aligns
  rw [h]
  rw [if_neg (by decide)]
  simp [pad]
/-- A writer that holds so many bits. -/
def WL (t : TypeId) (B : Nat) (w0 w : World) (p n : Nat) : Prop := ∃ L, L.length = n ∧ WB t B w0 w p L
set_option maxHeartbeats 400000 in
theorem BitsFull_any (n v : Int) (w : World) (hv : 0 ≤ v) (hv' : v < 4294967296) :
    Calls Try.prog 7 #[.int .i64 n, .int .u32 v] w fun e w' => e = .returned (.bool true) ∧ Below w.heap.size w w' := by
  have HV := Lib.hid (And.intro hv hv')
  clear hv hv'
  have HA := Lib.hid (mod_walk n 32 (by omega) (by omega))
  obtain ⟨m, hm, ea⟩ := HA.out
  have ea : wrap64 ((IntKind.u64.wrap n).tmod 32) = (m : Int) := ea
  have en : wrap64 (1 + (m : Int)) = 1 + (m : Int) := w64 (by omega) (by omega)
  have HM := Lib.hid hm
  clear HA hm
  go_enter Try.func7, Try.ntmps7
  go_wp2_with fail
  refine (write_wb _).mono ?_
  rintro e w1 ⟨rfl, h1⟩
  have H1 := Lib.hid h1; clear h1
  obtain ⟨p, hp⟩ : ∃ p, p = w.heap.size := ⟨_, rfl⟩
  rw [← hp]
  have H2 := Lib.hid (show WB 53 w.heap.size w w1 p [] by rw [hp]; exact H1.out)
  clear H1 hp
  go_wp2
  simp only [ea, en]
  go_loopw [7] (fun i wr => ∃ k : Nat, k ≤ 16384 ∧ i = .int .i64 k ∧ WL 53 w.heap.size w wr p (32 * k)) (fun i _ => 16384 - (intOf i).toNat)
  case atStart => exact ⟨0, Nat.zero_le _, rfl, ⟨[], rfl, H2.out⟩⟩
  case round =>
    obtain ⟨k, hk, rfl, L, hl, hrp⟩ := hrel
    have HQ := Lib.hid hrp
    have HL := Lib.hid hl
    have HK := Lib.hid hk
    clear hrp hl hk
    by_cases hlt : (k : Int) < 16384
    · have HT := Lib.hid (show (puts L 4294967295 32).length = 32 * (k + 1) by
        have h1 := HL.out
        rw [show (32 : Int) = ((32 : Nat) : Int) from rfl, puts_len (by omega) (by omega), List.length_append, bitsOf_length]
        omega)
      have HL5 := Lib.hid (show L.length ≤ 524288 by have := HL.out; have := HK.out; omega)
      go_wp2_with fail
      refine (put_wb _ _ _ _ _ _ _ HQ.out HL5.out (by decide) (by decide)).mono ?_
      rintro e w3 ⟨rfl, h3⟩
      have H3 := Lib.hid h3; clear h3
      go_wp2
      go_roundw
      case rel => exact ⟨k + 1, by omega, by go_num, ⟨_, HT.out, H3.out⟩⟩
      case measure => simp [intOf]; omega
    · have hk2 : k = 16384 := by have := HK.out; omega
      have HL5 := Lib.hid (show L.length = 524288 by have := HL.out; omega)
      go_wp2_with fail
      refine (text_wb _ _ _ _ _ HQ.out).mono ?_
      rintro e w3 ⟨rfl, rfl⟩
      have hsz : ((txt L).size : Int) = 65536 := by rw [txt_size, HL5.out]; rfl
      go_wp2_with fail
      refine (put_wb _ _ _ _ _ _ _ HQ.out (by rw [HL5.out]; exact Nat.le_refl _) HV.out.1 HV.out.2).mono ?_
      rintro e w4 ⟨rfl, h4⟩
      rw [puts_over (by rw [HL5.out]; omega)] at h4
      have H4 := Lib.hid h4; clear h4
      go_wp2_with fail
      refine (put_wb _ _ _ _ _ _ _ H4.out (by rw [HL5.out]; exact Nat.le_refl _) HV.out.1 HV.out.2).mono ?_
      rintro e w5 ⟨rfl, h5⟩
      rw [puts_zero] at h5
      have H5 := Lib.hid h5; clear h5
      go_wp2_with fail
      refine (align_wb _ _ _ _ _ _ H5.out (by rw [HL5.out]; exact Nat.le_refl _)).mono ?_
      rintro e w6 ⟨rfl, h6⟩
      rw [aligns_full HL5.out] at h6
      have H6 := Lib.hid h6; clear h6
      go_wp2_with fail
      refine (text_wb _ _ _ _ _ H6.out).mono ?_
      rintro e w7 ⟨rfl, rfl⟩
      go_wp2_with fail
      refine (wakes_any _).mono ?_
      rintro e w8 ⟨rfl, hb⟩
      go_wp2
      go_ret
      exact ⟨rfl, H6.out.done hb⟩
theorem BitsFull_row (n v : Int) (w : World) (_ : (Lit.int .i64 n).wf = true) (h : (Lit.int .u32 v).wf = true) :
    Calls Try.prog 7 #[.int .i64 n, .int .u32 v] w fun e w' => e = .returned (.bool true) ∧ Below w.heap.size w w' := by
  have hv : 0 ≤ v ∧ v ≤ 4294967295 := by
    simpa [Lit.wf, IntKind.min, IntKind.max, IntKind.bits, IntKind.signed] using h
  exact BitsFull_any n v w hv.1 (by omega)
end Go.Proofs.Ytlbpoenkdnampaa.Bits
