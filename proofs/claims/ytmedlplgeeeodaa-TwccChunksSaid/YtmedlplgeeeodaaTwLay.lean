/- The chunks that the program lays: alike, run, row, lays; no condition but the ranges in each. -/
import Derived.Test.YtmedlplgeeeodaaTwEnc
import Derived.Test.YtmedlplgeeeodaaBitsY
namespace Go.Proofs.Ytmedlplgeeeodaa.Tw
open Go.RowKit Go.Proofs.Ytmedlplgeeeodaa.Plain Go.Proofs.Ytmedlplgeeeodaa.Heap Go.Proofs.Ytmedlplgeeeodaa.Open Go.Proofs.Ytmedlplgeeeodaa.Rows Go.Proofs.Ytmedlplgeeeodaa.Bits

set_option maxRecDepth 10000 in
set_option maxHeartbeats 2000000 in
theorem alike_any (A : Option Addr) (n c : Nat) (l : List Int) (w : World) (hr : Rd w 1 A n (nums .i64 l)) (hn : (n : Int) ≤ 1099511627776) :
    Calls Try.prog 42 #[.slice A n c] w fun e w' => e = .returned (.int .i64 (alk l : Int)) ∧ ∃ q, w' = w.drewN q := by
  have hl : l.length = n := by have := hr.1; simpa [nums] using this
  have HR := Lib.hid hr
  have HL := Lib.hid hl
  have hal := alk_le l
  have HAL := Lib.hid (show alk l ≤ n by omega)
  obtain ⟨M, hM⟩ : ∃ M, M = alk l := ⟨_, rfl⟩
  have HM := Lib.hid hM
  rw [← hM] at HAL ⊢
  have hMn : (M : Int) ≤ (n : Int) := by have := HAL.out; omega
  clear hr hl hal hM
  go_enter Try.func42, Try.ntmps42
  go_wp2
  go_loopw [3] (fun i wr => ∃ k q : Nat, (k : Int) ≤ (M : Int) ∧ i = .int .i64 (k : Int) ∧ wr = w.drewN q) (fun i _ => ((n : Int) - intOf i).toNat)
  case atStart => exact ⟨0, 0, by omega, rfl, rfl⟩
  case round =>
    obtain ⟨k, q, hk, rfl, rfl⟩ := hrel
    by_cases hlt : (k : Int) < (n : Int)
    · obtain ⟨g, off, x, e, hg, hx, _, y⟩ := int_at HR.out (k := k) (by omega)
      subst e
      obtain ⟨g', off', x0, e, _, hx0, _, y0⟩ := int_at HR.out (k := 0) (by omega)
      injection e with e
      injection e with e1 e2
      subst e1 e2
      have h00 : l.getD 0 0 = x0 := getD_of hx0
      have HX := Lib.hid hx
      rw [Nat.add_zero] at y0
      by_cases hkm : (k : Int) < (M : Int)
      · have hxe : x = x0 := by rw [← h00]; exact alk_at (by have := HM.out; omega) HX.out
        subst hxe
        clear hx hx0 h00 hg
        have t1 : decide ((k : Int) < (n : Int)) = true := decide_eq_true hlt
        go_wp2_with fail
        go_quiet (fail)
        go_wp2
        go_roundw
        case rel => exact ⟨k + 1, _, by omega, by go_num, rfl⟩
        case measure => simp [intOf]; omega
      · have hkM : k = alk l := by have := HM.out; omega
        have hxe : (x == x0) = false := by
          rw [beq_eq_false_iff_ne, ← h00]
          exact alk_stop (by rw [← hkM]; exact HX.out)
        have HKM := Lib.hid (show k = M by have := HM.out; omega)
        clear hx hx0 h00 hg hkM
        have t1 : decide ((k : Int) < (n : Int)) = true := decide_eq_true hlt
        go_wp2_with fail
        go_quiet (fail)
        go_wp2
        go_ret
        exact ⟨by rw [HKM.out]; rfl, _, by rw [World.drewN_drewN]⟩
    · have t1 : decide (k < n) = false := decide_eq_false (by omega)
      have HKM := Lib.hid (show k = M by omega)
      clear hlt hk hMn
      go_wp2_with fail
      go_quiet (fail)
      go_wp2
      go_ret
      exact ⟨by rw [HKM.out]; rfl, _, by rw [World.drewN_drewN]⟩
theorem Rd.kept0 {S : Nat → Prop} {w w' : World} {sz : Nat} {A : Option Addr} {n : Nat} {xs : List Value} (h : Rd w sz A n xs) (hk : Kept S w w') (hS : ∀ b off, A = some ⟨b, off, none⟩ → 0 < n → ¬ S b) : Rd w' sz A n xs :=
  ⟨h.1, fun hn => by
    obtain ⟨b, off, e, hlt, hc⟩ := h.2 hn
    exact ⟨b, off, e, Nat.lt_of_lt_of_le hlt hk.size, fun j u hj => (hk.cell (p := ⟨b, off + j, none⟩) hlt (hS b off e hn)).trans (hc j u hj)⟩⟩
/-- The layer at block b: its writer, what is left. -/
structure LY (w0 w : World) (p b : Nat) (A : Option Addr) (c : Nat) (l : List Int) (E : Nat → Prop) (L : List Int) : Prop where
  wx : WX 70 w0 w p E L
  eb : E b
  ea : ∀ g off, A = some ⟨g, off, none⟩ → 0 < l.length → E g
  c0 : w0.cell? ⟨b, 0, none⟩ = some (.pointer (some ⟨p, 0, none⟩))
  c1 : w0.cell? ⟨b, 1, none⟩ = some (.slice A l.length c)
  rd : Rd w0 1 A l.length (nums .i64 l)
  cn : l.length ≤ c
section
variable {w0 w w' : World} {p b : Nat} {A : Option Addr} {c : Nat} {l : List Int} {E : Nat → Prop} {L : List Int}
theorem LY.x0 (h : LY w0 w p b A c l E L) : w.cell? ⟨b, 0, none⟩ = some (.pointer (some ⟨p, 0, none⟩)) := h.wx.cell h.eb h.c0
theorem LY.x1 (h : LY w0 w p b A c l E L) : w.cell? ⟨b, 1, none⟩ = some (.slice A l.length c) := h.wx.cell h.eb h.c1
theorem LY.rw (h : LY w0 w p b A c l E L) : Rd w 1 A l.length (nums .i64 l) := Rd.kept0 h.rd h.wx.kp (fun g off e hn he => he (h.ea g off e hn))
theorem LY.put (h : LY w0 w p b A c l E L) (hL : L.length ≤ 524288) {v : Int} (hv : 0 ≤ v) (hv' : v < 4294967296) (n : Int) :
    Calls Try.prog 19 #[.pointer (some ⟨p, 0, none⟩), .int .u32 v, .int .i64 n] w fun e w' => e = .returned (.tuple #[]) ∧ LY w0 w' p b A c l E (puts L v n) :=
  (h.wx.put hL hv hv' n).mono fun _ _ ⟨h1, h2⟩ => ⟨h1, ⟨h2, h.eb, h.ea, h.c0, h.c1, h.rd, h.cn⟩⟩
theorem LY.putn (h : LY w0 w p b A c l E L) (n : Nat) (N : Int) (hN : N = (n : Int)) {v : Int} (hn : n ≤ 32) (hL : L.length + n ≤ 524288) (hv : 0 ≤ v) (hv' : v < 4294967296) :
    Calls Try.prog 19 #[.pointer (some ⟨p, 0, none⟩), .int .u32 v, .int .i64 N] w fun e w' => e = .returned (.tuple #[]) ∧ LY w0 w' p b A c l E (L ++ bitsOf v n) := by
  subst hN
  rw [← puts_fit hn hL]
  exact h.put (by omega) hv hv' _
theorem LY.run (h : LY w0 w p b A c l E L) (hk : Kept (fun _ => False) w w') : LY w0 w' p b A c l E L := ⟨h.wx.run hk, h.eb, h.ea, h.c0, h.c1, h.rd, h.cn⟩
end
set_option maxRecDepth 10000 in
set_option maxHeartbeats 2000000 in
theorem run_any {w0 w : World} {p b : Nat} {A : Option Addr} {c : Nat} {l : List Int} {E : Nat → Prop} {L : List Int} (h : LY w0 w p b A c l E L) (hL : L.length + 16 ≤ 524288) (hl : l ≠ []) (hn : l.length ≤ 4096) (h0 : 0 ≤ l.getD 0 0) (h2 : l.getD 0 0 ≤ 2) :
    Calls Try.prog 43 #[.pointer (some ⟨b, 0, none⟩)] w fun e w' => e = .returned (.int .i64 (alk l : Int)) ∧ LY w0 w' p b A c l E (L ++ (bitsOf 0 1 ++ bitsOf (l.getD 0 0) 2 ++ bitsOf (alk l : Int) 13)) := by
  have H := Lib.hid h
  have HL := Lib.hid hL
  obtain ⟨n, hnn⟩ : ∃ n, n = l.length := ⟨_, rfl⟩
  obtain ⟨M, hM⟩ : ∃ M, M = alk l := ⟨_, rfl⟩
  have hM1 : 1 ≤ (M : Int) := by have := alk_pos hl; omega
  have hM2 : (M : Int) ≤ 4096 := by have := alk_le l; omega
  have hn0 : 0 < n := by rw [hnn]; exact List.length_pos_iff.2 hl
  have hz : (n : Int) ≤ 4096 := by omega
  have x0 := h.x0
  have x1 := h.x1
  rw [← hnn] at x1
  have HR := Lib.hid (show Rd w 1 A n (nums .i64 l) by rw [hnn]; exact h.rw)
  obtain ⟨g, off, v0, e, hg, hv0, _, y0⟩ := int_at HR.out (k := 0) hn0
  subst e
  have hv : l.getD 0 0 = v0 := getD_of hv0
  rw [Nat.add_zero] at y0
  rw [hv] at h0 h2 ⊢
  rw [← hM]
  have HM := Lib.hid hM
  have HN := Lib.hid hnn
  have HN0 := Lib.hid hn0
  have HV := Lib.hid hv
  clear h hL hl hn hnn hM hn0 hv0 hv hg
  go_enter Try.func43, Try.ntmps43
  go_wp2_with fail
  refine (alike_any _ n c l w HR.out (by omega)).mono ?_
  rw [← HM.out]
  rintro e w1 ⟨rfl, q, rfl⟩
  have H1 := Lib.hid (H.out.run ((Kept.refl (fun _ => False) w).drewN q))
  obtain ⟨W1, hW1⟩ : ∃ W1, W1 = w.drewN q := ⟨_, rfl⟩
  rw [← hW1] at H1 ⊢
  have x0' := H1.out.x0
  clear hW1 x0
  go_wp2_with fail
  refine (H1.out.putn 1 1 rfl (by omega) (by have := HL.out; omega) (by omega) (by omega)).mono ?_
  rintro e W2 ⟨rfl, h1⟩
  have H2 := Lib.hid h1
  have z0 := h1.x0
  have z1 := h1.x1
  rw [← HN.out] at z1
  have y2 : W2.cell? ⟨g, off, none⟩ = some (.int .i64 v0) := by
    obtain ⟨g', off', v', e, _, hv', _, y'⟩ := int_at h1.rw (k := 0) (by have := HN.out; have := HN0.out; omega)
    injection e with e
    injection e with e1 e2
    subst e1 e2
    rw [getD_of hv'] at HV
    rw [← HV.out]
    exact y'
  clear h1 x0' x1
  go_wp2_with fail
  have hn0 := HN0.out
  go_still_tail 11, (by kernel_rfl)
  go_wp2_with fail
  refine ((H2.out.run ((Kept.refl (fun _ => False) W2).drew)).putn 2 2 rfl (by omega) (by rw [List.length_append, bitsOf_length]; have := HL.out; omega) (by omega) (by omega)).mono ?_
  rintro e W3 ⟨rfl, h1⟩
  have H3 := Lib.hid h1
  have z0' := h1.x0
  clear h1 z0 z1 y2
  go_wp2_with fail
  refine (H3.out.putn 13 13 rfl (by omega) (by rw [List.length_append, List.length_append, bitsOf_length, bitsOf_length]; have := HL.out; omega) (by omega) (by omega)).mono ?_
  rintro e W4 ⟨rfl, h1⟩
  have H4 := Lib.hid h1
  clear h1 z0'
  go_wp2_with fail
  go_ret
  refine ⟨rfl, ?_⟩
  have h := H4.out
  rw [List.append_assoc, List.append_assoc, ← List.append_assoc (bitsOf 0 1)] at h
  exact h
set_option maxRecDepth 10000 in
set_option maxHeartbeats 2000000 in
theorem row_any {w0 w : World} {p b : Nat} {A : Option Addr} {c : Nat} {l : List Int} {E : Nat → Prop} {L : List Int} (many each : Nat) (h : LY w0 w p b A c l E L) (hL : L.length + 16 ≤ 524288) (hn : l.length ≤ 4096) (h0 : ∀ x ∈ l, 0 ≤ x ∧ x ≤ 2)
    (hm : (many : Int) ≤ 14) (he : 1 ≤ (each : Int)) (he2 : (each : Int) ≤ 2) (hme : many * each ≤ 14) :
    Calls Try.prog 47 #[.pointer (some ⟨b, 0, none⟩), .int .i64 (many : Int), .int .i64 (each : Int)] w fun e w' => e = .returned (.int .i64 ((min many l.length : Nat) : Int)) ∧ LY w0 w' p b A c l E (L ++ (bitsOf 1 1 ++ bitsOf ((each : Int) - 1) 1 ++ rowB l each many)) := by
  have H := Lib.hid h
  have HL := Lib.hid hL
  obtain ⟨n, hnn⟩ : ∃ n, n = l.length := ⟨_, rfl⟩
  have hz : (n : Int) ≤ 4096 := by omega
  have x0 := h.x0
  have x1 := h.x1
  rw [← hnn] at x1
  have HN := Lib.hid hnn
  have H0 := Lib.hid h0
  have HME := Lib.hid hme
  clear h hL hn hnn h0 hme
  go_enter Try.func47, Try.ntmps47
  go_wp2_with fail
  refine (H.out.putn 1 1 rfl (by omega) (by have := HL.out; omega) (by omega) (by omega)).mono ?_
  rintro e W2 ⟨rfl, h1⟩
  have H2 := Lib.hid h1
  have z0 := h1.x0
  clear h1 x0 x1
  go_wp2_with fail
  refine (H2.out.putn 1 1 rfl (by omega) (by rw [List.length_append, bitsOf_length]; have := HL.out; omega) (by omega) (by omega)).mono ?_
  rintro e W3 ⟨rfl, h1⟩
  have H3 := Lib.hid (show LY w0 W3 p b A c l E (L ++ (bitsOf 1 1 ++ bitsOf ((each : Int) - 1) 1) ++ rowB l each 0) by
    rw [List.append_assoc] at h1
    rw [show rowB l each 0 = [] from rfl, List.append_nil]
    exact h1)
  clear h1 z0
  go_wp2_with fail
  go_loopw [23] (fun iv wx => ∃ k : Nat, (k : Int) ≤ (many : Int) ∧ iv = .int .i64 (k : Int) ∧ LY w0 wx p b A c l E (L ++ (bitsOf 1 1 ++ bitsOf ((each : Int) - 1) 1) ++ rowB l each k)) (fun iv _ => ((many : Int) - intOf iv).toNat)
  case atStart => exact ⟨0, by omega, rfl, H3.out⟩
  case round =>
    obtain ⟨k, hk, rfl, h⟩ := hrel
    rename World => X
    have HX := Lib.hid h
    have x0 := h.x0
    have x1 := h.x1
    rw [← HN.out] at x1
    have HR := Lib.hid (show Rd X 1 A n (nums .i64 l) by rw [HN.out]; exact h.rw)
    clear h
    by_cases hkm : (k : Int) < (many : Int)
    · have HFIT := Lib.hid (show (L ++ (bitsOf 1 1 ++ bitsOf ((each : Int) - 1) 1) ++ rowB l each k).length + each ≤ 524288 by
        rw [List.length_append, List.length_append, List.length_append, bitsOf_length, bitsOf_length, rowB_len]
        have h1 := HL.out
        have h2 := HME.out
        have h3 : (k + 1) * each ≤ many * each := Nat.mul_le_mul_right _ (by omega)
        rw [Nat.add_mul] at h3
        omega)
      by_cases hkn : (k : Int) < (n : Int)
      · obtain ⟨g, off, x, e, hg, hx, hxm, y0⟩ := int_at HR.out (k := k) (by omega)
        subst e
        obtain ⟨h01, h02⟩ := H0.out x hxm
        have HV := Lib.hid (getD_of hx)
        clear hx hxm hg
        go_wp2_with fail
        refine (HX.out.putn each each rfl (by omega) HFIT.out (by omega) (by omega)).mono ?_
        rintro e X2 ⟨rfl, h1⟩
        have H4 := Lib.hid (show LY w0 X2 p b _ c l E (L ++ (bitsOf 1 1 ++ bitsOf ((each : Int) - 1) 1) ++ rowB l each (k + 1)) by
          rw [rowB_succ, HV.out, ← List.append_assoc]
          exact h1)
        clear h1 y0 x0 x1
        go_wp2_with fail
        go_roundw
        case rel => exact ⟨k + 1, by omega, by go_num, H4.out⟩
        case measure => exact measN many k hkm
      · have HV := Lib.hid (show l.getD k 0 = 0 by rw [List.getD_eq_getElem?_getD, List.getElem?_eq_none (by have := HN.out; omega)]; rfl)
        go_wp2_with fail
        refine (HX.out.putn each each rfl (by omega) HFIT.out (by omega) (by omega)).mono ?_
        rintro e X2 ⟨rfl, h1⟩
        have H4 := Lib.hid (show LY w0 X2 p b _ c l E (L ++ (bitsOf 1 1 ++ bitsOf ((each : Int) - 1) 1) ++ rowB l each (k + 1)) by
          rw [rowB_succ, HV.out, ← List.append_assoc]
          exact h1)
        clear h1 x0 x1
        go_wp2_with fail
        go_roundw
        case rel => exact ⟨k + 1, by omega, by go_num, H4.out⟩
        case measure => exact measN many k hkm
    · have hke : k = many := by omega
      subst hke
      have HF := Lib.hid (show LY w0 X p b A c l E (L ++ (bitsOf 1 1 ++ bitsOf ((each : Int) - 1) 1 ++ rowB l each k)) by rw [← List.append_assoc]; exact HX.out)
      by_cases hmn : (k : Int) ≤ (n : Int)
      · have HMIN := Lib.hid (show min k l.length = k by have := HN.out; omega)
        go_wp2_with fail
        go_ret
        exact ⟨by rw [HMIN.out]; rfl, HF.out⟩
      · have HMIN := Lib.hid (show min k l.length = n by have := HN.out; omega)
        go_wp2_with fail
        go_ret
        exact ⟨by rw [HMIN.out]; rfl, HF.out⟩
end Go.Proofs.Ytmedlplgeeeodaa.Tw
