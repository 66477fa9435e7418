/- The document's alike and row; no condition but the ranges in each. -/
import Derived.Test.YtmedlplgeeeodaaTwLay
namespace Go.Proofs.Ytmedlplgeeeodaa.Tw
open Go.RowKit Go.Proofs.Ytmedlplgeeeodaa.Plain Go.Proofs.Ytmedlplgeeeodaa.Heap Go.Proofs.Ytmedlplgeeeodaa.Open Go.Proofs.Ytmedlplgeeeodaa.Rows Go.Proofs.Ytmedlplgeeeodaa.Bits

set_option maxRecDepth 10000 in
set_option maxHeartbeats 2000000 in
theorem ralike_any (A : Option Addr) (n c at_ : Nat) (l : List Int) (w : World) (hr : Rd w 1 A n (nums .i64 l)) (hn : (n : Int) ≤ 1099511627776) (hat : (at_ : Int) < (n : Int)) :
    Calls Try.prog 25 #[.slice A n c, .int .i64 (at_ : Int)] w fun e w' => e = .returned (.int .i64 (alk (l.drop at_) : Int)) ∧ ∃ q, w' = w.drewN q := by
  have hl : l.length = n := by have := hr.1; simpa [nums] using this
  have HR := Lib.hid hr
  have HL := Lib.hid hl
  have hal := alk_le (l.drop at_)
  rw [List.length_drop] at hal
  obtain ⟨M, hM⟩ : ∃ M, M = alk (l.drop at_) := ⟨_, rfl⟩
  have HM := Lib.hid hM
  rw [← hM] at hal ⊢
  have hMn : (at_ : Int) + (M : Int) ≤ (n : Int) := by omega
  clear hr hl hal hM
  obtain ⟨g, off, x0, e, _, hx0, _, y0⟩ := int_at HR.out (k := at_) (by omega)
  subst e
  have H00 := Lib.hid (show (l.drop at_).getD 0 0 = x0 from getD_of (by rw [List.getElem?_drop]; exact hx0))
  clear hx0
  go_enter Try.func25, Try.ntmps25
  go_wp2
  go_loopw [5] (fun i wr => ∃ k q : Nat, (k : Int) ≤ (M : Int) ∧ i = .int .i64 (k : Int) ∧ wr = w.drewN q) (fun i _ => ((n : Int) - intOf i).toNat)
  case atStart => exact ⟨0, 0, by omega, rfl, rfl⟩
  case round =>
    obtain ⟨k, q, hk, rfl, rfl⟩ := hrel
    have hw : IntKind.i64.wrap ((at_ : Int) + (k : Int)) = (at_ : Int) + (k : Int) := IntWalk.i64_in _ (by omega)
    by_cases hlt : (at_ : Int) + (k : Int) < (n : Int)
    · obtain ⟨ak, hak⟩ : ∃ ak : Nat, (at_ : Int) + (k : Int) = (ak : Int) := ⟨at_ + k, by omega⟩
      have HAK := Lib.hid (show at_ + k = ak by omega)
      obtain ⟨g', off', x, e, _, hx, _, y⟩ := int_at HR.out (k := ak) (by omega)
      injection e with e
      injection e with e1 e2
      subst e1 e2
      have HX := Lib.hid (show (l.drop at_)[k]? = some x by rw [List.getElem?_drop, HAK.out]; exact hx)
      have t1 : decide (ak < n) = true := decide_eq_true (by omega)
      have hak0 : ak < n := by omega
      by_cases hkm : (k : Int) < (M : Int)
      · have hxe : x = x0 := by rw [← H00.out]; exact alk_at (by have := HM.out; omega) HX.out
        subst hxe
        rw [hak] at hw
        clear hx hlt
        go_wp2_with fail
        go_quiet (fail)
        go_wp2
        go_roundw
        case rel => exact ⟨k + 1, _, by omega, by go_num, rfl⟩
        case measure => simp [intOf]; omega
      · have hkM : k = alk (l.drop at_) := by have := HM.out; omega
        have hxe : (x == x0) = false := by
          rw [beq_eq_false_iff_ne, ← H00.out]
          exact alk_stop (by rw [← hkM]; exact HX.out)
        have HKM := Lib.hid (show k = M by have := HM.out; omega)
        rw [hak] at hw
        clear hx hkM hlt
        go_wp2_with fail
        go_quiet (fail)
        go_wp2
        go_ret
        exact ⟨by rw [HKM.out]; rfl, _, by rw [World.drewN_drewN]⟩
    · have HKM := Lib.hid (show k = M by omega)
      have t1 : decide (at_ + k < n) = false := decide_eq_false (by omega)
      have t2 : decide ((at_ : Int) + (k : Int) < (n : Int)) = false := decide_eq_false (by omega)
      clear hlt hk hMn
      go_wp2_with fail
      go_quiet (fail)
      go_wp2
      go_ret
      exact ⟨by rw [HKM.out]; rfl, _, by rw [World.drewN_drewN]⟩
set_option maxRecDepth 10000 in
set_option maxHeartbeats 2000000 in
theorem rrow_any {w0 w : World} {p : Nat} {A : Option Addr} {n c : Nat} {l : List Int} {E : Nat → Prop} {L : List Int} (many each : Nat) (h : WX 74 w0 w p E L) (hr : Rd w0 1 A n (nums .i64 l)) (hea : ∀ g off, A = some ⟨g, off, none⟩ → 0 < n → E g)
    (hL : L.length + 16 ≤ 524288) (hn : n ≤ 4096) (h0 : ∀ x ∈ l, 0 ≤ x ∧ x ≤ 2) (hm : (many : Int) ≤ 14) (he : 1 ≤ (each : Int)) (he2 : (each : Int) ≤ 2) (hme : many * each ≤ 14) :
    Calls Try.prog 26 #[.pointer (some ⟨p, 0, none⟩), .slice A n c, .int .i64 (many : Int), .int .i64 (each : Int)] w fun e w' => e = .returned (.tuple #[]) ∧ WX 74 w0 w' p E (L ++ rowB l each many) := by
  have H := Lib.hid (show WX 74 w0 w p E (L ++ rowB l each 0) by rw [show rowB l each 0 = [] from rfl, List.append_nil]; exact h)
  have HL := Lib.hid hL
  have hln : l.length = n := by have := hr.1; simpa [nums] using this
  have hz : (n : Int) ≤ 4096 := by omega
  have HN := Lib.hid hln
  have H0 := Lib.hid h0
  have HME := Lib.hid hme
  have HR := Lib.hid hr
  have HEA := Lib.hid hea
  clear h hL hn hln h0 hme hr hea
  go_enter Try.func26, Try.ntmps26
  go_wp2_with fail
  go_loopw [8] (fun iv wx => ∃ k : Nat, (k : Int) ≤ (many : Int) ∧ iv = .int .i64 (k : Int) ∧ WX 74 w0 wx p E (L ++ rowB l each k)) (fun iv _ => ((many : Int) - intOf iv).toNat)
  case atStart => exact ⟨0, by omega, rfl, H.out⟩
  case round =>
    obtain ⟨k, hk, rfl, h⟩ := hrel
    rename World => X
    have HX := Lib.hid h
    have HRX := Lib.hid (show Rd X 1 A n (nums .i64 l) from Rd.kept0 HR.out h.kp (fun g off e hn he => he (HEA.out g off e hn)))
    clear h
    by_cases hkm : (k : Int) < (many : Int)
    · have HFIT := Lib.hid (show (L ++ rowB l each k).length + each ≤ 524288 by
        rw [List.length_append, rowB_len]
        have h1 := HL.out
        have h2 := HME.out
        have h3 : (k + 1) * each ≤ many * each := Nat.mul_le_mul_right _ (by omega)
        rw [Nat.add_mul] at h3
        omega)
      have hpf := fun (v : Int) => puts_fit (L := L ++ rowB l each k) (v := v) (n := each) (by omega) HFIT.out
      have HPF := Lib.hid hpf
      clear hpf
      by_cases hkn : (k : Int) < (n : Int)
      · obtain ⟨g, off, x, e, hg, hx, hxm, y0⟩ := int_at HRX.out (k := k) (by omega)
        subst e
        obtain ⟨h01, h02⟩ := H0.out x hxm
        have HV := Lib.hid (getD_of hx)
        clear hx hxm hg
        go_wp2_with fail
        refine (HX.out.rput (by have := HFIT.out; omega) (by omega) (by omega) (each : Int)).mono ?_
        rw [HPF.out]
        rintro e X2 ⟨rfl, h1⟩
        have H4 := Lib.hid (show WX 74 w0 X2 p E (L ++ rowB l each (k + 1)) by
          rw [rowB_succ, HV.out, ← List.append_assoc]
          exact h1)
        clear h1 y0
        go_wp2_with fail
        go_roundw
        case rel => exact ⟨k + 1, by omega, by go_num, H4.out⟩
        case measure => exact measN many k hkm
      · have HV := Lib.hid (show l.getD k 0 = 0 by rw [List.getD_eq_getElem?_getD, List.getElem?_eq_none (by have := HN.out; omega)]; rfl)
        go_wp2_with fail
        refine (HX.out.rput (by have := HFIT.out; omega) (by omega) (by omega) (each : Int)).mono ?_
        rw [HPF.out]
        rintro e X2 ⟨rfl, h1⟩
        have H4 := Lib.hid (show WX 74 w0 X2 p E (L ++ rowB l each (k + 1)) by
          rw [rowB_succ, HV.out, ← List.append_assoc]
          exact h1)
        clear h1
        go_wp2_with fail
        go_roundw
        case rel => exact ⟨k + 1, by omega, by go_num, H4.out⟩
        case measure => exact measN many k hkm
    · have hke : k = many := by omega
      subst hke
      go_wp2_with fail
      go_end0
      exact ⟨rfl, HX.out⟩
end Go.Proofs.Ytmedlplgeeeodaa.Tw
