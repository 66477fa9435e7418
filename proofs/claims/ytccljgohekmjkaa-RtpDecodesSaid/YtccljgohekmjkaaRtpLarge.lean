/- What large, CopyHeader and Headers come to; no condition but the ranges in each. -/
import Derived.Test.YtccljgohekmjkaaRtpGood2
namespace Go.Proofs.Ytccljgohekmjkaa.Rtp
open Go.RowKit Go.Proofs.Ytccljgohekmjkaa.Plain Go.Proofs.Ytccljgohekmjkaa.Heap Go.Proofs.Ytccljgohekmjkaa.Open Go.Proofs.Ytccljgohekmjkaa.Rows Go.Proofs.Ytccljgohekmjkaa.Bits
/-- Not too long. -/
def small (h : Hd) : Prop := h.src.length ≤ 100 ∧ h.xs.length ≤ 100 ∧ ∀ x ∈ h.xs, x.2.size ≤ 1000
def Larged (h : Hd) (w : World) (e : Ending) (w' : World) : Prop := ∃ b, e = .returned (.bool b) ∧ (b = false → small h) ∧ Below w.heap.size w w'
set_option maxRecDepth 10000 in
set_option maxHeartbeats 4000000 in
theorem large_any (v : Value) (h : Hd) (w : World) (k : HR w v h) :
    Calls Try.prog 8 #[v] w fun e w' => Larged h w e w' := by
  obtain ⟨A, c, B, d, rfl, k1, k2⟩ := k
  obtain ⟨b0, hb0⟩ : ∃ b0, b0 = w.heap.size := ⟨_, rfl⟩
  obtain ⟨W0, hW0⟩ : ∃ W0, W0 = w.alloc (.cells (hcs h A c B d) 26) := ⟨_, rfl⟩
  have H0 := Lib.hid (show HX w W0 b0 h A c B d by rw [hb0]; exact HX.new (Below.refl _ w) k1 k2 hW0)
  have HE := Lib.hid hb0
  have HW := Lib.hid hW0
  clear k1 k2 hb0 hW0
  obtain ⟨n, hn⟩ : ∃ n, n = h.src.length := ⟨_, rfl⟩
  obtain ⟨m, hm⟩ : ∃ m, m = h.xs.length := ⟨_, rfl⟩
  have HN := Lib.hid hn
  have HM := Lib.hid hm
  have x5 := H0.out.c5
  have x6 := H0.out.c6
  rw [← hn] at x5
  rw [← hm] at x6
  clear hn hm
  go_enter Try.func8, Try.ntmps8
  go_upto_region 1 with fail
  rw [← HW.out, ← HE.out]
  by_cases l1 : 100 < (n : Int)
  · go_wp2_with fail
    go_ret
    exact ⟨true, rfl, (fun e => nomatch e), H0.out.bw⟩
  · by_cases l2 : 100 < (m : Int)
    · go_wp2_with fail
      go_ret
      exact ⟨true, rfl, (fun e => nomatch e), H0.out.bw⟩
    · go_wp2_with fail
      go_loopw [3] (fun iv wx => ∃ i : Nat, (i : Int) ≤ (m : Int) ∧ iv = .int .i64 (i : Int) ∧ (∀ x ∈ h.xs.take i, x.2.size ≤ 1000) ∧ Below W0.heap.size W0 wx) (fun iv _ => ((m : Int) - intOf iv).toNat)
      case atStart => exact ⟨0, by omega, rfl, by simp, Below.refl _ _⟩
      case round =>
        obtain ⟨i, hi, rfl, hall, hbw⟩ := hrel
        have HA := Lib.hid hall
        have HB := Lib.hid hbw
        have H1 := Lib.hid (H0.out.run hbw)
        have t6 := H1.out.c6
        rw [← HM.out] at t6
        clear hall hbw
        by_cases hil : (i : Int) < (m : Int)
        · obtain ⟨g, off, x, e, hg, hx, hxm, y0, y1⟩ := ext_at H1.out.r2 (k := i) (by have := HM.out; omega)
          subst e
          have HX := Lib.hid hx
          obtain ⟨id, dt⟩ := x
          simp only at y0 y1
          obtain ⟨L, hL⟩ : ∃ L : Int, (dt.size : Int) = L := ⟨_, rfl⟩
          have HL := Lib.hid hL
          clear hx hxm
          by_cases hbig : 1000 < L
          · go_wp2_with fail
            go_ret
            exact ⟨true, rfl, (fun e => nomatch e), H1.out.bw⟩
          · go_wp2_with fail
            go_roundw
            case rel =>
              refine ⟨i + 1, by omega, by go_num, fun y hy => ?_, HB.out⟩
              obtain ⟨hl, he⟩ := List.getElem?_eq_some_iff.1 HX.out
              rw [List.take_succ_eq_append_getElem hl] at hy
              rcases List.mem_append.1 hy with hy | hy
              · exact HA.out y hy
              · simp at hy
                rw [hy, he]
                have := HL.out
                show dt.size ≤ 1000
                omega
            case measure => exact measN m i hil
        · have hin : i = m := by omega
          have hsm : small h := by
            have h1 := HA.out
            rw [hin, HM.out, List.take_length] at h1
            exact ⟨by have := HN.out; omega, by have := HM.out; omega, h1⟩
          have HS := Lib.hid hsm
          clear hsm
          go_wp2_with fail
          go_ret
          exact ⟨false, rfl, fun _ => HS.out, H1.out.bw⟩
end Go.Proofs.Ytccljgohekmjkaa.Rtp
