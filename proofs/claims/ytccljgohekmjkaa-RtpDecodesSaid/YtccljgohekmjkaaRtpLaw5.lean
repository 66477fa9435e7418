/- What the law of decodes tells: RtpDecodes; no condition but the ranges in each. -/
import Derived.Test.YtccljgohekmjkaaRtpRDec4
import Derived.Test.YtccljgohekmjkaaRtpLaw
import Derived.Test.YtccljgohekmjkaaRtpSame
namespace Go.Proofs.Ytccljgohekmjkaa.Rtp
open Go.RowKit Go.Proofs.Ytccljgohekmjkaa.Plain Go.Proofs.Ytccljgohekmjkaa.Heap Go.Proofs.Ytccljgohekmjkaa.Open Go.Proofs.Ytccljgohekmjkaa.Rows Go.Proofs.Ytccljgohekmjkaa.Bits
theorem small_of5 {h : Hd} (hg : goodH h = true) : small h := by
  obtain ⟨h1, h2⟩ : goodR h = true ∧ goodTo h.xs h.xs.length = true := by unfold goodH at hg; exact Bool.and_eq_true_iff.1 hg
  have hall : ∀ x ∈ h.xs, goodX x = true := by have := goodTo_all h2; rwa [List.take_length] at this
  obtain ⟨_, _, _, _, a, b⟩ := goodR_yes h1
  exact ⟨by omega, by omega, fun x hx => by have := goodX_yes (hall x hx); omega⟩
theorem decH_small (s : ByteArray) : small (decH s).1 := by
  have h := decH_ok s
  by_cases h0 : (decH s).2.2 = 0
  · exact small_of5 (h.1 h0).2.1
  · rw [(h.2 h0).1]
    exact ⟨by decide, by decide, fun x hx => by cases hx⟩
set_option maxRecDepth 10000 in
set_option maxHeartbeats 4000000 in
theorem RtpDecodes_any (s : ByteArray) (w : World) :
    Calls Try.prog 4 #[.string s] w fun e w' => e = .returned (.bool true) ∧ Below w.heap.size w w' := by
  by_cases hl : 300000 < s.size
  · go_enter Try.func4, Try.ntmps4
    go_wp2_with fail
    refine (wakes_any _).mono ?_
    rintro e W9 ⟨rfl, hb9⟩
    go_wp2_with fail
    go_ret
    exact ⟨rfl, hb9⟩
  · have HS := Lib.hid (show s.size ≤ 1099511627776 by omega)
    have hl' : (s.size : Int) ≤ 300000 := by omega
    have HSM := Lib.hid (decH_small s)
    clear hl
    go_enter Try.func4, Try.ntmps4
    go_wp2_with fail
    refine (decode_any s w HS.out).mono ?_
    unfold DecPost
    obtain ⟨n, hn⟩ : ∃ n, n = (decH s).2.1 := ⟨_, rfl⟩
    obtain ⟨c, hc⟩ : ∃ c, c = (decH s).2.2 := ⟨_, rfl⟩
    obtain ⟨h, hh⟩ : ∃ h, h = (decH s).1 := ⟨_, rfl⟩
    rw [← hn, ← hc, ← hh]
    have HNN := Lib.hid hn
    have HCC := Lib.hid hc
    have HHH := Lib.hid hh
    rw [← hh] at HSM
    clear hn hc hh
    rintro e X ⟨v, rfl, ⟨A, k, B, d, rfl, g1, g2⟩, hX⟩
    have HBX := Lib.hid hX
    obtain ⟨q, hq⟩ : ∃ q, q = X.heap.size := ⟨_, rfl⟩
    obtain ⟨X2, hX2⟩ : ∃ X2, X2 = X.alloc (.cells (hcs h A k B d) 26) := ⟨_, rfl⟩
    have HQ := Lib.hid (show HX w X2 q h A k B d by rw [hq]; exact HX.new HBX.out g1 g2 hX2)
    have HE := Lib.hid hq
    have HE2 := Lib.hid hX2
    clear hX g1 g2 hq hX2
    go_upto_region 4 with fail
    rw [← HE2.out, ← HE.out]
    go_wp2_with fail
    refine (rdecode_any s X2 HS.out).mono ?_
    unfold RDecPost
    rw [← HNN.out, ← HCC.out, ← HHH.out]
    rintro e Y ⟨m, t, sq, i, ss, lv, xv, rfl, hr, hY⟩
    have HR := Lib.hid hr
    obtain ⟨A', c', B', d', e, _, _⟩ := hr
    injection e with e
    have e5 : lv = .slice A' h.src.length c' := by have := congrArg (fun x => x.getD 5 undef) e; exact this
    have e6 : xv = .slice B' h.xs.length d' := by have := congrArg (fun x => x.getD 6 undef) e; exact this
    subst e5 e6
    clear e
    have HQY := Lib.hid (HQ.out.run hY)
    obtain ⟨g, hg⟩ : ∃ g, g = Y.heap.size := ⟨_, rfl⟩
    obtain ⟨Y2, hY2⟩ : ∃ Y2, Y2 = Y.alloc (.cells (gcs m t sq i ss (.slice A' h.src.length c') (.slice B' h.xs.length d') (n : Int)) 39) := ⟨_, rfl⟩
    have HGY := Lib.hid (show Y2.heap[g]? = some (.cells (gcs m t sq i ss (.slice A' h.src.length c') (.slice B' h.xs.length d') (n : Int)) 39 (0, 0)) by rw [hY2, hg]; exact heap_alloc_new Y _)
    have hk : Kept (fun _ => False) Y Y2 := by rw [hY2]; exact (Kept.refl _ Y).alloc _
    have HQ2 := Lib.hid (HQY.out.run (hk.below (Nat.le_refl _) (fun _ e => e.elim)))
    have HR2 := Lib.hid (HR.out.below (hk.below (Nat.le_refl _) (fun _ e => e.elim)))
    have HE3 := Lib.hid hg
    have HE4 := Lib.hid hY2
    clear hY hg hY2 hk
    go_upto_region 5 with fail
    rw [← HE4.out, ← HE3.out]
    obtain ⟨z0, z1, z2, z3, z4, z5, z6, z7⟩ := cells8 HGY.out
    have y0 := HQ2.out.c0
    have y1 := HQ2.out.c1
    have y2 := HQ2.out.c2
    have y3 := HQ2.out.c3
    have y4 := HQ2.out.c4
    have y5 := HQ2.out.c5
    have y6 := HQ2.out.c6
    go_wp2_with fail
    refine (same_any _ _ h Y2 HQ2.out.hr HR2.out HSM.out).mono ?_
    rintro e W6 ⟨rfl, hb6⟩
    have H6 := Lib.hid (HQ2.out.run hb6)
    have x7 := (cells8 ((hb6.block g (Array.getElem?_eq_some_iff.1 HGY.out).1).trans HGY.out)).2.2.2.2.2.2.2
    clear hb6 y0 y1 y2 y3 y4 y5 y6 z0 z1 z2 z3 z4 z5 z6 z7
    go_wp2_with fail
    refine (wakes_any _).mono ?_
    rintro e W9 ⟨rfl, hb9⟩
    have H9 := Lib.hid (H6.out.run hb9)
    clear hb9
    go_wp2_with fail
    go_ret
    exact ⟨rfl, H9.out.bw⟩
theorem RtpDecodes_row (s : ByteArray) (w : World) (_ : s.size ≤ maxLen) :
    Calls Try.prog 4 #[.string s] w fun e w' => e = .returned (.bool true) ∧ Below w.heap.size w w' :=
  RtpDecodes_any s w
end Go.Proofs.Ytccljgohekmjkaa.Rtp
