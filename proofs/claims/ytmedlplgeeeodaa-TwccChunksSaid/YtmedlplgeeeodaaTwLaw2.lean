/- The law of decodes: TwccDecodes; no condition. -/
import Derived.Test.YtmedlplgeeeodaaTwRDec
import Derived.Test.YtmedlplgeeeodaaTwLaw1
namespace Go.Proofs.Ytmedlplgeeeodaa.Tw
open Go.RowKit Go.Proofs.Ytmedlplgeeeodaa.Plain Go.Proofs.Ytmedlplgeeeodaa.Heap Go.Proofs.Ytmedlplgeeeodaa.Open Go.Proofs.Ytmedlplgeeeodaa.Rows Go.Proofs.Ytmedlplgeeeodaa.Bits Go.Proofs.Ytmedlplgeeeodaa.Tail
theorem tailT_len {s : ByteArray} {x : List Int × Nat} (h : x.1.length ≤ 4096) : (tailT s x).1.st.length ≤ 4096 ∧ (tailT s x).1.ds.length ≤ 4096 := by
  unfold tailT
  split
  · exact ⟨by decide, by decide⟩
  · split
    · exact ⟨by decide, by decide⟩
    · exact ⟨h, Nat.le_trans (decD_len x.1.length) h⟩
theorem decT_len (s : ByteArray) : (decT s).1.st.length ≤ 4096 ∧ (decT s).1.ds.length ≤ 4096 := by
  have hz : zeroT.st.length ≤ 4096 ∧ zeroT.ds.length ≤ 4096 := ⟨by decide, by decide⟩
  unfold decT
  split
  · exact hz
  split
  · exact hz
  split
  · exact hz
  split
  · exact hz
  split
  · exact hz
  · rename_i h1 h2 h3 h4 h5
    cases hd : decC s (manyT s) (manyT s + 1) 128 [] with
    | error c => exact hz
    | ok x =>
      obtain ⟨st, e⟩ := x
      have h := decC_ok (Nat.zero_le _) (by omega) (fun y hy => by cases hy) hd
      exact tailT_len (by rw [h.1]; omega)
theorem decT_small (s : ByteArray) : small (decT s).1 := by
  have h := decT_len s
  exact ⟨by omega, by omega⟩
set_option linter.unusedSimpArgs false in
set_option maxRecDepth 10000 in
set_option maxHeartbeats 8000000 in
theorem TwccDecodes_any (s : ByteArray) (w : World) :
    Calls Try.prog 4 #[.string s] w fun e w' => e = .returned (.bool true) ∧ Below w.heap.size w w' := by
  by_cases hl : 70000 < s.size
  · go_enter Try.func4, Try.ntmps4
    go_wp2_with fail
    refine (wakes_any _).mono ?_
    rintro e W9 ⟨rfl, hb9⟩
    go_wp2_with fail
    go_ret
    exact ⟨rfl, hb9⟩
  · have HS := bx (show s.size ≤ 1099511627776 by omega)
    have hl' : (s.size : Int) ≤ 70000 := by omega
    have HSM := bx (decT_small s)
    clear hl
    go_enter Try.func4, Try.ntmps4
    go_wp2_with fail
    refine (decode_any s w HS.out).mono ?_
    unfold DecPost
    obtain ⟨c, hc⟩ : ∃ c, c = (decT s).2 := ⟨_, rfl⟩
    obtain ⟨h, hh⟩ : ∃ h, h = (decT s).1 := ⟨_, rfl⟩
    rw [← hc, ← hh]
    have HCC := bx hc
    have HHH := bx hh
    rw [← hh] at HSM
    clear hc hh
    obtain ⟨n, hn⟩ : ∃ n, n = h.st.length := ⟨_, rfl⟩
    obtain ⟨m, hm⟩ : ∃ m, m = h.ds.length := ⟨_, rfl⟩
    have HN := bx hn
    have HM := bx hm
    clear hn hm
    rintro e X ⟨v, rfl, ⟨A, k, B, d, rfl, g1, g2, _⟩, hX⟩
    have HBX := bx hX
    obtain ⟨q, hq⟩ : ∃ q, q = X.heap.size := ⟨_, rfl⟩
    obtain ⟨X2, hX2⟩ : ∃ X2, X2 = X.alloc (.cells (tcs h A k B d) 25) := ⟨_, rfl⟩
    have HQ := bx (show TX w X2 q h A k B d by rw [hq]; exact TX.new HBX.out g1 g2 hX2)
    have HE := bx hq
    have HE2 := bx hX2
    clear hX g1 g2 hq hX2
    go_upto_region 4 with fail
    rw [← HE2.out, ← HE.out]
    go_wp2_with fail
    refine (rdecode_any s X2 HS.out).mono ?_
    unfold DecPost
    rw [← HCC.out, ← HHH.out]
    rintro e Y ⟨v, rfl, ⟨A', k', B', d', rfl, g1, g2, _⟩, hY⟩
    have HBY := bx (HQ.out.run hY)
    obtain ⟨g, hg⟩ : ∃ g, g = Y.heap.size := ⟨_, rfl⟩
    obtain ⟨Y2, hY2⟩ : ∃ Y2, Y2 = Y.alloc (.cells (tcs h A' k' B' d') 25) := ⟨_, rfl⟩
    have HG := bx (show TX w Y2 g h A' k' B' d' by rw [hg]; exact TX.new HBY.out.bw g1 g2 hY2)
    have HQ2 := bx (HBY.out.run (w' := Y2) (by rw [hY2]; exact (Below.refl _ Y).alloc (Nat.le_refl _) _))
    have HE3 := bx hg
    have HE4 := bx hY2
    clear hY g1 g2 hg hY2
    go_upto_region 5 with fail
    rw [← HE4.out, ← HE3.out]
    obtain ⟨x0, x1, x2, x3, x4, x5, x6⟩ := tx_cells HQ2.out HN.out HM.out
    obtain ⟨i0, i1, i2, i3, i4, i5, i6⟩ := tx_cells HG.out HN.out HM.out
    go_wp2_with fail
    refine (same_any _ _ h Y2 (tr_agg HQ2.out.tr HN.out HM.out) (tr_agg HG.out.tr HN.out HM.out) HSM.out).mono ?_
    rintro e W6 ⟨rfl, hb6⟩
    have H6 := bx (HQ2.out.run hb6)
    clear hb6 x0 x1 x2 x3 x4 x5 x6 i0 i1 i2 i3 i4 i5 i6
    go_wp2_with fail
    refine (wakes_any _).mono ?_
    rintro e W9 ⟨rfl, hb9⟩
    have H9 := bx (H6.out.run hb9)
    clear hb9
    go_wp2_with fail
    go_ret
    exact ⟨rfl, H9.out.bw⟩
theorem TwccDecodes_row (s : ByteArray) (w : World) (_ : s.size ≤ maxLen) :
    Calls Try.prog 4 #[.string s] w fun e w' => e = .returned (.bool true) ∧ Below w.heap.size w w' :=
  TwccDecodes_any s w
end Go.Proofs.Ytmedlplgeeeodaa.Tw
