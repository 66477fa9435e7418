/- What holds the bits of a report is decoded to it: the whole; plain; no condition but the ranges in each. -/
import Derived.Test.YtmedlplgeeeodaaTwBack2
namespace Go.Proofs.Ytmedlplgeeeodaa.Tw
open Go.RowKit Go.Proofs.Ytmedlplgeeeodaa.Plain Go.Proofs.Ytmedlplgeeeodaa.Heap Go.Proofs.Ytmedlplgeeeodaa.Open Go.Proofs.Ytmedlplgeeeodaa.Rows Go.Proofs.Ytmedlplgeeeodaa.Bits
theorem st_02 {st ds : List Int} (hg : goodTo st ds st.length = true) : ∀ y ∈ st, 0 ≤ y ∧ y ≤ 2 := fun y hy => by
  obtain ⟨i, hi⟩ := List.mem_iff_getElem?.1 hy
  have := st_range hg hi
  omega
theorem head_vals {S : ByteArray} {h : Tw} (hA : At S 0 (headB h)) (ok : okT h) (hg : goodT h = true) :
    val S 0 32 = h.sn ∧ val S 32 32 = h.md ∧ val S 64 16 = h.fi ∧ val S 80 16 = (h.st.length : Int) ∧ sg 24 (val S 96 24) = h.ba ∧ val S 120 8 = h.ct := by
  obtain ⟨k1, k2, k3⟩ := goodT_iff hg
  have g := goodB_iff.1 k1
  have o1 := ok.n0
  have o2 := ok.n1
  have o3 := ok.m0
  have o4 := ok.m1
  unfold headB at hA
  refine ⟨?_, ?_, ?_, ?_, ?_, ?_⟩
  · exact val_at0 hA.left.left.left.left.left (by omega) (by omega)
  · exact val_at0 (hA.left.left.left.left.right (n := 32) (by simp only [bitsOf_length])) (by omega) (by omega)
  · exact val_at0 (hA.left.left.left.right (n := 64) (by simp only [List.length_append, bitsOf_length])) (by omega) (by omega)
  · exact val_at0 (hA.left.left.right (n := 80) (by simp only [List.length_append, bitsOf_length])) (by omega) (by omega)
  · rw [show val S 96 24 = _ from val_at (hA.left.right (n := 96) (by simp only [List.length_append, bitsOf_length]))]
    exact sg24 (by omega) (by omega)
  · exact val_at0 (hA.right (n := 120) (by simp only [List.length_append, bitsOf_length])) (by omega) (by omega)
/-- What the text holds of a report's bits. -/
theorem decT_enc {S : ByteArray} {h : Tw} (ok : okT h) (hg : goodT h = true) (h16 : 16 ≤ S.size) (hmax : S.size ≤ 65536) (h4 : S.size % 4 = 0) (hA : At S 0 ((encA h).take (8 * S.size))) :
    decT S = if 8 * S.size < (encA h).length then (zeroT, 60) else if 24 < 8 * S.size - (encA h).length ∨ ¬ val S (encA h).length (8 * S.size - (encA h).length) = 0 then (zeroT, 91) else (h, 0) := by
  obtain ⟨k1, k2, k3⟩ := goodT_iff hg
  have g := goodB_iff.1 k1
  have hlen := encA_len h
  have hh := headB_len h
  have hA0 : At S 0 (headB h) := by
    unfold encA at hA
    rw [List.append_assoc, List.take_append, List.take_of_length_le (by omega)] at hA
    exact hA.left
  have hA1 : At S 128 ((encC h.st.length h.st).take (8 * S.size - 128)) := by
    unfold encA at hA
    rw [List.append_assoc, List.take_append, List.take_of_length_le (by omega), hh] at hA
    have h1 := hA.right (n := 128) hh.symm
    rw [List.take_append, Nat.zero_add] at h1
    exact h1.left
  obtain ⟨v0, v1, v2, v3, v4, v5⟩ := head_vals hA0 ok hg
  have hm : manyT S = h.st.length := by unfold manyT; rw [v3]; omega
  unfold decT
  rw [if_neg (by omega), if_neg (by omega), if_neg (by omega), hm, if_neg (by omega), if_neg (by omega)]
  rw [decC_enc (g := h.st.length) (l := h.st) (done := []) (by simp) (by omega) (by simp) (Nat.le_refl _) (by omega) (st_02 k2) hA1]
  by_cases hc : 128 + (encC h.st.length h.st).length ≤ 8 * S.size
  · rw [if_pos hc]
    simp only [List.nil_append, outT, tailT]
    rw [show 128 + (encC h.st.length h.st).length + 8 * sumTo h.st h.st.length = (encA h).length by omega]
    by_cases hs : 8 * S.size < (encA h).length
    · rw [if_pos hs, if_pos hs]
    · rw [if_neg hs, if_neg hs]
      rw [List.take_of_length_le (by omega)] at hA
      have hA2 : At S (128 + (encC h.st.length h.st).length) (encDto h.st h.ds h.st.length) := by
        have h1 := hA.right (n := 128 + (encC h.st.length h.st).length) (by rw [List.length_append, hh])
        rwa [Nat.zero_add] at h1
      rw [decD_enc k2 hA2 (by omega) _ (Nat.le_refl _), List.take_length, k3, List.take_length, v0, v1, v2, v4, v5]
      rfl
  · rw [if_neg hc, if_pos (by omega)]
    rfl
end Go.Proofs.Ytmedlplgeeeodaa.Tw
