/- A report and its bits, there and back; with something behind it; cut off: plain; no condition but the ranges in each. -/
import Derived.Test.YtmedlplgeeeodaaTwBack3
namespace Go.Proofs.Ytmedlplgeeeodaa.Tw
open Go.RowKit Go.Proofs.Ytmedlplgeeeodaa.Plain Go.Proofs.Ytmedlplgeeeodaa.Heap Go.Proofs.Ytmedlplgeeeodaa.Open Go.Proofs.Ytmedlplgeeeodaa.Rows Go.Proofs.Ytmedlplgeeeodaa.Bits
theorem rowB_bits (l : List Int) (each many : Nat) : IsBits (rowB l each many) := isBits_flat fun _ _ => bitsOf_bits _ _
theorem lay_bits (l : List Int) : IsBits (lay l).1 := by
  unfold lay
  split
  · exact isBits_append (isBits_append (bitsOf_bits _ _) (bitsOf_bits _ _)) (bitsOf_bits _ _)
  · split <;> exact isBits_append (isBits_append (bitsOf_bits _ _) (bitsOf_bits _ _)) (rowB_bits _ _ _)
theorem encC_bits : ∀ (f : Nat) (l : List Int), IsBits (encC f l)
  | 0, _ => isBits_nil
  | f + 1, l => by
    by_cases h : l.length = 0
    · rw [encC, if_pos h]; exact isBits_nil
    · rw [encC_cons h]; exact isBits_append (lay_bits l) (encC_bits f _)
theorem encDto_bits (st ds : List Int) : ∀ i, IsBits (encDto st ds i)
  | 0 => isBits_nil
  | i + 1 => by
    rw [encDto]
    refine isBits_append (encDto_bits st ds i) ?_
    split
    · exact isBits_nil
    · exact bitsOf_bits _ _
theorem encA_bits (h : Tw) : IsBits (encA h) := by
  unfold encA headB
  exact isBits_append (isBits_append (isBits_append (isBits_append (isBits_append (isBits_append (isBits_append (bitsOf_bits _ _) (bitsOf_bits _ _)) (bitsOf_bits _ _)) (bitsOf_bits _ _)) (bitsOf_bits _ _)) (bitsOf_bits _ _)) (encC_bits _ _)) (encDto_bits _ _ _)
theorem encB_bits (h : Tw) : IsBits (encB h) := isBits_append (encA_bits h) (isBits_zeros _)
theorem encA_8 (h : Tw) : (encA h).length % 8 = 0 := by
  have := encA_len h
  have := encC_16 h.st.length h.st
  omega
theorem encB_len (h : Tw) : (encB h).length = (encA h).length + pad (encA h).length 32 := by unfold encB; rw [List.length_append, List.length_replicate]
theorem encB_facts {h : Tw} (hg : goodT h = true) : (encB h).length % 32 = 0 ∧ (encB h).length ≤ 131232 ∧ 128 ≤ (encA h).length ∧ (encA h).length ≤ (encB h).length ∧ (encB h).length ≤ (encA h).length + 24 ∧ 8 * (txt (encB h)).size = (encB h).length := by
  have h1 := encB_len h
  have h2 := encA_8 h
  have h3 := pad_lt (encA h).length 32 (by omega)
  have h4 := (pad_mod (encA h).length 32 (pad (encA h).length 32) (by omega) (Nat.le_refl _)).2 rfl
  have h5 := encA_bd hg
  have h6 := encA_len h
  have h7 := txt_size (encB h)
  omega
theorem at_encB (h : Tw) : At (txt (encB h)) 0 (encB h) := At.txt (encB_bits h)
/-- What was encoded is decoded as it was. -/
theorem decT_back {h : Tw} (ok : okT h) (hg : goodT h = true) : decT (txt (encB h)) = (h, 0) := by
  obtain ⟨f1, f2, f3, f4, f5, f6⟩ := encB_facts hg
  have hA := at_encB h
  have hl := encB_len h
  unfold encB at hA
  have hP := hA.right (n := (encA h).length) rfl
  rw [decT_enc ok hg (by omega) (by omega) (by omega) (by rw [List.take_of_length_le (by omega)]; exact hA.left), if_neg (by omega)]
  rw [Nat.zero_add, ← bitsOf_zero] at hP
  have hv := val_at0 hP (by omega) (Int.pow_pos (by omega))
  have e : 8 * (txt (encA h ++ bitsOf 0 (pad (encA h).length 32))).size - (encA h).length = pad (encA h).length 32 := by
    rw [bitsOf_zero]
    show 8 * (txt (encB h)).size - _ = _
    omega
  rw [if_neg]
  rintro (h1 | h1)
  · omega
  · apply h1
    rw [show 8 * (txt (encB h)).size - (encA h).length = pad (encA h).length 32 by omega]
    rw [bitsOf_zero] at hv
    exact hv
theorem bt_app {s t : ByteArray} {i : Nat} (h : i < 8 * s.size) : bt (s ++ t) i = bt s i := by
  unfold bt
  have e : (s ++ t).data.toList = s.data.toList ++ t.data.toList := by simp
  rw [e, List.getD_eq_getElem?_getD, List.getElem?_append_left (by rw [Array.length_toList, show s.data.size = s.size from rfl]; omega), ← List.getD_eq_getElem?_getD]
/-- With four bytes more it is too long. -/
theorem decT_more {h : Tw} (ok : okT h) (hg : goodT h = true) {t : ByteArray} (ht : t.size = 4) : decT (txt (encB h) ++ t) = (zeroT, 91) := by
  obtain ⟨f1, f2, f3, f4, f5, f6⟩ := encB_facts hg
  have hsz : (txt (encB h) ++ t).size = (txt (encB h)).size + 4 := by rw [ByteArray.size_append, ht]
  have hA : At (txt (encB h) ++ t) 0 (encA h) := fun j hj => by
    rw [Nat.zero_add, bt_app (by omega)]
    have := (show At (txt (encB h)) 0 (encA h) from At.left (at_encB h)) j hj
    rwa [Nat.zero_add] at this
  rw [decT_enc ok hg (by omega) (by omega) (by omega) (by rw [List.take_of_length_le (by omega)]; exact hA), if_neg (by omega), if_pos (.inl (by omega))]
/-- With four bytes less it is short. -/
theorem decT_less {h : Tw} (ok : okT h) (hg : goodT h = true) {S : ByteArray} (hs : S.size + 4 = (txt (encB h)).size) (hb : ∀ i, i < 8 * S.size → bt S i = bt (txt (encB h)) i) : decT S = (zeroT, 60) := by
  obtain ⟨f1, f2, f3, f4, f5, f6⟩ := encB_facts hg
  by_cases h16 : S.size < 16
  · unfold decT
    rw [if_neg (by omega), if_neg (by omega), if_pos h16]
  · have hA : At S 0 ((encA h).take (8 * S.size)) := fun j hj => by
      rw [List.length_take] at hj
      rw [Nat.zero_add, hb j (by omega)]
      have := (show At (txt (encB h)) 0 (encA h) from At.left (at_encB h)) j (by omega)
      rw [Nat.zero_add] at this
      rw [this, List.getD_eq_getElem?_getD, List.getD_eq_getElem?_getD, List.getElem?_take, if_pos (by omega)]
    rw [decT_enc ok hg (by omega) (by omega) (by omega) hA, if_pos (by omega)]
end Go.Proofs.Ytmedlplgeeeodaa.Tw
