/- What holds the bits of a report is decoded to it: plain; no condition but the ranges in each. -/
import Derived.Test.YtmedlplgeeeodaaTwBack
namespace Go.Proofs.Ytmedlplgeeeodaa.Tw
open Go.RowKit Go.Proofs.Ytmedlplgeeeodaa.Plain Go.Proofs.Ytmedlplgeeeodaa.Heap Go.Proofs.Ytmedlplgeeeodaa.Open Go.Proofs.Ytmedlplgeeeodaa.Rows Go.Proofs.Ytmedlplgeeeodaa.Bits
/-- The chunks of so many statuses: all are told, or the text is short. -/
theorem decC_enc {S : ByteArray} {many : Nat} : ∀ {f g r : Nat} {done l : List Int}, done.length + l.length = many → many ≤ 4096 → many < f + done.length → l.length ≤ g → r ≤ 8 * S.size → (∀ y ∈ l, 0 ≤ y ∧ y ≤ 2) →
    At S r ((encC g l).take (8 * S.size - r)) → decC S many f r done = if r + (encC g l).length ≤ 8 * S.size then .ok (done ++ l, r + (encC g l).length) else .error 60 := by
  intro f
  induction f with
  | zero => intro g r done l h1 _ h2; omega
  | succ f ih =>
    intro g r done l h1 h4 h2 h3 hr h02 hA
    by_cases hl : l.length = 0
    · have e := List.eq_nil_of_length_eq_zero hl
      subst e
      rw [decC_end (by omega), encC_nil, if_pos (by simpa using hr)]
      simp
    · have hne : l ≠ [] := fun e => hl (by rw [e]; rfl)
      obtain ⟨g, rfl⟩ : ∃ k, g = k + 1 := ⟨g - 1, by omega⟩
      obtain ⟨m1, m2⟩ := lay_many hne
      have e := encC_cons (f := g) hl
      have el := lay_len l
      rw [e] at hA ⊢
      by_cases hs : 8 * S.size < r + 16
      · rw [decC_short (by omega) hs, if_neg (by rw [List.length_append]; omega)]
      · rw [List.take_append, List.take_of_length_le (by omega)] at hA
        have hc := chunk_lay hne h02 (by omega) hA.left
        have hA2 := hA.right (n := 16) el.symm
        rw [el, Nat.sub_sub] at hA2
        rw [decC_next (by omega) hs (by rw [show many - done.length = l.length by omega]; exact hc)]
        rw [ih (g := g) (l := l.drop (lay l).2) (by rw [List.length_append, List.length_take, List.length_drop]; omega) h4 (by rw [List.length_append, List.length_take]; omega) (by rw [List.length_drop]; omega) (by omega) (fun y hy => h02 y (List.mem_of_mem_drop hy)) hA2]
        rw [List.append_assoc, List.take_append_drop, List.length_append, el, ← Nat.add_assoc]
theorem at_dto {S : ByteArray} {r : Nat} {st ds : List Int} {i : Nat} : ∀ {n : Nat}, At S r (encDto st ds n) → i ≤ n → At S r (encDto st ds i)
  | 0, h, hi => by rw [Nat.le_zero.1 hi]; exact h
  | n + 1, h, hi => by
    rcases Nat.lt_or_ge i (n + 1) with h1 | h1
    · rw [encDto] at h
      exact at_dto h.left (by omega)
    · rw [show i = n + 1 by omega]; exact h
theorem sg16 {d : Int} (h0 : -32768 ≤ d) (h1 : d ≤ 32767) : sg 16 (d % 2 ^ 16) = d := by
  unfold sg
  simp only [Nat.reduceSub, Int.reducePow]
  split <;> omega
theorem sg24 {d : Int} (h0 : -8388608 ≤ d) (h1 : d < 8388608) : sg 24 (d % 2 ^ 24) = d := by
  unfold sg
  simp only [Nat.reduceSub, Int.reducePow]
  split <;> omega
theorem take_getD {l : List Int} {k : Nat} (h : k < l.length) : l.take (k + 1) = l.take k ++ [l.getD k 0] := by
  rw [List.take_succ_eq_append_getElem h, List.getD_eq_getElem?_getD, List.getElem?_eq_getElem h]
  rfl
theorem sumTo_mono2 (l : List Int) {i : Nat} : ∀ {j : Nat}, i ≤ j → sumTo l i ≤ sumTo l j
  | 0, h => by rw [Nat.le_zero.1 h]; exact Nat.le_refl _
  | j + 1, h => by
    rcases Nat.lt_or_ge i (j + 1) with h1 | h1
    · have := sumTo_mono2 l (show i ≤ j by omega)
      rw [sumTo]
      omega
    · rw [show i = j + 1 by omega]; exact Nat.le_refl _
/-- The deltas are told as they were. -/
theorem decD_enc {S : ByteArray} {r : Nat} {st ds : List Int} (hg : goodTo st ds st.length = true) (hA : At S r (encDto st ds st.length)) (hf : r + 8 * sumTo st st.length ≤ 8 * S.size) : ∀ i, i ≤ st.length → decD S st r i = ds.take (nz (st.take i))
  | 0, _ => by simp [decD, nz_nil]
  | i + 1, hi => by
    have ih := decD_enc hg hA hf i (by omega)
    have hx : st[i]? = some (st.getD i 0) := by rw [List.getD_eq_getElem?_getD, List.getElem?_eq_getElem (by omega)]; rfl
    obtain ⟨k1, k2, k3⟩ := ok_facts (goodTo_at hg (show i < st.length by omega))
    have hA1 := at_dto hA hi
    have hs := sumTo_mono2 st hi
    obtain ⟨x, ex⟩ : ∃ x, x = st.getD i 0 := ⟨_, rfl⟩
    rw [encDto] at hA1
    rw [← ex] at hx k1 k2 k3 hA1
    have hs1 := sumTo_succ hx
    rw [nz_take hx]
    by_cases h0 : x = 0
    · subst h0
      rw [decD_zero hx, ih, if_pos rfl, Nat.add_zero]
    · rw [if_neg h0]
      rw [if_neg h0] at hA1
      obtain ⟨k4, k5⟩ := k3.resolve_left h0
      have hA2 := hA1.right (n := 8 * sumTo st i) (encDto_len st ds i).symm
      rw [take_getD k4, ← ih]
      obtain ⟨d, hd⟩ : ∃ d, d = ds.getD (nz (st.take i)) 0 := ⟨_, rfl⟩
      rw [← hd] at k5 hA2 ⊢
      unfold dok at k5
      simp only [Bool.and_eq_true, Bool.or_eq_true, Bool.not_eq_true', decide_eq_true_eq, decide_eq_false_iff_not] at k5
      rcases (show x = 1 ∨ x = 2 by omega) with h1 | h1
      · subst h1
        rw [decD_one hx, vx_fit (by rw [hs1] at hs; simp only [Int.toNat_one] at hs; omega), val_at0 (show At S (r + 8 * sumTo st i) (bitsOf d 8) from hA2) (by omega) (by omega)]
      · subst h1
        rw [decD_two hx, vx_fit (by rw [hs1] at hs; simp only [Int.reduceToNat] at hs; omega), val_at (show At S (r + 8 * sumTo st i) (bitsOf d 16) from hA2), sg16 (by omega) (by omega)]
end Go.Proofs.Ytmedlplgeeeodaa.Tw
