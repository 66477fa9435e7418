/- What is decoded is good: plain; no condition but the ranges in each. -/
import Derived.Test.YtmedlplgeeeodaaTwBack4
namespace Go.Proofs.Ytmedlplgeeeodaa.Tw
open Go.RowKit Go.Proofs.Ytmedlplgeeeodaa.Plain Go.Proofs.Ytmedlplgeeeodaa.Heap Go.Proofs.Ytmedlplgeeeodaa.Open Go.Proofs.Ytmedlplgeeeodaa.Rows Go.Proofs.Ytmedlplgeeeodaa.Bits
theorem goodTo_of {st ds : List Int} : ∀ {n : Nat}, (∀ i, i < n → okAt st ds i = true) → goodTo st ds n = true
  | 0, _ => rfl
  | n + 1, h => by rw [goodTo, goodTo_of (fun i hi => h i (by omega)), h n (by omega)]; rfl
theorem at_some {st : List Int} {i : Nat} (h : i < st.length) : st[i]? = some (st.getD i 0) := by rw [List.getD_eq_getElem?_getD, List.getElem?_eq_getElem h]; rfl
theorem decD_nz {s : ByteArray} {st : List Int} {r : Nat} (h : ∀ y ∈ st, 0 ≤ y ∧ y ≤ 2) : ∀ i, i ≤ st.length → (decD s st r i).length = nz (st.take i)
  | 0, _ => by simp [decD, nz_nil]
  | i + 1, hi => by
    have hx := at_some (show i < st.length by omega)
    have ih := decD_nz (s := s) (r := r) h i (by omega)
    obtain ⟨x, ex⟩ : ∃ x, x = st.getD i 0 := ⟨_, rfl⟩
    rw [← ex] at hx
    have hb := h x (List.mem_of_getElem? hx)
    rw [nz_take hx]
    rcases (show x = 0 ∨ x = 1 ∨ x = 2 by omega) with h1 | h1 | h1
    · subst h1; rw [decD_zero hx, ih]; rfl
    · subst h1; rw [decD_one hx, List.length_append, ih]; rfl
    · subst h1; rw [decD_two hx, List.length_append, ih]; rfl
theorem decD_pre {s : ByteArray} {st : List Int} {r i : Nat} : ∀ {n : Nat}, i ≤ n → ∃ t, decD s st r n = decD s st r i ++ t
  | 0, h => ⟨[], by rw [Nat.le_zero.1 h, List.append_nil]⟩
  | n + 1, h => by
    rcases Nat.lt_or_ge i (n + 1) with h1 | h1
    · obtain ⟨t, ht⟩ := decD_pre (s := s) (st := st) (r := r) (show i ≤ n by omega)
      rw [decD, ht, List.append_assoc]
      exact ⟨_, rfl⟩
    · exact ⟨[], by rw [show i = n + 1 by omega, List.append_nil]⟩
theorem getD_mid {a t : List Int} {v : Int} {k : Nat} (h : k = a.length) : ((a ++ [v]) ++ t).getD k 0 = v := by
  subst h
  simp [List.getD_eq_getElem?_getD]
theorem decD_good {s : ByteArray} {st : List Int} {r : Nat} (h : ∀ y ∈ st, 0 ≤ y ∧ y ≤ 2) : goodTo st (decD s st r st.length) st.length = true := goodTo_of fun i hi => by
  have hx := at_some hi
  obtain ⟨x, ex⟩ : ∃ x, x = st.getD i 0 := ⟨_, rfl⟩
  have hn := decD_nz (s := s) (r := r) h (i + 1) (by omega)
  have hm := decD_nz (s := s) (r := r) h i (by omega)
  obtain ⟨t, ht⟩ := decD_pre (s := s) (st := st) (r := r) (show i + 1 ≤ st.length by omega)
  unfold okAt
  rw [← ex] at hx ⊢
  have hb := h x (List.mem_of_getElem? hx)
  rw [nz_take hx] at hn
  simp only [Bool.and_eq_true, Bool.or_eq_true, decide_eq_true_eq]
  refine ⟨⟨hb.1, hb.2⟩, ?_⟩
  by_cases h0 : x = 0
  · exact .inl h0
  · rw [if_neg h0] at hn
    refine .inr ⟨by rw [ht, List.length_append]; omega, ?_⟩
    rcases (show x = 1 ∨ x = 2 by omega) with h1 | h1
    · subst h1
      rw [decD_one hx] at ht
      rw [ht, getD_mid hm.symm]
      have hv := vx_bd s (r + 8 * sumTo st i) 8
      unfold dok
      simp only [Bool.and_eq_true, Bool.or_eq_true, decide_eq_true_eq]
      omega
    · subst h1
      rw [decD_two hx] at ht
      rw [ht, getD_mid hm.symm]
      have hv := vx_bd s (r + 8 * sumTo st i) 16
      unfold dok sg
      simp only [Bool.and_eq_true, Bool.or_eq_true, decide_eq_true_eq, Nat.reduceSub, Int.reducePow] at hv ⊢
      refine ⟨⟨?_, ?_⟩, .inl (by decide)⟩ <;> (split <;> omega)
theorem sg24_bd {v : Int} (h0 : 0 ≤ v) (h1 : v < 2 ^ 24) : -8388608 ≤ sg 24 v ∧ sg 24 v < 8388608 := by
  unfold sg
  simp only [Nat.reduceSub, Int.reducePow] at h1 ⊢
  split <;> omega
theorem sg16_bd {v : Int} (h0 : 0 ≤ v) (h1 : v < 2 ^ 16) : -32768 ≤ sg 16 v ∧ sg 16 v ≤ 32767 := by
  unfold sg
  simp only [Nat.reduceSub, Int.reducePow] at h1 ⊢
  split <;> omega
theorem decD_rng {s : ByteArray} {st : List Int} {r : Nat} : ∀ i, ∀ x ∈ decD s st r i, -32768 ≤ x ∧ x ≤ 32767
  | 0, x, h => by rw [decD] at h; cases h
  | i + 1, x, h => by
    rw [decD, List.mem_append] at h
    rcases h with h | h
    · exact decD_rng i x h
    · split at h
      · rw [List.mem_singleton.1 h]
        have := vx_bd s (r + 8 * sumTo st i) 8
        omega
      · split at h
        · rw [List.mem_singleton.1 h]
          have := vx_bd s (r + 8 * sumTo st i) 16
          exact sg16_bd this.1 this.2
        · cases h
/-- What Decode tells is an error, or a report. -/
theorem decT_ways (s : ByteArray) : ((decT s).1 = zeroT ∧ (decT s).2 ≠ 0) ∨ ∃ (st : List Int) (e : Nat), (∀ y ∈ st, 0 ≤ y ∧ y ≤ 2) ∧ 1 ≤ st.length ∧ st.length ≤ 4096 ∧ decT s = ((val s 0 32, val s 32 32, val s 64 16, sg 24 (val s 96 24), val s 120 8, st, decD s st e st.length), 0) := by
  unfold decT
  split
  · exact .inl ⟨rfl, by decide⟩
  split
  · exact .inl ⟨rfl, by decide⟩
  split
  · exact .inl ⟨rfl, by decide⟩
  split
  · exact .inl ⟨rfl, by decide⟩
  split
  · exact .inl ⟨rfl, by decide⟩
  rename_i h1 h2 h3 h4 h5
  cases hd : decC s (manyT s) (manyT s + 1) 128 [] with
  | error c => exact .inl ⟨rfl, decC_err hd⟩
  | ok x =>
    obtain ⟨st, e⟩ := x
    obtain ⟨d1, d2, d3, d4, d5⟩ := decC_ok (Nat.zero_le _) (by omega) (fun y hy => by cases hy) hd
    simp only [outT, tailT]
    split
    · exact .inl ⟨rfl, by decide⟩
    split
    · exact .inl ⟨rfl, by decide⟩
    exact .inr ⟨st, e, d2, by omega, by omega, rfl⟩
/-- What is decoded is a good report. -/
theorem decT_good {s : ByteArray} (h : (decT s).2 = 0) : goodT (decT s).1 = true ∧ okT (decT s).1 := by
  rcases decT_ways s with ⟨_, h1⟩ | ⟨st, e, h2, n1, n2, hd⟩
  · exact absurd h h1
  · rw [hd]
    have g0 := val_bd s 0 32
    have g1 := val_bd s 32 32
    have g2 := val_bd s 64 16
    have g3 := val_bd s 96 24
    have g4 := val_bd s 120 8
    have g5 := sg24_bd g3.1 g3.2
    simp only [Int.reducePow] at g0 g1 g2 g3 g4
    have hn := decD_nz (s := s) (r := e) h2 st.length (Nat.le_refl _)
    rw [List.take_length] at hn
    refine ⟨?_, ?_⟩
    · unfold goodT
      rw [Bool.and_eq_true, Bool.and_eq_true, decide_eq_true_eq, goodB_iff]
      refine ⟨⟨⟨g2.1, ?_, g5.1, g5.2, g4.1, ?_, n1, n2⟩, decD_good h2⟩, hn.symm⟩
      · show val s 64 16 ≤ 65535
        omega
      · show val s 120 8 ≤ 255
        omega
    · refine ⟨g0.1, g0.2, g1.1, g1.2, ?_, ?_, ?_, ?_, ?_, ?_, fun x hx => ?_, fun x hx => ?_⟩
      · show _ ≤ val s 64 16
        omega
      · show val s 64 16 ≤ _
        omega
      · show _ ≤ sg 24 (val s 96 24)
        omega
      · show sg 24 (val s 96 24) ≤ _
        omega
      · show _ ≤ val s 120 8
        omega
      · show val s 120 8 ≤ _
        omega
      · have := h2 x hx
        omega
      · have := decD_rng _ x hx
        omega
theorem decT_zero {s : ByteArray} (h : (decT s).2 ≠ 0) : (decT s).1 = zeroT := by
  rcases decT_ways s with ⟨h1, _⟩ | ⟨st, e, _, _, _, hd⟩
  · exact h1
  · rw [hd] at h
    exact absurd rfl h
end Go.Proofs.Ytmedlplgeeeodaa.Tw
