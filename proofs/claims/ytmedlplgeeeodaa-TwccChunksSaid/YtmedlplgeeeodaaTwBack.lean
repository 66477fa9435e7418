/- What holds the bits of a chunk is decoded to it: plain; no condition but the ranges in each. -/
import Derived.Test.YtmedlplgeeeodaaTwDec
import Derived.Test.YtmedlplgeeeodaaBitsZ
namespace Go.Proofs.Ytmedlplgeeeodaa.Tw
open Go.RowKit Go.Proofs.Ytmedlplgeeeodaa.Plain Go.Proofs.Ytmedlplgeeeodaa.Heap Go.Proofs.Ytmedlplgeeeodaa.Open Go.Proofs.Ytmedlplgeeeodaa.Rows Go.Proofs.Ytmedlplgeeeodaa.Bits
/-- A text holds these bits from a place on. -/
def At (S : ByteArray) (r : Nat) (M : List Int) : Prop := ∀ j, j < M.length → bt S (r + j) = M.getD j 0
theorem At.left {S : ByteArray} {r : Nat} {M N : List Int} (h : At S r (M ++ N)) : At S r M := fun j hj => by
  have h1 := h j (by rw [List.length_append]; omega)
  rwa [List.getD_eq_getElem?_getD, List.getElem?_append_left hj, ← List.getD_eq_getElem?_getD] at h1
theorem At.right {S : ByteArray} {r n : Nat} {M N : List Int} (h : At S r (M ++ N)) (hn : n = M.length) : At S (r + n) N := fun j hj => by
  subst hn
  have h1 := h (M.length + j) (by rw [List.length_append]; omega)
  rwa [List.getD_eq_getElem?_getD, List.getElem?_append_right (by omega), ← List.getD_eq_getElem?_getD, Nat.add_sub_cancel_left, ← Nat.add_assoc] at h1
theorem At.txt {L : List Int} (h : IsBits L) : At (txt L) 0 L := fun j _ => by rw [Nat.zero_add]; exact bt_txt h j
theorem val_like {S T : ByteArray} {a b : Nat} : ∀ n, (∀ j, j < n → bt S (a + j) = bt T (b + j)) → val S a n = val T b n
  | 0, _ => rfl
  | n + 1, h => by
    simp only [Bits.val]
    rw [val_like n (fun j hj => h j (by omega)), h n (by omega)]
theorem val_at {S : ByteArray} {a n : Nat} {v : Int} (h : At S a (bitsOf v n)) : val S a n = v % 2 ^ n := by
  have hp : (0 : Int) < 2 ^ n := Int.pow_pos (by omega)
  have h1 : val (txt (bitsOf (v % 2 ^ n) n)) 0 n = v % 2 ^ n := val_put (P := []) (R := []) (bitsOf_bits _ _) (by simp) (Int.emod_nonneg _ (by omega)) (Int.emod_lt_of_pos _ hp)
  rw [bitsOf_mod v n n (Nat.le_refl _)] at h1
  rw [← h1]
  exact val_like n fun j hj => by rw [h j (by rw [bitsOf_length]; exact hj), Nat.zero_add, bt_txt (bitsOf_bits _ _)]
theorem val_at0 {S : ByteArray} {a n : Nat} {v : Int} (h : At S a (bitsOf v n)) (h0 : 0 ≤ v) (h1 : v < 2 ^ n) : val S a n = v := by
  rw [val_at h, Int.emod_eq_of_lt h0 h1]
theorem row_at {S : ByteArray} {r each : Nat} {l : List Int} : ∀ {many : Nat}, At S r (rowB l each many) → (∀ i, i < many → 0 ≤ l.getD i 0 ∧ l.getD i 0 < 2 ^ each) → ∀ i, i < many → codeAt S r each i = l.getD i 0
  | 0, _, _, _, hi => absurd hi (Nat.not_lt_zero _)
  | many + 1, h, hs, i, hi => by
    rw [rowB_succ] at h
    rcases Nat.lt_or_ge i many with h1 | h1
    · exact row_at h.left (fun k hk => hs k (by omega)) i h1
    · rw [show i = many by omega]
      have h2 := h.right (n := each * many) (by rw [rowB_len, Nat.mul_comm])
      exact val_at0 h2 (hs many (by omega)).1 (hs many (by omega)).2
theorem rowOk_yes {s : ByteArray} {r each lack : Nat} : ∀ {n : Nat}, (∀ i, i < n → codeAt s r each i ≤ 2 ∧ (i < lack ∨ codeAt s r each i = 0)) → rowOk s r each lack n = true
  | 0, _ => rfl
  | n + 1, h => by
    rw [rowOk, rowOk_yes (fun i hi => h i (by omega)), Bool.and_eq_true, Bool.and_eq_true, Bool.or_eq_true, decide_eq_true_eq, decide_eq_true_eq, decide_eq_true_eq]
    exact ⟨rfl, h n (by omega)⟩
theorem getD_out {l : List Int} {i : Nat} (h : l.length ≤ i) : l.getD i 0 = 0 := by rw [List.getD_eq_getElem?_getD, List.getElem?_eq_none h]; rfl
theorem row_done {S : ByteArray} {r each many : Nat} {l : List Int} (h : ∀ i, i < many → codeAt S r each i = l.getD i 0) (h2 : ∀ i, i < many → l.getD i 0 ≤ 2) : rowOk S r each l.length many = true ∧ rowL S r each (min many l.length) = l.take (min many l.length) := by
  refine ⟨rowOk_yes fun i hi => ?_, ?_⟩
  · rw [h i hi]
    refine ⟨h2 i hi, ?_⟩
    rcases Nat.lt_or_ge i l.length with h1 | h1
    · exact .inl h1
    · exact .inr (getD_out h1)
  · refine List.ext_getElem (by rw [rowL_len, List.length_take]; omega) fun i h1 h3 => ?_
    have h4 : i < min many l.length := by rwa [rowL_len] at h1
    simp only [rowL, List.getElem_map, List.getElem_range, List.getElem_take]
    rw [h i (by omega), List.getD_eq_getElem?_getD, List.getElem?_eq_getElem (by omega)]
    rfl
theorem getD_02 {l : List Int} (h : ∀ y ∈ l, 0 ≤ y ∧ y ≤ 2) (i : Nat) : 0 ≤ l.getD i 0 ∧ l.getD i 0 ≤ 2 := by
  rcases Nat.lt_or_ge i l.length with h1 | h1
  · rw [List.getD_eq_getElem?_getD, List.getElem?_eq_getElem h1]
    exact h _ (List.getElem_mem h1)
  · rw [getD_out h1]
    omega
theorem twoB_no {l : List Int} (h : twoB l = false) (i : Nat) (hi : i < 14) : l.getD i 0 ≠ 2 := by
  rcases Nat.lt_or_ge i l.length with h1 | h1
  · intro e
    have h2 := List.any_eq_false.1 h (l[i]) (List.mem_iff_getElem?.2 ⟨i, by rw [List.getElem?_take, if_pos hi, List.getElem?_eq_getElem h1]⟩)
    rw [List.getD_eq_getElem?_getD, List.getElem?_eq_getElem h1] at e
    exact h2 (decide_eq_true e)
  · rw [getD_out h1]
    omega
/-- Where the bits of a chunk lie, the chunk is told. -/
theorem chunk_lay {S : ByteArray} {r : Nat} {l : List Int} (hl : l ≠ []) (h02 : ∀ y ∈ l, 0 ≤ y ∧ y ≤ 2) (hn : l.length ≤ 4096) (h : At S r (lay l).1) : chunkD S r l.length = some (l.take (lay l).2) := by
  have hg := getD_02 h02
  by_cases h1 : 7 ≤ alk l ∨ alk l = l.length
  · rw [lay_run h1] at h ⊢
    simp only at h ⊢
    have a1 := alk_pos hl
    have a2 := alk_le l
    have v0 := val_at0 h.left.left (by omega) (by decide)
    have v1 := val_at0 (h.left.right (n := 1) (by rw [bitsOf_length])) (hg 0).1 (by have := (hg 0).2; omega)
    have v2 := val_at0 (h.right (n := 3) (by simp [bitsOf_length])) (by omega) (by omega)
    unfold chunkD
    rw [if_pos v0, v1, v2, if_neg (by have := (hg 0).2; omega), Int.toNat_natCast, Nat.min_eq_left a2]
    congr 1
    refine List.ext_getElem (by simp; omega) fun i h2 h3 => ?_
    rw [List.length_replicate] at h2
    rw [List.getElem_replicate, List.getElem_take]
    exact (alk_at h2 (List.getElem?_eq_getElem (by omega))).symm
  · by_cases h2 : twoB l = true
    · rw [lay_two h1 h2] at h ⊢
      simp only at h ⊢
      have v0 := val_at0 h.left.left (by omega) (by decide)
      have v1 := val_at0 (h.left.right (n := 1) (by rw [bitsOf_length])) (by omega) (by decide)
      have hr := row_done (row_at (h.right (n := 2) (by simp [bitsOf_length])) (fun i _ => ⟨(hg i).1, by have := (hg i).2; omega⟩)) (fun i _ => (hg i).2)
      unfold chunkD
      rw [if_neg (by rw [v0]; decide), if_pos v1, if_pos hr.1, hr.2]
    · have h3 : twoB l = false := by simpa using h2
      rw [lay_one h1 h3] at h ⊢
      simp only at h ⊢
      have v0 := val_at0 h.left.left (by omega) (by decide)
      have v1 := val_at0 (h.left.right (n := 1) (by rw [bitsOf_length])) (by omega) (by decide)
      have hr := row_done (row_at (h.right (n := 2) (by simp [bitsOf_length])) (fun i hi => ⟨(hg i).1, by have := (hg i).2; have := twoB_no h3 i hi; omega⟩)) (fun i _ => (hg i).2)
      unfold chunkD
      rw [if_neg (by rw [v0]; decide), if_neg (by rw [v1]; decide), if_pos hr.1, hr.2]
end Go.Proofs.Ytmedlplgeeeodaa.Tw
