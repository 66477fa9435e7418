/- The reference's New and Add; no condition but the ranges in each. -/
import Derived.Test.YtlidofldkomdbaaBaseRef
namespace Go.Proofs.Ytlidofldkomdbaa.Base
open Go.RowKit Go.Proofs.Ytlidofldkomdbaa.Plain Go.Proofs.Ytlidofldkomdbaa.Heap Go.Proofs.Ytlidofldkomdbaa.Open

set_option maxHeartbeats 400000 in
theorem ref_new_bad (width rows : Int) (w : World) (h : width < 1 ∨ 1125899906842624 < width ∨ rows < 1 ∨ 64 < rows) : Calls Try.prog 13 #[.int .i64 width, .int .i64 rows] w fun e w' => e = .returned (.tuple #[.pointer none, .int .i64 1]) ∧ w' = w := by
  have h' : width < 1 ∨ (¬ width < 1 ∧ 1125899906842624 < width) ∨ (¬ width < 1 ∧ ¬ 1125899906842624 < width ∧ rows < 1) ∨ (¬ width < 1 ∧ ¬ 1125899906842624 < width ∧ ¬ rows < 1 ∧ 64 < rows) := by omega
  clear h
  rcases h' with h | ⟨h, h2⟩ | ⟨h, h2, h3⟩ | ⟨h, h2, h3, h4⟩
  all_goals
    go_enter Try.func13, Try.ntmps13
    go_wp2
    go_ret2
    exact ⟨rfl, rfl⟩
set_option maxHeartbeats 400000 in
theorem ref_new (width rows : Int) (w : World) (h : ¬ width < 1) (h2 : ¬ 1125899906842624 < width) (h3 : ¬ rows < 1) (h4 : ¬ 64 < rows) : Calls Try.prog 13 #[.int .i64 width, .int .i64 rows] w
    fun e w' => e = .returned (.tuple #[.pointer (some ⟨w.heap.size, 0, none⟩), .int .i64 0]) ∧ QR w' w.heap.size ⟨width, rows, [], 0, false, 0⟩ (.slice none 0 0) ∧ Below w.heap.size w w' := by
  go_enter Try.func13, Try.ntmps13
  go_wp2
  go_ret2
  exact ⟨rfl, heap_alloc_new w _, (Below.refl _ _).alloc (Nat.le_refl _) _⟩
/-- The reference's least is the least of what counts. -/
theorem rmin_spec (l : List (Int × Int)) (x0 : Int) (k : Nat) (hk : k ≤ l.length) : rmin l x0 k ≤ x0 ∧ (∀ i, i < k → rmin l x0 k ≤ (l.getD i (0, 0)).2) ∧ (rmin l x0 k = x0 ∨ ∃ i, i < k ∧ rmin l x0 k = (l.getD i (0, 0)).2) := by
  induction k with
  | zero => exact ⟨Int.le_refl _, fun i hi => by omega, .inl rfl⟩
  | succ k ih =>
    obtain ⟨h1, h2, h3⟩ := ih (by omega)
    have hm := mn_le (a := rmin l x0 k) (b := (l.getD k (0, 0)).2)
    have e : rmin l x0 (k + 1) = mn (rmin l x0 k) (l.getD k (0, 0)).2 := rfl
    rw [e]
    refine ⟨by omega, fun i hi => ?_, ?_⟩
    · rcases Nat.lt_or_ge i k with h | h
      · have := h2 i h; omega
      · obtain rfl : i = k := by omega
        exact hm.2.1
    · rcases hm.2.2 with e2 | e2
      · rw [e2]
        rcases h3 with h3 | ⟨i, hi, h3⟩
        · exact .inl h3
        · exact .inr ⟨i, by omega, h3⟩
      · exact .inr ⟨k, by omega, e2⟩
theorem rleast_isL (l : List (Int × Int)) (lo : Int) (h : ∀ x ∈ l, lo < x.1) : IsL l lo (rleast l) := by
  unfold rleast
  split
  · rename_i h0
    refine .inl ⟨rfl, fun x hx => ?_⟩
    rw [List.eq_nil_of_length_eq_zero h0] at hx
    cases hx
  · rename_i h0
    have get : ∀ i, i < l.length → l.getD i (0, 0) ∈ l := fun i hi => by
      rw [List.getD_eq_getElem?_getD, List.getElem?_eq_getElem hi]
      exact List.getElem_mem _
    obtain ⟨h1, h2, h3⟩ := rmin_spec l (l.getD 0 (0, 0)).2 l.length (Nat.le_refl _)
    refine .inr ⟨rfl, ?_, fun x hx _ => ?_⟩
    · rcases h3 with h3 | ⟨i, hi, h3⟩
      · exact ⟨_, get 0 (by omega), h _ (get 0 (by omega)), h3.symm⟩
      · exact ⟨_, get i hi, h _ (get i hi), h3.symm⟩
    · obtain ⟨i, hi, rfl⟩ := List.mem_iff_getElem.1 hx
      have h4 := h2 i hi
      have h5 : l.getD i (0, 0) = l[i] := by rw [List.getD_eq_getElem?_getD, List.getElem?_eq_getElem hi]; rfl
      rw [h5] at h4
      exact h4
end Go.Proofs.Ytlidofldkomdbaa.Base
