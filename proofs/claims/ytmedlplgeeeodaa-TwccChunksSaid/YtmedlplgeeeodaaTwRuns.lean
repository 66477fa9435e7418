/- How many chunks a report has at most: plain; no condition. -/
import Derived.Test.YtmedlplgeeeodaaTwEnc
namespace Go.Proofs.Ytmedlplgeeeodaa.Tw
open Go.RowKit Go.Proofs.Ytmedlplgeeeodaa.Plain Go.Proofs.Ytmedlplgeeeodaa.Heap Go.Proofs.Ytmedlplgeeeodaa.Open Go.Proofs.Ytmedlplgeeeodaa.Rows Go.Proofs.Ytmedlplgeeeodaa.Bits
/-- How many runs a list has. -/
def runs : List Int → Nat
  | [] => 0
  | [_] => 1
  | x :: y :: l => runs (y :: l) + if x = y then 0 else 1
theorem runs_pos : ∀ {l : List Int}, l ≠ [] → 1 ≤ runs l
  | [], h => absurd rfl h
  | [_], _ => Nat.le_refl _
  | x :: y :: l, _ => by
    have := runs_pos (l := y :: l) (by simp)
    rw [runs]
    omega
theorem runs_tail : ∀ (x : Int) (l : List Int), runs l ≤ runs (x :: l)
  | _, [] => Nat.zero_le _
  | x, y :: l => by rw [runs]; omega
theorem runs_drop : ∀ (k : Nat) (l : List Int), runs (l.drop k) ≤ runs l
  | 0, l => Nat.le_refl _
  | k + 1, [] => by simp
  | k + 1, x :: l => by
    rw [List.drop_succ_cons]
    exact Nat.le_trans (runs_drop k l) (runs_tail x l)
theorem alk_cons (x y : Int) (l : List Int) : alk (x :: y :: l) = if x = y then alk (y :: l) + 1 else 1 := by
  unfold alk
  rw [List.takeWhile_cons, if_pos (by simp), List.length_cons]
  by_cases h : x = y
  · subst h
    rw [if_pos rfl]
    rfl
  · rw [if_neg h, List.takeWhile_cons, if_neg (by simp; exact fun e => h e.symm)]
    rfl
theorem runs_alk : ∀ {l : List Int}, l ≠ [] → runs (l.drop (alk l)) + 1 ≤ runs l
  | [], h => absurd rfl h
  | [x], _ => by
    have : alk [x] = 1 := by unfold alk; rw [List.takeWhile_cons, if_pos (by simp)]; rfl
    rw [this]
    exact Nat.le_refl _
  | x :: y :: l, _ => by
    have ih := runs_alk (l := y :: l) (by simp)
    rw [alk_cons]
    by_cases h : x = y
    · rw [if_pos h, List.drop_succ_cons, runs, if_pos h]
      exact ih
    · rw [if_neg h, runs, if_neg h]
      exact Nat.le_refl _
/-- Chunks: at most one for each seven, and one more for each run. -/
theorem encC_runs : ∀ (f : Nat) (l : List Int), (encC f l).length ≤ 16 * (l.length / 7 + runs l)
  | 0, l => by simp [encC]
  | f + 1, l => by
    by_cases h : l.length = 0
    · rw [encC, if_pos h]; simp
    · have hne : l ≠ [] := fun e => h (by rw [e]; rfl)
      rw [encC_cons h, List.length_append, lay_len]
      have ih := encC_runs f (l.drop (lay l).2)
      rw [List.length_drop] at ih
      have hp := runs_pos hne
      by_cases h1 : 7 ≤ alk l ∨ alk l = l.length
      · rw [lay_run h1] at ih ⊢
        simp only at ih ⊢
        have h2 := runs_alk hne
        have h3 : (l.length - alk l) / 7 ≤ l.length / 7 := Nat.div_le_div_right (Nat.sub_le _ _)
        omega
      · have row : ∀ k, 7 ≤ k → (encC f (l.drop (min k l.length))).length ≤ 16 * ((l.length - min k l.length) / 7 + runs (l.drop (min k l.length))) → 16 + (encC f (l.drop (min k l.length))).length ≤ 16 * (l.length / 7 + runs l) := fun k hk hi => by
          rcases Nat.lt_or_ge l.length k with h2 | h2
          · rw [Nat.min_eq_right (Nat.le_of_lt h2), List.drop_length, encC_nil]
            simp
            omega
          · rw [Nat.min_eq_left h2] at hi ⊢
            have := runs_drop k l
            omega
        by_cases h2 : twoB l = true
        · rw [lay_two h1 h2] at ih ⊢
          exact row 7 (by omega) ih
        · have h3 : twoB l = false := by simpa using h2
          rw [lay_one h1 h3] at ih ⊢
          exact row 14 (by omega) ih
/-- How many turns a walk counts. -/
def tn (l : List Int) : Nat → Nat
  | 0 => 1
  | i + 1 => tn l i + if 0 < i ∧ l.getD i 0 ≠ l.getD (i - 1) 0 then 1 else 0
theorem tn_le (l : List Int) : ∀ i, tn l i ≤ i + 1
  | 0 => Nat.le_refl _
  | i + 1 => by
    have := tn_le l i
    rw [tn]
    split <;> omega
theorem runs_snoc (x : Int) : ∀ (l : List Int), l ≠ [] → runs (l ++ [x]) ≤ runs l + if l.getD (l.length - 1) 0 = x then 0 else 1
  | [], h => absurd rfl h
  | [y], _ => by simp only [List.cons_append, List.nil_append, runs]; simp
  | y :: z :: l, _ => by
    have ih := runs_snoc x (z :: l) (by simp)
    have e : (y :: z :: l).getD ((y :: z :: l).length - 1) 0 = (z :: l).getD ((z :: l).length - 1) 0 := by simp
    rw [e]
    simp only [List.cons_append, runs] at ih ⊢
    omega
theorem runs_tn (l : List Int) : ∀ i, i ≤ l.length → runs (l.take i) ≤ tn l i
  | 0, _ => by simp [runs, tn]
  | i + 1, hi => by
    have ih := runs_tn l i (by omega)
    rw [List.take_succ_eq_append_getElem (by omega), tn]
    rcases Nat.eq_zero_or_pos i with h0 | h0
    · subst h0
      simp [runs, tn]
    · have hl : (l.take i).length = i := by rw [List.length_take]; omega
      have h1 := runs_snoc (l[i]) (l.take i) (fun e => by rw [e] at hl; simp at hl; omega)
      have e1 : (l.take i).getD ((l.take i).length - 1) 0 = l.getD (i - 1) 0 := by
        rw [hl, List.getD_eq_getElem?_getD, List.getElem?_take, if_pos (by omega), ← List.getD_eq_getElem?_getD]
      have e2 : l.getD i 0 = l[i] := by rw [List.getD_eq_getElem?_getD, List.getElem?_eq_getElem (by omega)]; rfl
      rw [e1, ← e2] at h1
      rw [← e2]
      by_cases h2 : l.getD (i - 1) 0 = l.getD i 0
      · rw [if_pos h2] at h1
        omega
      · rw [if_neg h2] at h1
        rw [if_pos ⟨h0, fun e => h2 e.symm⟩]
        omega
/-- The body is as long as that. -/
theorem encA_runs (h : Tw) : (encA h).length ≤ 128 + 16 * (h.st.length / 7 + tn h.st h.st.length) + 8 * sumTo h.st h.st.length := by
  have h1 := encC_runs h.st.length h.st
  have h2 := runs_tn h.st h.st.length (Nat.le_refl _)
  rw [List.take_length] at h2
  rw [encA_len]
  omega
end Go.Proofs.Ytmedlplgeeeodaa.Tw
