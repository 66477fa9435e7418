/- The plain base and its samples: each row that counts is the least of its samples; no condition but the ranges in each. -/
import Derived.Test.YtlidofldkomdbaaBaseLaw
namespace Go.Proofs.Ytlidofldkomdbaa.Base
open Go.RowKit Go.Proofs.Ytlidofldkomdbaa.Plain Go.Proofs.Ytlidofldkomdbaa.Heap

/-- The base's rows, told by the samples (row, delay). -/
structure Inv (s : BS) (h : List (Int × Int)) : Prop where
  none : s.any = false → h = [] ∧ ∀ j, (s.ring j).2.2 = false
  le : ∀ x ∈ h, x.1 ≤ s.newest
  has : s.any = true → ∃ x ∈ h, x.1 = s.newest
  row : ∀ j : Nat, (j : Int) < s.rows → (s.ring j).2.2 = true → s.newest - s.rows < (s.ring j).1 → (s.ring j).1 % s.rows = (j : Int) ∧ (s.ring j).1 ≤ s.newest ∧ ((s.ring j).1, (s.ring j).2.1) ∈ h ∧ ∀ d, ((s.ring j).1, d) ∈ h → (s.ring j).2.1 ≤ d
  back : ∀ x ∈ h, s.newest - s.rows < x.1 → (s.ring (x.1 % s.rows).toNat).1 = x.1 ∧ (s.ring (x.1 % s.rows).toNat).2.2 = true
theorem inv_fresh (width rows : Int) : Inv (fresh width rows) [] :=
  ⟨fun _ => ⟨rfl, fun _ => rfl⟩, nofun, nofun, (fun _ _ h => by cases h), nofun⟩
theorem up_facts (s : BS) (n : Int) : (up s n).rows = s.rows ∧ (up s n).width = s.width ∧ (up s n).ring = s.ring ∧ (up s n).any = true ∧ n ≤ (up s n).newest ∧ (s.any = true → s.newest ≤ (up s n).newest) ∧ ((up s n).newest = n ∨ ((up s n).newest = s.newest ∧ s.any = true)) := by
  unfold up
  split
  · rename_i hc
    exact ⟨rfl, rfl, rfl, rfl, Int.le_refl _, (fun ha => by
      rcases hc with hc | hc
      · rw [hc] at ha; cases ha
      · show s.newest ≤ n; omega), .inl rfl⟩
  · rename_i hc
    have ha : s.any = true := by
      cases h : s.any with
      | false => exact absurd (.inl h) hc
      | true => rfl
    refine ⟨rfl, rfl, rfl, ha, ?_, fun _ => Int.le_refl _, .inr ⟨rfl, ha⟩⟩
    show n ≤ s.newest
    have : ¬ s.newest < n := fun h => hc (.inr h)
    omega
theorem same_row {a b m R : Int} (hR : 1 ≤ R) (ha : m - R < a) (ha' : a ≤ m) (hb : m - R < b) (hb' : b ≤ m) (h : a % R = b % R) : a = b := by
  have h1 := Int.emod_add_mul_ediv a R
  have h2 := Int.emod_add_mul_ediv b R
  rw [h] at h1
  have h3 : R * (a / R - b / R) = a - b := by rw [Int.mul_sub]; omega
  generalize a / R - b / R = q at h3
  rcases Int.lt_trichotomy q 0 with hq | hq | hq
  · have : R * q ≤ R * (-1) := Int.mul_le_mul_of_nonneg_left (by omega) (by omega)
    omega
  · subst hq; omega
  · have : R * 1 ≤ R * q := Int.mul_le_mul_of_nonneg_left (by omega) (by omega)
    omega
theorem inv_up {s : BS} {h : List (Int × Int)} (hi : Inv s h) (n : Int) :
    (∀ x ∈ h, x.1 ≤ (up s n).newest) ∧
    (∀ j : Nat, (j : Int) < s.rows → (s.ring j).2.2 = true → (up s n).newest - s.rows < (s.ring j).1 → (s.ring j).1 % s.rows = (j : Int) ∧ (s.ring j).1 ≤ (up s n).newest ∧ ((s.ring j).1, (s.ring j).2.1) ∈ h ∧ ∀ d, ((s.ring j).1, d) ∈ h → (s.ring j).2.1 ≤ d) ∧
    (∀ x ∈ h, (up s n).newest - s.rows < x.1 → (s.ring (x.1 % s.rows).toNat).1 = x.1 ∧ (s.ring (x.1 % s.rows).toNat).2.2 = true) := by
  obtain ⟨f1, f2, f3, f4, f5, f6, f7⟩ := up_facts s n
  cases ha : s.any with
  | false =>
    obtain ⟨rfl, h2⟩ := hi.none ha
    exact ⟨nofun, (fun j _ hj => by rw [h2 j] at hj; cases hj), nofun⟩
  | true =>
    have f6 := f6 ha
    refine ⟨fun x hx => by have := hi.le x hx; omega, fun j hj hs hc => ?_, fun x hx hc => hi.back x hx (by omega)⟩
    obtain ⟨a, b, c, d⟩ := hi.row j hj hs (by omega)
    exact ⟨a, by omega, c, d⟩
theorem mn_le {a b : Int} : mn a b ≤ a ∧ mn a b ≤ b ∧ (mn a b = a ∨ mn a b = b) := by unfold mn; split <;> omega
theorem inv_step {s : BS} {h : List (Int × Int)} (hi : Inv s h) (ok : okB s) (at_ delay : Int) :
    Inv (bstep s at_ delay).1 (h ++ [(hold at_ 0 1125899906842624 / s.width, hold delay (-1125899906842624) 1125899906842624)]) := by
  have hr := row_bd ok at_
  have e0 := ok.rows0
  unfold bstep
  generalize hold at_ 0 1125899906842624 / s.width = n at *
  generalize hold delay (-1125899906842624) 1125899906842624 = D at *
  obtain ⟨u1, u2, u3⟩ := inv_up hi n
  obtain ⟨f1, f2, f3, f4, f5, f6, f7⟩ := up_facts s n
  have hhas : ∃ x ∈ h ++ [(n, D)], x.1 = (up s n).newest := by
    rcases f7 with f7 | ⟨f7, ha⟩
    · exact ⟨(n, D), by simp, f7.symm⟩
    · obtain ⟨x, hx, hx2⟩ := hi.has ha
      exact ⟨x, List.mem_append_left _ hx, by rw [f7]; exact hx2⟩
  have hle : ∀ x ∈ h ++ [(n, D)], x.1 ≤ (up s n).newest := by
    intro x hx
    rcases List.mem_append.1 hx with hx | hx
    · exact u1 x hx
    · simp at hx; subst hx; exact f5
  split
  · rename_i hold_
    refine ⟨(fun ha => by simp only at ha; rw [f4] at ha; cases ha), hle, fun _ => hhas, fun j hj hs hc => ?_, fun x hx hc => ?_⟩
    · simp only [f1, f3] at hj hs hc ⊢
      obtain ⟨a, b, c, d⟩ := u2 j hj hs hc
      refine ⟨a, b, List.mem_append_left _ c, fun d' hd => ?_⟩
      rcases List.mem_append.1 hd with hd | hd
      · exact d d' hd
      · simp at hd
        omega
    · simp only [f1, f3] at hc ⊢
      rcases List.mem_append.1 hx with hx | hx
      · exact u3 x hx hc
      · simp at hx; subst hx
        simp only at hc
        omega
  · rename_i hnew
    have hm0 := Int.emod_nonneg n (show s.rows ≠ 0 by omega)
    have hm1 := Int.emod_lt_of_pos n (show 0 < s.rows by omega)
    refine ⟨(fun ha => by simp only [putRow] at ha; rw [f4] at ha; cases ha), hle, fun _ => hhas, fun j hj hs hc => ?_, fun x hx hc => ?_⟩
    · simp only [putRow, f1, f3] at hj hs hc ⊢
      by_cases ej : j = (n % s.rows).toNat
      · rw [if_pos ej] at hs hc ⊢
        have ej2 : n % s.rows = (j : Int) := by omega
        rw [← ej] at hs hc ⊢
        unfold rowOf at hs hc ⊢
        by_cases hcase : (s.ring j).1 ≠ n ∨ (s.ring j).2.2 = false
        · rw [if_pos hcase] at hs hc ⊢
          have hDD : mn D D = D := by unfold mn; simp
          refine ⟨ej2, f5, by rw [hDD]; simp, fun d hd => ?_⟩
          simp only at hc hd ⊢
          rw [hDD]
          rcases List.mem_append.1 hd with hd | hd
          · exfalso
            obtain ⟨g1, g2⟩ := u3 _ hd hc
            simp only at g1 g2
            rw [← ej] at g1 g2
            rcases hcase with hcase | hcase
            · exact hcase g1
            · rw [hcase] at g2; cases g2
          · simp at hd; omega
        · rw [if_neg hcase] at hs hc ⊢
          have hn1 : (s.ring j).1 = n := Classical.byContradiction fun h => hcase (.inl h)
          simp only at hs hc ⊢
          obtain ⟨a, b, c, d⟩ := u2 j hj hs hc
          have hm := mn_le (a := (s.ring j).2.1) (b := D)
          refine ⟨a, b, ?_, fun d' hd => ?_⟩
          · rcases hm.2.2 with e | e
            · rw [e]; exact List.mem_append_left _ c
            · rw [e, hn1]; simp
          · rcases List.mem_append.1 hd with hd | hd
            · have := d d' hd; omega
            · simp at hd; omega
      · rw [if_neg ej] at hs hc ⊢
        obtain ⟨a, b, c, d⟩ := u2 j hj hs hc
        refine ⟨a, b, List.mem_append_left _ c, fun d' hd => ?_⟩
        rcases List.mem_append.1 hd with hd | hd
        · exact d d' hd
        · simp at hd
          rw [hd.1] at a
          omega
    · simp only [putRow, f1, f3] at hc ⊢
      rcases List.mem_append.1 hx with hx | hx
      · by_cases ej : (x.1 % s.rows).toNat = (n % s.rows).toNat
        · have hx0 := Int.emod_nonneg x.1 (show s.rows ≠ 0 by omega)
          have hxn : x.1 = n := same_row e0 hc (u1 x hx) (by omega) f5 (by omega)
          obtain ⟨g1, g2⟩ := u3 x hx hc
          rw [if_pos ej, ← ej]
          unfold rowOf
          rw [if_neg (by
            intro hh
            rcases hh with hh | hh
            · exact hh (by rw [g1]; exact hxn)
            · rw [hh] at g2; cases g2)]
          exact ⟨g1, g2⟩
        · rw [if_neg ej]
          exact u3 x hx hc
      · simp at hx; subst hx
        rw [if_pos rfl]
        unfold rowOf
        split
        · exact ⟨rfl, rfl⟩
        · rename_i hh
          refine ⟨Classical.byContradiction fun h => hh (.inl h), ?_⟩
          cases h : (s.ring (n % s.rows).toNat).2.2 with
          | false => exact absurd (.inr h) hh
          | true => rfl
/-- The least of what counts. -/
def IsL (h : List (Int × Int)) (lo : Int) (l : Int × Bool) : Prop := (l = (0, false) ∧ ∀ x ∈ h, ¬ lo < x.1) ∨ (l.2 = true ∧ (∃ x ∈ h, lo < x.1 ∧ x.2 = l.1) ∧ ∀ x ∈ h, lo < x.1 → l.1 ≤ x.2)
theorem IsL.uniq {h : List (Int × Int)} {lo : Int} {l l' : Int × Bool} (a : IsL h lo l) (b : IsL h lo l') : l = l' := by
  rcases a with ⟨a1, a2⟩ | ⟨a1, ⟨x, a2, a3, a4⟩, a5⟩ <;> rcases b with ⟨b1, b2⟩ | ⟨b1, ⟨y, b2, b3, b4⟩, b5⟩
  · rw [a1, b1]
  · exact absurd b3 (a2 y b2)
  · exact absurd a3 (b2 x a2)
  · have := a5 y b2 b3
    have := b5 x a2 a3
    exact Prod.ext (by omega) (by rw [a1, b1])
theorem lst_spec (s : BS) (k : Nat) : (lst s k = (0, false) ∧ ∀ i, i < k → ¬ ((s.ring i).2.2 = true ∧ s.newest - s.rows < (s.ring i).1)) ∨
    ((lst s k).2 = true ∧ (∃ i, i < k ∧ (s.ring i).2.2 = true ∧ s.newest - s.rows < (s.ring i).1 ∧ (s.ring i).2.1 = (lst s k).1) ∧ ∀ i, i < k → (s.ring i).2.2 = true → s.newest - s.rows < (s.ring i).1 → (lst s k).1 ≤ (s.ring i).2.1) := by
  induction k with
  | zero => exact .inl ⟨rfl, fun i hi => by omega⟩
  | succ k ih =>
    have e : lst s (k + 1) = if (s.ring k).2.2 = true ∧ s.newest - s.rows < (s.ring k).1 ∧ ((lst s k).2 = false ∨ (s.ring k).2.1 < (lst s k).1) then ((s.ring k).2.1, true) else lst s k := rfl
    rw [e]
    by_cases hc : (s.ring k).2.2 = true ∧ s.newest - s.rows < (s.ring k).1 ∧ ((lst s k).2 = false ∨ (s.ring k).2.1 < (lst s k).1)
    · rw [if_pos hc]
      refine .inr ⟨rfl, ⟨k, by omega, hc.1, hc.2.1, rfl⟩, fun i hi h1 h2 => ?_⟩
      rcases Nat.lt_or_ge i k with hik | hik
      · rcases ih with ⟨a, b⟩ | ⟨a, _, b⟩
        · exact absurd ⟨h1, h2⟩ (b i hik)
        · have := b i hik h1 h2
          rcases hc.2.2 with hc | hc
          · rw [hc] at a; cases a
          · simp only; omega
      · obtain rfl : i = k := by omega
        exact Int.le_refl _
    · rw [if_neg hc]
      rcases ih with ⟨a, b⟩ | ⟨a, ⟨i0, b1, b2, b3, b4⟩, b⟩
      · refine .inl ⟨a, fun i hi h => ?_⟩
        rcases Nat.lt_or_ge i k with hik | hik
        · exact b i hik h
        · obtain rfl : i = k := by omega
          exact hc ⟨h.1, h.2, .inl (by rw [a])⟩
      · refine .inr ⟨a, ⟨i0, by omega, b2, b3, b4⟩, fun i hi h1 h2 => ?_⟩
        rcases Nat.lt_or_ge i k with hik | hik
        · exact b i hik h1 h2
        · obtain rfl : i = k := by omega
          have : ¬ (s.ring i).2.1 < (lst s i).1 := fun hh => hc ⟨h1, h2, .inr hh⟩
          omega
theorem lst_inv {s : BS} {h : List (Int × Int)} (hi : Inv s h) (ok : okB s) : IsL h (s.newest - s.rows) (lst s s.rows.toNat) := by
  have e0 := ok.rows0
  rcases lst_spec s s.rows.toNat with ⟨a, b⟩ | ⟨a, ⟨i, b1, b2, b3, b4⟩, b⟩
  · refine .inl ⟨a, fun x hx hc => ?_⟩
    obtain ⟨g1, g2⟩ := hi.back x hx hc
    have h0 := Int.emod_nonneg x.1 (show s.rows ≠ 0 by omega)
    have h1 := Int.emod_lt_of_pos x.1 (show 0 < s.rows by omega)
    exact b (x.1 % s.rows).toNat (by omega) ⟨g2, by rw [g1]; exact hc⟩
  · obtain ⟨c1, c2, c3, c4⟩ := hi.row i (by omega) b2 b3
    refine .inr ⟨a, ⟨_, c3, b3, b4⟩, fun x hx hc => ?_⟩
    obtain ⟨g1, g2⟩ := hi.back x hx hc
    have h0 := Int.emod_nonneg x.1 (show s.rows ≠ 0 by omega)
    have h1 := Int.emod_lt_of_pos x.1 (show 0 < s.rows by omega)
    have h2 := b (x.1 % s.rows).toNat (by omega) g2 (by rw [g1]; exact hc)
    obtain ⟨_, _, _, d4⟩ := hi.row (x.1 % s.rows).toNat (by omega) g2 (by rw [g1]; exact hc)
    have := d4 x.2 (by rw [g1]; exact hx)
    omega
end Go.Proofs.Ytlidofldkomdbaa.Base
