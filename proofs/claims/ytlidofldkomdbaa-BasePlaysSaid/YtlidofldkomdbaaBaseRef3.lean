/- The plain reference, beside the plain base: they say the same; no condition but the ranges in each. -/
import Derived.Test.YtlidofldkomdbaaBaseRef2
namespace Go.Proofs.Ytlidofldkomdbaa.Base
open Go.RowKit Go.Proofs.Ytlidofldkomdbaa.Plain Go.Proofs.Ytlidofldkomdbaa.Heap Go.Proofs.Ytlidofldkomdbaa.Open

def rnew (r : RS) (n : Int) : Int := if r.some = false ∨ r.newest < n then n else r.newest
def rkeep (lo : Int) (l : List (Int × Int)) : List (Int × Int) := l.filter fun x => decide (lo < x.1)
/-- The reference, one sample more. -/
def rstep (r : RS) (n D : Int) : RS :=
  { r with l := rkeep (rnew r n - r.rows) (r.l ++ [(n, D)]), newest := rnew r n, some := true, queue := if rnew r n - r.rows < n then D - (rleast (rkeep (rnew r n - r.rows) (r.l ++ [(n, D)]))).1 else 0 }
/-- A base and the reference's, of the samples h. -/
structure Both (s : BS) (r : RS) (h : List (Int × Int)) : Prop where
  ok : okB s
  width : r.width = s.width
  rows : r.rows = s.rows
  newest : r.newest = s.newest
  some : r.some = s.any
  queue : r.queue = s.queue
  inv : Inv s h
  mem : ∀ x, x ∈ r.l ↔ x ∈ h ∧ s.newest - s.rows < x.1
theorem both_new {width rows : Int} (h : 1 ≤ width) (h0 : 1 ≤ rows) (h1 : rows ≤ 64) : Both (fresh width rows) ⟨width, rows, [], 0, false, 0⟩ [] :=
  ⟨fresh_ok h h0 h1, rfl, rfl, rfl, rfl, rfl, inv_fresh _ _, fun x => by simp⟩
theorem rnew_up {s : BS} {r : RS} (hn : r.newest = s.newest) (ha : r.some = s.any) (n : Int) : rnew r n = (up s n).newest := by
  unfold rnew up
  rw [hn, ha]
  split <;> rfl
theorem rkeep_mem {lo : Int} {l : List (Int × Int)} {x : Int × Int} : x ∈ rkeep lo l ↔ x ∈ l ∧ lo < x.1 := by simp [rkeep]
theorem rleast_of {h l : List (Int × Int)} {lo : Int} (hm : ∀ x, x ∈ l ↔ x ∈ h ∧ lo < x.1) : IsL h lo (rleast l) := by
  have hl := rleast_isL l lo (fun x hx => ((hm x).1 hx).2)
  rcases hl with ⟨a, b⟩ | ⟨a, ⟨x, b1, b2, b3⟩, c⟩
  · exact .inl ⟨a, fun x hx hc => b x ((hm x).2 ⟨hx, hc⟩) hc⟩
  · exact .inr ⟨a, ⟨x, ((hm x).1 b1).1, b2, b3⟩, fun y hy hc => c y ((hm y).2 ⟨hy, hc⟩) hc⟩
theorem both_least {s : BS} {r : RS} {h : List (Int × Int)} (hb : Both s r h) : rleast r.l = lst s s.rows.toNat :=
  (rleast_of hb.mem).uniq (lst_inv hb.inv hb.ok)
theorem both_step {s : BS} {r : RS} {h : List (Int × Int)} (hb : Both s r h) (at_ delay n D : Int) (hn : hold at_ 0 1125899906842624 / s.width = n) (hD : hold delay (-1125899906842624) 1125899906842624 = D) :
    Both (bstep s at_ delay).1 (rstep r n D) (h ++ [(n, D)]) ∧ (bstep s at_ delay).2 = (rstep r n D).queue := by
  obtain ⟨ok, hw, hr, hnw, hs, hq, hi, hm⟩ := hb
  obtain ⟨r1, w1, n1, a1, v1, v1'⟩ := bstep_facts s at_ delay n D hn hD
  obtain ⟨f1, f2, f3, f4, f5, f6, f7⟩ := up_facts s n
  have i1 := inv_step hi ok at_ delay
  rw [hn, hD] at i1
  have o1 := bstep_ok ok at_ delay
  have hu := rnew_up hnw hs n
  have hm1 : ∀ x, x ∈ rkeep (rnew r n - r.rows) (r.l ++ [(n, D)]) ↔ x ∈ h ++ [(n, D)] ∧ (bstep s at_ delay).1.newest - (bstep s at_ delay).1.rows < x.1 := fun x => by
    rw [rkeep_mem, List.mem_append, List.mem_append, hm, hu, n1, r1, hr]
    constructor
    · rintro ⟨h1 | h1, h2⟩
      · exact ⟨.inl h1.1, h2⟩
      · exact ⟨.inr h1, h2⟩
    · rintro ⟨h1 | h1, h2⟩
      · refine ⟨.inl ⟨h1, ?_⟩, h2⟩
        have ha : s.any = true := by
          cases ha : s.any with
          | false => rw [(hi.none ha).1] at h1; cases h1
          | true => rfl
        have := f6 ha
        omega
      · exact ⟨.inr h1, h2⟩
  have hl : rleast (rkeep (rnew r n - r.rows) (r.l ++ [(n, D)])) = lst (bstep s at_ delay).1 s.rows.toNat := by
    have := (rleast_of hm1).uniq (lst_inv i1 o1)
    rwa [r1] at this
  have hq2 : (bstep s at_ delay).2 = (rstep r n D).queue := by
    show _ = if rnew r n - r.rows < n then D - (rleast (rkeep (rnew r n - r.rows) (r.l ++ [(n, D)]))).1 else 0
    rw [hl, hu, hr]
    by_cases hc : n ≤ (up s n).newest - s.rows
    · rw [v1 hc, if_neg (by omega)]
    · rw [v1' hc, if_pos (by omega)]
  exact ⟨⟨o1, hw.trans w1.symm, hr.trans r1.symm, hu.trans n1.symm, a1.symm, by rw [bstep_queue]; exact hq2.symm, i1, hm1⟩, hq2⟩
theorem rkeep_len (lo : Int) (l : List (Int × Int)) : (rkeep lo l).length ≤ l.length := List.length_filter_le _ _
theorem rkeep_take_succ (lo : Int) (l : List (Int × Int)) (k : Nat) (hk : k < l.length) : rkeep lo (l.take (k + 1)) = rkeep lo (l.take k) ++ if lo < (l.getD k (0, 0)).1 then [l.getD k (0, 0)] else [] := by
  have e : l.getD k (0, 0) = l[k] := by rw [List.getD_eq_getElem?_getD, List.getElem?_eq_getElem hk]; rfl
  rw [e, List.take_add_one, List.getElem?_eq_getElem hk]
  simp only [rkeep, List.filter_append, Option.toList_some, List.filter_cons, List.filter_nil, decide_eq_true_eq]
/-- What the samples' rows and delays may be. -/
def rok (l : List (Int × Int)) : Prop := ∀ x ∈ l, 0 ≤ x.1 ∧ x.1 ≤ 1125899906842624 ∧ -1125899906842624 ≤ x.2 ∧ x.2 ≤ 1125899906842624
end Go.Proofs.Ytlidofldkomdbaa.Base
