/- The body of statuses that are all alike: plain; no condition but the ranges in each. -/
import Derived.Test.YtmedlplgeeeodaaTwBack4
namespace Go.Proofs.Ytmedlplgeeeodaa.Tw
open Go.RowKit Go.Proofs.Ytmedlplgeeeodaa.Plain Go.Proofs.Ytmedlplgeeeodaa.Heap Go.Proofs.Ytmedlplgeeeodaa.Open Go.Proofs.Ytmedlplgeeeodaa.Rows Go.Proofs.Ytmedlplgeeeodaa.Bits
/-- The deltas of so many. -/
def dl (s : Int) (i : Nat) : List Int := if 0 < s then (List.range i).map (fun j => ((j % 200 : Nat) : Int)) else []
theorem dl_zero (s : Int) : dl s 0 = [] := by unfold dl; split <;> rfl
theorem dl_none {s : Int} (h : ¬ 0 < s) (i : Nat) : dl s i = [] := if_neg h
theorem dl_succ {s : Int} (h : 0 < s) (i : Nat) : dl s (i + 1) = dl s i ++ [((i % 200 : Nat) : Int)] := by
  unfold dl
  rw [if_pos h, if_pos h, List.range_succ, List.map_append]
  rfl
theorem dl_len {s : Int} (h : 0 < s) (i : Nat) : (dl s i).length = i := by unfold dl; rw [if_pos h]; simp
theorem dl_rng (s : Int) (i : Nat) : ∀ x ∈ dl s i, 0 ≤ x ∧ x < 200 := fun x hx => by
  unfold dl at hx
  split at hx
  · obtain ⟨j, _, rfl⟩ := List.mem_map.1 hx
    omega
  · cases hx
theorem rep_succ (s : Int) (i : Nat) : List.replicate (i + 1) s = List.replicate i s ++ [s] := by rw [List.replicate_succ']
theorem alk_rep (s : Int) : ∀ {k : Nat}, 1 ≤ k → alk (List.replicate k s) = k := fun {k} hk => by
  obtain ⟨n, rfl⟩ : ∃ n, k = n + 1 := ⟨k - 1, by omega⟩
  have e : (List.replicate (n + 1) s).getD 0 0 = s := by rw [List.replicate_succ]; rfl
  have h : ∀ m, (List.replicate m s).takeWhile (fun y => decide (y = s)) = List.replicate m s := fun m => by
    induction m with
    | zero => rfl
    | succ m ih => rw [List.replicate_succ, List.takeWhile_cons, if_pos (by simp), ih]
  unfold alk
  rw [e, h, List.length_replicate]
theorem sumTo_rep {s : Int} (hs : 0 ≤ s) (k : Nat) : ∀ i, i ≤ k → sumTo (List.replicate k s) i = s.toNat * i
  | 0, _ => rfl
  | i + 1, hi => by
    rw [sumTo, sumTo_rep hs k i (by omega)]
    have : (List.replicate k s).getD i 0 = s := by rw [List.getD_eq_getElem?_getD, List.getElem?_replicate, if_pos (by omega)]; rfl
    rw [this, Nat.mul_succ]
theorem encC_rep {s : Int} {k : Nat} (hk : 1 ≤ k) : encC k (List.replicate k s) = bitsOf 0 1 ++ bitsOf s 2 ++ bitsOf (k : Int) 13 := by
  obtain ⟨n, rfl⟩ : ∃ n, k = n + 1 := ⟨k - 1, by omega⟩
  have ha := alk_rep s hk
  rw [encC_cons (by simp), lay_run (.inr (by rw [ha, List.length_replicate]))]
  simp only
  rw [ha, show (List.replicate (n + 1) s).drop (n + 1) = [] from List.drop_eq_nil_of_le (by simp), encC_nil, List.append_nil]
  rw [show (List.replicate (n + 1) s).getD 0 0 = s by rw [List.replicate_succ]; rfl]
/-- How long the body is, and the chunk. -/
theorem enc_small {h : Tw} {s : Int} {k : Nat} (hg : goodT h = true) (hs : 0 ≤ s ∧ s ≤ 2) (hk : 1 ≤ k) (hk2 : k ≤ 4096) (hst : h.st = List.replicate k s) :
    ((txt (encB h)).size : Int) = (18 + s * k + 3) / 4 * 4 ∧ val (txt (encB h)) 128 16 = s * 8192 + k := by
  obtain ⟨f1, f2, f3, f4, f5, f6⟩ := encB_facts hg
  have hl : h.st.length = k := by rw [hst, List.length_replicate]
  have hc : encC h.st.length h.st = bitsOf 0 1 ++ bitsOf s 2 ++ bitsOf (k : Int) 13 := by rw [hl, hst]; exact encC_rep hk
  have hA := encA_len h
  rw [hc, hl, hst, sumTo_rep hs.1 k k (Nat.le_refl _)] at hA
  simp only [List.length_append, bitsOf_length] at hA
  obtain ⟨a, ha⟩ : ∃ a : Nat, s = (a : Int) := ⟨s.toNat, by omega⟩
  subst ha
  rw [Int.toNat_natCast] at hA
  refine ⟨?_, ?_⟩
  · obtain ⟨x, hx⟩ : ∃ x, x = a * k := ⟨_, rfl⟩
    have hx2 : (a : Int) * (k : Int) = (x : Int) := by rw [hx]; simp
    rw [hx2]
    rw [← hx] at hA
    omega
  · have h1 := at_encB h
    obtain ⟨S, hS⟩ : ∃ S, S = txt (encB h) := ⟨_, rfl⟩
    rw [← hS] at h1 ⊢
    unfold encB encA at h1
    rw [List.append_assoc, List.append_assoc] at h1
    have h2 := h1.right (n := 128) (headB_len h).symm
    rw [Nat.zero_add, hc] at h2
    have h3 := h2.left
    have v0 := val_at0 h3.left.left (by omega) (by decide)
    have v1 := val_at0 (h3.left.right (n := 1) (by rw [bitsOf_length])) (by omega) (by omega)
    have v2 := val_at0 (h3.right (n := 3) (by simp [bitsOf_length])) (by omega) (by omega)
    have c1 := val_cat S 128 1 15
    have c2 := val_cat S 129 2 13
    simp only [Nat.reduceAdd, Int.reducePow] at *
    omega
end Go.Proofs.Ytmedlplgeeeodaa.Tw
