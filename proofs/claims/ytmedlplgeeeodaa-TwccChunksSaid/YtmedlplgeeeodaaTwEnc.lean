/- The bits of a report: plain; no condition but the ranges in each. -/
import Derived.Test.YtmedlplgeeeodaaTwGood
namespace Go.Proofs.Ytmedlplgeeeodaa.Tw
open Go.RowKit Go.Proofs.Ytmedlplgeeeodaa.Plain Go.Proofs.Ytmedlplgeeeodaa.Heap Go.Proofs.Ytmedlplgeeeodaa.Open Go.Proofs.Ytmedlplgeeeodaa.Rows Go.Proofs.Ytmedlplgeeeodaa.Bits

theorem bitsOf_mod (v : Int) (m n : Nat) (h : n ≤ m) : bitsOf (v % 2 ^ m) n = bitsOf v n := by
  unfold bitsOf
  refine List.map_congr_left fun j hj => ?_
  have hj' := List.mem_range.1 hj
  obtain ⟨k, hk⟩ : ∃ k, k = n - 1 - j := ⟨_, rfl⟩
  rw [← hk]
  have hkm : k + 1 ≤ m := by omega
  have e1 : (2 : Int) ^ m = 2 ^ k * (2 * 2 ^ (m - (k + 1))) := by
    rw [← Int.pow_succ', ← Int.pow_add]
    congr 1
    omega
  have hp : (0 : Int) < 2 ^ k := Int.pow_pos (by omega)
  obtain ⟨c, hc⟩ : ∃ c : Int, c = 2 * 2 ^ (m - (k + 1)) := ⟨_, rfl⟩
  obtain ⟨b, hb⟩ : ∃ b : Int, b = 2 ^ k := ⟨_, rfl⟩
  rw [e1, ← hc, ← hb]
  rw [← hb] at hp
  have h1 : v % (b * c) = v - b * c * (v / (b * c)) := by have := Int.emod_add_mul_ediv v (b * c); omega
  have h2 : v - b * c * (v / (b * c)) = v + b * -(c * (v / (b * c))) := by rw [Int.mul_neg, Int.mul_assoc]; omega
  rw [h1, h2, Int.add_mul_ediv_left _ _ (by omega), hc]
  have h3 : -(2 * 2 ^ (m - (k + 1)) * (v / (b * (2 * 2 ^ (m - (k + 1)))))) = 2 * -(2 ^ (m - (k + 1)) * (v / (b * (2 * 2 ^ (m - (k + 1)))))) := by
    rw [Int.mul_neg, Int.mul_assoc]
  rw [h3, Int.add_mul_emod_self_left]
theorem bitsOf_u32 (v : Int) (n : Nat) (h : n ≤ 32) : bitsOf (v % 4294967296) n = bitsOf v n := bitsOf_mod v 32 n h
/-- How many from the first one on are alike. -/
def alk (l : List Int) : Nat := (l.takeWhile fun y => decide (y = l.getD 0 0)).length
theorem alk_le (l : List Int) : alk l ≤ l.length := by
  unfold alk
  have := (List.takeWhile_sublist (fun y => decide (y = l.getD 0 0)) (l := l)).length_le
  exact this
theorem tw_at {p : Int → Bool} : ∀ {l : List Int} {k : Nat} {x : Int}, k < (l.takeWhile p).length → l[k]? = some x → p x = true
  | [], _, _, _, hx => by simp at hx
  | y :: l, k, x, h, hx => by
    rw [List.takeWhile_cons] at h
    split at h
    · rename_i hp
      cases k with
      | zero => simp at hx; subst hx; exact hp
      | succ k => exact tw_at (by simpa using h) (by simpa using hx)
    · simp at h
theorem tw_stop {p : Int → Bool} : ∀ {l : List Int} {x : Int}, l[(l.takeWhile p).length]? = some x → p x = false
  | [], _, hx => by simp at hx
  | y :: l, x, hx => by
    rw [List.takeWhile_cons] at hx
    split at hx
    · exact tw_stop (by simpa using hx)
    · rename_i hp
      simp at hx
      subst hx
      simpa using hp
theorem alk_at {l : List Int} {k : Nat} {x : Int} (h : k < alk l) (hx : l[k]? = some x) : x = l.getD 0 0 := of_decide_eq_true (tw_at (p := fun y => decide (y = l.getD 0 0)) h hx)
theorem alk_stop {l : List Int} {x : Int} (hx : l[alk l]? = some x) : x ≠ l.getD 0 0 := of_decide_eq_false (tw_stop (p := fun y => decide (y = l.getD 0 0)) hx)
theorem alk_pos {l : List Int} (h : l ≠ []) : 1 ≤ alk l := by
  cases l with
  | nil => exact absurd rfl h
  | cons y l =>
    unfold alk
    rw [List.takeWhile_cons, if_pos (by simp)]
    simp
/-- Is one of the next ones large? -/
def twoB (l : List Int) : Bool := (l.take 14).any fun y => decide (y = 2)
def rowB (l : List Int) (each many : Nat) : List Int := (List.range many).flatMap fun i => bitsOf (l.getD i 0) each
theorem rowB_len (l : List Int) (each many : Nat) : (rowB l each many).length = many * each := by
  unfold rowB
  induction many with
  | zero => simp
  | succ n ih => rw [List.range_succ, List.flatMap_append, List.length_append, ih]; simp [bitsOf_length, Nat.add_mul]
theorem rowB_succ (l : List Int) (each many : Nat) : rowB l each (many + 1) = rowB l each many ++ bitsOf (l.getD many 0) each := by
  unfold rowB
  rw [List.range_succ, List.flatMap_append]
  simp
/-- The next chunk, and of how many. -/
def lay (l : List Int) : List Int × Nat :=
  if 7 ≤ alk l ∨ alk l = l.length then (bitsOf 0 1 ++ bitsOf (l.getD 0 0) 2 ++ bitsOf (alk l : Int) 13, alk l)
  else if twoB l = true then (bitsOf 1 1 ++ bitsOf 1 1 ++ rowB l 2 7, min 7 l.length)
  else (bitsOf 1 1 ++ bitsOf 0 1 ++ rowB l 1 14, min 14 l.length)
theorem lay_run {l : List Int} (h : 7 ≤ alk l ∨ alk l = l.length) : lay l = (bitsOf 0 1 ++ bitsOf (l.getD 0 0) 2 ++ bitsOf (alk l : Int) 13, alk l) := if_pos h
theorem lay_two {l : List Int} (h : ¬ (7 ≤ alk l ∨ alk l = l.length)) (h2 : twoB l = true) : lay l = (bitsOf 1 1 ++ bitsOf 1 1 ++ rowB l 2 7, min 7 l.length) := by
  unfold lay
  rw [if_neg h, if_pos h2]
theorem lay_one {l : List Int} (h : ¬ (7 ≤ alk l ∨ alk l = l.length)) (h2 : twoB l = false) : lay l = (bitsOf 1 1 ++ bitsOf 0 1 ++ rowB l 1 14, min 14 l.length) := by
  unfold lay
  rw [if_neg h, if_neg (by rw [h2]; decide)]
theorem lay_len (l : List Int) : (lay l).1.length = 16 := by
  unfold lay
  split
  · simp only [List.length_append, bitsOf_length]
  · split <;> simp only [List.length_append, bitsOf_length, rowB_len]
theorem lay_many {l : List Int} (h : l ≠ []) : 1 ≤ (lay l).2 ∧ (lay l).2 ≤ l.length := by
  have h1 := alk_pos h
  have h2 := alk_le l
  have h3 : 0 < l.length := List.length_pos_iff.2 h
  unfold lay
  split
  · exact ⟨h1, h2⟩
  · split <;> (simp only; omega)
def encC : Nat → List Int → List Int
  | 0, _ => []
  | f + 1, l => if l.length = 0 then [] else (lay l).1 ++ encC f (l.drop (lay l).2)
theorem encC_nil (f : Nat) : encC f [] = [] := by cases f <;> simp [encC]
theorem encC_cons {f : Nat} {l : List Int} (h : ¬ l.length = 0) : encC (f + 1) l = (lay l).1 ++ encC f (l.drop (lay l).2) := by rw [encC, if_neg h]
theorem encC_len : ∀ (f : Nat) (l : List Int), (encC f l).length ≤ 16 * l.length
  | 0, _ => by simp [encC]
  | f + 1, l => by
    by_cases h : l.length = 0
    · rw [encC, if_pos h]; simp
    · rw [encC_cons h, List.length_append, lay_len]
      have h1 := encC_len f (l.drop (lay l).2)
      have h2 := lay_many (l := l) (fun e => h (by rw [e]; rfl))
      rw [List.length_drop] at h1
      omega
theorem encC_16 : ∀ (f : Nat) (l : List Int), (encC f l).length % 16 = 0
  | 0, _ => by simp [encC]
  | f + 1, l => by
    by_cases h : l.length = 0
    · rw [encC, if_pos h]; simp
    · rw [encC_cons h, List.length_append, lay_len]
      have := encC_16 f (l.drop (lay l).2)
      omega
/-- More steps than there are tell no more. -/
theorem encC_more : ∀ {f g : Nat} {l : List Int}, l.length ≤ f → l.length ≤ g → encC f l = encC g l
  | 0, g, l, h, _ => by rw [List.eq_nil_of_length_eq_zero (by omega : l.length = 0), encC_nil, encC_nil]
  | f + 1, 0, l, _, h => by rw [List.eq_nil_of_length_eq_zero (by omega : l.length = 0), encC_nil, encC_nil]
  | f + 1, g + 1, l, h1, h2 => by
    by_cases h : l.length = 0
    · rw [encC, if_pos h, encC, if_pos h]
    · have h3 := lay_many (l := l) (fun e => h (by rw [e]; rfl))
      rw [encC_cons h, encC_cons h, encC_more (f := f) (g := g) (by rw [List.length_drop]; omega) (by rw [List.length_drop]; omega)]
def encDto (st ds : List Int) : Nat → List Int
  | 0 => []
  | i + 1 => encDto st ds i ++ (if st.getD i 0 = 0 then [] else bitsOf (ds.getD (nz (st.take i)) 0) (8 * (st.getD i 0).toNat))
def sumTo (st : List Int) : Nat → Nat
  | 0 => 0
  | i + 1 => sumTo st i + (st.getD i 0).toNat
theorem encDto_len (st ds : List Int) : ∀ i, (encDto st ds i).length = 8 * sumTo st i
  | 0 => rfl
  | i + 1 => by
    rw [encDto, sumTo, List.length_append, encDto_len st ds i]
    by_cases h : st.getD i 0 = 0
    · rw [if_pos h, h]; rfl
    · rw [if_neg h, bitsOf_length]; omega
def headB (h : Tw) : List Int := bitsOf h.sn 32 ++ bitsOf h.md 32 ++ bitsOf h.fi 16 ++ bitsOf (h.st.length : Int) 16 ++ bitsOf h.ba 24 ++ bitsOf h.ct 8
theorem headB_len (h : Tw) : (headB h).length = 128 := by simp only [headB, List.length_append, bitsOf_length]
/-- All bits but those that fill up. -/
def encA (h : Tw) : List Int := headB h ++ encC h.st.length h.st ++ encDto h.st h.ds h.st.length
def encB (h : Tw) : List Int := encA h ++ List.replicate (pad (encA h).length 32) 0
theorem encA_len (h : Tw) : (encA h).length = 128 + (encC h.st.length h.st).length + 8 * sumTo h.st h.st.length := by
  unfold encA
  rw [List.length_append, List.length_append, headB_len, encDto_len]
/-- What Encode tells. -/
def encR (h : Tw) : ByteArray × Int := if goodT h = true then (txt (encB h), 0) else (⟨#[]⟩, 1)
theorem encR_good {h : Tw} (k : goodT h = true) : encR h = (txt (encB h), 0) := by unfold encR; rw [if_pos k]
theorem encR_bad {h : Tw} (k : goodT h = false) : encR h = (⟨#[]⟩, 1) := by unfold encR; rw [k]; rfl
/-- What a good report is, place by place. -/
theorem goodT_iff {h : Tw} (k : goodT h = true) : goodB h = true ∧ goodTo h.st h.ds h.st.length = true ∧ nz h.st = h.ds.length := by
  unfold goodT at k
  rw [Bool.and_eq_true, Bool.and_eq_true, decide_eq_true_eq] at k
  exact ⟨k.1.1, k.1.2, k.2⟩
theorem ok_facts {st ds : List Int} {i : Nat} (k : okAt st ds i = true) : 0 ≤ st.getD i 0 ∧ st.getD i 0 ≤ 2 ∧ (st.getD i 0 = 0 ∨ (nz (st.take i) < ds.length ∧ dok (st.getD i 0) (ds.getD (nz (st.take i)) 0) = true)) := by
  unfold okAt at k
  simp only [Bool.and_eq_true, Bool.or_eq_true, decide_eq_true_eq] at k
  exact ⟨k.1.1, k.1.2, k.2⟩
theorem st_range {st ds : List Int} (k : goodTo st ds st.length = true) {i : Nat} {x : Int} (hx : st[i]? = some x) : x = 0 ∨ x = 1 ∨ x = 2 := by
  have h := ok_facts (goodTo_at k (List.getElem?_eq_some_iff.1 hx).1)
  rw [getD_of hx] at h
  omega
theorem sumTo_le {st : List Int} {ds : List Int} (k : goodTo st ds st.length = true) : ∀ i, i ≤ st.length → sumTo st i ≤ 2 * i
  | 0, _ => Nat.le_refl _
  | i + 1, hi => by
    have h1 := sumTo_le k i (by omega)
    have h2 := ok_facts (goodTo_at k (show i < st.length by omega))
    rw [sumTo]
    omega
theorem encA_bd {h : Tw} (k : goodT h = true) : (encA h).length ≤ 131200 := by
  obtain ⟨k1, k2, k3⟩ := goodT_iff k
  have h1 := goodB_iff.1 k1
  have h2 := encC_len h.st.length h.st
  have h3 := sumTo_le k2 h.st.length (Nat.le_refl _)
  rw [encA_len]
  omega
end Go.Proofs.Ytmedlplgeeeodaa.Tw
