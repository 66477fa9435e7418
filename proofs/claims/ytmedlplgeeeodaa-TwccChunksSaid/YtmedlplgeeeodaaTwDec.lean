/- What Decode tells of a body: plain; no condition but the ranges in each. -/
import Derived.Test.YtmedlplgeeeodaaTwRead
import Derived.Test.YtmedlplgeeeodaaTwEnc
import Derived.Test.YtmedlplgeeeodaaTwCopy
namespace Go.Proofs.Ytmedlplgeeeodaa.Tw
open Go.RowKit Go.Proofs.Ytmedlplgeeeodaa.Plain Go.Proofs.Ytmedlplgeeeodaa.Heap Go.Proofs.Ytmedlplgeeeodaa.Open Go.Proofs.Ytmedlplgeeeodaa.Rows Go.Proofs.Ytmedlplgeeeodaa.Bits
/-- A number with a sign. -/
def sg (n : Nat) (v : Int) : Int := if 2 ^ (n - 1) ≤ v then v - 2 ^ n else v
def codeAt (s : ByteArray) (r each i : Nat) : Int := val s (r + each * i) each
def rowOk (s : ByteArray) (r each lack : Nat) : Nat → Bool
  | 0 => true
  | k + 1 => rowOk s r each lack k && (decide (codeAt s r each k ≤ 2) && (decide (k < lack) || decide (codeAt s r each k = 0)))
def rowL (s : ByteArray) (r each n : Nat) : List Int := (List.range n).map fun i => codeAt s r each i
theorem rowL_len (s : ByteArray) (r each n : Nat) : (rowL s r each n).length = n := by simp [rowL]
theorem rowL_succ (s : ByteArray) (r each n : Nat) : rowL s r each (n + 1) = rowL s r each n ++ [codeAt s r each n] := by simp [rowL, List.range_succ]
/-- The chunk at a place, of so many that lack at most. -/
def chunkD (s : ByteArray) (r lack : Nat) : Option (List Int) :=
  if val s r 1 = 0 then
    if 2 < val s (r + 1) 2 ∨ val s (r + 3) 13 = 0 then none
    else some (List.replicate (min (val s (r + 3) 13).toNat lack) (val s (r + 1) 2))
  else if val s (r + 1) 1 = 1 then
    if rowOk s (r + 2) 2 lack 7 = true then some (rowL s (r + 2) 2 (min 7 lack)) else none
  else if rowOk s (r + 2) 1 lack 14 = true then some (rowL s (r + 2) 1 (min 14 lack)) else none
def decC (s : ByteArray) (many : Nat) : Nat → Nat → List Int → Except Int (List Int × Nat)
  | 0, _, _ => .error 100
  | f + 1, r, l =>
    if many ≤ l.length then .ok (l, r)
    else if 8 * s.size < r + 16 then .error 60
    else match chunkD s r (many - l.length) with
      | none => .error 100
      | some x => decC s many f (r + 16) (l ++ x)
/-- The deltas from a place on. -/
def decD (s : ByteArray) (st : List Int) (r : Nat) : Nat → List Int
  | 0 => []
  | i + 1 => decD s st r i ++ (if st.getD i 0 = 1 then [vx s (r + 8 * sumTo st i) 8] else if st.getD i 0 = 2 then [sg 16 (vx s (r + 8 * sumTo st i) 16)] else [])
def manyT (s : ByteArray) : Nat := (val s 80 16).toNat
def tailT (s : ByteArray) (x : List Int × Nat) : Tw × Int :=
  if 8 * s.size < x.2 + 8 * sumTo x.1 x.1.length then (zeroT, 60)
  else if 24 < 8 * s.size - (x.2 + 8 * sumTo x.1 x.1.length) ∨ ¬ val s (x.2 + 8 * sumTo x.1 x.1.length) (8 * s.size - (x.2 + 8 * sumTo x.1 x.1.length)) = 0 then (zeroT, 91)
  else ((val s 0 32, val s 32 32, val s 64 16, sg 24 (val s 96 24), val s 120 8, x.1, decD s x.1 x.2 x.1.length), 0)
def outT (s : ByteArray) : Except Int (List Int × Nat) → Tw × Int
  | .error c => (zeroT, c)
  | .ok x => tailT s x
/-- What Decode tells: the report, the error. -/
def decT (s : ByteArray) : Tw × Int :=
  if 65536 < s.size then (zeroT, 2)
  else if ¬ s.size % 4 = 0 then (zeroT, 90)
  else if s.size < 16 then (zeroT, 60)
  else if manyT s = 0 then (zeroT, 90)
  else if 4096 < manyT s then (zeroT, 3)
  else outT s (decC s (manyT s) (manyT s + 1) 128 [])
theorem decC_end {s : ByteArray} {many f r : Nat} {l : List Int} (h : many ≤ l.length) : decC s many (f + 1) r l = .ok (l, r) := by rw [decC, if_pos h]
theorem decC_short {s : ByteArray} {many f r : Nat} {l : List Int} (h : ¬ many ≤ l.length) (h1 : 8 * s.size < r + 16) : decC s many (f + 1) r l = .error 60 := by rw [decC, if_neg h, if_pos h1]
theorem decC_bad {s : ByteArray} {many f r : Nat} {l : List Int} (h : ¬ many ≤ l.length) (h1 : ¬ 8 * s.size < r + 16) (h2 : chunkD s r (many - l.length) = none) : decC s many (f + 1) r l = .error 100 := by
  rw [decC, if_neg h, if_neg h1, h2]
theorem decC_next {s : ByteArray} {many f r : Nat} {l x : List Int} (h : ¬ many ≤ l.length) (h1 : ¬ 8 * s.size < r + 16) (h2 : chunkD s r (many - l.length) = some x) : decC s many (f + 1) r l = decC s many f (r + 16) (l ++ x) := by
  rw [decC, if_neg h, if_neg h1, h2]
theorem rowOk_at {s : ByteArray} {r each lack : Nat} : ∀ {n i : Nat}, rowOk s r each lack n = true → i < n → codeAt s r each i ≤ 2 ∧ (i < lack ∨ codeAt s r each i = 0)
  | 0, _, _, hn => absurd hn (Nat.not_lt_zero _)
  | n + 1, i, h, hn => by
    rw [rowOk, Bool.and_eq_true, Bool.and_eq_true, Bool.or_eq_true, decide_eq_true_eq, decide_eq_true_eq, decide_eq_true_eq] at h
    rcases Nat.lt_or_ge i n with h1 | h1
    · exact rowOk_at h.1 h1
    · rw [show i = n by omega]; exact h.2
/-- What a chunk tells: so many, and each is 0, 1 or 2. -/
theorem chunkD_some {s : ByteArray} {r lack : Nat} {x : List Int} (hl : 1 ≤ lack) (h : chunkD s r lack = some x) : 1 ≤ x.length ∧ x.length ≤ lack ∧ ∀ y ∈ x, 0 ≤ y ∧ y ≤ 2 := by
  unfold chunkD at h
  split at h
  · split at h
    · cases h
    · rename_i hc
      injection h with h
      subst h
      have hb := val_bd s (r + 3) 13
      have hb2 := val_bd s (r + 1) 2
      rw [List.length_replicate]
      refine ⟨by omega, by omega, fun y hy => ?_⟩
      rw [List.eq_of_mem_replicate hy]
      omega
  · have hrow : ∀ (each many : Nat), 1 ≤ many → rowOk s (r + 2) each lack many = true → 1 ≤ (rowL s (r + 2) each (min many lack)).length ∧ (rowL s (r + 2) each (min many lack)).length ≤ lack ∧ ∀ y ∈ rowL s (r + 2) each (min many lack), 0 ≤ y ∧ y ≤ 2 := fun each many hm hok => by
      rw [rowL_len]
      refine ⟨by omega, by omega, fun y hy => ?_⟩
      simp only [rowL, List.mem_map, List.mem_range] at hy
      obtain ⟨i, hi, rfl⟩ := hy
      exact ⟨(val_bd s _ _).1, (rowOk_at hok (show i < many by omega)).1⟩
    split at h
    · split at h
      · rename_i hok
        injection h with h
        subst h
        exact hrow 2 7 (by omega) hok
      · cases h
    · split at h
      · rename_i hok
        injection h with h
        subst h
        exact hrow 1 14 (by omega) hok
      · cases h
theorem decC_ok {s : ByteArray} {many : Nat} : ∀ {f r : Nat} {l st : List Int} {e : Nat}, l.length ≤ many → r ≤ 8 * s.size → (∀ y ∈ l, 0 ≤ y ∧ y ≤ 2) → decC s many f r l = .ok (st, e) → st.length = many ∧ (∀ y ∈ st, 0 ≤ y ∧ y ≤ 2) ∧ e ≤ 8 * s.size ∧ r ≤ e ∧ (e - r) % 16 = 0 := by
  intro f
  induction f with
  | zero => intro r l st e _ _ _ h; cases h
  | succ f ih =>
    intro r l st e hl hr hy h
    rw [decC] at h
    split at h
    · injection h with h
      injection h with h1 h2
      subst h1 h2
      exact ⟨by omega, hy, hr, Nat.le_refl _, by rw [Nat.sub_self]⟩
    · split at h
      · cases h
      · split at h
        · cases h
        · rename_i x hx
          obtain ⟨c1, c2, c3⟩ := chunkD_some (by omega) hx
          obtain ⟨d1, d2, d3, d4, d5⟩ := ih (r := r + 16) (l := l ++ x) (by rw [List.length_append]; omega) (by omega) (fun y hy2 => by
            rcases List.mem_append.1 hy2 with h1 | h1
            · exact hy y h1
            · exact c3 y h1) h
          exact ⟨d1, d2, d3, by omega, by omega⟩
theorem decC_err {s : ByteArray} {many : Nat} {c : Int} : ∀ {f r : Nat} {l : List Int}, decC s many f r l = .error c → c ≠ 0 := by
  intro f
  induction f with
  | zero => intro r l h; injection h with h; rw [← h]; decide
  | succ f ih =>
    intro r l h
    rw [decC] at h
    split at h
    · cases h
    · split at h
      · injection h with h; rw [← h]; decide
      · split at h
        · injection h with h; rw [← h]; decide
        · exact ih h
theorem codeAt_bd (s : ByteArray) (r each i : Nat) : 0 ≤ codeAt s r each i ∧ codeAt s r each i < 2 ^ each := val_bd s _ _
theorem sumTo_succ {st : List Int} {i : Nat} {x : Int} (hx : st[i]? = some x) : sumTo st (i + 1) = sumTo st i + x.toNat := by rw [sumTo, getD_of hx]
theorem sumTo_two {st : List Int} (h : ∀ y ∈ st, 0 ≤ y ∧ y ≤ 2) : ∀ i, i ≤ st.length → sumTo st i ≤ 2 * i
  | 0, _ => Nat.le_refl _
  | i + 1, hi => by
    have h1 := sumTo_two h i (by omega)
    have hx : st[i]? = some st[i] := List.getElem?_eq_getElem (by omega)
    have h2 := h _ (List.mem_of_getElem? hx)
    rw [sumTo_succ hx]
    omega
theorem decD_zero {s : ByteArray} {st : List Int} {r i : Nat} (hx : st[i]? = some 0) : decD s st r (i + 1) = decD s st r i := by
  rw [decD, getD_of hx]; simp
theorem decD_one {s : ByteArray} {st : List Int} {r i : Nat} (hx : st[i]? = some 1) : decD s st r (i + 1) = decD s st r i ++ [vx s (r + 8 * sumTo st i) 8] := by
  rw [decD, getD_of hx, if_pos rfl]
theorem decD_two {s : ByteArray} {st : List Int} {r i : Nat} (hx : st[i]? = some 2) : decD s st r (i + 1) = decD s st r i ++ [sg 16 (vx s (r + 8 * sumTo st i) 16)] := by
  rw [decD, getD_of hx, if_neg (by decide), if_pos rfl]
theorem decD_len {s : ByteArray} {st : List Int} {r : Nat} : ∀ i, (decD s st r i).length ≤ i
  | 0 => Nat.le_refl _
  | i + 1 => by
    have := decD_len (s := s) (st := st) (r := r) i
    rw [decD, List.length_append]
    split
    · simp; omega
    · split <;> simp <;> omega
end Go.Proofs.Ytmedlplgeeeodaa.Tw
