/- Texts as bits: what was written is read, what was read is written as it was; no program in sight. -/
import Derived.Test.YtmedlplgeeeodaaBitsLaw4
namespace Go.Proofs.Ytmedlplgeeeodaa.Bits
open Go.RowKit Go.Proofs.Ytmedlplgeeeodaa.Plain Go.Proofs.Ytmedlplgeeeodaa.Heap Go.Proofs.Ytmedlplgeeeodaa.Open

theorem val_put {L P R : List Int} {v : Int} {n : Nat} (hL : IsBits L) (e : L = P ++ (bitsOf v n ++ R)) (h0 : 0 ≤ v) (h1 : v < 2 ^ n) : val (txt L) P.length n = v := by
  obtain ⟨V, rfl⟩ := Int.eq_ofNat_of_zero_le h0
  have h := val_all hL (P := P) (R := R) (V := V) (n := n) (by rw [e, List.append_assoc])
  rw [h]
  have h2 : V < 2 ^ n := by
    have : ((V : Nat) : Int) < ((2 ^ n : Nat) : Int) := by simpa using h1
    omega
  rw [Nat.mod_eq_of_lt h2]
theorem isBits_append {L M : List Int} (h : IsBits L) (k : IsBits M) : IsBits (L ++ M) := fun x hx => by
  rcases List.mem_append.1 hx with hx | hx
  · exact h x hx
  · exact k x hx
theorem isBits_zeros (n : Nat) : IsBits (List.replicate n (0 : Int)) := fun _ hx => .inl (List.eq_of_mem_replicate hx)
theorem isBits_nil : IsBits [] := fun _ hx => by cases hx
theorem isBits_flat {α : Type} {f : α → List Int} {l : List α} (h : ∀ x ∈ l, IsBits (f x)) : IsBits (l.flatMap f) := fun y hy => by
  obtain ⟨x, hx, hy⟩ := List.mem_flatMap.1 hy
  exact h x hx y hy
/-- The bits of a text, from a place on. -/
def bitsS (s : ByteArray) (a n : Nat) : List Int := (List.range n).map fun j => bt s (a + j)
theorem bitsS_len (s : ByteArray) (a n : Nat) : (bitsS s a n).length = n := by simp [bitsS]
theorem bitsS_add (s : ByteArray) (a n m : Nat) : bitsS s a (n + m) = bitsS s a n ++ bitsS s (a + n) m := by
  unfold bitsS
  rw [List.range_add, List.map_append, List.map_map]
  congr 1
  apply List.map_congr_left
  intro j _
  simp [Nat.add_assoc]
theorem bitsS_succ (s : ByteArray) (a n : Nat) : bitsS s a (n + 1) = bitsS s a n ++ [bt s (a + n)] := by rw [bitsS_add]; simp [bitsS]
/-- What is read of bits is written as it was. -/
theorem bitsOf_double (v b : Int) (n : Nat) (hb : b = 0 ∨ b = 1) : bitsOf (v * 2 + b) (n + 1) = bitsOf v n ++ [b] := by
  unfold bitsOf
  rw [List.range_succ, List.map_append]
  congr 1
  · apply List.map_congr_left
    intro j hj
    have hj' : j < n := List.mem_range.1 hj
    have e : n + 1 - 1 - j = (n - 1 - j) + 1 := by omega
    rw [e, Int.pow_succ, Int.mul_comm ((2 : Int) ^ (n - 1 - j)) 2, ← Int.ediv_ediv_of_nonneg (by omega)]
    have : (v * 2 + b) / 2 = v := by omega
    rw [this]
  · have e : n + 1 - 1 - n = 0 := by omega
    simp only [List.map_cons, List.map_nil, e, Int.pow_zero, Int.ediv_one]
    congr 1
    omega
theorem bitsOf_val (s : ByteArray) (a n : Nat) : bitsOf (val s a n) n = bitsS s a n := by
  induction n with
  | zero => rfl
  | succ n ih =>
    rw [bitsS_succ, ← ih]
    exact bitsOf_double _ _ _ (bt_01 s _)
theorem bitsOf_zero (n : Nat) : bitsOf 0 n = List.replicate n 0 := by
  unfold bitsOf
  apply List.ext_getElem
  · simp
  · intro i h1 h2
    simp
theorem byte_bits (b : Nat) (h : b < 256) : ((b / 128 % 2 : Nat) : Int) * 128 + ((b / 64 % 2 : Nat) : Int) * 64 + ((b / 32 % 2 : Nat) : Int) * 32 + ((b / 16 % 2 : Nat) : Int) * 16 + ((b / 8 % 2 : Nat) : Int) * 8 + ((b / 4 % 2 : Nat) : Int) * 4 + ((b / 2 % 2 : Nat) : Int) * 2 + ((b % 2 : Nat) : Int) = (b : Int) := by omega
theorem bitsS_get (s : ByteArray) (n i : Nat) (h : i < n) : (bitsS s 0 n).getD i 0 = bt s i := by
  simp [bitsS, List.getD_eq_getElem?_getD, h]
/-- All bits of a text are that text. -/
theorem txt_bitsS (s : ByteArray) : txt (bitsS s 0 (8 * s.size)) = s := by
  have hpk : pk (bitsS s 0 (8 * s.size)) = s.data.toList.map fun x => (x.toNat : Int) := by
    have hl : (pk (bitsS s 0 (8 * s.size))).length = s.size := by rw [pk_length, bitsS_len]; omega
    apply List.ext_getElem
    · rw [hl, List.length_map, Array.length_toList]
      rfl
    · intro i h1 h2
      have hi : i < s.size := by rw [hl] at h1; exact h1
      have e1 : (pk (bitsS s 0 (8 * s.size)))[i] = oct (bitsS s 0 (8 * s.size)) i := by simp [pk]
      rw [e1, List.getElem_map]
      have hd : s.data.toList.getD i 0 = s.data.toList[i]'(by rw [Array.length_toList]; exact hi) := by
        rw [List.getD_eq_getElem?_getD, List.getElem?_eq_getElem (by rw [Array.length_toList]; exact hi)]
        rfl
      unfold oct
      rw [bitsS_get _ _ _ (by omega), bitsS_get _ _ _ (by omega), bitsS_get _ _ _ (by omega), bitsS_get _ _ _ (by omega), bitsS_get _ _ _ (by omega), bitsS_get _ _ _ (by omega), bitsS_get _ _ _ (by omega), bitsS_get _ _ _ (by omega)]
      unfold bt
      have q0 : 8 * i / 8 = i ∧ 8 * i % 8 = 0 := by omega
      have q1 : (8 * i + 1) / 8 = i ∧ (8 * i + 1) % 8 = 1 := by omega
      have q2 : (8 * i + 2) / 8 = i ∧ (8 * i + 2) % 8 = 2 := by omega
      have q3 : (8 * i + 3) / 8 = i ∧ (8 * i + 3) % 8 = 3 := by omega
      have q4 : (8 * i + 4) / 8 = i ∧ (8 * i + 4) % 8 = 4 := by omega
      have q5 : (8 * i + 5) / 8 = i ∧ (8 * i + 5) % 8 = 5 := by omega
      have q6 : (8 * i + 6) / 8 = i ∧ (8 * i + 6) % 8 = 6 := by omega
      have q7 : (8 * i + 7) / 8 = i ∧ (8 * i + 7) % 8 = 7 := by omega
      rw [q0.1, q0.2, q1.1, q1.2, q2.1, q2.2, q3.1, q3.2, q4.1, q4.2, q5.1, q5.2, q6.1, q6.2, q7.1, q7.2, hd]
      have hb := (s.data.toList[i]'(by rw [Array.length_toList]; exact hi)).toNat_lt
      generalize (s.data.toList[i]'(by rw [Array.length_toList]; exact hi)).toNat = b at *
      have h := byte_bits b hb
      simpa using h
  unfold txt
  rw [hpk]
  unfold strOfNums
  rw [List.map_map]
  have : (fun n : Int => UInt8.ofNat n.toNat) ∘ (fun x : UInt8 => (x.toNat : Int)) = id := by
    funext x
    simp
  rw [this, List.map_id]
end Go.Proofs.Ytmedlplgeeeodaa.Bits
