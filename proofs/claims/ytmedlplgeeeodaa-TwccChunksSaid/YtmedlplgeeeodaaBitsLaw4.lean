/- Plain laws for BitsBack: what a text of bits reads as; no program in sight. -/
import Derived.Test.YtmedlplgeeeodaaBitsLaw3
namespace Go.Proofs.Ytmedlplgeeeodaa.Bits
open Go.RowKit Go.Proofs.Ytmedlplgeeeodaa.Plain Go.Proofs.Ytmedlplgeeeodaa.Heap Go.Proofs.Ytmedlplgeeeodaa.Open

theorem byte_txt {L : List Int} (h : IsBits L) (i : Nat) : (byteOf (txt L) i : Int) = oct L (i / 8) := by
  unfold byteOf txt
  rw [strOfNums_data, List.getD_eq_getElem?_getD, List.getElem?_map]
  have hb := oct_bd h (i / 8)
  rcases Nat.lt_or_ge (i / 8) ((L.length + 7) / 8) with hi | hi
  · have he : (pk L)[i / 8]? = some (oct L (i / 8)) := by
      have h1 := pk_get L (i / 8) hi
      rw [List.getD_eq_getElem?_getD] at h1
      rw [List.getElem?_eq_getElem (by rw [pk_length]; exact hi)] at h1 ⊢
      simpa using h1
    rw [he]
    simp only [Option.map_some, Option.getD_some, UInt8.toNat_ofNat']
    omega
  · rw [List.getElem?_eq_none (by rw [pk_length]; exact hi)]
    have z : ∀ j, L.length ≤ j → L.getD j 0 = 0 := fun j hj => getD_over L j hj
    unfold oct
    rw [z _ (by omega), z _ (by omega), z _ (by omega), z _ (by omega), z _ (by omega), z _ (by omega), z _ (by omega), z _ (by omega)]
    rfl
theorem bit8 (b : Nat) (x0 x1 x2 x3 x4 x5 x6 x7 : Int) (e : (b : Int) = x0 * 128 + x1 * 64 + x2 * 32 + x3 * 16 + x4 * 8 + x5 * 4 + x6 * 2 + x7)
    (h0 : 0 ≤ x0 ∧ x0 ≤ 1) (h1 : 0 ≤ x1 ∧ x1 ≤ 1) (h2 : 0 ≤ x2 ∧ x2 ≤ 1) (h3 : 0 ≤ x3 ∧ x3 ≤ 1) (h4 : 0 ≤ x4 ∧ x4 ≤ 1) (h5 : 0 ≤ x5 ∧ x5 ≤ 1) (h6 : 0 ≤ x6 ∧ x6 ≤ 1) (h7 : 0 ≤ x7 ∧ x7 ≤ 1) :
    ((b / 128 % 2 : Nat) : Int) = x0 ∧ ((b / 64 % 2 : Nat) : Int) = x1 ∧ ((b / 32 % 2 : Nat) : Int) = x2 ∧ ((b / 16 % 2 : Nat) : Int) = x3 ∧ ((b / 8 % 2 : Nat) : Int) = x4 ∧ ((b / 4 % 2 : Nat) : Int) = x5 ∧ ((b / 2 % 2 : Nat) : Int) = x6 ∧ ((b / 1 % 2 : Nat) : Int) = x7 := by
  refine ⟨?_, ?_, ?_, ?_, ?_, ?_, ?_, ?_⟩ <;> omega
theorem IsBits.bd {L : List Int} (h : IsBits L) (i : Nat) : 0 ≤ L.getD i 0 ∧ L.getD i 0 ≤ 1 := by
  rcases h.at_ i with e | e <;> rw [e] <;> decide
theorem bt_txt {L : List Int} (h : IsBits L) (i : Nat) : bt (txt L) i = L.getD i 0 := by
  rw [bt_of]
  have e := byte_txt h i
  generalize byteOf (txt L) i = b at *
  have hi : i = 8 * (i / 8) + i % 8 := by omega
  have hr : i % 8 < 8 := Nat.mod_lt _ (by omega)
  generalize i / 8 = q at *
  generalize i % 8 = r at *
  subst hi
  obtain ⟨a0, a1, a2, a3, a4, a5, a6, a7⟩ := bit8 b _ _ _ _ _ _ _ _ e (h.bd _) (h.bd _) (h.bd _) (h.bd _) (h.bd _) (h.bd _) (h.bd _) (h.bd _)
  have hr' : r = 0 ∨ r = 1 ∨ r = 2 ∨ r = 3 ∨ r = 4 ∨ r = 5 ∨ r = 6 ∨ r = 7 := by omega
  rcases hr' with rfl | rfl | rfl | rfl | rfl | rfl | rfl | rfl
  · exact a0
  · exact a1
  · exact a2
  · exact a3
  · exact a4
  · exact a5
  · exact a6
  · exact a7
theorem mod_step (u k : Nat) : u / 2 % 2 ^ k * 2 + u % 2 = u % 2 ^ (k + 1) := by
  rw [Nat.pow_succ, Nat.mul_comm (2 ^ k) 2, Nat.mod_mul]
  omega
theorem bitsOf_get (V n j : Nat) (h : j < n) : (bitsOf (V : Int) n).getD j 0 = ((V / 2 ^ (n - 1 - j) % 2 : Nat) : Int) := by
  simp [bitsOf, List.getD_eq_getElem?_getD, h]
theorem val_part {L P R : List Int} {V n : Nat} (hL : IsBits L) (e : L = P ++ bitsOf (V : Int) n ++ R) (k : Nat) (hk : k ≤ n) : val (txt L) P.length k = ((V / 2 ^ (n - k) % 2 ^ k : Nat) : Int) := by
  induction k with
  | zero => simp [val, Nat.mod_one]
  | succ k ih =>
    simp only [val]
    rw [ih (by omega), bt_txt hL]
    have hg : L.getD (P.length + k) 0 = ((V / 2 ^ (n - 1 - k) % 2 : Nat) : Int) := by
      rw [← bitsOf_get V n k (by omega), e, List.append_assoc, List.getD_eq_getElem?_getD, List.getD_eq_getElem?_getD, List.getElem?_append_right (by omega), Nat.add_sub_cancel_left, List.getElem?_append_left (by rw [bitsOf_length]; omega)]
    rw [hg]
    have e1 : n - k = (n - 1 - k) + 1 := by omega
    have e2 : n - (k + 1) = n - 1 - k := by omega
    rw [e1, e2, Nat.pow_succ, ← Nat.div_div_eq_div_mul, ← mod_step]
    omega
theorem val_all {L P R : List Int} {V n : Nat} (hL : IsBits L) (e : L = P ++ bitsOf (V : Int) n ++ R) : val (txt L) P.length n = ((V % 2 ^ n : Nat) : Int) := by
  have h := val_part hL e n (Nat.le_refl _)
  rwa [Nat.sub_self, Nat.pow_zero, Nat.div_one] at h
theorem val_pad {L : List Int} (hL : IsBits L) (k : Nat) : val (txt L) L.length k = 0 := by
  induction k with
  | zero => rfl
  | succ k ih =>
    simp only [val]
    rw [ih, bt_txt hL, getD_over L _ (by omega)]
    rfl
/-- How many bits a step writes. -/
def kof (m : Int) : Nat := (m % 18446744073709551616 % 33).toNat
theorem kof_le (m : Int) : kof m ≤ 32 := by unfold kof; omega
theorem kof_walk (m : Int) : wrap64 ((IntKind.u64.wrap m).tmod 33) = (kof m : Int) := by
  have e : ∀ n, IntKind.u64.wrap n = n % 18446744073709551616 := fun n => by simp [IntKind.wrap, IntKind.bits, IntKind.signed]
  rw [e, Int.tmod_eq_emod_of_nonneg (by omega)]
  unfold kof
  rw [w64 (by omega) (by omega)]
  omega
/-- All that k steps write. -/
def cat (xs : List (Int × Int × Int)) (k : Nat) : List Int := (xs.take k).flatMap fun x => bitsOf x.2.1 (kof x.2.2)
theorem cat_succ {xs : List (Int × Int × Int)} {k : Nat} {x : Int × Int × Int} (h : xs[k]? = some x) : cat xs (k + 1) = cat xs k ++ bitsOf x.2.1 (kof x.2.2) := by
  obtain ⟨hk, rfl⟩ := List.getElem?_eq_some_iff.1 h
  unfold cat
  rw [List.take_succ_eq_append_getElem hk, List.flatMap_append]
  simp
theorem cat_bits (xs : List (Int × Int × Int)) (k : Nat) : IsBits (cat xs k) := by
  intro y hy
  simp only [cat, List.mem_flatMap] at hy
  obtain ⟨x, _, hx⟩ := hy
  exact bitsOf_bits _ _ y hx
theorem cat_le (xs : List (Int × Int × Int)) (k : Nat) : (cat xs k).length ≤ 32 * k := by
  induction k with
  | zero => simp [cat]
  | succ k ih =>
    rcases Nat.lt_or_ge k xs.length with h | h
    · rw [cat_succ (List.getElem?_eq_getElem h), List.length_append, bitsOf_length]
      have := kof_le (xs[k]).2.2
      omega
    · have : cat xs (k + 1) = cat xs k := by unfold cat; rw [List.take_of_length_le h, List.take_of_length_le (by omega)]
      rw [this]; omega
theorem cat_split (xs : List (Int × Int × Int)) {k n : Nat} (h : k ≤ n) : ∃ R, cat xs n = cat xs k ++ R := by
  refine ⟨((xs.take n).drop k).flatMap fun x => bitsOf x.2.1 (kof x.2.2), ?_⟩
  unfold cat
  rw [← List.flatMap_append]
  congr 1
  rw [show xs.take k = (xs.take n).take k by rw [List.take_take, Nat.min_eq_left h], List.take_append_drop]
/-- The bits of step k, read back. -/
theorem back {xs : List (Int × Int × Int)} {k n : Nat} {x : Int × Int × Int} (h : xs[k]? = some x) (hk : k < n) (hv : 0 ≤ x.2.1) : val (txt (cat xs n)) (cat xs k).length (kof x.2.2) = x.2.1 % 2 ^ (kof x.2.2) := by
  obtain ⟨V, hV⟩ := Int.eq_ofNat_of_zero_le hv
  obtain ⟨R, hR⟩ := cat_split xs (show k + 1 ≤ n from hk)
  rw [cat_succ h, hV] at hR
  rw [val_all (cat_bits xs n) hR, hV]
  simp
theorem cat_fit {xs : List (Int × Int × Int)} {k n : Nat} {x : Int × Int × Int} (h : xs[k]? = some x) (hk : k < n) : (cat xs k).length + kof x.2.2 ≤ 8 * (txt (cat xs n)).size := by
  obtain ⟨R, hR⟩ := cat_split xs (show k + 1 ≤ n from hk)
  have := congrArg List.length hR
  rw [cat_succ h, List.length_append, List.length_append, bitsOf_length] at this
  rw [txt_size]
  omega
end Go.Proofs.Ytmedlplgeeeodaa.Bits
