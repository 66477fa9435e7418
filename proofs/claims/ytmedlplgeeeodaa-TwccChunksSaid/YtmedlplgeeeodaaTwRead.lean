/- The program's reader, told by how far it was asked to read, whether that is there or not; no condition but the ranges in each. -/
import Derived.Test.YtmedlplgeeeodaaBitsY
import Derived.Test.YtmedlplgeeeodaaTwRep
import Derived.Test.YtmedlplgeeeodaaBox
namespace Go.Proofs.Ytmedlplgeeeodaa.Tw
open Go.RowKit Go.Proofs.Ytmedlplgeeeodaa.Plain Go.Proofs.Ytmedlplgeeeodaa.Heap Go.Proofs.Ytmedlplgeeeodaa.Open Go.Proofs.Ytmedlplgeeeodaa.Rows Go.Proofs.Ytmedlplgeeeodaa.Bits

/-- A byte as bits. -/
def by8 (s : ByteArray) (i : Nat) : Nat := (s.data.toList.getD i 0).toNat
theorem by8_lt (s : ByteArray) (i : Nat) : by8 s i < 256 := (s.data.toList.getD i 0).toNat_lt
theorem val_byte (s : ByteArray) (i : Nat) : val s (8 * i) 8 = ((by8 s i : Nat) : Int) := by
  have hb := by8_lt s i
  have e : ∀ j, j < 8 → bt s (8 * i + j) = ((by8 s i / 2 ^ (7 - j) % 2 : Nat) : Int) := fun j hj => by
    unfold bt by8
    rw [show (8 * i + j) / 8 = i by omega, show (8 * i + j) % 8 = j by omega]
  generalize by8 s i = b at *
  have e0 := e 0 (by omega)
  have e1 := e 1 (by omega)
  have e2 := e 2 (by omega)
  have e3 := e 3 (by omega)
  have e4 := e 4 (by omega)
  have e5 := e 5 (by omega)
  have e6 := e 6 (by omega)
  have e7 := e 7 (by omega)
  clear e
  simp only [val, Nat.add_zero] at *
  rw [e0, e1, e2, e3, e4, e5, e6, e7]
  simp only [Nat.reducePow, Nat.reduceSub]
  clear e0 e1 e2 e3 e4 e5 e6 e7
  omega
/-- A byte, where the code asks for it. -/
theorem run_byte (s : ByteArray) (i : Nat) (h : i < s.size) (W : World) : (Instr.index 9 (.string s) (.int .i64 (i : Int))).run Try.prog W = .ok (.int .u8 ((by8 s i : Nat) : Int)) W := by
  have hi : 0 ≤ (i : Int) ∧ (i : Int) < (s.size : Int) := ⟨by omega, by omega⟩
  rw [run_index_string W _ s _ _ Try.underlying9, dif_pos hi]
  congr 3
  unfold by8
  rw [List.getD_eq_getElem?_getD, List.getElem?_eq_getElem (by rw [Array.length_toList]; exact h)]
  rfl
theorem val_cat (s : ByteArray) (a n : Nat) : ∀ m, val s a (n + m) = val s a n * 2 ^ m + val s (a + n) m
  | 0 => by simp [val]
  | m + 1 => by
    have h1 : val s a (n + (m + 1)) = val s a (n + m) * 2 + bt s (a + (n + m)) := rfl
    have h2 : val s (a + n) (m + 1) = val s (a + n) m * 2 + bt s (a + n + m) := rfl
    rw [h1, h2, val_cat s a n m, Int.pow_succ, Int.add_mul, Int.mul_assoc, show a + (n + m) = a + n + m by omega]
    omega
def vx (s : ByteArray) (r n : Nat) : Int := if r + n ≤ 8 * s.size then val s r n else 0
theorem vx_fit {s : ByteArray} {r n : Nat} (h : r + n ≤ 8 * s.size) : vx s r n = val s r n := if_pos h
theorem vx_bd (s : ByteArray) (r n : Nat) : 0 ≤ vx s r n ∧ vx s r n < (2 : Int) ^ n := by
  unfold vx
  split
  · exact val_bd s r n
  · exact ⟨Int.le_refl _, Int.pow_pos (by omega)⟩
def ST (w : World) (p : Nat) (s : ByteArray) (r : Nat) : Prop :=
  (r ≤ 8 * s.size ∧ RR 77 w p s r false) ∨ (8 * s.size < r ∧ ∃ a, a ≤ 8 * s.size ∧ RR 77 w p s a true)
theorem ST.kept {S : Nat → Prop} {w w' : World} {p : Nat} {s : ByteArray} {r : Nat} (h : ST w p s r) (hk : Kept S w w') (hS : ¬ S p) : ST w' p s r := by
  rcases h with ⟨h1, h2⟩ | ⟨h1, a, h2, h3⟩
  · exact .inl ⟨h1, h2.kept hk hS⟩
  · exact .inr ⟨h1, a, h2, h3.kept hk hS⟩
theorem ST.lt {w : World} {p : Nat} {s : ByteArray} {r : Nat} (h : ST w p s r) : p < w.heap.size := by
  rcases h with ⟨h1, h2⟩ | ⟨h1, a, h2, h3⟩
  · exact (Array.getElem?_eq_some_iff.1 h2).1
  · exact (Array.getElem?_eq_some_iff.1 h3).1
/-- Bits, that may be there or not. -/
theorem get_st (n : Nat) (N : Int) (hN : N = (n : Int)) {s : ByteArray} {r p : Nat} {w : World} (hw : ST w p s r) (hn : n ≤ 32) (hs : s.size ≤ 1099511627776) :
    Calls Try.prog 31 #[.pointer (some ⟨p, 0, none⟩), .int .i64 N] w fun e w' => e = .returned (.int .u32 (vx s r n)) ∧ ST w' p s (r + n) ∧ Kept (fun k => k = p) w w' := by
  subst hN
  rcases hw with ⟨h1, h2⟩ | ⟨h1, a, h2, h3⟩
  · by_cases hf : r + n ≤ 8 * s.size
    · rw [vx_fit hf]
      exact (get_fit n n rfl h2 hn hf hs).mono fun e w' ⟨a1, a2, a3⟩ => ⟨a1, .inl ⟨hf, a2⟩, a3⟩
    · have h := get_any s r p false (n : Int) w h2 hs h1
      rw [gets_no (.inr (.inr (by omega)))] at h
      rw [show vx s r n = 0 from if_neg hf]
      exact h.mono fun e w' ⟨a1, a2, a3⟩ => ⟨a1, .inr ⟨by omega, r, h1, a2⟩, a3⟩
  · have h := get_any s a p true (n : Int) w h3 hs h2
    rw [gets_bad] at h
    rw [show vx s r n = 0 from if_neg (by omega)]
    exact h.mono fun e w' ⟨a1, a2, a3⟩ => ⟨a1, .inr ⟨by omega, a, h2, a2⟩, a3⟩
theorem bad_st {s : ByteArray} {r p : Nat} {w : World} (hw : ST w p s r) :
    Calls Try.prog 34 #[.pointer (some ⟨p, 0, none⟩)] w fun e w' => e = .returned (.bool (decide (8 * s.size < r))) ∧ ST w' p s r ∧ Kept (fun _ => False) w w' := by
  rcases hw with ⟨h1, h2⟩ | ⟨h1, a, h2, h3⟩
  · rw [decide_eq_false (by omega)]
    exact (bad_any s r p false w h2).mono fun e w' ⟨a1, q, a2⟩ => ⟨a1, .inl ⟨h1, by rw [a2]; exact h2.kept ((Kept.refl (fun _ => False) w).drewN q) id⟩, by rw [a2]; exact (Kept.refl _ w).drewN q⟩
  · rw [decide_eq_true h1]
    exact (bad_any s a p true w h3).mono fun e w' ⟨a1, q, a2⟩ => ⟨a1, .inr ⟨h1, a, h2, by rw [a2]; exact h3.kept ((Kept.refl (fun _ => False) w).drewN q) id⟩, by rw [a2]; exact (Kept.refl _ w).drewN q⟩
theorem left_st {s : ByteArray} {r p : Nat} {w : World} (hw : ST w p s r) (hr : r ≤ 8 * s.size) (hs : s.size ≤ 1099511627776) :
    Calls Try.prog 35 #[.pointer (some ⟨p, 0, none⟩)] w fun e w' => e = .returned (.int .i64 (8 * (s.size : Int) - (r : Int))) ∧ ST w' p s r ∧ Kept (fun _ => False) w w' := by
  rcases hw with ⟨h1, h2⟩ | ⟨h1, _⟩
  · exact (left_fit h2 h1 hs).mono fun e w' ⟨a1, a2, a3⟩ => ⟨a1, .inl ⟨h1, a2⟩, a3⟩
  · omega
theorem ST.new (s : ByteArray) (w : World) : ST (w.alloc (.cells #[.string s, .int .i64 0, .bool false] 77)) w.heap.size s 0 := .inl ⟨Nat.zero_le _, RR.new _ s w⟩
end Go.Proofs.Ytmedlplgeeeodaa.Tw
